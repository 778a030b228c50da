import Derived.Test.YtdflndjlnkoliaaGreatDoorMk
import Derived.Maps.Keyed
/- MY OWN ENGINE: maps of one's own: made, looked up, written. -/
namespace Go.Proofs.YtdflndjlnkoliaaGreatDoor
set_option linter.all false
open Go.RowKit Go.MapKept
section
variable {κ ν : Type} [DecidableEq κ]
def mget : List (κ × ν) → κ → Option ν
  | [], _ => none
  | p :: r, a => if p.1 = a then some p.2 else mget r a
def mput : List (κ × ν) → κ → ν → List (κ × ν)
  | [], a, b => [(a, b)]
  | p :: r, a, b => if p.1 = a then (a, b) :: r else p :: mput r a b
theorem mget_none {a : κ} : ∀ {l : List (κ × ν)}, mget l a = none ↔ a ∉ l.map Prod.fst
  | [] => by simp [mget]
  | p :: r => by
    unfold mget
    by_cases h : p.1 = a
    · simp [h]
    · rw [if_neg h, mget_none (l := r)]
      simp only [List.map_cons, List.mem_cons, not_or]
      exact ⟨fun q => ⟨fun e => h e.symm, q⟩, fun q => q.2⟩
theorem mget_mem {a : κ} {b : ν} : ∀ {l : List (κ × ν)}, mget l a = some b → (a, b) ∈ l
  | [], h => by simp [mget] at h
  | p :: r, h => by
    unfold mget at h
    split at h
    · rename_i e
      simp only [Option.some.injEq] at h
      subst e h; exact List.mem_cons_self ..
    · exact List.mem_cons_of_mem _ (mget_mem h)
theorem mput_fst {a : κ} {b : ν} : ∀ {l : List (κ × ν)}, (mput l a b).map Prod.fst = if a ∈ l.map Prod.fst then l.map Prod.fst else l.map Prod.fst ++ [a]
  | [] => by simp [mput]
  | p :: r => by
    unfold mput
    by_cases h : p.1 = a
    · simp [h]
    · rw [if_neg h]
      simp only [List.map_cons, mput_fst (l := r), List.mem_cons]
      by_cases hr : a ∈ r.map Prod.fst
      · rw [if_pos hr, if_pos (.inr hr)]
      · rw [if_neg hr, if_neg (fun e => e.elim (fun e => h e.symm) hr)]; rfl
theorem mput_nodup {a : κ} {b : ν} {l : List (κ × ν)} (h : (l.map Prod.fst).Nodup) : ((mput l a b).map Prod.fst).Nodup := by
  rw [mput_fst]
  split
  · exact h
  · rename_i hn
    rw [List.nodup_append]
    refine ⟨h, by simp, fun x hx y hy e => ?_⟩
    rw [List.mem_singleton.1 hy] at e
    exact hn (e ▸ hx)
theorem mput_len {a : κ} {b : ν} : ∀ {l : List (κ × ν)}, (mput l a b).length ≤ l.length + 1
  | [] => by simp [mput]
  | p :: r => by
    unfold mput
    split
    · simp
    · have := mput_len (l := r) (a := a) (b := b)
      simp only [List.length_cons]; omega
theorem mget_put {a c : κ} {b : ν} : ∀ {l : List (κ × ν)}, mget (mput l a b) c = if a = c then some b else mget l c
  | [] => by simp [mput, mget]
  | p :: r => by
    unfold mput
    by_cases h : p.1 = a
    · rw [if_pos h]
      subst h
      unfold mget
      by_cases hc : p.1 = c
      · simp [hc]
      · simp [hc]
    · rw [if_neg h]
      conv => lhs; unfold mget
      conv => rhs; unfold mget
      rw [mget_put (l := r)]
      by_cases hc : p.1 = c
      · subst hc
        rw [if_pos rfl, if_pos rfl, if_neg (fun e => h e.symm)]
      · rw [if_neg hc, if_neg hc]
end
/-- what a key's type must be good for -/
structure MKey (P : Program) (k : Nat) {κ : Type} (ek : κ → SV) : Prop where
  ex : ∃ kv : κ → Value, (∀ a b, kv a = kv b → a = b) ∧ (∀ a w A σ u, (ek a).hv w A σ u ↔ u = kv a) ∧ (∀ a w em, (Instr.checkKey em 10000 k (kv a)).run P w = .ok () w) ∧ (∀ a w, (Instr.keyThatStays (kv a) (kv a)).run P w = .ok (kv a) w) ∧
    ∀ a w (es : List MapEntry), (∀ e ∈ es, ∃ b, e.key = kv b) → ((Instr.findKey k (kv a) es).run P w = .ok none w ∧ ∀ e ∈ es, e.key ≠ kv a) ∨ ∃ j e, (Instr.findKey k (kv a) es).run P w = .ok (some (j, e.val)) w ∧ es[j]? = some e ∧ e.key = kv a
/-- a type's zero value -/
def ZeroIs (P : Program) (e : Nat) (s : SV) : Prop := ∃ z, (∀ w, (zeroValue e).run P w = .ok z w) ∧ ∀ w A σ, s.hv w A σ z
theorem mkey_plain {P : Program} {k : Nat} {d : TypeDesc} {κ : Type} {ek : κ → SV} (hk : P.underlying k = some d) (kv : κ → Value) (hd : ∀ a, IsKey d (kv a)) (hi : ∀ a b, kv a = kv b → a = b) (he : ∀ a w A σ u, (ek a).hv w A σ u ↔ u = kv a) : MKey P k ek := by
  refine ⟨kv, hi, he, fun a w em => run_checkKey hk (hd a) em 9999, fun a w => run_keyThatStays (hd a), fun a w es hes => ?_⟩
  have hks : ∀ y ∈ es, IsKey d y.key := fun y hy => by
    obtain ⟨b, hb⟩ := hes y hy
    rw [hb]; exact hd b
  rcases findNow_spec (hd a) es 0 hks with ⟨h1, h2⟩ | ⟨j, e0, h1, h2, h3⟩
  · exact .inl ⟨run_findKey hk h1, h2⟩
  · exact .inr ⟨j, e0, by simpa using run_findKey hk h1, h2, h3⟩
theorem mkey_str {P : Program} {k : Nat} (hk : P.underlying k = some .string) : MKey P k (fun s : List (BitVec 8) => .str s) :=
  mkey_plain hk (fun s => .string (baOf s)) (fun _ => trivial) (fun a b h => baOf_inj (by simpa using h)) (fun a w A σ u => by simp [SV.hv, SV.h1, SV.hc])
theorem mkey_law {P : Program} {k : Nat} {κ : Type} {ek : κ → SV} (K : Maps.Keyed P k) (kv : κ → Value) (hd : ∀ a, ∃ l, keyOf P k (kv a) = some l) (hi : ∀ a b, kv a = kv b → a = b) (he : ∀ a w A σ u, (ek a).hv w A σ u ↔ u = kv a) : MKey P k ek := by
  refine ⟨kv, hi, he, fun a w em => ?_, fun a w => ?_, fun a w es hes => ?_⟩
  · obtain ⟨l, hl⟩ := hd a; exact K.check w em hl
  · obtain ⟨l, hl⟩ := hd a; exact K.stays w hl
  · obtain ⟨l, hl⟩ := hd a
    exact K.find w hl es fun e he => by
      obtain ⟨b, hb⟩ := hes e he
      rw [hb]; exact hd b
section
variable {P : Program} [TabC P] {S : Sig} {σ : Sg} {env : Env} {objs : List Ob} {nx : Nat} {o : Oper} {a : Act} {w : World} {x y z : Operand} {K : KS}
section
variable {κ ν : Type} [DecidableEq κ] {ek : κ → SV} {ev : ν → SV} {kv : κ → Value} {A : Own}
theorem mE_keys (he : ∀ a w A σ u, (ek a).hv w A σ u ↔ u = kv a) : ∀ {l : List (κ × ν)} {es : List MapEntry}, mE w A ek ev l es → ∀ e ∈ es, ∃ b, e.key = kv b
  | [], _, h => by subst h; intro e he; cases he
  | p :: r, _, ⟨e, t, h1, h2, h3, h4⟩ => by
    subst h1
    intro f hf
    rcases List.mem_cons.1 hf with rfl | hf
    · exact ⟨_, (he _ _ _ _ _).1 h2⟩
    · exact mE_keys he h4 f hf
theorem mE_miss (he : ∀ a w A σ u, (ek a).hv w A σ u ↔ u = kv a) {a : κ} : ∀ {l : List (κ × ν)} {es : List MapEntry}, mE w A ek ev l es → (∀ e ∈ es, e.key ≠ kv a) → mget l a = none ∧ ∀ b val born, (ev b).hv w A sg0 val → mE w A ek ev (mput l a b) (es ++ [⟨kv a, val, born⟩])
  | [], _, h, _ => by
    subst h
    exact ⟨rfl, fun b val born hv => ⟨_, _, rfl, (he _ _ _ _ _).2 rfl, hv, rfl⟩⟩
  | p :: r, _, ⟨e, t, h1, h2, h3, h4⟩, hn => by
    subst h1
    have hpa : ¬ p.1 = a := fun q => hn e (by simp) (by rw [(he _ _ _ _ _).1 h2, q])
    obtain ⟨k1, k2⟩ := mE_miss he h4 fun e he => hn e (by simp [he])
    refine ⟨by unfold mget; rw [if_neg hpa]; exact k1, fun b val born hv => ?_⟩
    unfold mput
    rw [if_neg hpa]
    exact ⟨e, _, rfl, h2, h3, k2 b val born hv⟩
theorem mE_hit (he : ∀ a w A σ u, (ek a).hv w A σ u ↔ u = kv a) (hi : ∀ a b, kv a = kv b → a = b) {a : κ} : ∀ {l : List (κ × ν)} {es : List MapEntry} {j : Nat} {e : MapEntry}, mE w A ek ev l es → (l.map Prod.fst).Nodup → es[j]? = some e → e.key = kv a →
    ∃ b', mget l a = some b' ∧ (ev b').hv w A sg0 e.val ∧ ∀ b val, (ev b).hv w A sg0 val → mE w A ek ev (mput l a b) (es.modify j fun e => { e with key := kv a, val := val })
  | [], _, j, e, h, _, hj, _ => by subst h; simp at hj
  | p :: r, _, 0, e, ⟨e', t, h1, h2, h3, h4⟩, hnd, hj, hk => by
    subst h1
    simp only [List.getElem?_cons_zero, Option.some.injEq] at hj
    subst hj
    have hpa : p.1 = a := hi _ _ (((he _ _ _ _ _).1 h2).symm.trans hk)
    refine ⟨p.2, by unfold mget; rw [if_pos hpa], h3, fun b val hv => ?_⟩
    unfold mput
    rw [if_pos hpa]
    exact ⟨_, t, rfl, (he _ _ _ _ _).2 rfl, hv, h4⟩
  | p :: r, _, j + 1, e, ⟨e', t, h1, h2, h3, h4⟩, hnd, hj, hk => by
    subst h1
    simp only [List.getElem?_cons_succ] at hj
    simp only [List.map_cons, List.nodup_cons] at hnd
    obtain ⟨b', k1, k2, k3⟩ := mE_hit he hi h4 hnd.2 hj hk
    have hpa : ¬ p.1 = a := fun q => hnd.1 (q ▸ List.mem_map.2 ⟨_, mget_mem k1, rfl⟩)
    refine ⟨b', by unfold mget; rw [if_neg hpa]; exact k1, k2, fun b val hv => ?_⟩
    unfold mput
    rw [if_neg hpa]
    exact ⟨e', _, rfl, h2, h3, k3 b val hv⟩
theorem mE_len : ∀ {l : List (κ × ν)} {es : List MapEntry}, mE w A ek ev l es → es.length = l.length
  | [], _, h => by subst h; rfl
  | p :: r, _, ⟨e, t, h1, _, _, h4⟩ => by subst h1; simp [mE_len h4]
end
/-! ## made -/
/-- of which keys and values -/
inductive MkS (k e : Nat) (K : SO → Prop) : Prop
  | mk {κ ν : Type} (inst : DecidableEq κ) (ek : κ → SV) (ev : ν → SV) (h : K (.mp k e inst ek ev []))
variable (P) in
def evMkMap (n : Nat) (dst : Option Nat) (env : Env) (objs : List Ob) (nx : Nat) (T : Nat) (K : KS) : Prop := dstK n dst fun d => match ty P T with
  | some ⟨.map k e, _, _⟩ => MkS k e fun so => K ((d, .own nx) :: env) ((nx, so) :: objs) (nx + 1)
  | _ => False
theorem evMkMap_sound {T : TypeId} (ho : o.op = .makeMap T none) (h : evMkMap P S.n o.dst env objs nx T K) : DoesK P S env objs nx o true K := by
  obtain ⟨d, hd, hlt, h2⟩ := dstK_spec h
  replace h := h2
  clear h2
  split at h
  · rename_i k e _ _ ht
    obtain ⟨inst, ek, ev, h⟩ := h
    refine DoesK.of h fun σ a w hst => ⟨.value (.map (some w.heap.size)), _, w.alloc (.map #[] 0), σ.set nx (.map (some w.heap.size)), ?_, .inl rfl, ?_, fun _ => Mod.alloc _ w _⟩
    · have hm := run_makeMap (P := P) T w
      simp only [execOp, ho, Sem.run_bind, Option.map_none, hm, Result.andThen_ok, Sem.run_pure]
    · rw [hd]
      have h1 := hst.name (.map (some w.heap.size))
      have hle := Sg.le_set (σ := σ) (v := .map (some w.heap.size)) (hst.dom nx (Nat.le_refl _))
      have hown : ∀ b, owns (σ.set nx (.map (some w.heap.size))) ((nx, .mp k e inst ek ev []) :: objs) b → owns (σ.set nx (.map (some w.heap.size))) objs b ∨ w.heap.size ≤ b := fun b hb => by
        rcases hb with ⟨v, hv, hb⟩ | hb
        · simp only [Sg.set_self, Option.some.injEq] at hv
          subst hv; simp only [blkO, Option.some.injEq] at hb; subst hb
          exact .inr (Nat.le_refl _)
        · exact .inl hb
      refine (h1.upd (M := fun _ => False) (Mod.alloc _ w _) (fun _ x => x.elim) hown (h1.obs.cons (Mod.alloc _ w _) ⟨w.heap.size, #[], 0, Sg.set_self _ _ _, heap_alloc_new w _, rfl, by simp, by simp⟩ (fun b hb => ?_) hst.a0lt)).put hlt ⟨_, Sg.set_self _ _ _, rfl, rfl⟩
      obtain ⟨v, hv, hb⟩ := hb
      simp only [Sg.set_self, Option.some.injEq] at hv
      subst hv; simp only [blkO, Option.some.injEq] at hb; subst hb
      exact Nat.le_refl _
  · exact h.elim
/-! ## looked up -/
def tupB : SV → Bool
  | .tup _ => true
  | _ => false
theorem tupB_spec {s : SV} (h : tupB s = false) : ∀ vs, s ≠ .tup vs := fun vs e => by subst e; cases h
/-- one cell, or parts, without names -/
def mpV : SV → Bool
  | .tup _ => false
  | .undef => false
  | .agg ps => noName ps
  | s => noName [s]
theorem plain_hv {s : SV} {v : Value} {A : Own} (hn : noName [s] = true) (h : mpV s = true) (hv : s.hv w A σ v) : s.hv w A sg0 v := by
  cases s with
  | tup vs => cases h
  | agg ps =>
    obtain ⟨cs, h1, h2⟩ := hv
    exact ⟨cs, h1, noName_spec h h2⟩
  | undef => cases h
  | _ =>
    simp only [SV.hv, SV.h1] at hv ⊢
    have := noName_spec (σ' := sg0) hn (hL.single.2 hv)
    exact hL.single.1 this
variable (P) in
/-- the key, and what is found, or not -/
inductive LookS (kt et : Nat) {κ ν : Type} [DecidableEq κ] (ek : κ → SV) (ev : ν → SV) (l : List (κ × ν)) (u : SV) (K : SV → Bool → Prop) : Prop
  | mk (a : κ) (hu : ek a = u) (hk : MKey P kt ek) (z : SV) (hz : ZeroIs P et z) (ht : tupB z = false ∧ ∀ b, tupB (ev b) = false) (hit : ∀ b, mget l a = some b → frcA (ev b) fun r => K r true) (miss : mget l a = none → frcA z fun r => K r false)
def okK (cok : Bool) (d : Nat) (env : Env) (objs : List Ob) (nx : Nat) (K : KS) (r : SV) (ok : Bool) : Prop := match cok with
  | true => K ((d, .tup [r, .bool ok]) :: env) objs nx
  | false => K ((d, r) :: env) objs nx
variable (P) in
def evLook (n : Nat) (dst : Option Nat) (env : Env) (objs : List Ob) (nx : Nat) (T : Nat) (s u : SV) (cok : Bool) (K : KS) : Prop := dstK n dst fun d => match ty P T with
  | some ⟨.map kt et, _, _⟩ => match s with
    | .own k => match lk objs k with
      | some (.mp _ _ _ ek ev l) => LookS P kt et ek ev l u (okK cok d env objs nx K)
      | _ => False
    | _ => False
  | _ => False
theorem ty_map {t : Nat} {i : TI} {k e : Nat} (h : ty P t = some i) (hk : i.k = .map k e) : P.underlying t = some (.map k e) := by
  obtain ⟨inf, d, h1, h2, h3, h4, h5⟩ := ty_spec h
  rw [h2]
  rw [hk] at h5
  cases d <;> simp_all [tkB]
theorem notTup {s : SV} {v : Value} {A : Own} (h : s.hv w A σ v) (hn : ∀ vs, s ≠ .tup vs) : s.h1 w A σ v := by cases s <;> first | exact h | exact absurd rfl (hn _)
theorem hv_up {s : SV} {v : Value} {A : Own} (h : s.hv w A sg0 v) : s.hv w A σ v := h.names fun k u e => by cases e
theorem evLook_sound {T : TypeId} {s u : SV} {cok : Bool} (ho : o.op = .lookup T x y cok) (hx : evx P env x = some s) (hy : evx P env y = some u) (h : evLook P S.n o.dst env objs nx T s u cok K) : DoesK P S env objs nx o true K := by
  obtain ⟨d, hd, hlt, h2⟩ := dstK_spec h
  replace h := h2
  clear h2
  split at h
  · rename_i kt et _ _ ht
    split at h
    · rename_i k
      split at h
      · rename_i κ ν inst ek ev l hk
        obtain ⟨a0, hu, ⟨kv, hi, he, hck, hst0, hfd⟩, zs, ⟨zv, hz1, hz2⟩, hnt, hit, miss⟩ := h
        intro σ a w hst X Q hX
        obtain ⟨b, es, clock, h1, h2, h3, h4, h5⟩ := lk_holds hst hk
        have ex : a.eval x = .map (some b) := by
          have := own_ev hx hst
          rw [h1] at this
          exact (Option.some.inj this).symm
        have ey : a.eval y = kv a0 := by
          have := hst.ev hy
          rw [← hu] at this
          exact (he _ _ _ _ _).1 this
        have hu0 := ty_map (P := P) ht rfl
        have key : ∀ v, (Instr.lookup T (.map (some b)) (kv a0) cok).run P w = .ok v w → o.wp P a w X Q = X (a.put o.dst v) w := fun v hv => by
          unfold Oper.wp
          have e : (execOp a.eval o).run P w = .ok (.value v) w := by
            simp only [execOp, ho, ex, ey, Sem.run_bind, hv, Result.andThen_ok, Sem.run_pure]
          rw [e]; rfl
        have fin : ∀ (r : SV) (ok : Bool) (v : Value), okK cok d env objs nx K r ok → r.hv w (S.A σ objs) σ v → (∀ vs, r ≠ .tup vs) → (Instr.lookup T (.map (some b)) (kv a0) cok).run P w = .ok (if cok then .tuple #[v, .bool ok] else v) w → o.wp P a w X Q := by
          intro r ok v hk hv hn hrun
          rw [key _ hrun]
          cases cok with
          | true =>
            refine hX σ _ _ _ _ _ hk ?_ (fun _ => Mod.refl _ _)
            rw [hd]
            refine hst.put hlt ⟨[v, .bool ok], rfl, v, _, rfl, notTup hv hn, .bool ok, [], rfl, ?_, rfl⟩
            simp only [SV.h1, SV.hc]
          | false =>
            refine hX σ _ _ _ _ _ hk ?_ (fun _ => Mod.refl _ _)
            rw [hd]
            exact hst.put hlt hv
        have hkeys := mE_keys he h3
        rcases hfd a0 w es.toList hkeys with ⟨g1, g2⟩ | ⟨j, e0, g1, g2, g3⟩
        · obtain ⟨m1, -⟩ := mE_miss he h3 g2
          refine fin zs false zv (frcA_k (miss m1)) (hz2 _ _ _) (tupB_spec hnt.1) ?_
          simp [Instr.lookup, run_underlying hu0, Go.MapKept.run_getObj_map h2, hck, g1, hz1, Result.andThen]
        · obtain ⟨b', m1, m2, -⟩ := mE_hit he hi h3 h4 g2 g3
          refine fin (ev b') true e0.val (frcA_k (hit b' m1)) (hv_up m2) (tupB_spec (hnt.2 b')) ?_
          simp [Instr.lookup, run_underlying hu0, Go.MapKept.run_getObj_map h2, hck, g1, Result.andThen]
      · exact h.elim
    · exact h.elim
  · exact h.elim
/-! ## written -/
/-- the key, and what is laid there -/
inductive UpdS (P : Program) (kt et : Nat) {κ ν : Type} (inst : DecidableEq κ) (ek : κ → SV) (ev : ν → SV) (l : List (κ × ν)) (u v : SV) (K : SO → Prop) : Prop
  | mk (a : κ) (hu : ek a = u) (b : ν) (hv : ev b = v) (hk : MKey P kt ek) (hl : l.length < 140737488355328) (k : K (.mp kt et inst ek ev (mput l a b)))
variable (P) in
def evUpd (dst : Option Nat) (env : Env) (objs : List Ob) (nx : Nat) (T : Nat) (s u v : SV) (K : KS) : Prop := match dst with
  | none => match ty P T with
    | some ⟨.map kt et, _, _⟩ => match s with
      | .own k => match lk objs k with
        | some (.mp _ _ inst ek ev l) => match noName [v], mpV v with
          | true, true => UpdS P kt et inst ek ev l u v fun so => setK objs k k so fun o => K env o nx
          | _, _ => False
        | _ => False
      | _ => False
    | _ => False
  | some _ => False
theorem evUpd_sound {T : TypeId} {s u v : SV} (ho : o.op = .mapUpdate T x y z) (hx : evx P env x = some s) (hy : evx P env y = some u) (hz : evx P env z = some v) (h : evUpd P o.dst env objs nx T s u v K) : DoesK P S env objs nx o false K := by
  unfold evUpd at h
  split at h
  · rename_i hd
    split at h
    · rename_i kt et _ _ ht
      split at h
      · rename_i k
        split at h
        · rename_i k0 e0 κ ν inst ek ev l hk
          split at h
          · rename_i hnn hpl
            obtain ⟨a0, hu, b0, hv, ⟨kv, hi, he, hck, hst0, hfd⟩, hl, h⟩ := h
            obtain ⟨objs', hset, hK⟩ := setK_spec h
            have hs := setO_spec hk hset
            refine DoesK.of hK fun σ a w hst => ?_
            obtain ⟨b, es, clock, h1, h2, h3, h4, h5⟩ := lk_holds hst hk
            have ex : a.eval x = .map (some b) := by
              have := own_ev hx hst
              rw [h1] at this
              exact (Option.some.inj this).symm
            have ey : a.eval y = kv a0 := by
              have := hst.ev hy
              rw [← hu] at this
              exact (he _ _ _ _ _).1 this
            have ez : (ev b0).hv w (S.A σ objs) sg0 (a.eval z) := by
              have := hst.ev hz
              rw [hv]
              exact plain_hv hnn hpl this
            have hu0 := ty_map (P := P) ht rfl
            have hkeys := mE_keys he h3
            have hlen := mE_len h3
            -- the world behind it
            have main : ∀ (es' : Array MapEntry) (clock' : Nat), (Instr.mapUpdate T (.map (some b)) (kv a0) (a.eval z)).run P w = .ok () { w with heap := w.heap.setIfInBounds b (.map es' clock') } → mE w (S.A σ objs) ek ev (mput l a0 b0) es'.toList →
                ∃ r v w' σ', (execOp a.eval o).run P w = .ok r w' ∧ (r = .value v ∨ (r = .skip ∧ v = undef)) ∧ St P S σ' env objs' nx (a.put o.dst v) w' ∧ (false = true → Kept w w') := by
              intro es' clock' hrun hE
              have hlt : b < w.heap.size := (Array.getElem?_eq_some_iff.1 h2).1
              have hm : Mod (fun c => c = b) w { w with heap := w.heap.setIfInBounds b (.map es' clock') } :=
                ⟨rfl, rfl, rfl, by simp, fun i hi hne => by
                  show (w.heap.setIfInBounds b _)[i]? = _
                  rw [Array.getElem?_setIfInBounds_ne (fun e => hne e.symm)]⟩
              obtain ⟨R, r1, r2, _⟩ := hs.owns_iff (σ := σ)
              have hown : ∀ (l' : List (κ × ν)) (k1 e1 : Nat) c, (SO.mp k1 e1 inst ek ev l').own σ k c ↔ c = b := fun l' k1 e1 c => by
                simp only [SO.own, h1, Option.some.injEq]
                exact ⟨fun ⟨u, hu, hc⟩ => by subst hu; simp only [blkO, Option.some.injEq] at hc; exact hc.symm, fun e => ⟨_, rfl, by rw [e]; rfl⟩⟩
              have hM : ∀ c, c = b → owns σ objs c := fun c hc => (r1 c).2 (.inr ((hown _ _ _ c).2 hc))
              have how : ∀ c, owns σ objs' c → owns σ objs c ∨ w.heap.size ≤ c := fun c hc => .inl ((r1 c).2 (((r2 c).1 hc).imp id fun h => (hown _ _ _ c).2 ((hown _ _ _ c).1 h)))
              refine ⟨.skip, undef, { w with heap := w.heap.setIfInBounds b (.map es' clock') }, σ, ?_, .inr ⟨rfl, rfl⟩, ?_, fun e => by cases e⟩
              · simp only [execOp, ho, ex, ey, Sem.run_bind, hrun, Result.andThen_ok, Sem.run_pure]
              · rw [hd]
                refine hst.upd hm hM how (hst.obs.set hs (hm.mono fun c hc => (hown _ _ _ c).2 hc) ⟨b, es', clock', h1, (Go.MapKept.heap_set h2).1, hE.later (hst.lat hm hM how), mput_nodup h4, ?_⟩ (fun c hc => .inl ((hown _ _ _ c).2 ((hown _ _ _ c).1 hc))) hst.a0lt)
                have := mput_len (l := l) (a := a0) (b := b0); omega
            rcases hfd a0 w es.toList hkeys with ⟨g1, g2⟩ | ⟨j, e0, g1, g2, g3⟩
            · obtain ⟨-, m2⟩ := mE_miss he h3 g2
              refine main (es.push ⟨kv a0, a.eval z, clock⟩) (clock + 1) ?_ (by rw [Array.toList_push]; exact m2 _ _ _ ez)
              simp [Instr.mapUpdate, run_underlying hu0, Go.MapKept.run_getObj_map h2, hck, g1, Go.MapKept.run_setObj_map _ h2, Result.andThen]
            · obtain ⟨b', m1, m2, m3⟩ := mE_hit he hi h3 h4 g2 g3
              have hj : es[j]? = some e0 := by simpa using g2
              refine main (es.modify j fun e => { e with key := kv a0, val := a.eval z }) clock ?_ (by rw [Array.toList_modify]; exact m3 _ _ ez)
              simp [Instr.mapUpdate, run_underlying hu0, Go.MapKept.run_getObj_map h2, hck, g1, hj, g3, hst0, Go.MapKept.run_setObj_map _ h2, Result.andThen]
          · exact h.elim
        · exact h.elim
      · exact h.elim
    · exact h.elim
  · exact h.elim
end
end Go.Proofs.YtdflndjlnkoliaaGreatDoor

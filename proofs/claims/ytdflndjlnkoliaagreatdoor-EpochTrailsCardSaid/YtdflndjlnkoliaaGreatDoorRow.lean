import Derived.Test.YtdflndjlnkoliaaGreatDoorStore2
/- MY OWN ENGINE: slice literals, append. -/
namespace Go.Proofs.YtdflndjlnkoliaaGreatDoor
set_option linter.all false
open Go.RowKit
abbrev eI (n : Int) : List SV := [.int .i64 n]
section
variable {P : Program} [TabC P] {S : Sig} {σ : Sg} {env : Env} {objs : List Ob} {nx : Nat} {o : Oper} {a : Act} {w : World} {x y : Operand} {K : KS}
/-! ## what is laid into rows bears no names -/
/-- literals of bytes or ints that are frozen -/
def frzL (objs : List Ob) (k : Nat) (K : List Ob → Prop) : Prop := match lk objs k with
  | some (.lits e z els) => match els with
    | [.u8 _] :: _ => match Nat.beq z 1 with
      | true => Ex (fun l : List (BitVec 8) => els = l.map eB) fun l => setK objs k k (.frow 1 eB l) K
      | false => False
    | [.int .i64 _] :: _ => match Nat.beq z 1 with
      | true => Ex (fun l : List Int => els = l.map eI) fun l => setK objs k k (.frow 1 eI l) K
      | false => False
    | _ => False
  | _ => frz objs k K
theorem frzL_sound {k : Nat} {K : List Ob → Prop} (h : frzL objs k K) : ∃ objs', K objs' ∧ GS P objs objs' := by
  unfold frzL at h
  have go : ∀ {e z : Nat} {α : Type} {enc : α → List SV} {l : List α} {els : List (List SV)}, lk objs k = some (.lits e z els) → els = l.map enc → setK objs k k (.frow z enc l) K → ∃ objs', K objs' ∧ GS P objs objs' := by
    intro e z α enc l els hk he h
    subst he
    obtain ⟨l', hl, h⟩ := setK_spec h
    have hs := setO_spec hk hl
    refine ⟨l', h, fun S env nx σ a w hst => ?_, fun σ => hs.owns_le (fun b hb => hb.elim)⟩
    have hd := own_disj hst hs (fun b hb => hb)
    exact hst.ghost hs (rowH.fs (lk_holds hst hk) (fun b hb => hb.imp id (hs.owns_le (fun b hb => hb.elim) b)) (fun b v h1 h2 => hd b ⟨v, h1, h2⟩)) (fun b hb => hb.elim)
  split at h
  · rename_i hk
    split at h
    · split at h
      · rename_i hz
        obtain rfl := Nat.eq_of_beq_eq_true hz
        obtain ⟨l, he, h⟩ := h
        exact go hk he h
      · exact h.elim
    · split at h
      · rename_i hz
        obtain rfl := Nat.eq_of_beq_eq_true hz
        obtain ⟨l, he, h⟩ := h
        exact go hk he h
      · exact h.elim
    · exact h.elim
  · exact frz_sound h
def nn1 (objs : List Ob) (s : SV) (K : List Ob → SV → Prop) : Prop := match s with
  | .own k => frzL objs k fun o => match lk o k with
    | some (.frow z enc xs) => K o (.fs z enc xs)
    | _ => False
  | .bsl k off lo hi => frz objs k fun o => match lk o k with
    | some (.fbox _ ps) => match takeP ps off with
      | some (_, @SV.arr8 n v :: _) => Side (hi ≤ n) (K o (.fs 1 eB ((v.toList.take hi).drop lo)))
      | _ => False
    | _ => False
  | .ptr _ _ => False
  | .rptr _ _ _ _ => False
  | .cptr _ _ _ => False
  | s => K objs s
theorem GS.refl : GS P objs objs := ⟨fun _ _ _ _ _ _ h => h, fun _ _ h => h⟩
theorem GS.trans {o1 o2 o3 : List Ob} (h : GS P o1 o2) (k : GS P o2 o3) : GS P o1 o3 := ⟨fun S env nx σ a w hst => k.1 S env nx σ a w (h.1 S env nx σ a w hst), fun σ b hb => h.2 σ b (k.2 σ b hb)⟩
theorem GS.later {o1 o2 : List Ob} (h : GS P o1 o2) (S : Sig) (σ : Sg) (w : World) : Later w (S.A σ o1) w (S.A σ o2) := Later.own fun b hb => hb.imp id (h.2 σ b)
theorem bsl_fs {k off lo hi n : Nat} {T : Nat} {ps r : List SV} {pa : List SV} {v : Vector (BitVec 8) n} (hst : St P S σ env objs nx a w) (hk : lk objs k = some (.fbox T ps)) (ht : takeP ps off = some (pa, .arr8 v :: r)) (hn : hi ≤ n) {A : Own} {cs : List Value} (h : (SV.bsl k off lo hi).hc w A σ cs) :
    (SV.fs 1 eB ((v.toList.take hi).drop lo)).hc w (S.A σ objs) sg0 cs := by
  obtain ⟨u, h1, h2, b, rfl⟩ := lk_holds hst hk
  simp only [SV.hc] at h h2 ⊢
  obtain ⟨b', c, p, q, g1, rfl, g3, g4, g5, g6⟩ := h
  rw [h1] at g1; cases g1
  obtain ⟨b2, off2, e1, hA, C, t, fr, hg, hc⟩ := h2
  simp only [List.cons.injEq, Value.pointer.injEq, Option.some.injEq, Addr.mk.injEq, and_true] at e1
  obtain ⟨rfl, rfl⟩ := e1
  obtain ⟨rfl, e2⟩ := takeP_spec ht
  have hl : ((v.toList.take hi).drop lo).length = hi - lo := by simp; omega
  refine ⟨some ⟨b, p, none⟩, q, by rw [hl], by omega, g5, fun e => (by cases e), fun i hi => rfl, fun ad had => ?_⟩
  cases had
  by_cases hlt : lo < hi
  · refine .inr ⟨rfl, hA, C, t, fr, hg, fun i hi' => ?_⟩
    rw [hl] at hi'
    have hvi : lo + i < n := by omega
    have hp := g6 hlt
    obtain ⟨c1, c2, hcc, hc1, hc2⟩ := hL.split hc
    simp only [hL] at hc2
    obtain ⟨d1, d2, rfl, hd1, hd2⟩ := hc2
    have f1 := hc1.len; have f2 := hd1.len
    simp only [SV.sz] at f2
    rw [hL.single]
    simp only [SV.hc] at hd1 ⊢
    have hcell : C[p + i]? = some (bV .u8 (v[lo + i]'hvi)) := by
      have h0 : ((C.toList.drop 0).take (szL (pa ++ .arr8 v :: r)))[off + (lo + i)]? = some (bV .u8 (v[lo + i]'hvi)) := by
        rw [hcc, List.getElem?_append_right (by omega), List.getElem?_append_left (by omega), hd1]
        rw [show off + (lo + i) - c1.length = lo + i by omega]
        simp [hvi]
      rw [List.getElem?_take] at h0
      split at h0
      · rw [hp, show 0 + off + lo + i = off + (lo + i) by omega]; simpa using h0
      · cases h0
    apply List.ext_getElem?
    intro q'
    rcases q' with _ | q'
    · simp [List.getElem?_take, hcell]
    · simp [List.getElem?_take]
  · exact .inl (List.eq_nil_of_length_eq_zero (by omega))
theorem nn1_sound {s : SV} {K : List Ob → SV → Prop} (h : nn1 objs s K) : ∃ objs' s', K objs' s' ∧ GS P objs objs' ∧ ∀ {S env nx σ a w cs}, St P S σ env objs nx a w → s.hc w (S.A σ objs) σ cs → s'.hc w (S.A σ objs') sg0 cs := by
  unfold nn1 at h
  split at h
  · rename_i k
    obtain ⟨o', h, g⟩ := frzL_sound (P := P) h
    split at h
    · rename_i z α enc xs hk
      refine ⟨o', _, h, g, fun {S env nx σ a w cs} hst hc => ?_⟩
      obtain ⟨v, h1, h2⟩ := lk_holds (g.1 S env nx σ a w hst) hk
      simp only [SV.hc] at hc
      obtain ⟨u, e1, _, rfl⟩ := hc
      rw [h1] at e1; cases e1
      exact h2
    · exact h.elim
  · rename_i k off lo hi
    obtain ⟨o', h, g⟩ := frz_sound (P := P) h
    split at h
    · rename_i T ps hk
      split at h
      · rename_i n v r ht
        exact ⟨o', _, h.k, g, fun {S env nx σ a w cs} hst hc => bsl_fs (g.1 S env nx σ a w hst) hk ht h.h hc⟩
      · exact h.elim
    · exact h.elim
  · exact h.elim
  · exact h.elim
  · exact h.elim
  · refine ⟨objs, s, h, GS.refl, fun {S env nx σ a w cs} hst hc => ?_⟩
    cases s <;> first | exact hc | (simp only [SV.hc] at hc ⊢; exact hc) | skip
    all_goals first | (simp_all; done) | (exfalso; solve_by_elim)
def nnL : List Ob → List SV → (List Ob → List SV → Prop) → Prop
  | objs, [], K => K objs []
  | objs, s :: r, K => nn1 objs s fun objs s => nnL objs r fun objs r => K objs (s :: r)
theorem nnL_sound : ∀ {l : List SV} {objs : List Ob} {K : List Ob → List SV → Prop}, nnL objs l K → ∃ objs' l', K objs' l' ∧ GS P objs objs' ∧ ∀ {S env nx σ a w cs}, St P S σ env objs nx a w → hL w (S.A σ objs) l σ cs → hL w (S.A σ objs') l' sg0 cs
  | [], objs, K, h => ⟨objs, [], h, GS.refl, fun _ hc => by simp only [hL] at hc ⊢; exact hc⟩
  | s :: r, objs, K, h => by
    obtain ⟨o1, s', h, g1, e1⟩ := nn1_sound (P := P) h
    obtain ⟨o2, r', h, g2, e2⟩ := nnL_sound (l := r) h
    refine ⟨o2, _, h, g1.trans g2, fun {S env nx σ a w cs} hst hc => ?_⟩
    simp only [hL] at hc ⊢
    obtain ⟨c1, c2, rfl, h1, h2⟩ := hc
    exact ⟨c1, c2, rfl, SV.hc.later (g2.later S σ w) _ _ _ (e1 hst h1), e2 (g1.1 S env nx σ a w hst) (hL.later (g1.later S σ w) _ _ _ h2)⟩
/-! ## a box of one's own, frozen with the rows that it alone points to -/
def frzB (objs : List Ob) (k : Nat) (K : List Ob → List SV → Prop) : Prop := match lk objs k with
  | some (.box T ps) => nnL objs ps fun o ps' => match lk o k with
    | some (.box _ _) => setK o k k (.fbox T ps') fun l => K l ps'
    | _ => False
  | some (.fbox _ ps) => K objs ps
  | _ => False
theorem frzB_sound {k : Nat} {K : List Ob → List SV → Prop} (h : frzB objs k K) : ∃ objs' ps', K objs' ps' ∧ GS P objs objs' ∧ ∀ {S env nx σ a w cs}, St P S σ env objs nx a w → (SV.ptr k 0).hc w (S.A σ objs) σ cs → (SV.fpt ps').hc w (S.A σ objs') sg0 cs := by
  unfold frzB at h
  split at h
  · rename_i T ps hk
    obtain ⟨o', ps', h, g, e⟩ := nnL_sound (P := P) h
    split at h
    · rename_i T' qs hk'
      obtain ⟨l, hl, hK⟩ := setK_spec h
      have hs := setO_spec hk' hl
      have hle : ∀ σ b, owns σ l b → owns σ o' b := fun σ => hs.owns_le (fun b hb => hb.elim)
      have key : ∀ {S env nx σ a w}, St P S σ env objs nx a w → ∃ b, σ k = some (.pointer (some ⟨b, 0, none⟩)) ∧ (SV.fpt ps').hc w (S.A σ l) sg0 [.pointer (some ⟨b, 0, none⟩)] := fun {S env nx σ a w} hst => by
        have hst' := g.1 S env nx σ a w hst
        have hd := own_disj hst' hs (fun b hb => hb)
        obtain ⟨b, cs, h1, h2, h3⟩ := lk_holds hst hk
        refine ⟨b, h1, ?_⟩
        simp only [SV.hc]
        refine ⟨b, 0, rfl, hd b ⟨_, h1, rfl⟩, _, T, (0, 0), h2, ?_⟩
        have h4 := hL.later (Later.own (A := S.A σ o') (A' := S.A σ l) fun b hb => hb.imp id (hle σ b)) _ _ _ (e hst h3)
        rw [← h4.len]; simpa using h4
      refine ⟨l, ps', hK, ⟨fun S env nx σ a w hst => ?_, fun σ b hb => g.2 σ b (hle σ b hb)⟩, fun {S env nx σ a w cs} hst hc => ?_⟩
      · obtain ⟨b, h1, h2⟩ := key hst
        exact (g.1 S env nx σ a w hst).ghost hs ⟨_, h1, h2, b, rfl⟩ (fun b hb => hb.elim)
      · obtain ⟨b, h1, h2⟩ := key hst
        simp only [SV.hc] at hc
        obtain ⟨b', c', e1, rfl⟩ := hc
        rw [h1] at e1; cases e1
        exact h2
    · exact h.elim
  · rename_i T ps hk
    refine ⟨objs, ps, h, GS.refl, fun {S env nx σ a w cs} hst hc => ?_⟩
    obtain ⟨v, h1, h2, b, rfl⟩ := lk_holds hst hk
    simp only [SV.hc] at hc
    obtain ⟨b', c', e1, rfl⟩ := hc
    rw [h1] at e1; cases e1
    exact h2
  · exact h.elim
/-! ## slice literals -/
variable (P) in
def litsK (z : Nat) (env : Env) : Nat → List Ob → List (Nat × Operand) → (List Ob → List (List SV) → Prop) → Prop
  | _, objs, [], K => K objs []
  | i, objs, (k, x) :: r, K => match Nat.beq k i, evx P env x with
    | true, some s => match prt s with
      | some qs => nnL objs qs fun objs qs => match sizQ qs z with
        | true => litsK z env (i + 1) objs r fun objs els => K objs (qs :: els)
        | false => False
      | none => False
    | _, _ => False
/-- the parts' values as elements -/
def PartsE (w : World) (A : Own) (ev : Operand → Value) (z : Nat) : Nat → List (Nat × Operand) → List (List SV) → Prop
  | _, [], els => els = []
  | i, (k, x) :: r, els => ∃ e m, els = e :: m ∧ k = i ∧ szL e = z ∧ hL w A e sg0 (ev x).cells.toList ∧ PartsE w A ev z (i + 1) r m
theorem PartsE.later {w w' : World} {A A' : Own} {ev : Operand → Value} {z : Nat} (hl : Later w A w' A') : ∀ {i : Nat} {r : List (Nat × Operand)} {els : List (List SV)}, PartsE w A ev z i r els → PartsE w' A' ev z i r els
  | _, [], _, h => h
  | i, (k, x) :: r, _, ⟨e, m, h1, h2, h3, h4, h5⟩ => ⟨e, m, h1, h2, h3, hL.later hl _ _ _ h4, PartsE.later hl h5⟩
theorem litsK_sound {z : Nat} : ∀ {r : List (Nat × Operand)} {i : Nat} {objs : List Ob} {K : List Ob → List (List SV) → Prop}, litsK P z env i objs r K → ∃ objs' els, K objs' els ∧ GS P objs objs' ∧ ∀ {S nx σ a w}, St P S σ env objs nx a w → PartsE w (S.A σ objs') a.eval z i r els
  | [], i, objs, K, h => ⟨objs, [], h, GS.refl, fun _ => rfl⟩
  | (k, x) :: r, i, objs, K, h => by
    unfold litsK at h
    split at h
    · rename_i s hb hs
      split at h
      · rename_i qs hp
        obtain ⟨o1, qs', h, g1, e1⟩ := nnL_sound (P := P) h
        split at h
        · rename_i hz
          obtain ⟨o2, els, h, g2, e2⟩ := litsK_sound (r := r) h
          refine ⟨o2, _, h, g1.trans g2, fun {S nx σ a w} hst => ?_⟩
          exact ⟨qs', els, rfl, Nat.eq_of_beq_eq_true hb, sizQ_spec hz, hL.later (g2.later S σ w) _ _ _ (e1 hst (prt_spec hp (hst.ev hs))), e2 (g1.1 S env nx σ a w hst)⟩
        · exact h.elim
      · exact h.elim
    · exact h.elim
theorem PartsE.len {w : World} {A : Own} {ev : Operand → Value} {z : Nat} : ∀ {i : Nat} {r : List (Nat × Operand)} {els : List (List SV)}, PartsE w A ev z i r els → r.length = els.length ∧ ∀ e ∈ els, szL e = z
  | _, [], _, h => by simp only [PartsE] at h; subst h; simp
  | i, (k, x) :: r, _, ⟨e, m, h1, h2, h3, h4, h5⟩ => by
    have := h5.len
    subst h1
    exact ⟨by simp [this.1], fun u hu => (List.mem_cons.1 hu).elim (fun e => e ▸ h3) (this.2 u)⟩
theorem fill_parts {z : Nat} {A : Own} {ev : Operand → Value} : ∀ {r : List (Nat × Operand)} {i : Nat} {els : List (List SV)}, PartsE w A ev z i r els → ∀ D R : List Value, D.length = i * z → R.length = els.length * z →
    ∃ cs, hE w A sg0 els cs ∧ Instr.fill (fun i => some (i * z, z)) (D ++ R).toArray (r.map fun (i, x) => (i, ev x)) = some (D ++ cs).toArray
  | [], i, els, h, D, R, _, hR => by
    simp only [PartsE] at h; subst h
    have : R = [] := List.eq_nil_of_length_eq_zero (by simpa using hR)
    subst this
    exact ⟨[], rfl, by simp [Instr.fill]⟩
  | (k, x) :: r, i, els, ⟨e, m, h1, h2, h3, h4, h5⟩, D, R, hD, hR => by
    subst h1 h2
    have hel : (ev x).cells.toList.length = z := by rw [h4.len, h3]
    have hR' : R.length = z + m.length * z := by rw [hR, List.length_cons, Nat.add_mul]; omega
    obtain ⟨cs, e1, e2⟩ := fill_parts h5 (D ++ (ev x).cells.toList) (R.drop z) (by rw [List.length_append, hD, hel, Nat.add_mul]; omega) (by rw [List.length_drop, hR']; omega)
    refine ⟨(ev x).cells.toList ++ cs, ⟨_, cs, rfl, h4, e1⟩, ?_⟩
    simp only [List.map_cons]
    rw [fill_cons (off := k * z) (size := z) (l := (ev x).cells.toList) rfl rfl hel (by simp [hD]; omega)]
    have : splice (D ++ R).toArray (k * z) (ev x).cells.toList = ((D ++ (ev x).cells.toList) ++ R.drop z).toArray := by
      unfold splice
      simp only
      rw [hel, ← hD, List.take_left, ← List.drop_drop, List.drop_left]
    rw [this, e2, List.append_assoc]
/-- a new row of one's own -/
theorem St.newRow {e z : Nat} {els : List (List SV)} {so : SO} {C : Array Value} {v : Value} (h : St P S σ env objs nx a w) (hso : ∀ w A σ, rowH w A σ nx e z els → so.holds w A σ nx) (hown : ∀ σ b, so.own σ nx b ↔ ∃ v, σ nx = some v ∧ blkO v = some b)
    (hel : ∀ e ∈ els, szL e = z) (hlen : els.length ≤ 140737488355328) (hC : hE w (S.A σ objs) sg0 els C.toList) (hrow : (w.alloc (.cells C e)).ownsRow 0 e z v els.length C.toList) (hv : blkO v = some w.heap.size) :
    St P S (σ.set nx v) env ((nx, so) :: objs) (nx + 1) a (w.alloc (.cells C e)) := by
  have h1 := h.name v
  have hle := Sg.le_set (σ := σ) (v := v) (h.dom nx (Nat.le_refl _))
  have hn : ∀ b, so.own (σ.set nx v) nx b ↔ b = w.heap.size := fun b => by
    rw [hown, Sg.set_self]
    constructor
    · rintro ⟨u, hu, hb⟩; cases hu; rw [hv] at hb; cases hb; rfl
    · rintro rfl; exact ⟨v, rfl, hv⟩
  have hown2 : ∀ b, owns (σ.set nx v) ((nx, so) :: objs) b → owns (σ.set nx v) objs b ∨ w.heap.size ≤ b := fun b hb => by
    rcases hb with hb | hb
    · rw [(hn b).1 hb]; exact .inr (Nat.le_refl _)
    · exact .inl hb
  refine h1.upd (M := fun _ => False) (Mod.alloc _ w _) (fun _ x => x.elim) hown2 (h1.obs.cons (Mod.alloc _ w _) ?_ (fun b hb => by rw [(hn b).1 hb]; exact Nat.le_refl _) h.a0lt)
  refine hso _ _ _ ⟨v, C.toList, Sg.set_self _ _ _, hel, hlen, hC.later ?_, hrow⟩
  refine (Mod.alloc (fun _ => False) w (.cells C e)).later (fun _ x => x.elim) (fun b hb hx => hx.imp id fun hx => ?_)
  exact (owns_names hle h.obs.holds b).1 ((hown2 b hx).resolve_right (by omega))
theorem own_self {A : Own} (k : Nat) (v : Value) (h : v.oneCell' = true) : (SV.own k).hv w A (σ.set k v) v := ⟨v, Sg.set_self _ _ _, h, rfl⟩
variable (P) in
def evLits (m : Nat) (dst : Option Nat) (env : Env) (objs : List Ob) (nx : Nat) (T n : Nat) (parts : List (Nat × Operand)) (K : KS) : Prop := dstK m dst fun d => match ty P T with
  | some ⟨.sl e, _, _⟩ => match ty P e, zeroOf (TabC.tab P) 9 e with
    | some j, some zp => match sizQ zp j.size, Nat.blt 0 j.size, Nat.ble (n * j.size) 16777216 with
      | true, true, true => litsK P j.size env 0 objs parts fun objs els => match Nat.beq els.length n with
        | true => frcLL els fun els => K ((d, .own nx) :: env) ((nx, .lits e j.size els) :: objs) (nx + 1)
        | false => False
      | _, _, _ => False
    | _, _ => False
  | _ => False
theorem evLits_sound {T n : Nat} {parts : Array (Nat × Operand)} (ho : o.op = .buildSlice T n parts) (h : evLits P S.n o.dst env objs nx T n parts.toList K) : DoesK P S env objs nx o true K := by
  obtain ⟨d, hd, hlt, h⟩ := dstK_spec h
  split at h
  · rename_i e _ _ ht
    split at h
    · rename_i j zp hj hz
      split at h
      · rename_i hzz hpos hsm
        obtain ⟨objs', els, h2, g, hparts⟩ := litsK_sound (P := P) h
        clear h
        split at h2
        · rename_i hn
          obtain rfl := Nat.eq_of_beq_eq_true hn
          have hK := frcLL_k (K := fun els => K ((d, .own nx) :: env) ((nx, .lits e j.size els) :: objs') (nx + 1)) h2
          obtain ⟨inf, zv, hi, hz0, hisz, hzc⟩ := zero_spec (P := P) hz
          have hzsz := sizQ_spec hzz
          have hpos' : 0 < j.size := by simpa [Nat.blt_eq] using hpos
          have hsm' := Nat.le_of_ble_eq_true hsm
          have hle' : els.length ≤ 16777216 := Nat.le_trans (Nat.le_mul_of_pos_right _ hpos') hsm'
          have hm24 : (16777216 : Nat) ≤ 140737488355328 := by decide
          have hmx : (16777216 : Nat) ≤ maxLen := by decide
          refine DoesK.of hK fun σ a w hst0 => ?_
          have hpe := hparts hst0
          have hst := g.1 S env nx σ a w hst0
          obtain ⟨hl1, hl2⟩ := hpe.len
          have key : ∃ cs : List Value, hE w (S.A σ objs') sg0 els cs ∧ (execOp a.eval o).run P w = .ok (.value (.slice (some ⟨w.heap.size, 0, none⟩) els.length els.length)) (w.alloc (.cells cs.toArray e)) := by
            have hpm : (parts.map fun (i, x) => (i, a.eval x)).toList = parts.toList.map fun (i, x) => (i, a.eval x) := by simp
            by_cases hl : els.length = 0
            · have hl' := List.eq_nil_of_length_eq_zero hl
              subst hl'
              have hp : parts.toList = [] := List.eq_nil_of_length_eq_zero (by rw [hl1]; rfl)
              refine ⟨[], rfl, ?_⟩
              have hp' : parts = #[] := by simpa using hp
              simp [execOp, ho, hp', Instr.buildSlice, run_underlying (ty_slice ht rfl), sizeOf, typeInfo, hi, Instr.fill, Go.newRow]
              congr 2
              exact Array.eq_empty_of_size_eq_zero (by simp)
            · have hpos2 : ¬ els.length * inf.size = 0 := by
                rw [hisz, hzsz]
                have := Nat.mul_pos (Nat.pos_of_ne_zero hl) hpos'
                omega
              obtain ⟨cs, hE, hfill⟩ := fill_parts hpe [] (((Array.range (els.length * j.size)).map (zv.cells[· % zv.cells.size]!)).toList) (by simp) (by simp)
              refine ⟨cs, hE, ?_⟩
              have := run_buildSlice (P := P) w T e els.length (parts.map fun (i, x) => (i, a.eval x)) cs.toArray inf zv (ty_slice ht rfl) hi hz0 (by rw [hisz, hzsz]; omega) hpos2 (by rw [hpm, hisz, hzsz]; rw [List.nil_append, Array.toArray_toList] at hfill; exact hfill)
              simp only [execOp, ho, Sem.run_bind, this, Result.andThen_ok, Sem.run_pure]
          obtain ⟨cs, hE, hrun⟩ := key
          have hcl : cs.toArray.size = els.length * j.size := by simpa using hE.len hl2
          refine ⟨_, .slice (some ⟨w.heap.size, 0, none⟩) els.length els.length, w.alloc (.cells cs.toArray e), σ.set nx (.slice (some ⟨w.heap.size, 0, none⟩) els.length els.length), hrun, .inl rfl, ?_, fun _ => Mod.alloc _ w _⟩
          rw [hd]
          refine (hst.newRow (so := .lits e j.size els) (fun _ _ _ h => h) (fun _ _ => Iff.rfl) hl2 (by omega) (by simpa using hE) ?_ rfl).put hlt (own_self nx _ rfl)
          have := World.ownsRow_lit (base := 0) (e := e) (size := j.size) w cs.toArray els.length (Nat.zero_le _) (by omega) hcl
          simpa using this
        · exact h2.elim
      · exact h.elim
    · exact h.elim
  · exact h.elim
end
end Go.Proofs.YtdflndjlnkoliaaGreatDoor

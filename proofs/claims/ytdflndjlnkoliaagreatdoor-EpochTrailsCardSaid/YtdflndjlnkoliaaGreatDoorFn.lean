import Derived.Test.YtdflndjlnkoliaaGreatDoorVc3
/- MY OWN ENGINE: whole functions. -/
namespace Go.Proofs.YtdflndjlnkoliaaGreatDoor
set_option linter.all false
open Go.RowKit
section
variable {P : Program} [TabC P] {S : Sig} {σ : Sg} {env : Env} {objs : List Ob} {nx : Nat} {a : Act} {w : World}
variable (P) in
/-- the results' values -/
def resK (env : Env) (objs : List Ob) : List ResultVar → (List SV → Prop) → Prop
  | [], K => K []
  | .tmp t :: r, K => match lk env t with
    | some s => match noTup s with
      | true => resK env objs r fun ss => K (s :: ss)
      | false => False
    | none => False
  | .cell x T :: r, K => match ty P T with
    | some j => match rowB j with
      | true => match lk env x with
        | some (.ptr k off) => match lk objs k with
          | some (.box _ ps) => ldParts j ps off fun s => match noTup s with
            | true => resK env objs r fun ss => K (s :: ss)
            | false => False
          | some (.fbox _ ps) => ldParts j ps off fun s => match noTup s with
            | true => resK env objs r fun ss => K (s :: ss)
            | false => False
          | _ => False
        | _ => False
      | false => False
    | none => False
def resF (tmps : Array Value) : ResultVar → Sem Value
  | .tmp t => pure (tmps.getD t undef)
  | .cell x t => do loadVar t (← asAddr (tmps.getD x undef))
theorem hv_h1 {A : Own} {s : SV} {v : Value} (h : s.hv w A σ v) (hn : noTup s = true) : s.h1 w A σ v := by
  cases s <;> first | exact h | (simp [noTup] at hn)
theorem resK_sound : ∀ {rs : List ResultVar} {K : List SV → Prop}, resK P env objs rs K → ∃ ss, K ss ∧ ∀ {S σ nx a w}, St P S σ env objs nx a w → ∃ vs, (rs.mapM (resF a.tmps)).run P w = .ok vs w ∧ hvs w (S.A σ objs) σ ss vs
  | [], K, h => ⟨[], h, fun hst => ⟨[], by simp, rfl⟩⟩
  | .tmp t :: r, K, h => by
    unfold resK at h
    split at h
    · rename_i s hs
      split at h
      · rename_i hn
        obtain ⟨ss, hK, hr⟩ := resK_sound (rs := r) h
        refine ⟨_, hK, fun {S σ nx a w} hst => ?_⟩
        obtain ⟨vs, h1, h2⟩ := hr hst
        refine ⟨a.tmps.getD t undef :: vs, ?_, _, _, rfl, hv_h1 (hst.slots t s hs) hn, h2⟩
        rw [List.mapM_cons]
        simp only [resF, Sem.run_bind, Sem.run_pure, Result.andThen_ok, h1]
      · exact h.elim
    · exact h.elim
  | .cell x T :: r, K, h => by
    unfold resK at h
    split at h
    · rename_i j ht
      split at h
      · rename_i hrow
        have go : ∀ {k off : Nat} {so : SO} {TT : Nat} {ps : List SV}, lk env x = some (.ptr k off) → lk objs k = some so → (so = .box TT ps ∨ so = .fbox TT ps) → (ldParts j ps off fun s => match noTup s with
            | true => resK P env objs r fun ss => K (s :: ss)
            | false => False) → ∃ ss, K ss ∧ ∀ {S σ nx a w}, St P S σ env objs nx a w → ∃ vs, ((ResultVar.cell x T :: r).mapM (resF a.tmps)).run P w = .ok vs w ∧ hvs w (S.A σ objs) σ ss vs := by
          intro k off so TT ps hx hk hso hl
          unfold ldParts at hl
          split at hl
          · rename_i pa m z hp
            obtain ⟨s, hl, hs⟩ := svK_sound hl (by rw [(partP_spec hp).2.2]; exact rowB_spec hrow)
            split at hl
            · rename_i hn
              obtain ⟨ss, hK, hr⟩ := resK_sound (rs := r) hl
              refine ⟨_, hK, fun {S σ nx a w} hst => ?_⟩
              obtain ⟨vs, h1, h2⟩ := hr hst
              obtain ⟨b, C, t, fr, σ', e1, e2, e3, e4⟩ := box_cells hso hk hst
              have hsl := hst.slots x _ hx
              simp only [SV.hv, SV.h1, SV.hc, List.cons.injEq, and_true] at hsl
              obtain ⟨b', c', e1', e5⟩ := hsl
              rw [e1] at e1'; cases e1'
              obtain ⟨f1, f2, f3, f4⟩ := e3.part hp
              rw [List.drop_take, List.take_take, Nat.min_eq_left (by omega)] at f1
              have hload := run_loadVar_at (P := P) ht (rowB_spec hrow) (w := w) e2 (off := off) rfl (by rw [f1.len, f2])
              have hF : (resF a.tmps (.cell x T)).run P w = .ok (vOf j.row ((C.toList.drop off).take j.size)) w := by
                rw [Nat.zero_add] at e5
                simp only [resF, Sem.run_bind, e5]
                rw [show asAddr (Value.pointer (some ⟨b, off, none⟩)) = (pure ⟨b, off, none⟩ : Sem Addr) from rfl]
                simp only [Sem.run_pure, Result.andThen_ok, hload]
              refine ⟨_, ?_, _, _, rfl, hv_h1 (hs (e4 m _ f1)) hn, h2⟩
              rw [List.mapM_cons]
              simp only [Sem.run_bind, hF, Result.andThen_ok, h1, Sem.run_pure]
            · exact hl.elim
          · exact hl.elim
        split at h
        · rename_i hx
          split at h
          · rename_i hk; exact go hx hk (.inl rfl) h
          · rename_i hk; exact go hx hk (.inr rfl) h
          · exact h.elim
        · exact h.elim
      · exact h.elim
    · exact h.elim
def resS : List SV → SV
  | [s] => s
  | l => .tup l
def resVal : List Value → Value
  | [v] => v
  | l => .tuple l.toArray
/-- what is handed back is what was promised -/
inductive RetE (c : Ctr) (d : c.D) (s : SV) (objs : List Ob) (nx : Nat) : Prop
  | mk (e : c.E) (h : c.post d e) (hf : fitV (idRn c.nn) objs nx (c.res d e) s fun ρ objs nx => FitOs ρ [] objs nx (c.out d e) fun ρ tk rest nx => rnB (c.nn + c.mm) ρ = true)
variable (P) in
def RetS (c : Ctr) (d : c.D) (rs : List ResultVar) (env : Env) (objs : List Ob) (nx : Nat) : Prop := resK P env objs rs fun ss => RetE c d (resS ss) objs nx
theorem Fork.mkn {p : Prop} {K1 K2 : Prop} (h1 : ¬ p → K1) (h2 : p → K2) : Fork (¬ p) K1 K2 := ⟨h1, fun h => h2 (Classical.not_not.1 h)⟩
theorem EF.of_len {α : Type} {enc : α → List SV} {xs : List α} : (EF.of enc xs).els.length = xs.length := by simp [EF.els]
theorem EF.lit_len {l : List (List SV)} : (EF.lit l).els.length = l.length := rfl
theorem boolK {p : Prop} {K : Bool → Prop} (ht : p → K true) (hf : K false) : ∀ b, (b = true → p) → K b := fun b h => by
  cases b
  · exact hf
  · exact ht (h rfl)
def argE : List SV → Nat → Env
  | [], _ => []
  | s :: r, k => (k, s) :: argE r (k + 1)
theorem argE_look {A : Own} : ∀ {l : List SV} {vs : List Value} {k t : Nat} {s : SV}, hvs w A σ l vs → lk (argE l k) t = some s → ∃ v, k ≤ t ∧ vs[t - k]? = some v ∧ s.h1 w A σ v
  | [], vs, k, t, s, h, hk => by simp [argE, lk] at hk
  | u :: r, vs, k, t, s, ⟨v, m, h1, h2, h3⟩, hk => by
    simp only [argE, lk] at hk
    split at hk
    · rename_i hb
      obtain rfl := Nat.eq_of_beq_eq_true hb
      cases hk; subst h1
      exact ⟨v, Nat.le_refl _, by simp, h2⟩
    · obtain ⟨v', e1, e2, e3⟩ := argE_look h3 hk
      subst h1
      refine ⟨v', by omega, ?_, e3⟩
      rw [show t - k = (t - (k + 1)) + 1 by omega]; simpa using e2
theorem h1_hv {A : Own} {s : SV} {v : Value} (h : s.h1 w A σ v) (hn : ∀ vs, s ≠ .tup vs) : s.hv w A σ v := by
  cases s <;> first | exact h | exact absurd rfl (hn _)
/-- what the values at hand tell of their sizes -/
def RngL : List SV → Prop
  | [] => True
  | .int .i64 n :: r => inR n ∧ RngL r
  | .fs _ _ xs :: r => xs.length ≤ 9223372036854775807 ∧ RngL r
  | _ :: r => RngL r
def Rng : List SV → Prop
  | [] => True
  | .agg ps :: r => RngL ps ∧ Rng r
  | .int .i64 n :: r => inR n ∧ Rng r
  | .fs _ _ xs :: r => xs.length ≤ 9223372036854775807 ∧ Rng r
  | _ :: r => Rng r
theorem fs_rng {A : Own} {z : Nat} {α : Type} {enc : α → List SV} {xs : List α} {cs : List Value} (h : (SV.fs z enc xs).hc w A σ cs) : xs.length ≤ 9223372036854775807 := by
  simp only [SV.hc] at h
  obtain ⟨ad, c, _, h1, h2, _⟩ := h
  have : maxLen ≤ 9223372036854775807 := by decide
  omega
theorem hL.rng {A : Own} : ∀ {l : List SV} {cs : List Value}, hL w A l σ cs → RngL l
  | [], cs, h => trivial
  | s :: r, cs, h => by
    simp only [hL] at h
    obtain ⟨a, b, _, h1, h2⟩ := h
    have ih := hL.rng h2
    unfold RngL
    split
    · trivial
    · rename_i e; cases e; simp only [SV.hc] at h1; exact ⟨h1.2 trivial, ih⟩
    · rename_i e; cases e; exact ⟨fs_rng h1, ih⟩
    · rename_i e; cases e; exact ih
theorem hvs.rng {A : Own} : ∀ {l : List SV} {vs : List Value}, hvs w A σ l vs → Rng l
  | [], vs, h => trivial
  | s :: r, vs, ⟨v, m, h1, h2, h3⟩ => by
    have ih := hvs.rng h3
    unfold Rng
    split
    · trivial
    · rename_i e; cases e; obtain ⟨cs, _, hc⟩ := h2; exact ⟨hL.rng hc, ih⟩
    · rename_i e; cases e; simp only [SV.h1, SV.hc] at h2; exact ⟨h2.2 trivial, ih⟩
    · rename_i e; cases e; exact ⟨fs_rng (σ := σ) h2, ih⟩
    · rename_i e; cases e; exact ih
variable (P) in
/-- what a function's body must come to: no panic; the marks of its ranges over functions are taken off -/
def bodyPostR (fn : Func) (R : Ending → World → Prop) : Exit → Act → World → Prop
  | .normal, a, w => LeavesInM Fence.wide 0 P fn a.tmps R a.defers .returning w
  | .ret, a, w => LeavesInM Fence.wide 0 P fn a.tmps R a.defers .returning w
  | _, _, _ => False
theorem panicQ_body {fn : Func} {Post : Ending → World → Prop} : PanicQ (bodyPostR P fn Post) := fun c d v a w h => h
theorem calls_of_body {f : Nat} {fn : Func} {code : Code} {args : Array Value} {R : Ending → World → Prop} (hf : P.funcs[f]? = some fn) (hb : fn.body = some code)
    (h : code.wpIn Fence.wide 0 P (bodyPostR P fn R) { tmps := args ++ Array.replicate (fn.ntmps - args.size) undef, defers := [] } w) : Calls P f args w R :=
  callsIn_wide.1 (callsIn_of_wp_marks (n := 0) hf hb trivial (wpIn_mono h fun e a w hq => by cases e <;> first | exact hq | exact hq.elim))
/-- the marks taken off -/
theorem St.shut : ∀ (ds : List Nat) {S : Sig} {a : Act} {w : World}, S.ds = ds → St P S σ env objs nx a w → (∀ D ∈ ds, S.w0.heap.size ≤ D) → ds.Nodup → ∃ w2, St P { S with ds := [] } σ env objs nx { a with defers := [] } w2 ∧
    ∀ fn tmps R, LeavesInM Fence.wide 0 P fn tmps R [] .returning w2 → LeavesInM Fence.wide 0 P fn tmps R a.defers .returning w
  | [], S, a, w, hds, hst, _, _ => by
    refine ⟨w, { slots := hst.slots, dom := hst.dom, size := hst.size, defers := rfl, obs := hst.obs, hist := hst.hist, own0 := hst.own0, a0 := hst.a0, mks := fun D hD => (by cases hD), glob := hst.glob, base := hst.base, nnx := hst.nnx }, fun fn tmps R h => ?_⟩
    rw [hst.defers, hds]; exact h
  | D :: r, S, a, w, hds, hst, hnew, hnd => by
    have hm := hst.mks D (by rw [hds]; simp)
    have hno : ∀ b, owns σ objs b → b ≠ D := fun b hb e => (hst.obs.lt b hb).2 (e ▸ hm.1)
    have hz : (w.putObj D (.deferred none)).heap.size = w.heap.size := by simp
    have hlat : Later w (S.A σ objs) (w.putObj D (.deferred none)) (S.A σ objs) := (Mod.putObj w D _).later (fun b hb => .inl (hb ▸ hm.1)) (fun b _ hb => hb)
    have hst1 : St P { S with ds := r } σ env objs nx { a with defers := r.map mkD } (w.putObj D (.deferred none)) :=
      { slots := fun t s hs => (hst.slots t s hs).later hlat, dom := hst.dom, size := hst.size, defers := rfl
        obs := ⟨fun q hq => (hst.obs.holds q hq).later hlat fun b hb => World.putObj_heap_other (hno b (owns_mem hq hb)), hst.obs.disj, fun b hb => by have := hst.obs.lt b hb; exact ⟨by rw [hz]; exact this.1, this.2⟩⟩
        hist := hst.hist.step (Mod.putObj w D _) (fun b hb => .inr (by rw [hb]; exact hnew D (by simp))), own0 := hst.own0, a0 := fun b hb => by rw [hz]; exact hst.a0 b hb
        mks := fun D' hD => by
          have h1 := hst.mks D' (by rw [hds]; exact List.mem_cons_of_mem _ hD)
          exact ⟨h1.1, (World.putObj_heap_other (fun e => (List.nodup_cons.1 hnd).1 (by first | (rw [e] at hD; exact hD) | (rw [← e] at hD; exact hD)))).trans h1.2⟩
        glob := hst.glob.later hlat, base := hst.base, nnx := hst.nnx }
    obtain ⟨w2, h2, h3⟩ := St.shut r rfl hst1 (fun D' hD => hnew D' (List.mem_cons_of_mem _ hD)) (List.nodup_cons.1 hnd).2
    refine ⟨w2, h2, fun fn tmps R h => ?_⟩
    rw [hst.defers, hds]
    exact ⟨by simp, .inl ⟨D, _, rfl, run_takeDeferred hm.2, h3 fn tmps R h⟩⟩
variable (P) in
/-- at a function's end -/
def retK (c : Ctr) (d : c.D) (rs : List ResultVar) : KW := fun way env objs nx => match way with
  | .exit _ => False
  | _ => RetS P c d rs env objs nx
theorem retK_n {c : Ctr} {d : c.D} {rs : List ResultVar} (h : RetS P c d rs env objs nx) : retK P c d rs .normal env objs nx := h
theorem retK_r {c : Ctr} {d : c.D} {rs : List ResultVar} (h : RetS P c d rs env objs nx) : retK P c d rs .ret env objs nx := h
/-- A FUNCTION KEEPS ITS CONTRACT. -/
theorem fn_ok {f : Nat} {fn : Func} {code : Code} {c : Ctr} (H : Cfg) (nn : Nat) (hnn' : c.nn = nn) (rs : List ResultVar) (hf : P.funcs[f]? = some fn) (hb : fn.body = some code) (hrs : fn.results.toList = rs) (hcs : CsOk P H.cs) (hn : H.n = fn.ntmps) (hnn : H.nn = c.nn) (hdr : drawsOk H.dr code = true) (hle : ∀ d, (c.args d).length ≤ H.n)
    (h : ∀ d, c.pre d → Rng (c.args d) → Vc P H code (argE (c.args d) 0) (c.objs d) nn (retK P c d rs)) (hkp : c.kp = false := by rfl) : c.Ok P f := by
  subst hnn'
  intro d hpre A0 w σ vs hA hobs hargs hdom hgl
  have hlen : vs.length = (c.args d).length := by
    have : ∀ {l : List SV} {vs : List Value}, hvs w (Av A0 σ (c.objs d)) σ l vs → vs.length = l.length := by
      intro l
      induction l with
      | nil => intro vs h; simp only [hvs] at h; simp [h]
      | cons s r ih => rintro vs ⟨v, m, rfl, _, h⟩; simp [ih h]
    exact this hargs
  refine calls_of_body hf hb ?_
  let S : Sig := ⟨A0, owns σ (c.objs d), w, H.n, σ, c.nn, []⟩
  have hst : St P S σ (argE (c.args d) 0) (c.objs d) c.nn { tmps := vs.toArray ++ Array.replicate (fn.ntmps - vs.toArray.size) undef, defers := [] } w := by
    refine { slots := fun t s ht => ?_, dom := hdom, size := ?_, defers := rfl, obs := hobs, hist := Mod.refl _ _, own0 := fun b hb => .inl hb, a0 := hA, mks := fun D hD => (by cases hD), glob := hgl, base := fun k _ v hv => hv, nnx := Nat.le_refl _ }
    · obtain ⟨v, _, h1, h2⟩ := argE_look hargs ht
      simp only [Nat.sub_zero] at h1
      have hlt := (List.getElem?_eq_some_iff.1 h1).1
      have e : (vs.toArray ++ Array.replicate (fn.ntmps - vs.toArray.size) undef).getD t undef = v := by
        simp only [Array.getD_eq_getD_getElem?, Array.getElem?_append, List.size_toArray, hlt, if_true]
        simp [h1]
      show s.hv w _ σ _
      rw [e]
      exact h1_hv h2 fun vs' e => by subst e; simp only [SV.h1, SV.hc] at h2
    · have := hle d
      have hn' : H.n = fn.ntmps := hn
      show (vs.toArray ++ Array.replicate (fn.ntmps - vs.toArray.size) undef).size = H.n
      simp; omega
  have hret : ∀ S', S.Le S' → ∀ way env objs nx, retK P c d rs way env objs nx → Pr P S' env objs nx (bodyPostR P fn (fun e w' => ∃ (e' : c.E) (v : Value) (σ' : Sg), e = .returned v ∧ c.post d e' ∧ (∀ k, k < c.nn → ∀ v, σ' k = some v → σ k = some v) ∧ (∀ k, c.nn + c.mm ≤ k → σ' k = none) ∧ (c.res d e').hv w' (Av A0 σ' (c.out d e')) σ' v ∧ Mod (fun b => c.kp = false ∧ owns σ (c.objs d) b) w w' ∧ Obs σ' A0 (c.out d e') w' ∧
    (∀ b, owns σ' (c.out d e') b → owns σ (c.objs d) b ∨ w.heap.size ≤ b)) (exW way)) := by
    intro S' hS
    have main : ∀ way env objs nx, RetS P c d rs env objs nx → (way = .normal ∨ way = .ret) → Pr P S' env objs nx (bodyPostR P fn (fun e w' => ∃ (e' : c.E) (v : Value) (σ' : Sg), e = .returned v ∧ c.post d e' ∧ (∀ k, k < c.nn → ∀ v, σ' k = some v → σ k = some v) ∧ (∀ k, c.nn + c.mm ≤ k → σ' k = none) ∧ (c.res d e').hv w' (Av A0 σ' (c.out d e')) σ' v ∧ Mod (fun b => c.kp = false ∧ owns σ (c.objs d) b) w w' ∧ Obs σ' A0 (c.out d e') w' ∧
    (∀ b, owns σ' (c.out d e') b → owns σ (c.objs d) b ∨ w.heap.size ≤ b)) (exW way)) := by
      intro way env objs nx hr hway σ1 a0 w10 hst10
      obtain ⟨w1, hst1, hshut⟩ := St.shut S'.ds rfl hst10 (fun D hD => (hS.ds D hD).elim (fun h => (by cases h)) fun h => by rw [hS.w0]; exact h) (hS.nod List.nodup_nil)
      generalize ha : ({ a0 with defers := [] } : Act) = a at hst1
      have eA : ∀ b, A0 b → S'.A0 b := hS.a0
      obtain ⟨ss, hre, hrun⟩ := resK_sound (P := P) hr
      obtain ⟨vs', hrun1, hvs1⟩ := hrun hst1
      obtain ⟨e', hpost, hfit⟩ := hre
      obtain ⟨ρ1, o1, n1, hfit, f1⟩ := fitV_sound (P := P) hfit
      obtain ⟨ρ, tn, rest, n2, hrn, l2, f2⟩ := hfit.h (P := P)
      obtain ⟨σ2, le2, s2, t2, p2⟩ := f1.2 _ env σ1 a w1 hst1
      obtain ⟨σ3, le3, s3, t3, p3⟩ := f2 _ env σ2 a w1 s2
      simp only [List.append_nil] at s3 t3 p3
      have hres1 : (resS ss).hv w1 (S'.A σ1 objs) σ1 (resVal vs') := by
        match ss, vs', hvs1 with
        | [], vs', h => simp only [hvs] at h; subst h; exact ⟨[], rfl, rfl⟩
        | [s], vs', ⟨v, m, h1, h2, h3⟩ =>
          simp only [hvs] at h3; subst h3 h1
          exact h1_hv h2 fun vs'' e => by subst e; simp only [SV.h1, SV.hc] at h2
        | s :: s' :: r, vs', h =>
          obtain ⟨v, m, h1, h2, v', m', h4, h5, h6⟩ := h
          subst h4 h1
          exact ⟨_, rfl, v, _, rfl, h2, v', _, rfl, h5, h6⟩
      have hres : (c.res d e').hv w1 (S'.A σ3 (tn.reverse ++ rest)) (σ3.via ρ) (resVal vs') := ((p2 _ hres1).later t3).names (via_le le3 l2)
      have hhist : Mod (owns σ (c.objs d)) w w1 := by
        have h : Mod S'.M0 S'.w0 w1 := s3.hist
        rw [show S'.M0 = owns σ (c.objs d) from hS.M0, show S'.w0 = w from hS.w0] at h; exact h
      have hown0 : ∀ b, owns σ3 (tn.reverse ++ rest) b → owns σ (c.objs d) b ∨ w.heap.size ≤ b := fun b hb => by
        have h : S'.M0 b ∨ S'.w0.heap.size ≤ b := s3.own0 b hb
        rw [show S'.M0 = owns σ (c.objs d) from hS.M0, show S'.w0 = w from hS.w0] at h; exact h
      have hd := Disj_append.1 s3.obs.disj
      have hown : ∀ b, owns (σ3.via ρ) (c.out d e') b ↔ owns σ3 tn b := p3.owns
      have hle3 : ∀ b, owns (σ3.via ρ) (c.out d e') b → owns σ3 (tn.reverse ++ rest) b := fun b hb => by rw [owns_append]; exact .inl ((owns_rev b).2 ((hown b).1 hb))
      have hl : Later w1 (S'.A σ3 (tn.reverse ++ rest)) w1 (Av A0 (σ3.via ρ) (c.out d e')) := Later.own fun b hb => hb.imp (eA b) (hle3 b)
      have hP : ∃ (e' : c.E) (v : Value) (σ' : Sg), Ending.returned (resVal vs') = .returned v ∧ c.post d e' ∧ (∀ k, k < c.nn → ∀ v, σ' k = some v → σ k = some v) ∧ (∀ k, c.nn + c.mm ≤ k → σ' k = none) ∧ (c.res d e').hv w1 (Av A0 σ' (c.out d e')) σ' v ∧ Mod (fun b => c.kp = false ∧ owns σ (c.objs d) b) w w1 ∧ Obs σ' A0 (c.out d e') w1 ∧
          (∀ b, owns σ' (c.out d e') b → owns σ (c.objs d) b ∨ w.heap.size ≤ b) := by
        refine ⟨e', resVal vs', σ3.via ρ, rfl, hpost, fun k hk v hv => ?_, fun k hk => by unfold Sg.via; rw [rnB_spec hrn k hk], hres.later hl, hhist.mono fun b hb => ⟨hkp, hb⟩, ⟨fun o ho => (p3.holds o ho).later hl (fun _ _ => rfl), p3.disj (Disj_perm (List.reverse_perm tn) hd.1), fun b hb => ⟨(s3.obs.lt b (hle3 b hb)).1, fun h => (s3.obs.lt b (hle3 b hb)).2 (eA b h)⟩⟩, fun b hb => hown0 b (hle3 b hb)⟩
        unfold Sg.via at hv
        rw [(f1.1.trans l2) k k (idRn_spec c.nn k hk)] at hv
        have hb : S'.s0 k = some v := s3.base k (show k < S'.nn by rw [hS.nn]; exact hk) v hv
        rw [show S'.s0 = σ from hS.s0] at hb; exact hb
      have hrun' : (results fn a.tmps).run P w1 = .ok (resVal vs') w1 := by
        have e : results fn a.tmps = (do let vs ← (List.toArray <$> (rs.mapM (resF a.tmps)) : Sem (Array Value)); pure (if h : vs.size = 1 then vs[0] else .tuple vs)) := by
          unfold results
          congr 1
          rw [Array.mapM_eq_mapM_toList, hrs]
          congr 2
        rw [e]
        simp only [Sem.run_bind, Sem.run_map, hrun1, Result.andThen_ok]
        match vs' with
        | [] => simp [resVal]
        | [x] => simp [resVal]
        | x :: y :: r => simp [resVal]
      rcases hway with rfl | rfl
      · exact hshut fn _ _ ⟨resVal vs', by rw [show a0.tmps = a.tmps by rw [← ha]]; exact hrun', hP⟩
      · exact hshut fn _ _ ⟨resVal vs', by rw [show a0.tmps = a.tmps by rw [← ha]]; exact hrun', hP⟩
    intro way env objs nx hr
    cases way with
    | normal => exact main .normal env objs nx hr (.inl rfl)
    | ret => exact main .ret env objs nx hr (.inr rfl)
    | exit i => exact hr.elim
  exact (h d hpre hargs.rng).h (S := S) none hcs rfl hnn hdr (fun e => by cases e) panicQ_body hret σ _ w hst
end
attribute [irreducible] retK
/-! ## the driver's parts, each said once -/
/-- what is owed, one step on -/
class Unf (p : Prop) where
  q : Prop
  h : q → p
section
variable {P : Program} [TabC P] {env : Env} {objs : List Ob} {nx : Nat}
instance {H : Cfg} {all r : List Oper} {K : KS} : Unf (OpsK P H all r K env objs nx) := ⟨opsS P H all r K env objs nx, OpsK.unf⟩
instance {H : Cfg} {all : List Oper} {o0 : List Ob} {N : List Nat} {r : Ord} {ph k : Bool} {K : KS} : Unf (OrdK P H all o0 N r ph k K env objs nx) := ⟨ordS P H all o0 N r ph k K env objs nx, OrdK.unf⟩
instance {H : Cfg} {c : Code} {K : KW} : Unf (Vc P H c env objs nx K) := ⟨vcS P H c env objs nx K, Vc.unf⟩
instance {E : Env} {ρ : Rn} {K : KF} : Unf (FitE env ρ objs nx E K) := ⟨fitES env ρ objs nx E K, FitE.unf⟩
instance {ρ : Rn} {es ss : List SV} {K : KF} : Unf (FitL ρ objs nx es ss K) := ⟨fitLS ρ objs nx es ss K, FitL.unf⟩
instance {ρ : Rn} {es ss : List SV} {K : KF} : Unf (FitAs ρ objs nx es ss K) := ⟨fitAsS ρ objs nx es ss K, FitAs.unf⟩
instance {ρ : Rn} {tk : List Ob} {exps : List Ob} {K : Rn → List Ob → List Ob → Nat → Prop} : Unf (FitOs ρ tk objs nx exps K) := ⟨fitOsS ρ tk objs nx exps K, FitOs.unf⟩
instance {Y : Env → List Ob → Nat → KW → Prop} {K : KW} : Unf (seqK Y K .normal env objs nx) := ⟨Y env objs nx K, seqK_n⟩
instance {Y : Env → List Ob → Nat → KW → Prop} {K : KW} : Unf (seqK Y K .ret env objs nx) := ⟨K .ret env objs nx, seqK_r⟩
instance {Y : Env → List Ob → Nat → KW → Prop} {K : KW} {i : Nat} : Unf (seqK Y K (.exit i) env objs nx) := ⟨K (.exit i) env objs nx, seqK_e⟩
instance {id : Nat} {K : KW} : Unf (blockK id K .normal env objs nx) := ⟨K .normal env objs nx, blockK_n⟩
instance {id : Nat} {K : KW} : Unf (blockK id K .ret env objs nx) := ⟨K .ret env objs nx, blockK_r⟩
instance {id i : Nat} {K : KW} : Unf (blockK id K (.exit i) env objs nx) := ⟨_, blockK_e⟩
instance {nn : Nat} {I : Type} {Φ : I → Prop} {E : I → Env} {O : I → List Ob} {N : Nat} {m : I → Nat} {i : I} {K : KW} : Unf (loopK nn Φ E O N m i K .ret env objs nx) := ⟨K .ret env objs nx, loopK_r⟩
instance {nn : Nat} {I : Type} {Φ : I → Prop} {E : I → Env} {O : I → List Ob} {N : Nat} {m : I → Nat} {i : I} {K : KW} {id : Nat} : Unf (loopK nn Φ E O N m i K (.exit id) env objs nx) := ⟨K (.exit id) env objs nx, loopK_e⟩
instance {nn : Nat} {I : Type} {Φ : I → Prop} {E : I → Env} {O : I → List Ob} {N : Nat} {K : KW} : Unf (cutK nn Φ E O N K .ret env objs nx) := ⟨K .ret env objs nx, cutK_r⟩
instance {nn : Nat} {I : Type} {Φ : I → Prop} {E : I → Env} {O : I → List Ob} {N : Nat} {K : KW} {id : Nat} : Unf (cutK nn Φ E O N K (.exit id) env objs nx) := ⟨K (.exit id) env objs nx, cutK_e⟩
instance {c : Ctr} {d : c.D} {rs : List ResultVar} : Unf (retK P c d rs .normal env objs nx) := ⟨RetS P c d rs env objs nx, retK_n⟩
instance {c : Ctr} {d : c.D} {rs : List ResultVar} : Unf (retK P c d rs .ret env objs nx) := ⟨RetS P c d rs env objs nx, retK_r⟩
end
/-- lengths -/
theorem lenS : (∀ {α : Type} {n : Nat} (v : Vector α n), v.toList.length = n) ∧ (∀ {α : Type}, ([] : List α).length = 0) ∧ (∀ {α : Type} (a : α) (l : List α), (a :: l).length = l.length + 1) ∧ (∀ {α : Type} (l m : List α), (l ++ m).length = l.length + m.length) ∧
    (∀ {α β : Type} (f : α → β) (l : List α), (l.map f).length = l.length) ∧ (∀ {α : Type} (i : Nat) (l : List α), (l.take i).length = min i l.length) ∧ (∀ {α : Type} (i : Nat) (l : List α), (l.drop i).length = l.length - i) ∧
    (∀ {α : Type} (enc : α → List SV) (xs : List α), (EF.of enc xs).els.length = xs.length) ∧ (∀ l : List (List SV), (EF.lit l).els.length = l.length) ∧
    (∀ {α : Type 1}, ([] : List α).length = 0) ∧ (∀ {α : Type 1} (a : α) (l : List α), (a :: l).length = l.length + 1) ∧ (∀ {α : Type 1} (l m : List α), (l ++ m).length = l.length + m.length) ∧ (∀ {α : Type} {β : Type 1} (f : α → β) (l : List α), (l.map f).length = l.length) ∧ (∀ {α : Type 1} (n : Nat) (a : α), (List.replicate n a).length = n) ∧ (∀ {α : Type} (n : Nat) (a : α), (List.replicate n a).length = n) :=
  ⟨fun v => Vector.length_toList, rfl, fun _ _ => rfl, fun _ _ => List.length_append, fun _ _ => List.length_map _, fun _ _ => List.length_take, fun _ _ => List.length_drop, fun _ _ => EF.of_len, fun _ => rfl, rfl, fun _ _ => rfl, fun _ _ => List.length_append, fun _ _ => List.length_map _, fun _ _ => List.length_replicate, fun _ _ => List.length_replicate⟩
theorem dT {p : Prop} [Decidable p] (h : p) : true = decide p := (decide_eq_true h).symm
theorem dF {p : Prop} [Decidable p] (h : ¬ p) : false = decide p := (decide_eq_false h).symm
theorem nnS {n : Nat} {p : Prop} (h : p) : 0 ≤ (n : Int) ∧ p := ⟨Int.natCast_nonneg _, h⟩
/-! ## what is cut off -/
theorem cut_all {α : Type} {n : Nat} (v : Vector α n) : List.drop (loI none).toNat (List.take (hiI n none).toNat v.toList) = v.toList := by
  simp [loI, hiI, List.take_of_length_le]
theorem cut_from {α : Type} {n : Nat} (v : Vector α n) (k : Nat) : List.drop (loI (some (k : Int))).toNat (List.take (hiI n none).toNat v.toList) = v.toList.drop k := by
  simp [loI, hiI, List.take_of_length_le]
theorem cutL_from {α : Type} (l : List α) (k : Nat) : cutL l (some (k : Int)) none = l.drop k := by simp [cutL]
theorem cutL_upto {α : Type} (l : List α) (k : Nat) : cutL l none (some (k : Int)) = l.take k := by simp [cutL]
end Go.Proofs.YtdflndjlnkoliaaGreatDoor

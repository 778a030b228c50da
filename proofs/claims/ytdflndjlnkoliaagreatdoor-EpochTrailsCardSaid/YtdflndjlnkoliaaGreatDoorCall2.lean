import Derived.Test.YtdflndjlnkoliaaGreatDoorCall
/- MY OWN ENGINE: contracts, the call. -/
namespace Go.Proofs.YtdflndjlnkoliaaGreatDoor
set_option linter.all false
open Go.RowKit
/-- what a function does: for all data d that meet 'pre', called with the values 'args' beside the objects 'objs' (their names are below 'nn') it hands back 'res', for some e that meets 'post', and leaves the objects 'out' (at most 'mm' more names) -/
structure Ctr where
  D : Type
  pre : D → Prop := fun _ => True
  args : D → List SV
  objs : D → List Ob := fun _ => []
  nn : Nat := 0
  E : Type := Unit
  post : D → E → Prop := fun _ _ => True
  res : D → E → SV
  out : D → E → List Ob := fun _ _ => []
  mm : Nat := 0
  kp : Bool := false
abbrev Av (A0 : Own) (σ : Sg) (objs : List Ob) : Own := fun b => A0 b ∨ owns σ objs b
def Ctr.Ok (P : Program) [TabC P] (f : Nat) (c : Ctr) : Prop := ∀ d, c.pre d → ∀ (A0 : Own) (w : World) (σ : Sg) (vs : List Value), (∀ b, A0 b → b < w.heap.size) → Obs σ A0 (c.objs d) w → hvs w (Av A0 σ (c.objs d)) σ (c.args d) vs → (∀ k, c.nn ≤ k → σ k = none) → Glob P w (Av A0 σ (c.objs d)) →
  Calls P f vs.toArray w fun e w' => ∃ (e' : c.E) (v : Value) (σ' : Sg), e = .returned v ∧ c.post d e' ∧ (∀ k, k < c.nn → ∀ v, σ' k = some v → σ k = some v) ∧ (∀ k, c.nn + c.mm ≤ k → σ' k = none) ∧ (c.res d e').hv w' (Av A0 σ' (c.out d e')) σ' v ∧ Mod (fun b => c.kp = false ∧ owns σ (c.objs d) b) w w' ∧ Obs σ' A0 (c.out d e') w' ∧
    (∀ b, owns σ' (c.out d e') b → owns σ (c.objs d) b ∨ w.heap.size ≤ b)
/-! ## other names -/
def ren1 (f : Nat → Nat) : SV → SV
  | .ptr o off => .ptr (f o) off
  | .own o => .own (f o)
  | .rptr o q z off => .rptr (f o) q z off
  | .cptr o off q => .cptr (f o) off q
  | .bsl o off lo hi => .bsl (f o) off lo hi
  | s => s
def renL (f : Nat → Nat) : List SV → List SV
  | [] => []
  | s :: r => ren1 f s :: renL f r
def renA (f : Nat → Nat) : SV → SV
  | .agg ps => .agg (renL f ps)
  | s => ren1 f s
def renAs (f : Nat → Nat) : List SV → List SV
  | [] => []
  | s :: r => renA f s :: renAs f r
def renV (f : Nat → Nat) : SV → SV
  | .tup vs => .tup (renAs f vs)
  | s => renA f s
def renO (f : Nat → Nat) : SO → SO
  | .box T ps => .box T (renL f ps)
  | so => so
def renOs (f : Nat → Nat) : List Ob → List Ob
  | [] => []
  | (j, so) :: r => (f j, renO f so) :: renOs f r
section
variable {P : Program} [TabC P] {S : Sig} {σ σ' : Sg} {env : Env} {objs : List Ob} {nx : Nat} {a : Act} {w : World} {A : Own} {f : Nat → Nat} {o : Oper}
theorem ren1_hc (hf : ∀ j v, σ j = some v → σ' (f j) = some v) {s : SV} {cs : List Value} (h : s.hc w A σ cs) : (ren1 f s).hc w A σ' cs := by
  cases s <;> simp only [ren1, SV.hc] at h ⊢ <;> first | exact h | skip
  · obtain ⟨b, c, h1, h2⟩ := h; exact ⟨b, c, hf _ _ h1, h2⟩
  · obtain ⟨v, h1, h2⟩ := h; exact ⟨v, hf _ _ h1, h2⟩
  · obtain ⟨g, l, c, h1, h2⟩ := h; exact ⟨g, l, c, hf _ _ h1, h2⟩
  · obtain ⟨b, c, h1, h2⟩ := h; exact ⟨b, c, hf _ _ h1, h2⟩
  · obtain ⟨b, c, p, k, h1, h2⟩ := h; exact ⟨b, c, p, k, hf _ _ h1, h2⟩
theorem renL_hL (hf : ∀ j v, σ j = some v → σ' (f j) = some v) : ∀ {l : List SV} {cs : List Value}, hL w A l σ cs → hL w A (renL f l) σ' cs
  | [], cs, h => h
  | s :: r, cs, h => by
    simp only [hL, renL] at h ⊢
    obtain ⟨a, b, h1, h2, h3⟩ := h
    exact ⟨a, b, h1, ren1_hc hf h2, renL_hL hf h3⟩
theorem renA_h1 (hf : ∀ j v, σ j = some v → σ' (f j) = some v) {s : SV} {v : Value} (h : s.h1 w A σ v) : (renA f s).h1 w A σ' v := by
  cases s <;> first
    | (obtain ⟨cs, h1, h2⟩ := h; exact ⟨cs, h1, renL_hL hf h2⟩)
    | trivial
    | exact ren1_hc (σ := σ) (σ' := σ') hf (s := _) h
    | skip
  all_goals (simp only [SV.h1, renA, ren1] at h ⊢; exact ren1_hc hf h)
theorem renAs_hvs (hf : ∀ j v, σ j = some v → σ' (f j) = some v) : ∀ {l : List SV} {vs : List Value}, hvs w A σ l vs → hvs w A σ' (renAs f l) vs
  | [], vs, h => h
  | s :: r, vs, ⟨v, m, h1, h2, h3⟩ => ⟨v, m, h1, renA_h1 hf h2, renAs_hvs hf h3⟩
theorem renV_hv (hf : ∀ j v, σ j = some v → σ' (f j) = some v) {s : SV} {v : Value} (h : s.hv w A σ v) : (renV f s).hv w A σ' v := by
  cases s with
  | tup vs => obtain ⟨l, h1, h2⟩ := h; exact ⟨l, h1, renAs_hvs hf h2⟩
  | agg ps => exact renA_h1 (s := .agg ps) hf h
  | _ => (simp only [SV.hv] at h; have := renA_h1 hf h; simpa only [SV.hv, renV, renA, ren1] using this)
theorem renO_holds (hf : ∀ j v, σ j = some v → σ' (f j) = some v) {so : SO} {j : Nat} (h : so.holds w A σ j) : (renO f so).holds w A σ' (f j) := by
  cases so with
  | box T ps => obtain ⟨b, cs, h1, h2, h3⟩ := h; exact ⟨b, cs, hf _ _ h1, h2, renL_hL hf h3⟩
  | row e z enc xs => exact rowH.via h (Later.refl _ _) (hf j)
  | lits e z els => exact rowH.via h (Later.refl _ _) (hf j)
  | fbox T ps => obtain ⟨v, h1, h2⟩ := h; exact ⟨v, hf _ _ h1, h2⟩
  | frow z enc xs => obtain ⟨v, h1, h2⟩ := h; exact ⟨v, hf _ _ h1, h2⟩
  | nrow => exact hf _ _ h
  | mp _ _ _ ek ev l => obtain ⟨c, es, clock, h1, h2⟩ := h; exact ⟨c, es, clock, hf _ _ h1, h2⟩
  | ab a => exact h
theorem renO_own (hf : ∀ j v, σ j = some v → σ' (f j) = some v) {so : SO} {j : Nat} (h : so.holds w A σ j) (b : Nat) : (renO f so).own σ' (f j) b ↔ so.own σ j b := by
  rcases h.named with ⟨a, rfl⟩ | ⟨v, hv⟩
  · exact Iff.rfl
  · have hv' := hf _ _ hv
    cases so <;> simp only [renO, SO.own, hv, hv']
theorem renOs_owns (hf : ∀ j v, σ j = some v → σ' (f j) = some v) : ∀ {l : List Ob}, (∀ o ∈ l, o.2.holds w A σ o.1) → ∀ b, owns σ' (renOs f l) b ↔ owns σ l b
  | [], _, b => Iff.rfl
  | (j, so) :: r, h, b => by
    simp only [renOs, owns]
    rw [renO_own hf (h (j, so) (by simp)), renOs_owns hf (fun o ho => h o (List.mem_cons_of_mem _ ho))]
theorem renOs_disj (hf : ∀ j v, σ j = some v → σ' (f j) = some v) : ∀ {l : List Ob}, (∀ o ∈ l, o.2.holds w A σ o.1) → Disj σ l → Disj σ' (renOs f l)
  | [], _, _ => trivial
  | (j, so) :: r, h, ⟨h1, h2⟩ => by
    refine ⟨fun b hb hx => h1 b ((renO_own hf (h (j, so) (by simp)) b).1 hb) ((renOs_owns hf (fun o ho => h o (List.mem_cons_of_mem _ ho)) b).1 hx), renOs_disj hf (fun o ho => h o (List.mem_cons_of_mem _ ho)) h2⟩
theorem renOs_holds {A' : Own} (hf : ∀ j v, σ j = some v → σ' (f j) = some v) (hl : Later w A w A') : ∀ {l : List Ob}, (∀ o ∈ l, o.2.holds w A σ o.1) → ∀ o ∈ renOs f l, o.2.holds w A' σ' o.1
  | [], _, o, ho => by cases ho
  | (j, so) :: r, h, o, ho => by
    rcases List.mem_cons.1 ho with rfl | ho
    · exact (renO_holds hf (h (j, so) (by simp))).later hl (fun _ _ => rfl)
    · exact renOs_holds hf hl (fun o ho => h o (List.mem_cons_of_mem _ ho)) o ho
def rnB (nn : Nat) : Rn → Bool
  | [] => true
  | (j, _) :: r => match Nat.blt j nn with
    | true => rnB nn r
    | false => false
theorem rnB_spec {nn : Nat} : ∀ {ρ : Rn}, rnB nn ρ = true → ∀ j, nn ≤ j → lkN ρ j = none
  | [], _, j, hj => rfl
  | (k, _) :: r, h, j, hj => by
    unfold rnB at h
    split at h
    · rename_i hb
      have hk : k < nn := by simpa [Nat.blt_eq] using hb
      unfold lkN
      split
      · rename_i he; have := Nat.eq_of_beq_eq_true he; omega
      · exact rnB_spec h j hj
    · cases h
def renF (ρ : Rn) (nn nx : Nat) : Nat → Nat := fun j => match lkN ρ j with
  | some k => k
  | none => nx + (j - nn)
def frcAs : List SV → (List SV → Prop) → Prop
  | [], K => K []
  | s :: r, K => frcA s fun s => frcAs r fun r => K (s :: r)
theorem frcAs_k : ∀ {l : List SV} {K : List SV → Prop}, frcAs l K → K l
  | [], K, h => h
  | s :: r, K, h => frcAs_k (l := r) (K := fun r => K (s :: r)) (frcA_k (K := fun s => frcAs r fun r => K (s :: r)) h)
def frcV (v : SV) (K : SV → Prop) : Prop := match v with
  | .tup vs => frcAs vs fun vs => K (.tup vs)
  | v => frcA v K
theorem frcV_k {v : SV} {K : SV → Prop} (h : frcV v K) : K v := by
  unfold frcV at h; split at h
  · exact frcAs_k (K := fun vs => K (.tup vs)) h
  · exact frcA_k h
/-- objects ahead of others, told by their form -/
def frcOs : List Ob → List Ob → (List Ob → Prop) → Prop
  | [], r, K => K r
  | (k, .box T ps) :: l, r, K => frcL ps fun ps => frcOs l r fun o => K ((k, .box T ps) :: o)
  | (k, .row e z enc xs) :: l, r, K => frcOs l r fun o => K ((k, .row e z enc xs) :: o)
  | (k, so) :: l, r, K => frcOs l r fun o => K ((k, so) :: o)
theorem frcOs_k : ∀ {l r : List Ob} {K : List Ob → Prop}, frcOs l r K → K (l ++ r)
  | [], r, K, h => h
  | (k, .box T ps) :: l, r, K, h => frcOs_k (l := l) (K := fun o => K ((k, .box T ps) :: o)) (frcL_k (K := fun ps => frcOs l r fun o => K ((k, .box T ps) :: o)) h)
  | (k, .row e z enc xs) :: l, r, K, h => frcOs_k (l := l) (K := fun o => K ((k, .row e z enc xs) :: o)) h
  | (k, .lits e z els) :: l, r, K, h => frcOs_k (l := l) (K := fun o => K ((k, .lits e z els) :: o)) h
  | (k, .fbox T ps) :: l, r, K, h => frcOs_k (l := l) (K := fun o => K ((k, .fbox T ps) :: o)) h
  | (k, .frow z enc xs) :: l, r, K, h => frcOs_k (l := l) (K := fun o => K ((k, .frow z enc xs) :: o)) h
  | (k, .nrow) :: l, r, K, h => frcOs_k (l := l) (K := fun o => K ((k, .nrow) :: o)) h
  | (k, .mp a b c d e f) :: l, r, K, h => frcOs_k (l := l) (K := fun o => K ((k, .mp a b c d e f) :: o)) h
  | (k, .ab a) :: l, r, K, h => frcOs_k (l := l) (K := fun o => K ((k, .ab a) :: o)) h
/-- does it keep what stands? -/
def kpB : Bool → Bool → Bool
  | true, _ => true
  | false, b => b
/-- a call of what keeps a contract -/
inductive CallS (c : Ctr) (Q : c.D → Prop) : Prop
  | mk (d : c.D) (h : Q d)
/-- what it hands back -/
structure Got (c : Ctr) (d : c.D) (K : c.E → Prop) : Prop where
  got : ∀ e, c.post d e → K e
def dstV (n : Nat) (dst : Option Nat) (env : Env) (s : SV) (K : Env → Prop) : Prop := match dst with
  | none => K env
  | some d => match Nat.blt d n with
    | true => frcV s fun s => K ((d, s) :: env)
    | false => False
/-- a call; what is taken for it passes the check -/
def callGC (chk : List Ob → Bool) (c : Ctr) (n : Nat) (dst : Option Nat) (acts : List SV) (env : Env) (objs : List Ob) (nx : Nat) (K : KS) : Prop :=
  CallS c fun d => FitAs [] objs nx (c.args d) acts fun ρ objs nx => FitOs ρ [] objs nx (c.objs d) fun ρ tk rest nx => match rnB c.nn ρ with
    | true => match chk tk with
      | true => Side (c.pre d) (Got c d fun e => dstV n dst env (renV (renF ρ c.nn nx) (c.res d e)) fun env => frcOs (renOs (renF ρ c.nn nx) (c.out d e)) rest fun objs => K env objs (nx + c.mm))
      | false => False
    | false => False
def callG (c : Ctr) (n : Nat) (dst : Option Nat) (acts : List SV) (env : Env) (objs : List Ob) (nx : Nat) (K : KS) : Prop :=
  CallS c fun d => FitAs [] objs nx (c.args d) acts fun ρ objs nx => FitOs ρ [] objs nx (c.objs d) fun ρ tk rest nx => match rnB c.nn ρ with
    | true => Side (c.pre d) (Got c d fun e => dstV n dst env (renV (renF ρ c.nn nx) (c.res d e)) fun env => frcOs (renOs (renF ρ c.nn nx) (c.out d e)) rest fun objs => K env objs (nx + c.mm))
    | false => False
variable (P) in
def evs (env : Env) : List Operand → Option (List SV)
  | [] => some []
  | x :: r => match evx P env x with
    | some s => match evs env r with
      | some l => some (s :: l)
      | none => none
    | none => none
def noTup : SV → Bool
  | .tup _ => false
  | _ => true
def noTups : List SV → Bool
  | [] => true
  | s :: r => match noTup s with
    | true => noTups r
    | false => false
theorem evs_spec : ∀ {l : List Operand} {ss : List SV}, evs P env l = some ss → noTups ss = true → ∀ {σ a w}, St P S σ env objs nx a w → hvs w (S.A σ objs) σ ss (l.map a.eval)
  | [], ss, h, hn, σ, a, w, hst => by simp only [evs, Option.some.injEq] at h; subst h; rfl
  | x :: r, ss, h, hn, σ, a, w, hst => by
    unfold evs at h
    split at h
    · rename_i s hs
      split at h
      · rename_i l hl
        simp only [Option.some.injEq] at h; subst h
        unfold noTups at hn
        split at hn
        · rename_i ht
          refine ⟨a.eval x, r.map a.eval, rfl, ?_, evs_spec hl hn hst⟩
          have := hst.ev hs
          cases s <;> first | exact this | (simp [noTup] at ht)
        · cases hn
      · cases h
    · cases h
theorem run_call {f : Nat} {as : Array Operand} {ts : Array TypeId} (ho : o.op = .call { callee := .value (.func f), args := as, argTypes := ts }) (hf : nth (TabC.cl P) f = some true) (a : Act) (w : World) :
    (execOp a.eval o).run P w = .ok (.enter f (as.map a.eval)) w := by
  obtain ⟨fn, h1, h2, h3⟩ := call_spec (P := P) hf
  have h4 : ¬ fn.body = none := by intro e; rw [e] at h3; cases h3
  have h5 : ¬ fn.name = "runtime.NumGoroutine" := by simpa using h2
  simp [execOp, ho, resolve, Act.eval, Deferred.ofValue, invoke, callFunc, h1, h5, h4]
theorem MatchO.owns {ρ : Rn} : ∀ {exps tn : List Ob}, MatchO σ ρ w A exps tn → ∀ b, owns (σ.via ρ) exps b ↔ owns σ tn b
  | [], tn, h, b => by simp only [MatchO] at h; subst h; exact Iff.rfl
  | (j, so) :: r, tn, h, b => by
    obtain ⟨k, act, m, rfl, h1, h2, h3, h4⟩ := h
    exact or_congr (h3 b) (MatchO.owns h4 b)
theorem MatchO.disj {ρ : Rn} : ∀ {exps tn : List Ob}, MatchO σ ρ w A exps tn → Disj σ tn → Disj (σ.via ρ) exps
  | [], tn, h, hd => trivial
  | (j, so) :: r, tn, h, hd => by
    obtain ⟨k, act, m, rfl, h1, h2, h3, h4⟩ := h
    exact ⟨fun b hb hx => hd.1 b ((h3 b).1 hb) ((h4.owns b).1 hx), h4.disj hd.2⟩
theorem MatchO.holds {ρ : Rn} : ∀ {exps tn : List Ob}, MatchO σ ρ w A exps tn → ∀ o ∈ exps, o.2.holds w A (σ.via ρ) o.1
  | [], tn, h, o, ho => by cases ho
  | (j, so) :: r, tn, h, o, ho => by
    obtain ⟨k, act, m, rfl, h1, h2, h3, h4⟩ := h
    rcases List.mem_cons.1 ho with rfl | ho
    · exact h2
    · exact h4.holds o ho
theorem owns_rev {l : List Ob} (b : Nat) : owns σ l.reverse b ↔ owns σ l b := owns_perm (List.reverse_perm l) b
def Ctr.OkBy (P : Program) [TabC P] (C : Array Value → World → (Ending → World → Prop) → Prop) (c : Ctr) : Prop := ∀ d, c.pre d → ∀ (A0 : Own) (w : World) (σ : Sg) (vs : List Value), (∀ b, A0 b → b < w.heap.size) → Obs σ A0 (c.objs d) w → hvs w (Av A0 σ (c.objs d)) σ (c.args d) vs → (∀ k, c.nn ≤ k → σ k = none) → Glob P w (Av A0 σ (c.objs d)) →
  C vs.toArray w fun e w' => ∃ (e' : c.E) (v : Value) (σ' : Sg), e = .returned v ∧ c.post d e' ∧ (∀ k, k < c.nn → ∀ v, σ' k = some v → σ k = some v) ∧ (∀ k, c.nn + c.mm ≤ k → σ' k = none) ∧ (c.res d e').hv w' (Av A0 σ' (c.out d e')) σ' v ∧ Mod (fun b => c.kp = false ∧ owns σ (c.objs d) b) w w' ∧ Obs σ' A0 (c.out d e') w' ∧
    (∀ b, owns σ' (c.out d e') b → owns σ (c.objs d) b ∨ w.heap.size ≤ b)
/-- a call of whatever keeps a contract -/
theorem callGC_core {C : Array Value → World → (Ending → World → Prop) → Prop} (hmono : ∀ {args w R R'}, C args w R → (∀ e w', R e w' → R' e w') → C args w R') {chk : List Ob → Bool} {c : Ctr} {as : Array Operand} {ss : List SV} {K : KS} (hc : c.OkBy P C) (ha : evs P env as.toList = some ss) (hnt : noTups ss = true)
    (h : callGC chk c S.n o.dst ss env objs nx K) {σ : Sg} {a : Act} {w : World} (hst : St P S σ env objs nx a w) {X : Act → World → Prop} (hX : ∀ σ' env' objs' nx' a' w', K env' objs' nx' → St P S σ' env' objs' nx' a' w' → (kpB c.kp (Nat.beq c.nn 0) = true → Kept w w') → (∃ σ2 tn, chk tn = true ∧ Mod (owns σ2 tn) w w' ∧ ∀ k, k < S.nn → ∀ v, σ2 k = some v → S.s0 k = some v) → X a' w') :
    C (as.map a.eval) w fun e w' => ∃ v, e = .returned v ∧ X (a.put o.dst v) w' := by
  obtain ⟨d, h⟩ := h
  obtain ⟨ρ1, o1, n1, h, f1⟩ := h.h (P := P)
  obtain ⟨ρ, tn, rest, n2, h, l2, f2⟩ := h.h (P := P)
  split at h
  · rename_i hrn
    split at h
    rotate_left
    · exact h.elim
    rename_i hchk
    obtain ⟨hpre, hgot⟩ := h
    obtain ⟨σ1, le1, s1, t1, p1⟩ := f1.2 S env σ a w hst
    obtain ⟨σ2, le2, s2, t2, p2⟩ := f2 S env σ1 a w s1
    simp only [List.append_nil] at s2 t2 p2
    have hargs : hvs w (S.A σ2 (tn.reverse ++ rest)) (σ2.via ρ) (c.args d) (as.toList.map a.eval) := ((p1 _ (evs_spec ha hnt hst)).later t2).names (via_le le2 l2)
    have hargs' : as.map a.eval = (as.toList.map a.eval).toArray := by rw [← Array.toList_map]
    rw [hargs']
    have hd := Disj_append.1 s2.obs.disj
    have hown : ∀ b, owns (σ2.via ρ) (c.objs d) b ↔ owns σ2 tn b := p2.owns
    have hA : ∀ b, S.A σ2 (tn.reverse ++ rest) b ↔ Av (fun b => S.A0 b ∨ owns σ2 rest b) (σ2.via ρ) (c.objs d) b := fun b => by
      simp only [Sig.A, Av, owns_append, owns_rev, hown b]
      exact ⟨fun h => h.elim (fun h => .inl (.inl h)) (fun h => h.elim .inr (fun h => .inl (.inr h))), fun h => h.elim (fun h => h.imp id .inr) (fun h => .inr (.inl h))⟩
    have hl : Later w (S.A σ2 (tn.reverse ++ rest)) w (Av (fun b => S.A0 b ∨ owns σ2 rest b) (σ2.via ρ) (c.objs d)) := Later.own fun b hb => (hA b).2 hb
    have hdisj : Disj (σ2.via ρ) (c.objs d) := p2.disj (Disj_perm (List.reverse_perm tn) hd.1)
    refine hmono (hc d hpre (fun b => S.A0 b ∨ owns σ2 rest b) w (σ2.via ρ) _ ?_ ⟨fun o ho => (p2.holds o ho).later hl (fun _ _ => rfl), hdisj, fun b hb => ?_⟩ (hargs.later hl) (fun k hk => by unfold Sg.via; rw [rnB_spec hrn k hk]) (s2.glob.later hl)) ?_
    · rintro b (hb | hb)
      · exact s2.a0lt b hb
      · exact (s2.obs.lt b (by rw [owns_append]; exact .inr hb)).1
    · have hb' : owns σ2 tn.reverse b := (owns_rev b).2 ((hown b).1 hb)
      have := s2.obs.lt b (by rw [owns_append]; exact .inl hb')
      exact ⟨this.1, fun hx => hx.elim this.2 (hd.2.2 b hb')⟩
    · rintro e w' ⟨e', v, σc, rfl, hpost, hsame, hdom, hres, hm, hobs, hnew⟩
      refine ⟨v, rfl, ?_⟩
      have hmk : c.kp = true → Kept w w' := fun hz => hm.mono fun b hb => by rw [hz] at hb; cases hb.1
      replace hm : Mod (owns (σ2.via ρ) (c.objs d)) w w' := hm.mono fun b hb => hb.2
      have hkp : kpB c.kp (Nat.beq c.nn 0) = true → Kept w w' := fun hz => by
        cases hkc : c.kp with
        | true => exact hmk hkc
        | false =>
        rw [hkc] at hz
        have hz' := Nat.eq_of_beq_eq_true (show Nat.beq c.nn 0 = true from hz)
        cases ho : c.objs d with
        | nil => rw [ho] at hm; exact hm
        | cons x r =>
          obtain ⟨j, so⟩ := x
          rw [ho] at p2
          obtain ⟨k, _, _, _, h1, _⟩ := p2
          rw [rnB_spec hrn j (by omega)] at h1; cases h1
      have hK := hgot.got e' hpost
      -- the names behind the call
      let f := renF ρ c.nn n2
      let σ3 : Sg := fun k => if k < n2 then σ2 k else σc (k - n2 + c.nn)
      have le3 : Sg.le σ2 σ3 := fun k v hv => by
        have : k < n2 := by
          rcases Nat.lt_or_ge k n2 with h | h
          · exact h
          · rw [s2.dom k h] at hv; cases hv
        show (if k < n2 then σ2 k else _) = _
        rw [if_pos this]; exact hv
      have hf3 : ∀ j v, σc j = some v → σ3 (f j) = some v := fun j v hv => by
        show σ3 (renF ρ c.nn n2 j) = some v
        unfold renF
        rcases Nat.lt_or_ge j c.nn with hj | hj
        · replace hv := hsame j hj v hv
          unfold Sg.via at hv
          split at hv
          · rename_i k hk
            simp only [hk]
            exact le3 _ _ hv
          · cases hv
        · rw [rnB_spec hrn j hj]
          show (if n2 + (j - c.nn) < n2 then _ else σc (n2 + (j - c.nn) - n2 + c.nn)) = some v
          rw [if_neg (by omega), show n2 + (j - c.nn) - n2 + c.nn = j by omega]
          exact hv
      have hrest : ∀ o ∈ rest, o.2.holds w (S.A σ2 (tn.reverse ++ rest)) σ2 o.1 := fun o ho => s2.obs.holds o (List.mem_append_right _ ho)
      have howr : ∀ b, owns σ3 rest b ↔ owns σ2 rest b := owns_names le3 hrest
      have howo : ∀ b, owns σ3 (renOs f (c.out d e')) b ↔ owns σc (c.out d e') b := renOs_owns hf3 hobs.holds
      have hA3 : ∀ b, S.A σ3 (renOs f (c.out d e') ++ rest) b ↔ Av (fun b => S.A0 b ∨ owns σ2 rest b) σc (c.out d e') b := fun b => by
        simp only [Sig.A, Av, owns_append, howo b, howr b]
        exact ⟨fun h => h.elim (fun h => .inl (.inl h)) (fun h => h.elim .inr (fun h => .inl (.inr h))), fun h => h.elim (fun h => h.imp id .inr) (fun h => .inr (.inl h))⟩
      have hback : Later w' (Av (fun b => S.A0 b ∨ owns σ2 rest b) σc (c.out d e')) w' (S.A σ3 (renOs f (c.out d e') ++ rest)) := Later.own fun b hb => (hA3 b).1 hb
      have hmod : Mod (owns σ2 tn) w w' := hm.mono fun b hb => (hown b).1 hb
      have hnew' : ∀ b, owns σ3 (renOs f (c.out d e') ++ rest) b → owns σ2 (tn.reverse ++ rest) b ∨ w.heap.size ≤ b := fun b hb => by
        rw [owns_append] at hb ⊢
        rcases hb with hb | hb
        · exact (hnew b ((howo b).1 hb)).imp (fun h => .inl ((owns_rev b).2 ((hown b).1 h))) id
        · exact .inl (.inr ((howr b).1 hb))
      have hfwd : Later w (S.A σ2 (tn.reverse ++ rest)) w' (S.A σ3 (renOs f (c.out d e') ++ rest)) := hmod.later (fun b hb => .inr (by rw [owns_append]; exact .inl ((owns_rev b).2 hb))) (fun b hb hx => hx.imp id fun hx => (hnew' b hx).resolve_right (by omega))
      have hst3 : St P S σ3 env (renOs f (c.out d e') ++ rest) (n2 + c.mm) a w' := by
        refine { slots := fun t s ht => ((s2.slots t s ht).later hfwd).names le3, dom := fun k hk => ?_, size := s2.size, defers := s2.defers, obs := ⟨fun o ho => ?_, ?_, fun b hb => ?_⟩, hist := s2.hist.step hmod fun b hb => s2.own0 b (by rw [owns_append]; exact .inl ((owns_rev b).2 hb)), own0 := fun b hb => ?_, a0 := fun b hb => Nat.lt_of_lt_of_le (s2.a0 b hb) hmod.size, mks := fun D hD => ⟨(s2.mks D hD).1, (hmod.block D (s2.a0 D (s2.mks D hD).1) fun hM => (s2.obs.lt D (by rw [owns_append]; exact .inl ((owns_rev D).2 hM))).2 (s2.mks D hD).1).trans (s2.mks D hD).2⟩, glob := s2.glob.later hfwd, base := fun k hk v hv => ?_, nnx := Nat.le_trans s2.nnx (Nat.le_add_right _ _) }
        · show (if k < n2 then _ else σc (k - n2 + c.nn)) = none
          rw [if_neg (by omega)]; exact hdom _ (by omega)
        · rcases List.mem_append.1 ho with ho | ho
          · exact renOs_holds hf3 hback hobs.holds o ho
          · refine ((hrest o ho).names le3).later hfwd (fun b hb => ?_)
            have hb2 : owns σ2 rest b := owns_mem ho ((SO.own_names le3 (hrest o ho) b).1 hb)
            exact hmod.block b (s2.obs.lt b (by rw [owns_append]; exact .inr hb2)).1 (fun hx => hd.2.2 b ((owns_rev b).2 hx) hb2)
        · refine Disj_append.2 ⟨renOs_disj hf3 hobs.holds hobs.disj, Disj_names le3 hrest hd.2.1, fun b hb hx => ?_⟩
          exact (hobs.lt b ((howo b).1 hb)).2 (.inr ((howr b).1 hx))
        · rw [owns_append] at hb
          rcases hb with hb | hb
          · have := hobs.lt b ((howo b).1 hb)
            exact ⟨this.1, fun hx => this.2 (.inl hx)⟩
          · have := s2.obs.lt b (by rw [owns_append]; exact .inr ((howr b).1 hb))
            exact ⟨Nat.lt_of_lt_of_le this.1 hm.size, this.2⟩
        · exact (hnew' b hb).elim (s2.own0 b) (fun x => .inr (Nat.le_trans s2.hist.size x))
        · have hk2 := s2.nnx
          have hv' : (if k < n2 then σ2 k else σc (k - n2 + c.nn)) = some v := hv
          rw [if_pos (by omega)] at hv'
          exact s2.base k hk v hv'
      have hresv : (renV f (c.res d e')).hv w' (S.A σ3 (renOs f (c.out d e') ++ rest)) σ3 v := (renV_hv hf3 hres).later hback
      unfold dstV at hK
      split at hK
      · rename_i hd0
        have hK2 := frcOs_k hK
        rw [hd0]
        exact hX σ3 _ _ _ _ _ hK2 hst3 hkp ⟨σ2, _, hchk, hmod.mono (fun b hb => by rw [List.append_nil]; exact (owns_rev b).2 hb), s2.base⟩
      · rename_i dd hd0
        split at hK
        · rename_i hlt
          have hK2 := frcOs_k (frcV_k hK)
          rw [hd0]
          exact hX σ3 _ _ _ _ _ hK2 (hst3.put (by simpa [Nat.blt_eq] using hlt) hresv) hkp ⟨σ2, _, hchk, hmod.mono (fun b hb => by rw [List.append_nil]; exact (owns_rev b).2 hb), s2.base⟩
        · exact hK.elim
  · exact h.elim
theorem callG_GC {c : Ctr} {n : Nat} {dst : Option Nat} {acts : List SV} {env : Env} {objs : List Ob} {nx : Nat} {K : KS} : callG c n dst acts env objs nx K = callGC (fun _ => true) c n dst acts env objs nx K := rfl
/-- a call of whatever keeps a contract -/
theorem callG_core {C : Array Value → World → (Ending → World → Prop) → Prop} (hmono : ∀ {args w R R'}, C args w R → (∀ e w', R e w' → R' e w') → C args w R') {c : Ctr} {as : Array Operand} {ss : List SV} {K : KS} (hc : c.OkBy P C) (ha : evs P env as.toList = some ss) (hnt : noTups ss = true)
    (h : callG c S.n o.dst ss env objs nx K) {σ : Sg} {a : Act} {w : World} (hst : St P S σ env objs nx a w) {X : Act → World → Prop} (hX : ∀ σ' env' objs' nx' a' w', K env' objs' nx' → St P S σ' env' objs' nx' a' w' → (kpB c.kp (Nat.beq c.nn 0) = true → Kept w w') → X a' w') :
    C (as.map a.eval) w fun e w' => ∃ v, e = .returned v ∧ X (a.put o.dst v) w' := by
  rw [callG_GC] at h
  exact callGC_core (C := C) hmono hc ha hnt h hst fun σ' e' o' n' a' w' h1 h2 h3 _ => hX σ' e' o' n' a' w' h1 h2 h3
theorem callG_sound {c : Ctr} {f : Nat} {as : Array Operand} {ts : Array TypeId} {ss : List SV} {K : KS} (hc : c.Ok P f) (ho : o.op = .call { callee := .value (.func f), args := as, argTypes := ts }) (hf : nth (TabC.cl P) f = some true) (ha : evs P env as.toList = some ss) (hnt : noTups ss = true)
    (h : callG c S.n o.dst ss env objs nx K) : DoesK P S env objs nx o (kpB c.kp (Nat.beq c.nn 0)) K := by
  intro σ a w hst X Q hX
  unfold Oper.wp
  rw [run_call ho hf a w, Oper.upon_enter]
  refine Calls.mono (callG_core (C := Calls P f) (fun h k => Calls.mono h k) (show c.OkBy P (Calls P f) from hc) ha hnt h hst hX) ?_
  rintro e w' ⟨v, rfl, hx⟩
  exact hx
theorem callGC_sound {chk : List Ob → Bool} {c : Ctr} {f : Nat} {as : Array Operand} {ts : Array TypeId} {ss : List SV} {K : KS} (hc : c.Ok P f) (ho : o.op = .call { callee := .value (.func f), args := as, argTypes := ts }) (hf : nth (TabC.cl P) f = some true) (ha : evs P env as.toList = some ss) (hnt : noTups ss = true)
    (h : callGC chk c S.n o.dst ss env objs nx K) : ∀ X Q σ a w, St P S σ env objs nx a w → (∀ σ' env' objs' nx' a' w', K env' objs' nx' → St P S σ' env' objs' nx' a' w' → (∃ σ2 tn, chk tn = true ∧ Mod (owns σ2 tn) w w' ∧ ∀ k, k < S.nn → ∀ v, σ2 k = some v → S.s0 k = some v) → X a' w') → o.wp P a w X Q := by
  intro X Q σ a w hst hX
  unfold Oper.wp
  rw [run_call ho hf a w, Oper.upon_enter]
  refine Calls.mono (callGC_core (C := Calls P f) (fun h k => Calls.mono h k) (show c.OkBy P (Calls P f) from hc) ha hnt h hst fun σ' e' o' n' a' w' h1 h2 _ h3 => hX σ' e' o' n' a' w' h1 h2 h3) ?_
  rintro e w' ⟨v, rfl, hx⟩
  exact hx
end
end Go.Proofs.YtdflndjlnkoliaaGreatDoor

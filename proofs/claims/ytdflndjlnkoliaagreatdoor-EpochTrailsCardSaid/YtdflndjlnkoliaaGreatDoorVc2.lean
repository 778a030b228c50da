import Derived.Test.YtdflndjlnkoliaaGreatDoorVc
/- MY OWN ENGINE: the forms of code, loops, whole functions. -/
namespace Go.Proofs.YtdflndjlnkoliaaGreatDoor
set_option linter.all false
open Go.RowKit
inductive Way
  | normal
  | ret
  | exit (i : Nat)
abbrev KW := Way → KS
/-- a region's order: the loads, the loud ones, the walk -/
abbrev Draw := Nat × List Nat × List Nat × Ord × List Nat
def lkD : List Draw → Nat → Option (List Nat × List Nat × Ord × List Nat)
  | [], _ => none
  | (k, t, l, o) :: r, n => match Nat.beq k n with
    | true => some (t, l, o)
    | false => lkD r n
/-- may all regions that draw be walked so? -/
def drawsOk (dr : List Draw) : Code → Bool
  | .region id ops true => match lkD dr id with
    | some (t, l, o, _) => Region.noSelect ops && (o.depth == ops.size) && treeOk ops t l o (Array.replicate ops.size false) true []
    | none => false
  | .region _ _ false => true
  | .seq a b => drawsOk dr a && drawsOk dr b
  | .cond _ a b => drawsOk dr a && drawsOk dr b
  | .block _ c => drawsOk dr c
  | .scope c => drawsOk dr c
  | .loop c => drawsOk dr c
  | .rangeFunc _ _ a b => drawsOk dr a && drawsOk dr b
  | _ => true
section
variable {P : Program} [TabC P] {S : Sig} {σ : Sg} {env : Env} {objs : List Ob} {nx : Nat} {o : Oper} {a : Act} {w : World}
/-! ## states that are gone into -/
/-- slot by slot (told by what it is worth) -/
structure FitE (env : Env) (ρ : Rn) (objs : List Ob) (nx : Nat) (E : Env) (K : KF) : Prop where
  h : ∀ {P : Program} [TabC P], ∃ ρ' objs' nx', K ρ' objs' nx' ∧ Rn.le ρ ρ' ∧ ∀ S σ a w, St P S σ env objs nx a w → ∃ σ', Sg.le σ σ' ∧ St P S σ' env objs' nx' a w ∧ Later w (S.A σ objs) w (S.A σ' objs') ∧
    ∀ t s, (t, s) ∈ E → s.hv w (S.A σ' objs') (σ'.via ρ') (a.tmps.getD t undef)
def fitES (env : Env) (ρ : Rn) (objs : List Ob) (nx : Nat) (E : Env) (K : KF) : Prop := match E with
  | [] => K ρ objs nx
  | (t, e) :: r => match lk env t with
    | some s => fitV ρ objs nx e s fun ρ objs nx => FitE env ρ objs nx r K
    | none => False
theorem FitE.unf {E : Env} {ρ : Rn} {K : KF} (h : fitES env ρ objs nx E K) : FitE env ρ objs nx E K := ⟨fun {P} _ => by
  match E, h with
  | [], h => exact ⟨ρ, objs, nx, h, Rn.le.refl _, fun S σ a w hst => ⟨σ, Sg.le.refl _, hst, Later.refl _ _, fun t s hm => by cases hm⟩⟩
  | (t, e) :: r, h =>
    simp only [fitES] at h
    split at h
    · rename_i s hs
      obtain ⟨ρ1, o1, n1, h, f1⟩ := fitV_sound (P := P) h
      obtain ⟨ρ2, o2, n2, h, l2, f2⟩ := h.h (P := P)
      refine ⟨ρ2, o2, n2, h, f1.1.trans l2, fun S σ a w hst => ?_⟩
      obtain ⟨σ1, le1, s1, t1, p1⟩ := f1.2 S env σ a w hst
      obtain ⟨σ2, le2, s2, t2, p2⟩ := f2 S σ1 a w s1
      refine ⟨σ2, le1.trans le2, s2, t1.trans t2, fun t' s' hm => ?_⟩
      rcases List.mem_cons.1 hm with he | hm
      · cases he
        exact ((p1 _ (hst.slots t s hs)).later t2).names (via_le le2 l2)
      · exact p2 t' s' hm
    · exact h.elim⟩
/-- the names below stand for themselves -/
def idB (nn : Nat) : Rn → Bool
  | [] => true
  | (j, k) :: r => match Nat.blt j nn with
    | true => match Nat.beq j k with
      | true => idB nn r
      | false => false
    | false => idB nn r
theorem idB_spec {nn : Nat} : ∀ {ρ : Rn}, idB nn ρ = true → ∀ j k, j < nn → lkN ρ j = some k → j = k
  | [], _, j, k, _, h => by cases h
  | (i, n) :: r, hb, j, k, hj, h => by
    unfold lkN at h
    unfold idB at hb
    split at h
    · rename_i he
      obtain rfl := Nat.eq_of_beq_eq_true he
      cases h
      have hlt : Nat.blt i nn = true := by simpa [Nat.blt_eq] using hj
      rw [hlt] at hb
      simp only at hb
      split at hb
      · rename_i hq; exact Nat.eq_of_beq_eq_true hq
      · cases hb
    · refine idB_spec (ρ := r) ?_ j k hj h
      split at hb
      · split at hb
        · exact hb
        · cases hb
      · exact hb
/-- from the one state into the other -/
def Into (nn : Nat) (env : Env) (objs : List Ob) (nx : Nat) (E : Env) (O : List Ob) (N : Nat) : Prop :=
  FitE env [] objs nx E fun ρ objs nx => FitOs ρ [] objs nx O fun ρ tk rest nx => match rnB N ρ, idB nn ρ, Nat.ble nn N with
    | true, true, true => True
    | _, _, _ => False
theorem Into.sound {E : Env} {O : List Ob} {N : Nat} (h : Into S.nn env objs nx E O N) (hst : St P S σ env objs nx a w) : ∃ σ', St P S σ' E O N a w := by
  obtain ⟨ρ1, o1, n1, h, _, f1⟩ := h.h (P := P)
  obtain ⟨ρ, tn, rest, n2, h, l2, f2⟩ := h.h (P := P)
  split at h
  · rename_i hrn hid hnN
    obtain ⟨σ1, le1, s1, t1, p1⟩ := f1 S σ a w hst
    obtain ⟨σ2, le2, s2, t2, p2⟩ := f2 S env σ1 a w s1
    simp only [List.append_nil] at s2 t2 p2
    have hd := Disj_append.1 s2.obs.disj
    have hown : ∀ b, owns (σ2.via ρ) O b ↔ owns σ2 tn b := p2.owns
    have hle : ∀ b, owns (σ2.via ρ) O b → owns σ2 (tn.reverse ++ rest) b := fun b hb => by rw [owns_append]; exact .inl ((owns_rev b).2 ((hown b).1 hb))
    have hl : Later w (S.A σ2 (tn.reverse ++ rest)) w (S.A (σ2.via ρ) O) := Later.own fun b hb => hb.imp id (hle b)
    refine ⟨σ2.via ρ, { slots := fun t s ht => ?_, dom := fun k hk => by unfold Sg.via; rw [rnB_spec hrn k hk], size := s2.size, defers := s2.defers, obs := ⟨fun o ho => (p2.holds o ho).later hl (fun _ _ => rfl), p2.disj (Disj_perm (List.reverse_perm tn) hd.1), fun b hb => s2.obs.lt b (hle b hb)⟩, hist := s2.hist, own0 := fun b hb => s2.own0 b (hle b hb), a0 := s2.a0, mks := s2.mks, glob := s2.glob.later hl, base := fun k hk v hv => ?_, nnx := Nat.le_of_ble_eq_true hnN }⟩
    · exact (((p1 t s (lk_mem ht)).later t2).names (via_le le2 l2)).later hl
    · unfold Sg.via at hv
      split at hv
      · rename_i k' hk'
        obtain rfl := idB_spec hid k k' hk hk'
        exact s2.base _ hk v hv
      · cases hv
  · exact h.elim
def idRn : Nat → Rn
  | 0 => []
  | n + 1 => (n, n) :: idRn n
theorem idRn_spec : ∀ (n j : Nat), j < n → lkN (idRn n) j = some j
  | 0, j, h => absurd h (by omega)
  | n + 1, j, h => by
    unfold idRn lkN
    split
    · rename_i hb; obtain rfl := Nat.eq_of_beq_eq_true hb; rfl
    · rename_i hb
      refine idRn_spec n j ?_
      have : n ≠ j := fun e => by rw [e, Nat.beq_refl] at hb; cases hb
      omega
/-- objects alone, the names below nn being their own -/
def Into0 (nn : Nat) (objs : List Ob) (nx : Nat) (O : List Ob) (N : Nat) : Prop :=
  FitOs (idRn nn) [] objs nx O fun ρ tk rest nx => match rnB N ρ, idB nn ρ, Nat.ble nn N with
    | true, true, true => True
    | _, _, _ => False
theorem Into0.sound {O : List Ob} {N : Nat} (h : Into0 S.nn objs nx O N) (hst : St P S σ env objs nx a w) : ∃ σ', St P S σ' [] O N a w := by
  obtain ⟨ρ, tn, rest, n2, h, l2, f2⟩ := h.h (P := P)
  split at h
  · rename_i hrn hid hnN
    obtain ⟨σ2, le2, s2, t2, p2⟩ := f2 S env σ a w hst
    simp only [List.append_nil] at s2 t2 p2
    have hd := Disj_append.1 s2.obs.disj
    have hown : ∀ b, owns (σ2.via ρ) O b ↔ owns σ2 tn b := p2.owns
    have hle : ∀ b, owns (σ2.via ρ) O b → owns σ2 (tn.reverse ++ rest) b := fun b hb => by rw [owns_append]; exact .inl ((owns_rev b).2 ((hown b).1 hb))
    have hl : Later w (S.A σ2 (tn.reverse ++ rest)) w (S.A (σ2.via ρ) O) := Later.own fun b hb => hb.imp id (hle b)
    refine ⟨σ2.via ρ, { slots := fun t s ht => by simp [lk] at ht, dom := fun k hk => by unfold Sg.via; rw [rnB_spec hrn k hk], size := s2.size, defers := s2.defers, obs := ⟨fun o ho => (p2.holds o ho).later hl (fun _ _ => rfl), p2.disj (Disj_perm (List.reverse_perm tn) hd.1), fun b hb => s2.obs.lt b (hle b hb)⟩, hist := s2.hist, own0 := fun b hb => s2.own0 b (hle b hb), a0 := s2.a0, mks := s2.mks, glob := s2.glob.later hl, base := fun k hk v hv => ?_, nnx := Nat.le_of_ble_eq_true hnN }⟩
    · unfold Sg.via at hv
      split at hv
      · rename_i k' hk'
        obtain rfl := idB_spec hid k k' hk hk'
        exact s2.base _ hk v hv
      · cases hv
  · exact h.elim
/-- the slots that a text writes -/
def asgO : List Oper → List Nat → List Nat
  | [], r => r
  | o :: l, r => match o.dst with
    | some d => d :: asgO l r
    | none => asgO l r
def asgC : Code → List Nat → List Nat
  | .region _ ops _, r => asgO ops.toList r
  | .seq a b, r => asgC a (asgC b r)
  | .cond _ a b, r => asgC a (asgC b r)
  | .block _ c, r => asgC c r
  | .label _, r => r
  | .loop c, r => asgC c r
  | .rangeFunc _ ps a b, r => ps.toList ++ asgC a (asgC b r)
  | .scope c, r => asgC c r
  | _, r => r
def natsK : List Nat → (List Nat → Prop) → Prop
  | [], K => K []
  | k :: r, K => natsK r fun l => K (k :: l)
theorem natsK_k : ∀ {l : List Nat} {K : List Nat → Prop}, natsK l K → K l
  | [], K, h => h
  | k :: r, K, h => natsK_k (l := r) (K := fun l => K (k :: l)) h
def keepS : SV → Bool
  | .own _ => false
  | .rptr _ _ _ _ => false
  | .cptr _ _ _ => false
  | .bsl _ _ _ _ => false
  | .undef => false
  | .tup _ => false
  | _ => true
def pruneK (ks : List Nat) : Env → (Env → Prop) → Prop
  | [], K => K []
  | (t, s) :: r, K => match memB ks t with
    | true => pruneK ks r K
    | false => match keepS s with
      | true => pruneK (t :: ks) r fun l => K ((t, s) :: l)
      | false => pruneK (t :: ks) r K
theorem pruneK_k : ∀ {env : Env} {ks : List Nat} {K : Env → Prop}, pruneK ks env K → ∃ L, K L
  | [], ks, K, h => ⟨_, h⟩
  | (t, s) :: r, ks, K, h => by
    unfold pruneK at h
    split at h
    · exact pruneK_k h
    · split at h
      · obtain ⟨L, h⟩ := pruneK_k h; exact ⟨_, h⟩
      · exact pruneK_k h
/-- what stands of the slots behind a text that writes others -/
def stillK (c : Code) (env : Env) (K : Env → Prop) : Prop := natsK (asgC c []) fun ks => pruneK ks env K
theorem stillK_k {c : Code} {env : Env} {K : Env → Prop} (h : stillK c env K) : ∃ L, K L := pruneK_k (natsK_k (K := fun ks => pruneK ks env K) h)
def catE : Env → Env → Env
  | [], L => L
  | x :: r, L => x :: catE r L
/-! ### what is owed behind a text: each as a constant of its own, so that nobody reckons it but by its rules -/
def seqK (Y : Env → List Ob → Nat → KW → Prop) (K : KW) : KW := fun way env objs nx => match way with
  | .normal => Y env objs nx K
  | .ret => K .ret env objs nx
  | .exit i => K (.exit i) env objs nx
theorem seqK_n {Y : Env → List Ob → Nat → KW → Prop} {K : KW} {env : Env} {objs : List Ob} {nx : Nat} (h : Y env objs nx K) : seqK Y K .normal env objs nx := h
theorem seqK_r {Y : Env → List Ob → Nat → KW → Prop} {K : KW} {env : Env} {objs : List Ob} {nx : Nat} (h : K .ret env objs nx) : seqK Y K .ret env objs nx := h
theorem seqK_e {Y : Env → List Ob → Nat → KW → Prop} {K : KW} {env : Env} {objs : List Ob} {nx i : Nat} (h : K (.exit i) env objs nx) : seqK Y K (.exit i) env objs nx := h
def blockK (id : Nat) (K : KW) : KW := fun way env objs nx => match way with
  | .normal => K .normal env objs nx
  | .ret => K .ret env objs nx
  | .exit i => match Nat.beq i id with
    | true => K .normal env objs nx
    | false => K (.exit i) env objs nx
theorem blockK_n {id : Nat} {K : KW} {env : Env} {objs : List Ob} {nx : Nat} (h : K .normal env objs nx) : blockK id K .normal env objs nx := h
theorem blockK_r {id : Nat} {K : KW} {env : Env} {objs : List Ob} {nx : Nat} (h : K .ret env objs nx) : blockK id K .ret env objs nx := h
theorem blockK_e {id : Nat} {K : KW} {env : Env} {objs : List Ob} {nx i : Nat} (h : match Nat.beq i id with
    | true => K .normal env objs nx
    | false => K (.exit i) env objs nx) : blockK id K (.exit i) env objs nx := h
def loopK (nn : Nat) {I : Type} (Φ : I → Prop) (E : I → Env) (O : I → List Ob) (N : Nat) (m : I → Nat) (i : I) (K : KW) : KW := fun way env objs n => match way with
  | .normal => ∃ j, (m j < m i ∧ Φ j) ∧ Into nn env objs n (E j) (O j) N
  | .ret => K .ret env objs n
  | .exit id => K (.exit id) env objs n
theorem loopK_n {nn : Nat} {I : Type} {Φ : I → Prop} {E : I → Env} {O : I → List Ob} {N : Nat} {m : I → Nat} {i : I} {K : KW} {env : Env} {objs : List Ob} {n : Nat} (h : ∃ j, (m j < m i ∧ Φ j) ∧ Into nn env objs n (E j) (O j) N) : loopK nn Φ E O N m i K .normal env objs n := h
theorem loopK_r {nn : Nat} {I : Type} {Φ : I → Prop} {E : I → Env} {O : I → List Ob} {N : Nat} {m : I → Nat} {i : I} {K : KW} {env : Env} {objs : List Ob} {n : Nat} (h : K .ret env objs n) : loopK nn Φ E O N m i K .ret env objs n := h
theorem loopK_e {nn : Nat} {I : Type} {Φ : I → Prop} {E : I → Env} {O : I → List Ob} {N : Nat} {m : I → Nat} {i : I} {K : KW} {env : Env} {objs : List Ob} {n id : Nat} (h : K (.exit id) env objs n) : loopK nn Φ E O N m i K (.exit id) env objs n := h
def cutK (nn : Nat) {I : Type} (Φ : I → Prop) (E : I → Env) (O : I → List Ob) (N : Nat) (K : KW) : KW := fun way env objs n => match way with
  | .normal => ∃ j, Φ j ∧ Into nn env objs n (E j) (O j) N
  | .ret => K .ret env objs n
  | .exit id => K (.exit id) env objs n
theorem cutK_n {nn : Nat} {I : Type} {Φ : I → Prop} {E : I → Env} {O : I → List Ob} {N : Nat} {K : KW} {env : Env} {objs : List Ob} {n : Nat} (h : ∃ j, Φ j ∧ Into nn env objs n (E j) (O j) N) : cutK nn Φ E O N K .normal env objs n := h
theorem cutK_r {nn : Nat} {I : Type} {Φ : I → Prop} {E : I → Env} {O : I → List Ob} {N : Nat} {K : KW} {env : Env} {objs : List Ob} {n : Nat} (h : K .ret env objs n) : cutK nn Φ E O N K .ret env objs n := h
theorem cutK_e {nn : Nat} {I : Type} {Φ : I → Prop} {E : I → Env} {O : I → List Ob} {N : Nat} {K : KW} {env : Env} {objs : List Ob} {n id : Nat} (h : K (.exit id) env objs n) : cutK nn Φ E O N K (.exit id) env objs n := h
/-- a loop: which of a family of states its head is in; 'm' falls; L: what stands of the slots -/
inductive LoopS (nn : Nat) (B : Env → List Ob → Nat → KW → Prop) (L : Env) (env : Env) (objs : List Ob) (nx : Nat) (K : KW) : Prop
  | mk {I : Type} (Φ : I → Prop) (E : I → Env) (O : I → List Ob) (N : Nat) (m : I → Nat) (i0 : I) (h0 : Φ i0) (hin : Into nn env objs nx (E i0) (O i0) N)
    (round : ∀ i, Φ i → B (E i) (O i) N (loopK nn Φ E O N m i K))
/-- ways that meet -/
inductive CutS (nn : Nat) (B : Env → List Ob → Nat → KW → Prop) (C : Env → List Ob → Nat → KW → Prop) (L : Env) (env : Env) (objs : List Ob) (nx : Nat) (K : KW) : Prop
  | mk {I : Type} (Φ : I → Prop) (E : I → Env) (O : I → List Ob) (N : Nat)
    (first : B env objs nx (cutK nn Φ E O N K))
    (rest : ∀ i, Φ i → C (E i) (O i) N K)
/-- a loop, told by the slots that it writes -/
theorem LoopS.auto {nn : Nat} {B : Env → List Ob → Nat → KW → Prop} {L env : Env} {objs : List Ob} {nx : Nat} {K : KW} {I : Type} (Φ : I → Prop) (E : I → Env) (O : I → List Ob) (m : I → Nat) (i0 : I) (h0 : Φ i0) (hin : Into nn env objs nx (catE (E i0) L) (O i0) nx)
    (round : ∀ i, Φ i → B (catE (E i) L) (O i) nx (loopK nn Φ (fun i => catE (E i) L) O nx m i K)) : LoopS nn B L env objs nx K := .mk Φ (fun i => catE (E i) L) O nx m i0 h0 hin round
/-- the same, with a bound of names of its own -/
theorem LoopS.autoN {nn : Nat} {B : Env → List Ob → Nat → KW → Prop} {L env : Env} {objs : List Ob} {nx : Nat} {K : KW} {I : Type} (Φ : I → Prop) (E : I → Env) (O : I → List Ob) (N : Nat) (m : I → Nat) (i0 : I) (h0 : Φ i0) (hin : Into nn env objs nx (catE (E i0) L) (O i0) N)
    (round : ∀ i, Φ i → B (catE (E i) L) (O i) N (loopK nn Φ (fun i => catE (E i) L) O N m i K)) : LoopS nn B L env objs nx K := .mk Φ (fun i => catE (E i) L) O N m i0 h0 hin round
/-- ways that meet, told by the slots that they write -/
theorem CutS.auto {nn : Nat} {B C : Env → List Ob → Nat → KW → Prop} {L env : Env} {objs : List Ob} {nx : Nat} {K : KW} {I : Type} (Φ : I → Prop) (E : I → Env) (O : I → List Ob) (N : Nat)
    (first : B env objs nx (cutK nn Φ (fun i => catE (E i) L) O N K))
    (rest : ∀ i, Φ i → C (catE (E i) L) (O i) N K) : CutS nn B C L env objs nx K := .mk Φ (fun i => catE (E i) L) O N first rest
def cutQ (H : Cfg) : Code → Bool
  | .cond (.tmp t) _ _ => memB H.cut t
  | .block id _ => memB H.cutb id
  | .region id _ _ => memB H.cutr id
  | .seq _ y => cutQ H y
  | _ => false
def exW : Way → Exit
  | .normal => .normal
  | .ret => .ret
  | .exit i => .exit i
/-- after a panic nothing of the slots is asked -/
def PanicQ (Q : Exit → Act → World → Prop) : Prop := ∀ c d v a w, Q (.panic c) (a.put d v) w → Q (.panic c) a w
/-- the names of some slots -/
def nmE (env : Env) : List Nat → Option (List Nat)
  | [] => some []
  | t :: r => match lk env t with
    | some s => match nmS s with
      | some k => match nmE env r with
        | some l => some (k :: l)
        | none => none
      | none => none
    | none => none
def ownPs : List SV → List Nat
  | [] => []
  | .own m :: r => m :: ownPs r
  | _ :: r => ownPs r
/-- the names that a box holds -/
def ownB (objs : List Ob) (k : Nat) : List Nat := match lk objs k with
  | some (.box _ ps) => ownPs ps
  | _ => []
/-- the names of some slots; those behind a million: with what the boxes hold -/
def nmE2 (env : Env) (objs : List Ob) : List Nat → Option (List Nat)
  | [] => some []
  | t :: r => match Nat.ble 1000000 t with
    | false => match lk env t with
      | some s => match nmS s with
        | some k => match nmE2 env objs r with
          | some l => some (k :: l)
          | none => none
        | none => none
      | none => none
    | true => match lk env (t - 1000000) with
      | some s => match nmS s with
        | some k => match nmE2 env objs r with
          | some l => some (k :: (ownB objs k ++ l))
          | none => none
        | none => none
      | none => none
/-- a walk's frame: a function's own, or a round's -/
def fenceOf : Option Nat → Fence
  | none => Fence.wide
  | some l => Fence.wide.inRound l
def noDefer : List Oper → Bool
  | [] => true
  | o :: r => match o.op with
    | .defer _ => false
    | _ => noDefer r
/-- may it be walked in a round? -/
def rdOk : Code → Bool
  | .skip => true
  | .region _ ops false => noDefer ops.toList
  | .seq a b => rdOk a && rdOk b
  | .cond _ a b => rdOk a && rdOk b
  | .block _ c => rdOk c
  | .ret => true
  | .exit _ => true
  | .label _ => true
  | _ => false
/-- the same walk, with more blocks that are not its own -/
structure Sig.Le (S S' : Sig) : Prop where
  w0 : S'.w0 = S.w0
  M0 : S'.M0 = S.M0
  n : S'.n = S.n
  s0 : S'.s0 = S.s0
  nn : S'.nn = S.nn
  a0 : ∀ b, S.A0 b → S'.A0 b
  new : ∀ b, S'.A0 b → S.A0 b ∨ S.w0.heap.size ≤ b
  ds : ∀ D ∈ S'.ds, D ∈ S.ds ∨ S.w0.heap.size ≤ D
  nod : S.ds.Nodup → S'.ds.Nodup
theorem Sig.Le.refl (S : Sig) : S.Le S := ⟨rfl, rfl, rfl, rfl, rfl, fun _ h => h, fun _ h => .inl h, fun _ h => .inl h, fun h => h⟩
theorem Sig.Le.trans {S S' S'' : Sig} (h : S.Le S') (k : S'.Le S'') : S.Le S'' :=
  ⟨k.w0.trans h.w0, k.M0.trans h.M0, k.n.trans h.n, k.s0.trans h.s0, k.nn.trans h.nn, fun b hb => k.a0 b (h.a0 b hb), fun b hb => (k.new b hb).elim (h.new b) (fun x => .inr (h.w0 ▸ x)), fun D hD => (k.ds D hD).elim (h.ds D) (fun x => .inr (h.w0 ▸ x)), fun x => k.nod (h.nod x)⟩
variable (P) in
/-- what a text owes (told by what it is worth) -/
structure Vc (H : Cfg) (c : Code) (env : Env) (objs : List Ob) (nx : Nat) (K : KW) : Prop where
  h : ∀ {S : Sig} {Q : Exit → Act → World → Prop} (rd : Option Nat), CsOk P H.cs → H.n = S.n → H.nn = S.nn → drawsOk H.dr c = true → (rd.isSome = true → rdOk c = true) → PanicQ Q → (∀ S', S.Le S' → ∀ way env objs nx, K way env objs nx → Pr P S' env objs nx (Q (exW way))) → Pr P S env objs nx (c.wpIn (fenceOf rd) 0 P Q)
end
attribute [irreducible] seqK blockK loopK cutK
end Go.Proofs.YtdflndjlnkoliaaGreatDoor

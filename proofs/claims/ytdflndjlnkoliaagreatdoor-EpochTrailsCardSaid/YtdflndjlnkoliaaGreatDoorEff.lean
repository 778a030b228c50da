import Derived.Test.YtdflndjlnkoliaaGreatDoorDisp
/- MY OWN ENGINE: what turns the state: ghost steps, new blocks, stores. -/
namespace Go.Proofs.YtdflndjlnkoliaaGreatDoor
set_option linter.all false
open Go.RowKit
section
variable {P : Program} [TabC P] {S : Sig} {σ : Sg} {env : Env} {objs : List Ob} {nx : Nat} {o : Oper} {a : Act} {w : World} {x y : Operand}
/-- the objects with another one in a name's place -/
def setO : List Ob → Nat → Nat → SO → Option (List Ob)
  | [], _, _, _ => none
  | (k, so) :: r, n, n', so' => match Nat.beq k n with
    | true => some ((n', so') :: r)
    | false => match setO r n n' so' with
      | some r' => some ((k, so) :: r')
      | none => none
theorem setO_spec : ∀ {l l' : List Ob} {n n' : Nat} {so so' : SO}, lk l n = some so → setO l n n' so' = some l' → SetO l (n, so) (n', so') l'
  | [], _, _, _, _, _, h, _ => by simp [lk] at h
  | (k, u) :: r, l', n, n', so, so', h, h2 => by
    unfold lk at h
    unfold setO at h2
    split at h
    · rename_i hb
      cases h
      rw [hb] at h2
      simp only [Option.some.injEq] at h2; subst h2
      obtain rfl := Nat.eq_of_beq_eq_true hb
      exact .here
    · rename_i hb
      rw [hb] at h2
      simp only at h2
      split at h2
      · rename_i r' hr
        simp only [Option.some.injEq] at h2; subst h2
        exact .there (setO_spec h hr)
      · cases h2
def setK (objs : List Ob) (n n' : Nat) (so : SO) (K : List Ob → Prop) : Prop := match setO objs n n' so with
  | some l => K l
  | none => False
/-! ## ghost steps -/
theorem SetO.owns_le {l m : List Ob} {p q : Ob} (h : SetO l p q m) (hq : ∀ b, q.2.own σ q.1 b → p.2.own σ p.1 b) : ∀ b, owns σ m b → owns σ l b := fun b hb => by
  obtain ⟨R, h1, h2, _⟩ := h.owns_iff (σ := σ)
  rcases (h2 b).1 hb with h | h
  · exact (h1 b).2 (.inl h)
  · exact (h1 b).2 (.inr (hq b h))
/-- an object said otherwise -/
theorem St.ghost {p q : Ob} {objs' : List Ob} (h : St P S σ env objs nx a w) (hs : SetO objs p q objs') (hq : q.2.holds w (S.A σ objs') σ q.1) (hqo : ∀ b, q.2.own σ q.1 b → p.2.own σ p.1 b) : St P S σ env objs' nx a w := by
  have hle := hs.owns_le hqo
  exact h.upd (M := fun _ => False) (Mod.refl _ w) (fun _ x => x.elim) (fun b hb => .inl (hle b hb)) (h.obs.set hs (Mod.refl _ w) hq (fun b hb => .inl (hqo b hb)) h.a0lt)
/-- a row that is written no more -/
theorem rowH.fs {A A' : Own} {k e z : Nat} {α : Type} {enc : α → List SV} {xs : List α} (h : rowH w A σ k e z (xs.map enc)) (hA : ∀ b, A' b → A b) (hv : ∀ b v, σ k = some v → blkO v = some b → ¬ A' b) : ∃ v, σ k = some v ∧ (SV.fs z enc xs).hc w A' sg0 [v] := by
  obtain ⟨v, cs, h0, h1, h2, h3, ho⟩ := h
  refine ⟨v, h0, ?_⟩
  rw [List.length_map] at *
  have hsz : ∀ i (h : i < xs.length), szL (enc xs[i]) = z := fun i hi => h1 _ (List.mem_map.2 ⟨_, List.getElem_mem hi, rfl⟩)
  have hmx : (140737488355328 : Nat) ≤ maxLen := by decide
  rcases ho.2 with ⟨rfl, hn⟩ | ⟨g, cap, cur, rfl, hb0, hg, hn, hc, hs, ht⟩
  · have : xs = [] := List.eq_nil_of_length_eq_zero hn
    subst this
    simp only [SV.hc]
    exact ⟨none, 0, rfl, Nat.le_refl _, by decide, fun _ => by simp, hsz, fun ad had => by cases had⟩
  · simp only [SV.hc, List.cons.injEq, and_true]
    refine ⟨some ⟨g, 0, none⟩, cap, rfl, hn, hc, fun h => (by cases h), hsz, fun ad had => ?_⟩
    simp only [Option.some.injEq] at had; subst had
    refine .inr ⟨rfl, hv g _ h0 rfl, cur, e, (0, 0), hg, fun i hi => ?_⟩
    have h4 := h3.get (z := z) h1 (i := i) (e := enc xs[i]) (by simp [hi])
    have h5 := hL.later (Later.own hA) _ _ _ h4
    have hmul : (i + 1) * z ≤ xs.length * z := Nat.mul_le_mul_right _ hi
    rw [Nat.add_mul, Nat.one_mul] at hmul
    rw [← ht, List.drop_take, List.take_take, Nat.min_eq_left (by omega)] at h5
    simpa using h5
/-- parts that bear no names -/
def noName : List SV → Bool
  | [] => true
  | .ptr _ _ :: _ => false
  | .own _ :: _ => false
  | .rptr _ _ _ _ :: _ => false
  | .cptr _ _ _ :: _ => false
  | .bsl _ _ _ _ :: _ => false
  | _ :: r => noName r
theorem noName_spec : ∀ {l : List SV}, noName l = true → ∀ {w : World} {A : Own} {σ σ' : Sg} {cs : List Value}, hL w A l σ cs → hL w A l σ' cs
  | [], _, w, A, σ, σ', cs, h => h
  | s :: r, hn, w, A, σ, σ', cs, h => by
    simp only [hL] at h ⊢
    obtain ⟨a, b, h1, h2, h3⟩ := h
    refine ⟨a, b, h1, ?_, noName_spec (l := r) (by cases s <;> simp_all [noName]) h3⟩
    cases s <;> first | exact h2 | (simp [noName] at hn) | (simp only [SV.hc] at h2 ⊢; exact h2)
/-- what is frozen: a row, a box -/
def frz (objs : List Ob) (k : Nat) (K : List Ob → Prop) : Prop := match lk objs k with
  | some (.row _ z enc xs) => setK objs k k (.frow z enc xs) K
  | some (.box T ps) => match noName ps with
    | true => setK objs k k (.fbox T ps) K
    | false => False
  | some (.frow _ _ _) => K objs
  | some (.fbox _ _) => K objs
  | _ => False
theorem own_disj {p q : Ob} {objs' : List Ob} (h : St P S σ env objs nx a w) (hs : SetO objs p q objs') (hq : ∀ b, ¬ q.2.own σ q.1 b) : ∀ b, p.2.own σ p.1 b → ¬ (S.A σ objs') b := fun b hb hx => by
  obtain ⟨R, h1, h2, h3⟩ := hs.owns_iff (σ := σ)
  rcases hx with hx | hx
  · exact (h.obs.lt b ((h1 b).2 (.inr hb))).2 hx
  · rcases (h2 b).1 hx with hR | hqq
    · exact h3 h.obs.disj b hR hb
    · exact hq b hqq
/-- the state's half of a ghost step -/
def GS (P : Program) [TabC P] (objs objs' : List Ob) : Prop := (∀ S env nx σ a w, St P S σ env objs nx a w → St P S σ env objs' nx a w) ∧ ∀ σ b, owns σ objs' b → owns σ objs b
theorem frz_sound {k : Nat} {K : List Ob → Prop} (h : frz objs k K) : ∃ objs', K objs' ∧ GS P objs objs' := by
  unfold frz setK at h
  split at h
  · rename_i e z α enc xs hk
    split at h
    · rename_i l hl
      have hs := setO_spec hk hl
      refine ⟨l, h, fun S env nx σ a w hst => ?_, fun σ => hs.owns_le (fun b hb => hb.elim)⟩
      have hd := own_disj hst hs (fun b hb => hb)
      exact hst.ghost hs (rowH.fs (lk_holds hst hk) (fun b hb => hb.imp id (hs.owns_le (fun b hb => hb.elim) b)) (fun b v h1 h2 => hd b ⟨v, h1, h2⟩)) (fun b hb => hb.elim)
    · exact h.elim
  · rename_i T ps hk
    split at h
    · rename_i hn
      split at h
      · rename_i l hl
        have hs := setO_spec hk hl
        refine ⟨l, h, fun S env nx σ a w hst => ?_, fun σ => hs.owns_le (fun b hb => hb.elim)⟩
        have hd := own_disj hst hs (fun b hb => hb)
        obtain ⟨b, cs, h1, h2, h3⟩ := lk_holds hst hk
        refine hst.ghost hs ⟨_, h1, ?_, b, rfl⟩ (fun b hb => hb.elim)
        simp only [SV.hc]
        refine ⟨b, 0, rfl, hd b ⟨_, h1, rfl⟩, _, T, (0, 0), h2, ?_⟩
        have h4 := noName_spec hn (σ' := sg0) (hL.later (Later.own (A := S.A σ objs) (A' := S.A σ l) fun b hb => hb.imp id (hs.owns_le (fun b hb => hb.elim) b)) _ _ _ h3)
        rw [← h3.len]; simpa using h4
      · exact h.elim
    · exact h.elim
  · exact ⟨objs, h, fun _ _ _ _ _ _ h => h, fun _ _ h => h⟩
  · exact ⟨objs, h, fun _ _ _ _ _ _ h => h, fun _ _ h => h⟩
  · exact h.elim

/-! ## operations that turn the state -/
abbrev KS := Env → List Ob → Nat → Prop
variable (P) in
def DoesK (S : Sig) (env : Env) (objs : List Ob) (nx : Nat) (o : Oper) (kept : Bool) (K : KS) : Prop :=
  ∀ σ a w, St P S σ env objs nx a w → ∀ (X : Act → World → Prop) (Q : Exit → Act → World → Prop), (∀ σ' env' objs' nx' a' w', K env' objs' nx' → St P S σ' env' objs' nx' a' w' → (kept = true → Kept w w') → X a' w') → o.wp P a w X Q
theorem DoesK.of {kept : Bool} {K : KS} {env' : Env} {objs' : List Ob} {nx' : Nat} (hk : K env' objs' nx') (h : ∀ σ a w, St P S σ env objs nx a w → ∃ r v w' σ', (execOp a.eval o).run P w = .ok r w' ∧ (r = .value v ∨ (r = .skip ∧ v = undef)) ∧ St P S σ' env' objs' nx' (a.put o.dst v) w' ∧ (kept = true → Kept w w')) : DoesK P S env objs nx o kept K := fun σ a w hst X Q hX => by
  obtain ⟨r, v, w', σ', hrun, hr, hst', hkp⟩ := h σ a w hst
  unfold Oper.wp; rw [hrun]
  rcases hr with rfl | ⟨rfl, rfl⟩
  · exact hX _ _ _ _ _ _ hk hst' hkp
  · exact hX _ _ _ _ _ _ hk hst' hkp
/-- a new block of one's own -/
theorem St.newBox (h : St P S σ env objs nx a w) {C : Array Value} {T : TypeId} {ps : List SV} (hC : hL w (S.A σ objs) ps σ C.toList) :
    St P S (σ.set nx (.pointer (some ⟨w.heap.size, 0, none⟩))) env ((nx, .box T ps) :: objs) (nx + 1) a (w.alloc (.cells C T)) := by
  have h1 := h.name (.pointer (some ⟨w.heap.size, 0, none⟩))
  have hle := Sg.le_set (σ := σ) (v := .pointer (some ⟨w.heap.size, 0, none⟩)) (h.dom nx (Nat.le_refl _))
  have hown : ∀ b, owns (σ.set nx (.pointer (some ⟨w.heap.size, 0, none⟩))) ((nx, .box T ps) :: objs) b → owns (σ.set nx (.pointer (some ⟨w.heap.size, 0, none⟩))) objs b ∨ w.heap.size ≤ b := fun b hb => by
    rcases hb with ⟨v, hv, hb⟩ | hb
    · simp only [Sg.set_self, Option.some.injEq] at hv
      subst hv; simp only [blkO, Option.some.injEq] at hb; subst hb
      exact .inr (Nat.le_refl _)
    · exact .inl hb
  refine h1.upd (M := fun _ => False) (Mod.alloc _ w _) (fun _ x => x.elim) hown (h1.obs.cons (Mod.alloc _ w _) ?_ (fun b hb => ?_) h.a0lt)
  · refine ⟨w.heap.size, C.toList, Sg.set_self _ _ _, by simpa using heap_alloc_new w _, ?_⟩
    have e1 := hL.names _ _ hle hC
    refine hL.later ?_ _ _ _ e1
    refine (Mod.alloc (fun _ => False) w (.cells C T)).later (fun _ x => x.elim) (fun b hb hx => hx.imp id fun hx => ?_)
    have := (hown b hx).resolve_right (by omega)
    exact (owns_names hle h.obs.holds b).1 this
  · obtain ⟨v, hv, hb⟩ := hb
    simp only [Sg.set_self, Option.some.injEq] at hv
    subst hv; simp only [blkO, Option.some.injEq] at hb; subst hb
    exact Nat.le_refl _
variable (P) in
def dstK (n : Nat) (d : Option Nat) (K : Nat → Prop) : Prop := match d with
  | some d => match Nat.blt d n with
    | true => K d
    | false => False
  | none => False
theorem dstK_spec {n : Nat} {d : Option Nat} {K : Nat → Prop} (h : dstK n d K) : ∃ k, d = some k ∧ k < n ∧ K k := by
  unfold dstK at h
  split at h
  · split at h
    · rename_i hb; exact ⟨_, rfl, by simpa [Nat.blt_eq] using hb, h⟩
    · exact h.elim
  · exact h.elim
variable (P) in
def evAlloc (n : Nat) (dst : Option Nat) (env : Env) (objs : List Ob) (nx : Nat) (T : Nat) (K : KS) : Prop := dstK n dst fun d => match zeroOf (TabC.tab P) 9 T with
  | some z => frcL z fun z => K ((d, .ptr nx 0) :: env) ((nx, .box T z) :: objs) (nx + 1)
  | none => False
theorem ptr_self {A : Own} (k : Nat) (b : Nat) : (SV.ptr k 0).hv w A (σ.set k (.pointer (some ⟨b, 0, none⟩))) (.pointer (some ⟨b, 0, none⟩)) := ⟨b, 0, Sg.set_self _ _ _, rfl⟩
theorem evAlloc_sound {T : TypeId} {K : KS} (ho : o.op = .alloc T) (h : evAlloc P S.n o.dst env objs nx T K) : DoesK P S env objs nx o true K := by
  obtain ⟨d, hd, hlt, h⟩ := dstK_spec h
  split at h
  · rename_i z hz
    obtain ⟨inf, zv, hi, hz0, _, hzc⟩ := zero_spec (P := P) hz
    refine DoesK.of (frcL_k (K := fun z => K ((d, .ptr nx 0) :: env) ((nx, .box T z) :: objs) (nx + 1)) h) fun σ a w hst => ⟨.value (.pointer (some ⟨w.heap.size, 0, none⟩)), _, w.alloc (.cells zv.cells T), σ.set nx (.pointer (some ⟨w.heap.size, 0, none⟩)), ?_, .inl rfl, ?_, fun _ => Mod.alloc _ w _⟩
    · simp [execOp, ho, Instr.alloc, zeroValue, typeInfo, hi, hz0, newVar, newRow]
    · rw [hd]
      exact (hst.newBox (hzc w _ _)).put hlt (ptr_self nx _)
  · exact h.elim
variable (P) in
def evBox (n : Nat) (dst : Option Nat) (env : Env) (objs : List Ob) (nx : Nat) (T : Nat) (s : SV) (K : KS) : Prop := dstK n dst fun d => match prt s with
  | some ps => frcL ps fun ps => K ((d, .ptr nx 0) :: env) ((nx, .box T ps) :: objs) (nx + 1)
  | none => False
theorem evBox_sound {T : TypeId} {s : SV} {K : KS} (ho : o.op = .box T x) (hx : evx P env x = some s) (h : evBox S.n o.dst env objs nx T s K) : DoesK P S env objs nx o true K := by
  obtain ⟨d, hd, hlt, h⟩ := dstK_spec h
  split at h
  · rename_i ps hps
    refine DoesK.of (frcL_k (K := fun z => K ((d, .ptr nx 0) :: env) ((nx, .box T z) :: objs) (nx + 1)) h) fun σ a w hst => ⟨.value (.pointer (some ⟨w.heap.size, 0, none⟩)), _, w.alloc (.cells (a.eval x).cells T), σ.set nx (.pointer (some ⟨w.heap.size, 0, none⟩)), ?_, .inl rfl, ?_, fun _ => Mod.alloc _ w _⟩
    · simp [execOp, ho, Instr.box, newVar, newRow]
    · rw [hd]
      exact (hst.newBox (prt_spec hps (hst.ev hx))).put hlt (ptr_self nx _)
  · exact h.elim
end
end Go.Proofs.YtdflndjlnkoliaaGreatDoor

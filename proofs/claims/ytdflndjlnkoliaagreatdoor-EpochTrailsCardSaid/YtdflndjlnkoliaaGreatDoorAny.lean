import Derived.OrdersHeld
import Derived.WalkKit
namespace Go.Proofs.YtdflndjlnkoliaaGreatDoor
set_option linter.all false
section
variable {P : Program} {ops : Array Oper} {Q : Exit → Act → World → Prop} {md : Region.Mode} {S : World → Prop} {T L : List Nat}

/-- does operation j wait for i, at once or through others? -/
def dep (md : Region.Mode) (ops : Array Oper) : Nat → Nat → Nat → Bool
  | 0, _, _ => false
  | fuel + 1, j, i => match ops[j]? with
    | some o => o.after.any fun e => Region.binds md e && (e.on == i || dep md ops fuel e.on i)
    | none => false
/-- does operation j wait for each load of T? else S is owed behind it -/
def needS (md : Region.Mode) (ops : Array Oper) (T : List Nat) (j : Nat) : Bool :=
  T.any fun i => i != j && !dep md ops ops.size j i
/-- what has come up waits for nothing that has not -/
def Closed (md : Region.Mode) (ops : Array Oper) (listed : Array Bool) : Prop :=
  ∀ (j : Nat) (o : Oper), ops[j]? = some o → listed.getD j false = true → ∀ e ∈ o.after, Region.binds md e = true → listed.getD e.on false = true
theorem Closed.dep {listed : Array Bool} (h : Closed md ops listed) : ∀ (fuel j i : Nat), (∀ o, ops[j]? = some o → ∀ e ∈ o.after, Region.binds md e = true → listed.getD e.on false = true) → dep md ops fuel j i = true → listed.getD i false = true
  | 0, _, _, _, hd => by cases hd
  | fuel + 1, j, i, hj, hd => by
    unfold Go.Proofs.YtdflndjlnkoliaaGreatDoor.dep at hd
    split at hd
    · rename_i o ho
      rw [Array.any_eq_true'] at hd
      obtain ⟨e, he, h2⟩ := hd
      simp only [Bool.and_eq_true, Bool.or_eq_true, beq_iff_eq] at h2
      rcases h2.2 with rfl | h3
      · exact hj o ho e he h2.1
      · exact Closed.dep h fuel e.on i (fun o' ho' => h e.on o' ho' (hj o ho e he h2.1)) h3
    · cases hd
theorem getD_set_true {listed : Array Bool} {i j : Nat} (h : (listed.setIfInBounds i true).getD j false = true) : j = i ∨ listed.getD j false = true := by
  by_cases hij : i = j
  · exact .inl hij.symm
  · refine .inr ?_
    simp only [Array.getD_eq_getD_getElem?] at h ⊢
    rwa [Array.getElem?_setIfInBounds_ne hij] at h
theorem getD_set_mono {listed : Array Bool} {i j : Nat} (h : listed.getD j false = true) : (listed.setIfInBounds i true).getD j false = true := by
  simp only [Array.getD_eq_getD_getElem?] at h ⊢
  by_cases hij : i = j
  · subst hij
    rcases Nat.lt_or_ge i listed.size with h' | h'
    · simp [h']
    · simp [Array.getElem?_eq_none h'] at h
  · rwa [Array.getElem?_setIfInBounds_ne hij]
theorem Closed.set {listed : Array Bool} (h : Closed md ops listed) {i : Nat} (hi : i ∈ Region.ready md ops listed) : Closed md ops (listed.setIfInBounds i true) := by
  obtain ⟨_, o, ho, hall⟩ := mem_ready.1 hi
  intro j oj hoj hj e he hb
  rcases getD_set_true hj with rfl | hj
  · rw [ho] at hoj; cases hoj; exact getD_set_mono (hall e he hb)
  · exact getD_set_mono (h j oj hoj hj e he hb)

def wpAnyT (P : Program) (md : Region.Mode) (ops : Array Oper) (Q : Exit → Act → World → Prop) (S : World → Prop) (T L : List Nat) : Nat → Array Bool → Act → World → Prop
  | 0, listed, a, w => Region.ready md ops listed = [] ∧ Q .normal a w
  | fuel + 1, listed, a, w =>
    (Region.ready md ops listed = [] → Q .normal a w) ∧
    ∀ i ∈ Region.ready md ops listed, wpOp P ops Q i (fun a' w' => ((L.contains i = false → w' = w) ∧ (needS md ops T i = true → S w ∨ L.contains i = true → S w')) ∧ wpAnyT P md ops Q S T L fuel (listed.setIfInBounds i true) a' w') a w

theorem wpAny_of_T : ∀ (fuel : Nat) (listed : Array Bool) (a : Act) (w : World), wpAnyT P md ops Q S T L fuel listed a w → wpAny P md ops Q fuel listed a w
  | 0, _, _, _, h => h
  | fuel + 1, _, _, _, h => ⟨h.1, fun i hi => wpOp_mono (fun a' w' h' => wpAny_of_T fuel _ a' w' h'.2) (h.2 i hi)⟩

theorem wpAnyT_first {S' : World → Prop} {i : Nat} {oi : Oper} {v : Value} (hi : ops[i]? = some oi) (hsel : ∀ (j : Nat) (o : Oper) cs b, ops[j]? = some o → o.op ≠ .select cs b)
    (hQ : ∀ c a w, Q (.panic c) (a.put oi.dst v) w → Q (.panic c) a w) (hL : L.contains i = false)
    (hneed : ∀ j w', j ≠ i → L.contains j = true → dep md ops ops.size j i = false → (needS md ops T j = true → S w') → S' w') :
    ∀ (fuel : Nat) (listed : Array Bool) (a : Act) (w : World),
      (∀ j oj, ops[j]? = some oj → j ≠ i → listed.getD j true = false → (∀ e ∈ oj.after, Region.binds md e = true → e.on ≠ i) → oi.apart ops oj = true) → Closed md ops listed →
      i ∈ Region.ready md ops listed → YieldsIf P ops S' oi v a → S' w →
      wpAnyT P md ops Q S T L fuel (listed.setIfInBounds i true) (a.put oi.dst v) w → wpAnyT P md ops Q S T L (fuel + 1) listed a w := by
  intro fuel
  have hown : ∀ w : World, (L.contains i = false → w = w) ∧ (needS md ops T i = true → S w ∨ L.contains i = true → S w) := fun w => ⟨fun _ => rfl, fun _ h => h.elim id (fun h => by rw [hL] at h; cases h)⟩
  induction fuel with
  | zero =>
    intro listed a w _ _ hr hy hS H
    refine ⟨fun h => (by rw [h] at hr; cases hr), fun j hj => ?_⟩
    by_cases hji : j = i
    · subst hji; exact hy.wpOp hi hS ⟨hown w, H⟩
    · have := ready_mono hj hji
      rw [H.1] at this
      cases this
  | succ fuel ih =>
    intro listed a w hfree hcl hr hy hS H
    refine ⟨fun h => (by rw [h] at hr; cases hr), fun j hj => ?_⟩
    by_cases hji : j = i
    · subst hji; exact hy.wpOp hi hS ⟨hown w, H⟩
    · have h1 := H.2 j (ready_mono hj hji)
      obtain ⟨hjun, oj, hoj, hall⟩ := mem_ready.1 hj
      have hnot : ∀ e ∈ oj.after, Region.binds md e = true → e.on ≠ i := fun e he hb heq => by
        have h1 := hall e he hb
        have h0 := (mem_ready.1 hr).1
        rw [heq] at h1
        rcases Nat.lt_or_ge i listed.size with h' | h'
        · simp [h'] at h0 h1; rw [h0] at h1; cases h1
        · simp [Array.getElem?_eq_none h'] at h1
      have h2 := wpOp_putIf hoj (hfree j oj hoj hji hjun hnot) (fun cs b => hsel i oi cs b hi) (fun cs b => hsel j oj cs b hoj) hQ hy h1
      have hfree' : ∀ k ok, ops[k]? = some ok → k ≠ i → (listed.setIfInBounds j true).getD k true = false →
          (∀ e ∈ ok.after, Region.binds md e = true → e.on ≠ i) → oi.apart ops ok = true := fun k ok hk hki hun hno => by
        refine hfree k ok hk hki ?_ hno
        by_cases hjk : j = k
        · subst hjk; exact hjun
        · rw [getD_set_ne true hjk] at hun; exact hun
      refine wpOp_mono (fun a' w' h3 => ⟨h3.2.1, ih (listed.setIfInBounds j true) a' w' hfree' (hcl.set hj) (ready_mono hr (Ne.symm hji)) h3.1 ?_ ?_⟩) h2
      · cases hLj : L.contains j with
        | false => rw [h3.2.1.1 hLj]; exact hS
        | true =>
          refine hneed j w' hji hLj ?_ (fun hn => h3.2.1.2 hn (.inr hLj))
          rw [Bool.eq_false_iff]; intro hd
          have h1 := hcl.dep _ _ _ (fun o ho => by rw [hoj] at ho; cases ho; exact hall) hd
          have h0 := (mem_ready.1 hr).1
          rcases Nat.lt_or_ge i listed.size with h' | h'
          · simp [h'] at h0 h1; rw [h0] at h1; cases h1
          · simp [Array.getElem?_eq_none h'] at h1
      · rw [Array.setIfInBounds_comm _ _ hji]
        exact h3.2.2

/-- the canonical walk: kind 0: yields whatever the world; kind 1: yields wherever S holds; kind 2: is carried out in the world at hand; the Bool: S is owed behind it -/
def wpCan (P : Program) (ops : Array Oper) (Q : Exit → Act → World → Prop) (S : World → Prop) : List (Nat × Nat × Bool) → Act → World → Prop
  | [], a, w => Q .normal a w
  | (i, k, need) :: rest, a, w => ∃ o, ops[i]? = some o ∧
    if Region.wanted o (yielded ops a.tmps) = true then
      match k with
      | 0 => ∃ v, (∀ w', (execOp a.eval o).run P w' = .ok (.value v) w') ∧ wpCan P ops Q S rest (a.put o.dst v) w
      | 1 => ∃ v, (∀ w', S w' → (execOp a.eval o).run P w' = .ok (.value v) w') ∧ wpCan P ops Q S rest (a.put o.dst v) w
      | _ => o.wp P a w (fun a' w' => (need = true → S w') ∧ wpCan P ops Q S rest a' w') Q
    else wpCan P ops Q S rest (a.put o.dst undef) w

/-- may the operations come up so, taken in this order? -/
def canOk (ops : Array Oper) (T L : List Nat) : List (Nat × Nat × Bool) → Array Bool → Bool → Bool
  | [], listed, _ => (Region.ready .any ops listed).isEmpty
  | (i, k, need) :: rest, listed, hasS =>
    (match k with
     | 0 => Region.free .any ops listed i && (Region.ready .any ops listed).contains i && !L.contains i
     | 1 => hasS && Region.free .any ops listed i && (Region.ready .any ops listed).contains i && T.contains i && !L.contains i
     | _ => (Region.ready .any ops listed == [i]) && L.contains i && (!need || hasS) && (need || !needS .any ops T i)) &&
    canOk ops T L rest (listed.setIfInBounds i true) (match k with | 0 => hasS | 1 => hasS | _ => need)

theorem needS_of {i j : Nat} (hT : i ∈ T) (hji : j ≠ i) (h : dep md ops ops.size j i = false) : needS md ops T j = true := by
  unfold needS
  rw [List.any_eq_true]
  refine ⟨i, hT, ?_⟩
  simp only [Bool.and_eq_true, bne_iff_ne, ne_eq, Bool.not_eq_true']
  exact ⟨fun e => hji e.symm, h⟩

theorem wpAnyT_of_can (hs : Region.noSelect ops = true) (hQ : ∀ c d v a w, Q (.panic c) (a.put d v) w → Q (.panic c) a w) :
    ∀ (ord : List (Nat × Nat × Bool)) (listed : Array Bool) (hasS : Bool) (a : Act) (w : World), canOk ops T L ord listed hasS = true → Closed .any ops listed → (hasS = true → S w) →
      wpCan P ops Q S ord a w → wpAnyT P .any ops Q S T L ord.length listed a w
  | [], listed, _, a, w, hc, _, _, h => ⟨by simpa [canOk] using hc, h⟩
  | (i, k, need) :: rest, listed, hasS, a, w, hc, hcl, hS, h => by
    obtain ⟨o, ho, h⟩ := h
    unfold canOk at hc
    rw [Bool.and_eq_true] at hc
    obtain ⟨hc1, hc2⟩ := hc
    show wpAnyT P .any ops Q S T L (rest.length + 1) listed a w
    by_cases hw : Region.wanted o (yielded ops a.tmps) = true
    · rw [if_pos hw] at h
      match k, hc1, hc2, h with
      | 0, hc1, hc2, h =>
        obtain ⟨v, hv, h⟩ := h
        simp only [Bool.and_eq_true, Bool.not_eq_true'] at hc1
        exact wpAnyT_first (S' := fun _ => True) ho (Region.noSelect_spec hs) (fun c a w => hQ c _ _ a w) hc1.2 (fun _ _ _ _ _ _ => trivial) _ _ _ _
          (Region.free_spec ho hc1.1.1) hcl (by simpa using hc1.1.2) (.inl ⟨hw, fun w' _ => hv w'⟩) trivial (wpAnyT_of_can hs hQ rest _ hasS _ _ hc2 (hcl.set (by simpa using hc1.1.2)) hS h)
      | 1, hc1, hc2, h =>
        obtain ⟨v, hv, h⟩ := h
        simp only [Bool.and_eq_true, Bool.not_eq_true'] at hc1
        exact wpAnyT_first (S' := S) ho (Region.noSelect_spec hs) (fun c a w => hQ c _ _ a w) hc1.2 (fun j w' hj _ hn hh => hh (needS_of (by simpa using hc1.1.2) hj hn)) _ _ _ _
          (Region.free_spec ho hc1.1.1.1.2) hcl (by simpa using hc1.1.1.2) (.inl ⟨hw, hv⟩) (hS hc1.1.1.1.1) (wpAnyT_of_can hs hQ rest _ hasS _ _ hc2 (hcl.set (by simpa using hc1.1.1.2)) hS h)
      | k + 2, hc1, hc2, h =>
        simp only [Bool.and_eq_true, Bool.or_eq_true, Bool.not_eq_true', beq_iff_eq] at hc1
        refine ⟨fun h0 => (by rw [hc1.1.1.1] at h0; cases h0), fun j hj => ?_⟩
        rw [hc1.1.1.1, List.mem_singleton] at hj
        subst hj
        unfold wpOp
        simp only [ho, hw, if_true]
        refine .inl (Oper.wp_mono (fun a' w' h' => ?_) h)
        refine ⟨⟨fun hl => (by rw [hc1.1.1.2] at hl; cases hl), fun hn _ => ?_⟩, wpAnyT_of_can hs hQ rest _ need _ _ hc2 (hcl.set (by rw [hc1.1.1.1]; simp)) h'.1 h'.2⟩
        rcases hc1.2 with h1 | h1
        · exact h'.1 h1
        · rw [hn] at h1; cases h1
    · rw [if_neg hw] at h
      have hw' : Region.wanted o (yielded ops a.tmps) = false := by simpa using hw
      match k, hc1, hc2, h with
      | 0, hc1, hc2, h =>
        simp only [Bool.and_eq_true, Bool.not_eq_true'] at hc1
        exact wpAnyT_first (S' := fun _ => True) ho (Region.noSelect_spec hs) (fun c a w => hQ c _ _ a w) hc1.2 (fun _ _ _ _ _ _ => trivial) _ _ _ _
          (Region.free_spec ho hc1.1.1) hcl (by simpa using hc1.1.2) (.inr ⟨hw', rfl⟩) trivial (wpAnyT_of_can hs hQ rest _ hasS _ _ hc2 (hcl.set (by simpa using hc1.1.2)) hS h)
      | 1, hc1, hc2, h =>
        simp only [Bool.and_eq_true, Bool.not_eq_true'] at hc1
        exact wpAnyT_first (S' := fun _ => True) ho (Region.noSelect_spec hs) (fun c a w => hQ c _ _ a w) hc1.2 (fun _ _ _ _ _ _ => trivial) _ _ _ _
          (Region.free_spec ho hc1.1.1.1.2) hcl (by simpa using hc1.1.1.2) (.inr ⟨hw', rfl⟩) trivial (wpAnyT_of_can hs hQ rest _ hasS _ _ hc2 (hcl.set (by simpa using hc1.1.1.2)) hS h)
      | k + 2, hc1, hc2, h =>
        simp only [Bool.and_eq_true, Bool.or_eq_true, Bool.not_eq_true', beq_iff_eq] at hc1
        refine ⟨fun h0 => (by rw [hc1.1.1.1] at h0; cases h0), fun j hj => ?_⟩
        rw [hc1.1.1.1, List.mem_singleton] at hj
        subst hj
        unfold wpOp
        simp only [ho, hw', Bool.false_eq_true, if_false]
        have hSn : need = true → S w := fun hn => hS (by rcases hc1.1.2 with h1 | h1; rw [hn] at h1; cases h1; exact h1)
        refine ⟨⟨fun hl => (by rw [hc1.1.1.2] at hl; cases hl), fun hn _ => ?_⟩, wpAnyT_of_can hs hQ rest _ need _ _ hc2 (hcl.set (by rw [hc1.1.1.1]; simp)) hSn h⟩
        rcases hc1.2 with h1 | h1
        · exact hSn h1
        · rw [hn] at h1; cases h1

/-- A REGION THAT DRAWS ITS ORDER, walked in one order. -/
theorem wp_region_can {id : Nat} {a : Act} {w : World} (S : World → Prop) (T L : List Nat) (ord : List (Nat × Nat × Bool)) (hm : P.follows .mixedOrders = true)
    (hs : Region.noSelect ops = true) (hl : ord.length = ops.size) (hc : canOk ops T L ord (Array.replicate ops.size false) true = true)
    (hQ : ∀ c d v a w, Q (.panic c) (a.put d v) w → Q (.panic c) a w) (hS : S w.drew)
    (h : wpCan P ops Q S ord a w.drew) : (Code.region id ops true).wp P Q a w := by
  refine wp_region_any hm (wpAny_of_T (S := S) (T := T) (L := L) _ _ _ _ ?_)
  have := wpAnyT_of_can hs hQ ord _ true _ _ hc (fun j o _ hj => by simp [Array.getD_eq_getD_getElem?, Array.getElem?_replicate] at hj; split at hj <;> simp_all) (fun _ => hS) h
  rw [hl] at this
  exact this

def opAt : List Oper → Nat → Option Oper
  | [], _ => none
  | o :: _, 0 => some o
  | _ :: l, i + 1 => opAt l i
theorem opAt_eq : ∀ (l : List Oper) (i : Nat), opAt l i = l[i]?
  | [], _ => by simp [opAt]
  | _ :: _, 0 => by simp [opAt]
  | _ :: l, i + 1 => by simp [opAt, opAt_eq l i]
theorem opAt_spec {i : Nat} {o : Oper} (h : opAt ops.toList i = some o) : ops[i]? = some o := by
  rw [opAt_eq] at h; simpa using h
theorem can_nil {a : Act} {w : World} (h : Q .normal a w) : wpCan P ops Q S [] a w := h
theorem can_pure {i : Nat} {need : Bool} {rest : List (Nat × Nat × Bool)} {o : Oper} {v : Value} {a : Act} {w : World} (ho : opAt ops.toList i = some o) (hw : Region.wanted o (yielded ops a.tmps) = true)
    (hv : ∀ w', (execOp a.eval o).run P w' = .ok (.value v) w') (h : wpCan P ops Q S rest (a.put o.dst v) w) : wpCan P ops Q S ((i, 0, need) :: rest) a w :=
  ⟨o, opAt_spec ho, by rw [if_pos hw]; exact ⟨v, hv, h⟩⟩
theorem can_load {i : Nat} {need : Bool} {rest : List (Nat × Nat × Bool)} {o : Oper} {v : Value} {a : Act} {w : World} (ho : opAt ops.toList i = some o) (hw : Region.wanted o (yielded ops a.tmps) = true)
    (hv : ∀ w', S w' → (execOp a.eval o).run P w' = .ok (.value v) w') (h : wpCan P ops Q S rest (a.put o.dst v) w) : wpCan P ops Q S ((i, 1, need) :: rest) a w :=
  ⟨o, opAt_spec ho, by rw [if_pos hw]; exact ⟨v, hv, h⟩⟩
theorem can_loud {i : Nat} {need : Bool} {rest : List (Nat × Nat × Bool)} {o : Oper} {a : Act} {w : World} (ho : opAt ops.toList i = some o) (hw : Region.wanted o (yielded ops a.tmps) = true)
    (h : ∀ K : Act → World → Prop, (∀ a' w', ((need = true → S w') ∧ wpCan P ops Q S rest a' w') → K a' w') → o.wp P a w K Q) : wpCan P ops Q S ((i, 2, need) :: rest) a w :=
  ⟨o, opAt_spec ho, by rw [if_pos hw]; exact h _ (fun _ _ h => h)⟩
theorem can_skip {i k : Nat} {need : Bool} {rest : List (Nat × Nat × Bool)} {o : Oper} {a : Act} {w : World} (ho : opAt ops.toList i = some o) (hw : Region.wanted o (yielded ops a.tmps) = false)
    (h : wpCan P ops Q S rest (a.put o.dst undef) w) : wpCan P ops Q S ((i, k, need) :: rest) a w :=
  ⟨o, opAt_spec ho, by rw [if_neg (by rw [hw]; simp)]; exact h⟩
theorem can_pureA {i : Nat} {need : Bool} {rest : List (Nat × Nat × Bool)} {o : Oper} {v : Value} {a a' : Act} {w : World} (ho : opAt ops.toList i = some o) (hw : Region.wanted o (yielded ops a.tmps) = true)
    (hv : ∀ w', (execOp a.eval o).run P w' = .ok (.value v) w') (ha : a.put o.dst v = a') (h : wpCan P ops Q S rest a' w) : wpCan P ops Q S ((i, 0, need) :: rest) a w :=
  can_pure ho hw hv (ha ▸ h)
theorem can_loadA {i : Nat} {need : Bool} {rest : List (Nat × Nat × Bool)} {o : Oper} {v : Value} {a a' : Act} {w : World} (ho : opAt ops.toList i = some o) (hw : Region.wanted o (yielded ops a.tmps) = true)
    (hv : ∀ w', S w' → (execOp a.eval o).run P w' = .ok (.value v) w') (ha : a.put o.dst v = a') (h : wpCan P ops Q S rest a' w) : wpCan P ops Q S ((i, 1, need) :: rest) a w :=
  can_load ho hw hv (ha ▸ h)
theorem can_skipA {i k : Nat} {need : Bool} {rest : List (Nat × Nat × Bool)} {o : Oper} {a a' : Act} {w : World} (ho : opAt ops.toList i = some o) (hw : Region.wanted o (yielded ops a.tmps) = false)
    (ha : a.put o.dst undef = a') (h : wpCan P ops Q S rest a' w) : wpCan P ops Q S ((i, k, need) :: rest) a w :=
  can_skip ho hw (ha ▸ h)
/-- an operation that turns the world at once (an alloc, a store) -/
theorem can_runA {i : Nat} {need : Bool} {rest : List (Nat × Nat × Bool)} {o : Oper} {v : Value} {a a' : Act} {w w1 : World} (ho : opAt ops.toList i = some o) (hw : Region.wanted o (yielded ops a.tmps) = true)
    (hv : (execOp a.eval o).run P w = .ok (.value v) w1) (ha : a.put o.dst v = a') (hS : need = true → S w1) (h : wpCan P ops Q S rest a' w1) : wpCan P ops Q S ((i, 2, need) :: rest) a w :=
  can_loud ho hw fun K hK => by
    unfold Oper.wp; rw [hv]
    exact hK _ _ ⟨hS, ha ▸ h⟩
theorem can_skipRunA {i : Nat} {need : Bool} {rest : List (Nat × Nat × Bool)} {o : Oper} {a a' : Act} {w w1 : World} (ho : opAt ops.toList i = some o) (hw : Region.wanted o (yielded ops a.tmps) = true)
    (hv : (execOp a.eval o).run P w = .ok .skip w1) (ha : a.put o.dst undef = a') (hS : need = true → S w1) (h : wpCan P ops Q S rest a' w1) : wpCan P ops Q S ((i, 2, need) :: rest) a w :=
  can_loud ho hw fun K hK => by
    unfold Oper.wp; rw [hv]
    exact hK _ _ ⟨hS, ha ▸ h⟩
/-- a call that hands back one value -/
theorem can_callA {i : Nat} {need : Bool} {rest : List (Nat × Nat × Bool)} {o : Oper} {a : Act} {a' : Value → Act} {w : World} {f : FuncId} {args : Array Value} {Post : Value → World → Prop}
    (ho : opAt ops.toList i = some o) (hw : Region.wanted o (yielded ops a.tmps) = true) (hv : (execOp a.eval o).run P w = .ok (.enter f args) w)
    (hc : Calls P f args w fun e w' => ∃ v, e = .returned v ∧ Post v w') (ha : ∀ v, a.put o.dst v = a' v)
    (h : ∀ v w1, Post v w1 → (need = true → S w1) ∧ wpCan P ops Q S rest (a' v) w1) : wpCan P ops Q S ((i, 2, need) :: rest) a w :=
  can_loud ho hw fun K hK => by
    unfold Oper.wp; rw [hv]
    refine hc.mono fun e w1 he => ?_
    obtain ⟨v, rfl, hp⟩ := he
    exact hK _ _ ⟨(h v w1 hp).1, (ha v).symm ▸ (h v w1 hp).2⟩
/-! ## loud operations in whatever order -/
/-- a walk: one operation that comes next; or one of some loud ones -/
inductive OT where
  | nil
  | one (i k : Nat) (need : Bool) (r : OT)
  | alt (i : Nat) (need : Bool) (r o : OT)
def OT.depth : OT → Nat
  | .nil => 0
  | .one _ _ _ r => r.depth + 1
  | .alt _ _ r _ => r.depth + 1
def wpTree (P : Program) (ops : Array Oper) (Q : Exit → Act → World → Prop) (S : World → Prop) : OT → Act → World → Prop
  | .nil, a, w => Q .normal a w
  | .one i k need r, a, w => ∃ o, ops[i]? = some o ∧
    if Region.wanted o (yielded ops a.tmps) = true then
      match k with
      | 0 => ∃ v, (∀ w', (execOp a.eval o).run P w' = .ok (.value v) w') ∧ wpTree P ops Q S r (a.put o.dst v) w
      | 1 => ∃ v, (∀ w', S w' → (execOp a.eval o).run P w' = .ok (.value v) w') ∧ wpTree P ops Q S r (a.put o.dst v) w
      | _ => o.wp P a w (fun a' w' => (need = true → S w') ∧ wpTree P ops Q S r a' w') Q
    else wpTree P ops Q S r (a.put o.dst undef) w
  | .alt i need r o, a, w => (∃ op, ops[i]? = some op ∧
    if Region.wanted op (yielded ops a.tmps) = true then op.wp P a w (fun a' w' => (need = true → S w') ∧ wpTree P ops Q S r a' w') Q
    else wpTree P ops Q S r (a.put op.dst undef) w) ∧ wpTree P ops Q S o a w
def treeOk (ops : Array Oper) (T L : List Nat) : OT → Array Bool → Bool → List Nat → Bool
  | .nil, listed, _, seen => (Region.ready .any ops listed).isEmpty && seen.isEmpty
  | .one i k need r, listed, hasS, seen =>
    (match k with
     | 0 => seen.isEmpty && (Region.free .any ops listed i && (Region.ready .any ops listed).contains i && !L.contains i)
     | 1 => seen.isEmpty && (hasS && Region.free .any ops listed i && (Region.ready .any ops listed).contains i && T.contains i && !L.contains i)
     | _ => ((Region.ready .any ops listed).all fun j => j == i || seen.contains j) && ((Region.ready .any ops listed).contains i && L.contains i && (!need || hasS) && (need || !needS .any ops T i))) &&
    treeOk ops T L r (listed.setIfInBounds i true) (match k with | 0 => hasS | 1 => hasS | _ => need) []
  | .alt i need r o, listed, hasS, seen =>
    (((Region.ready .any ops listed).contains i && L.contains i && (!need || hasS) && (need || !needS .any ops T i)) && (o.depth == r.depth + 1)) &&
    (treeOk ops T L r (listed.setIfInBounds i true) need [] && treeOk ops T L o listed hasS (i :: seen))
theorem loud_step {i : Nat} {o : Oper} {need hasS : Bool} {listed : Array Bool} {a : Act} {w : World} {n : Nat} {X : Act → World → Prop} (ho : ops[i]? = some o)
    (hc : ((Region.ready .any ops listed).contains i && L.contains i && (!need || hasS) && (need || !needS .any ops T i)) = true) (hS : hasS = true → S w)
    (hX : ∀ a' w', (need = true → S w') → X a' w' → wpAnyT P .any ops Q S T L n (listed.setIfInBounds i true) a' w')
    (h : if Region.wanted o (yielded ops a.tmps) = true then o.wp P a w (fun a' w' => (need = true → S w') ∧ X a' w') Q else X (a.put o.dst undef) w) :
    wpOp P ops Q i (fun a' w' => ((L.contains i = false → w' = w) ∧ (needS .any ops T i = true → S w ∨ L.contains i = true → S w')) ∧ wpAnyT P .any ops Q S T L n (listed.setIfInBounds i true) a' w') a w := by
  simp only [Bool.and_eq_true, Bool.or_eq_true, Bool.not_eq_true'] at hc
  unfold wpOp
  by_cases hw : Region.wanted o (yielded ops a.tmps) = true
  · rw [if_pos hw] at h
    simp only [ho, hw, if_true]
    refine .inl (Oper.wp_mono (fun a' w' h' => ?_) h)
    refine ⟨⟨fun hl => (by rw [hc.1.1.2] at hl; cases hl), fun hn _ => ?_⟩, hX a' w' h'.1 h'.2⟩
    rcases hc.2 with h1 | h1
    · exact h'.1 h1
    · rw [hn] at h1; cases h1
  · rw [if_neg hw] at h
    have hw' : Region.wanted o (yielded ops a.tmps) = false := by simpa using hw
    simp only [ho, hw', Bool.false_eq_true, if_false]
    have hSn : need = true → S w := fun hn => hS (by rcases hc.1.2 with h1 | h1; rw [hn] at h1; cases h1; exact h1)
    refine ⟨⟨fun hl => (by rw [hc.1.1.2] at hl; cases hl), fun hn _ => ?_⟩, hX _ _ hSn h⟩
    rcases hc.2 with h1 | h1
    · exact hSn h1
    · rw [hn] at h1; cases h1
theorem wpAnyT_of_tree (hs : Region.noSelect ops = true) (hQ : ∀ c d v a w, Q (.panic c) (a.put d v) w → Q (.panic c) a w) : ∀ (t : OT) (listed : Array Bool) (hasS : Bool) (seen : List Nat) (a : Act) (w : World), treeOk ops T L t listed hasS seen = true → Closed .any ops listed → (hasS = true → S w) →
      wpTree P ops Q S t a w → (seen = [] → wpAnyT P .any ops Q S T L t.depth listed a w) ∧ ∀ m, t.depth = m + 1 → ∀ j ∈ Region.ready .any ops listed, j ∉ seen →
        wpOp P ops Q j (fun a' w' => ((L.contains j = false → w' = w) ∧ (needS .any ops T j = true → S w ∨ L.contains j = true → S w')) ∧ wpAnyT P .any ops Q S T L m (listed.setIfInBounds j true) a' w') a w
  | .nil, listed, _, seen, a, w, hc, _, _, h => by
    simp only [treeOk, Bool.and_eq_true, List.isEmpty_iff] at hc
    exact ⟨fun _ => ⟨hc.1, h⟩, fun m hm => by cases hm⟩
  | .one i 0 need r, listed, hasS, seen, a, w, hc, hcl, hS, h => by
    obtain ⟨o, ho, h⟩ := h
    unfold treeOk at hc
    rw [Bool.and_eq_true] at hc
    obtain ⟨hc1, hc2⟩ := hc
    simp only [Bool.and_eq_true, Bool.not_eq_true', List.isEmpty_iff] at hc1
    obtain ⟨rfl, hc1⟩ := hc1
    have main : wpAnyT P .any ops Q S T L (r.depth + 1) listed a w := by
      by_cases hw : Region.wanted o (yielded ops a.tmps) = true
      · rw [if_pos hw] at h
        obtain ⟨v, hv, h⟩ := h
        exact wpAnyT_first (S' := fun _ => True) ho (Region.noSelect_spec hs) (fun c a w => hQ c _ _ a w) hc1.2 (fun _ _ _ _ _ _ => trivial) _ _ _ _
          (Region.free_spec ho hc1.1.1) hcl (by simpa using hc1.1.2) (.inl ⟨hw, fun w' _ => hv w'⟩) trivial ((wpAnyT_of_tree hs hQ r _ hasS [] _ _ hc2 (hcl.set (by simpa using hc1.1.2)) hS h).1 rfl)
      · rw [if_neg hw] at h
        have hw' : Region.wanted o (yielded ops a.tmps) = false := by simpa using hw
        exact wpAnyT_first (S' := fun _ => True) ho (Region.noSelect_spec hs) (fun c a w => hQ c _ _ a w) hc1.2 (fun _ _ _ _ _ _ => trivial) _ _ _ _
          (Region.free_spec ho hc1.1.1) hcl (by simpa using hc1.1.2) (.inr ⟨hw', rfl⟩) trivial ((wpAnyT_of_tree hs hQ r _ hasS [] _ _ hc2 (hcl.set (by simpa using hc1.1.2)) hS h).1 rfl)
    exact ⟨fun _ => main, fun m hm j hj _ => by cases hm; exact main.2 j hj⟩
  | .one i 1 need r, listed, hasS, seen, a, w, hc, hcl, hS, h => by
    obtain ⟨o, ho, h⟩ := h
    unfold treeOk at hc
    rw [Bool.and_eq_true] at hc
    obtain ⟨hc1, hc2⟩ := hc
    simp only [Bool.and_eq_true, Bool.not_eq_true', List.isEmpty_iff] at hc1
    obtain ⟨rfl, hc1⟩ := hc1
    have main : wpAnyT P .any ops Q S T L (r.depth + 1) listed a w := by
      by_cases hw : Region.wanted o (yielded ops a.tmps) = true
      · rw [if_pos hw] at h
        obtain ⟨v, hv, h⟩ := h
        exact wpAnyT_first (S' := S) ho (Region.noSelect_spec hs) (fun c a w => hQ c _ _ a w) hc1.2 (fun j w' hj _ hn hh => hh (needS_of (by simpa using hc1.1.2) hj hn)) _ _ _ _
          (Region.free_spec ho hc1.1.1.1.2) hcl (by simpa using hc1.1.1.2) (.inl ⟨hw, hv⟩) (hS hc1.1.1.1.1) ((wpAnyT_of_tree hs hQ r _ hasS [] _ _ hc2 (hcl.set (by simpa using hc1.1.1.2)) hS h).1 rfl)
      · rw [if_neg hw] at h
        have hw' : Region.wanted o (yielded ops a.tmps) = false := by simpa using hw
        exact wpAnyT_first (S' := fun _ => True) ho (Region.noSelect_spec hs) (fun c a w => hQ c _ _ a w) hc1.2 (fun _ _ _ _ _ _ => trivial) _ _ _ _
          (Region.free_spec ho hc1.1.1.1.2) hcl (by simpa using hc1.1.1.2) (.inr ⟨hw', rfl⟩) trivial ((wpAnyT_of_tree hs hQ r _ hasS [] _ _ hc2 (hcl.set (by simpa using hc1.1.1.2)) hS h).1 rfl)
    exact ⟨fun _ => main, fun m hm j hj _ => by cases hm; exact main.2 j hj⟩
  | .one i (k + 2) need r, listed, hasS, seen, a, w, hc, hcl, hS, h => by
    obtain ⟨o, ho, h⟩ := h
    unfold treeOk at hc
    rw [Bool.and_eq_true] at hc
    obtain ⟨hc1, hc2⟩ := hc
    replace hc1 : (((Region.ready .any ops listed).all fun j => j == i || seen.contains j) && ((Region.ready .any ops listed).contains i && L.contains i && (!need || hasS) && (need || !needS .any ops T i))) = true := hc1
    rw [Bool.and_eq_true] at hc1
    obtain ⟨hall, hc1⟩ := hc1
    have hci := hc1
    simp only [Bool.and_eq_true] at hci
    have hi : i ∈ Region.ready .any ops listed := by simpa using hci.1.1.1
    have two : ∀ m, r.depth + 1 = m + 1 → ∀ j ∈ Region.ready .any ops listed, j ∉ seen →
        wpOp P ops Q j (fun a' w' => ((L.contains j = false → w' = w) ∧ (needS .any ops T j = true → S w ∨ L.contains j = true → S w')) ∧ wpAnyT P .any ops Q S T L m (listed.setIfInBounds j true) a' w') a w := fun m hm j hj hjs => by
      cases hm
      have hji : j = i := by
        have := List.all_eq_true.1 hall j hj
        simp only [Bool.or_eq_true, beq_iff_eq, List.contains_iff_mem] at this
        exact this.resolve_right hjs
      subst hji
      exact loud_step ho hc1 hS (fun a' w' hn hx => (wpAnyT_of_tree hs hQ r _ need [] a' w' hc2 (hcl.set hi) hn hx).1 rfl) h
    exact ⟨fun e => ⟨fun h0 => (by rw [h0] at hi; cases hi), fun j hj => two r.depth rfl j hj (by rw [e]; simp)⟩, two⟩
  | .alt i need r o, listed, hasS, seen, a, w, hc, hcl, hS, h => by
    obtain ⟨⟨op, ho, h⟩, h2⟩ := h
    unfold treeOk at hc
    rw [Bool.and_eq_true, Bool.and_eq_true] at hc
    obtain ⟨⟨hc1, hdep⟩, hc2⟩ := hc
    rw [Bool.and_eq_true] at hc2
    obtain ⟨hc2, hc3⟩ := hc2
    have hdep' : o.depth = r.depth + 1 := by simpa using hdep
    have hci := hc1
    simp only [Bool.and_eq_true] at hci
    have hi : i ∈ Region.ready .any ops listed := by simpa using hci.1.1.1
    have two : ∀ m, r.depth + 1 = m + 1 → ∀ j ∈ Region.ready .any ops listed, j ∉ seen →
        wpOp P ops Q j (fun a' w' => ((L.contains j = false → w' = w) ∧ (needS .any ops T j = true → S w ∨ L.contains j = true → S w')) ∧ wpAnyT P .any ops Q S T L m (listed.setIfInBounds j true) a' w') a w := fun m hm j hj hjs => by
      cases hm
      by_cases hji : j = i
      · subst hji
        exact loud_step ho hc1 hS (fun a' w' hn hx => (wpAnyT_of_tree hs hQ r _ need [] a' w' hc2 (hcl.set hi) hn hx).1 rfl) h
      · exact (wpAnyT_of_tree hs hQ o _ hasS (i :: seen) a w hc3 hcl hS h2).2 r.depth hdep' j hj (by simp [hji, hjs])
    exact ⟨fun e => ⟨fun h0 => (by rw [h0] at hi; cases hi), fun j hj => two r.depth rfl j hj (by rw [e]; simp)⟩, two⟩
theorem wp_region_tree {id : Nat} {a : Act} {w : World} (S : World → Prop) (T L : List Nat) (t : OT) (hm : P.follows .mixedOrders = true)
    (hs : Region.noSelect ops = true) (hl : t.depth = ops.size) (hc : treeOk ops T L t (Array.replicate ops.size false) true [] = true)
    (hQ : ∀ c d v a w, Q (.panic c) (a.put d v) w → Q (.panic c) a w) (hS : S w.drew)
    (h : wpTree P ops Q S t a w.drew) : (Code.region id ops true).wp P Q a w := by
  refine wp_region_any hm (wpAny_of_T (S := S) (T := T) (L := L) _ _ _ _ ?_)
  have := (wpAnyT_of_tree hs hQ t _ true [] _ _ hc (fun j o _ hj => by simp [Array.getD_eq_getD_getElem?, Array.getElem?_replicate] at hj; split at hj <;> simp_all) (fun _ => hS) h).1 rfl
  rw [hl] at this
  exact this
theorem tree_pure {i : Nat} {need : Bool} {r : OT} {o : Oper} {v : Value} {a : Act} {w : World} (ho : opAt ops.toList i = some o) (hw : Region.wanted o (yielded ops a.tmps) = true)
    (hv : ∀ w', (execOp a.eval o).run P w' = .ok (.value v) w') (h : wpTree P ops Q S r (a.put o.dst v) w) : wpTree P ops Q S (.one i 0 need r) a w :=
  ⟨o, opAt_spec ho, by rw [if_pos hw]; exact ⟨v, hv, h⟩⟩
theorem tree_load {i : Nat} {need : Bool} {r : OT} {o : Oper} {v : Value} {a : Act} {w : World} (ho : opAt ops.toList i = some o) (hw : Region.wanted o (yielded ops a.tmps) = true)
    (hv : ∀ w', S w' → (execOp a.eval o).run P w' = .ok (.value v) w') (h : wpTree P ops Q S r (a.put o.dst v) w) : wpTree P ops Q S (.one i 1 need r) a w :=
  ⟨o, opAt_spec ho, by rw [if_pos hw]; exact ⟨v, hv, h⟩⟩
theorem tree_loud {i : Nat} {need : Bool} {r : OT} {o : Oper} {a : Act} {w : World} (ho : opAt ops.toList i = some o) (hw : Region.wanted o (yielded ops a.tmps) = true)
    (h : ∀ K : Act → World → Prop, (∀ a' w', ((need = true → S w') ∧ wpTree P ops Q S r a' w') → K a' w') → o.wp P a w K Q) : wpTree P ops Q S (.one i 2 need r) a w :=
  ⟨o, opAt_spec ho, by rw [if_pos hw]; exact h _ (fun _ _ h => h)⟩
theorem tree_skip {i k : Nat} {need : Bool} {r : OT} {o : Oper} {a : Act} {w : World} (ho : opAt ops.toList i = some o) (hw : Region.wanted o (yielded ops a.tmps) = false)
    (h : wpTree P ops Q S r (a.put o.dst undef) w) : wpTree P ops Q S (.one i k need r) a w :=
  ⟨o, opAt_spec ho, by rw [if_neg (by rw [hw]; simp)]; exact h⟩
theorem tree_alt {i : Nat} {need : Bool} {r t : OT} {a : Act} {w : World} (h : wpTree P ops Q S (.one i 2 need r) a w) (h2 : wpTree P ops Q S t a w) : wpTree P ops Q S (.alt i need r t) a w := ⟨h, h2⟩
end
end Go.Proofs.YtdflndjlnkoliaaGreatDoor

import Derived.Test.YtepongfhnammkaaDoorZLRNone1
import Derived.Shelf.Strings.SplitCore
import Derived.Shelf.Strings.Search3
import Derived.Shelf.Strings.Search2
import Derived.Shelf.Strings.Count
import Derived.Shelf.Small.Strs
import Derived.Shelf.Small.Wraps
import Derived.Lib.IndexBytes
import Derived.Lib.SplitLaws
import Derived.Test.YtepongfhnammkaaDoorLaw
import Derived.Stop.LaidErr
import Derived.ChangeMaps5
import Derived.Lay
/- plain laws: splitting at a byte, digits read back (no program in sight) -/
namespace Go.Proofs.YtepongfhnammkaaDoor
set_option linter.all false
section
variable {α β : Type} [DecidableEq α] [DecidableEq β]
def cutAt (c : α) : List α → List α × List α
  | [] => ([], [])
  | b :: r => if b = c then ([], r) else (b :: (cutAt c r).1, (cutAt c r).2)
def splitC (c : α) : List α → List (List α)
  | [] => [[]]
  | b :: r => if b = c then [] :: splitC c r else
    match splitC c r with
    | [] => [[b]]
    | x :: q => (b :: x) :: q
theorem splitC_ne (c : α) (l : List α) : splitC c l ≠ [] := by
  cases l with
  | nil => simp [splitC]
  | cons b r =>
    unfold splitC
    split
    · simp
    · split <;> simp
theorem cutAt_fst (c : α) (l : List α) : c ∉ (cutAt c l).1 := by
  induction l with
  | nil => simp [cutAt]
  | cons b r ih =>
    unfold cutAt
    split
    · simp
    · rename_i h
      simp only [List.mem_cons, not_or]
      exact ⟨fun e => h e.symm, ih⟩
theorem cutAt_in {c : α} {l : List α} (h : c ∈ l) : l = (cutAt c l).1 ++ c :: (cutAt c l).2 := by
  induction l with
  | nil => simp at h
  | cons b r ih =>
    unfold cutAt
    split
    · rename_i e; simp [e]
    · rename_i e
      rcases List.mem_cons.1 h with h | h
      · exact absurd h.symm e
      · simp only [List.cons_append, List.cons.injEq, true_and]; exact ih h
theorem cutAt_out {c : α} {l : List α} (h : c ∉ l) : cutAt c l = (l, []) := by
  induction l with
  | nil => rfl
  | cons b r ih =>
    simp only [List.mem_cons, not_or] at h
    unfold cutAt
    rw [if_neg (fun e => h.1 e.symm), ih h.2]
theorem cutAt_app {c : α} {x y : List α} (h : c ∉ x) : cutAt c (x ++ c :: y) = (x, y) := by
  induction x with
  | nil => simp [cutAt]
  | cons b r ih =>
    simp only [List.mem_cons, not_or] at h
    rw [List.cons_append, cutAt, if_neg (fun e => h.1 e.symm), ih h.2]
theorem splitC_out {c : α} {l : List α} (h : c ∉ l) : splitC c l = [l] := by
  induction l with
  | nil => rfl
  | cons b r ih =>
    simp only [List.mem_cons, not_or] at h
    unfold splitC
    rw [if_neg (fun e => h.1 e.symm), ih h.2]
theorem splitC_app {c : α} {x y : List α} (h : c ∉ x) : splitC c (x ++ c :: y) = x :: splitC c y := by
  induction x with
  | nil => simp [splitC]
  | cons b r ih =>
    simp only [List.mem_cons, not_or] at h
    rw [List.cons_append, splitC, if_neg (fun e => h.1 e.symm), ih h.2]
theorem splitC_in {c : α} {l : List α} (h : c ∈ l) : splitC c l = (cutAt c l).1 :: splitC c (cutAt c l).2 := by
  conv => lhs; rw [cutAt_in h]
  exact splitC_app (cutAt_fst c l)
theorem cutAt_len (c : α) (l : List α) : (cutAt c l).1.length + (cutAt c l).2.length ≤ l.length := by
  induction l with
  | nil => simp [cutAt]
  | cons b r ih =>
    unfold cutAt
    split
    · simp
    · simp only [List.length_cons]; omega
theorem splitC_len (c : α) (l : List α) : (splitC c l).length = l.count c + 1 := by
  induction l with
  | nil => rfl
  | cons b r ih =>
    unfold splitC
    split
    · rename_i e; subst e; simp [ih]
    · rename_i e
      rw [List.count_cons_of_ne (fun x => e x)]
      split
      · rename_i h; exact absurd h (splitC_ne c r)
      · rename_i x q h; rw [h] at ih; simpa using ih
theorem splitC_mem {c : α} : ∀ {l : List α} {x : List α}, x ∈ splitC c l → c ∉ x ∧ x.length ≤ l.length
  | [], x, h => by
    simp only [splitC, List.mem_singleton] at h; subst h; simp
  | b :: r, x, h => by
    unfold splitC at h
    split at h
    · rcases List.mem_cons.1 h with rfl | h
      · simp
      · have := splitC_mem h
        exact ⟨this.1, by simp; omega⟩
    · rename_i e
      split at h
      · rename_i h0; exact absurd h0 (splitC_ne c r)
      · rename_i y q h0
        rcases List.mem_cons.1 h with rfl | h
        · have := splitC_mem (c := c) (l := r) (x := y) (by rw [h0]; simp)
          exact ⟨by simp only [List.mem_cons, not_or]; exact ⟨fun e' => e e'.symm, this.1⟩, by simp; omega⟩
        · have := splitC_mem (c := c) (l := r) (x := x) (by rw [h0]; simp [h])
          exact ⟨this.1, by simp; omega⟩
theorem splitC_map {f : α → β} (hf : ∀ a b, f a = f b → a = b) (c : α) (l : List α) : splitC (f c) (l.map f) = (splitC c l).map (·.map f) := by
  induction l with
  | nil => rfl
  | cons b r ih =>
    rw [List.map_cons, splitC, splitC, ih]
    by_cases h : b = c
    · subst h; simp
    · rw [if_neg (fun e => h (hf _ _ e)), if_neg h]
      cases splitC c r with
      | nil => rfl
      | cons x q => rfl
end
/-- what was joined is split -/
theorem splitC_join {c : BitVec 8} {x : B8} {r : List B8} (h : ∀ y ∈ x :: r, c ∉ y) : splitC c (joinS [c] (x :: r)) = x :: r := by
  induction r generalizing x with
  | nil => simp only [joinS, List.map_nil, List.flatten_nil, List.append_nil]; exact splitC_out (h x (List.mem_cons_self ..))
  | cons y r ih =>
    have e : joinS [c] (x :: y :: r) = x ++ c :: joinS [c] (y :: r) := by simp [joinS]
    rw [e, splitC_app (h x (List.mem_cons_self ..)), ih (fun z hz => h z (List.mem_cons_of_mem _ hz))]
theorem join_splitC (c : BitVec 8) (l : B8) : joinS [c] (splitC c l) = l := by
  induction l with
  | nil => rfl
  | cons b r ih =>
    unfold splitC
    split
    · rename_i e; subst e
      cases h : splitC b r with
      | nil => exact absurd h (splitC_ne b r)
      | cons x q => rw [h] at ih; simp only [joinS] at ih ⊢; simp; exact ih
    · cases h : splitC c r with
      | nil => exact absurd h (splitC_ne c r)
      | cons x q => rw [h] at ih; simp only [joinS] at ih ⊢; simp; exact ih
theorem splitC_inj {c : BitVec 8} {a b : B8} (h : splitC c a = splitC c b) : a = b := by
  rw [← join_splitC c a, ← join_splitC c b, h]
/-! ## numbers -/
abbrev isD (b : BitVec 8) : Prop := 48 ≤ b.toNat ∧ b.toNat ≤ 57
def valD (l : B8) : Nat := l.foldl (fun n b => 10 * n + (b.toNat - 48)) 0
theorem valD_snoc (l : B8) (b : BitVec 8) : valD (l ++ [b]) = 10 * valD l + (b.toNat - 48) := by simp [valD]
theorem dg_toNat (n : Nat) : (dg n).toNat = 48 + n % 10 := by
  unfold dg; rw [BitVec.toNat_ofNat]; omega
theorem dg_isD (n : Nat) : isD (dg n) := by unfold isD; rw [dg_toNat]; omega
theorem digN_isD : ∀ (n : Nat), ∀ b ∈ digN n, isD b := by
  intro n
  induction n using Nat.strongRecOn with
  | ind n ih =>
    intro b hb
    by_cases h : n < 10
    · rw [digN_lt h] at hb; rw [List.mem_singleton.1 hb]; exact dg_isD n
    · rw [digN_ge h] at hb
      rcases List.mem_append.1 hb with hb | hb
      · exact ih (n / 10) (by omega) b hb
      · rw [List.mem_singleton.1 hb]; exact dg_isD n
theorem valD_digN : ∀ (n : Nat), valD (digN n) = n := by
  intro n
  induction n using Nat.strongRecOn with
  | ind n ih =>
    by_cases h : n < 10
    · rw [digN_lt h]; simp [valD, dg_toNat]; omega
    · rw [digN_ge h, valD_snoc, ih (n / 10) (by omega), dg_toNat]; omega
theorem digN_nz (n : Nat) : 0 < (digN n).length := by
  by_cases h10 : n < 10
  · rw [digN_lt h10]; simp
  · rw [digN_ge h10]; simp
theorem digN_head : ∀ (n : Nat) {b : BitVec 8} {r : B8}, digN n = b :: r → b = 48#8 → n = 0 ∧ r = [] := by
  intro n
  induction n using Nat.strongRecOn with
  | ind n ih =>
    intro b r h hb
    by_cases h10 : n < 10
    · rw [digN_lt h10] at h
      simp only [List.cons.injEq] at h
      have := dg_toNat n
      rw [h.1, hb] at this
      have e : (48#8).toNat = 48 := rfl
      rw [e] at this
      exact ⟨by omega, h.2.symm⟩
    · rw [digN_ge h10] at h
      cases hq : digN (n / 10) with
      | nil => have := digN_nz (n / 10); rw [hq] at this; exact absurd this (by simp)
      | cons y q =>
        rw [hq, List.cons_append] at h
        simp only [List.cons.injEq] at h
        have := ih (n / 10) (by omega) hq (h.1.trans hb)
        omega
/-- digits without a zero ahead are a number's -/
theorem digN_valD : ∀ (l : B8), (∀ b ∈ l, isD b) → l ≠ [] → (∀ b r, l = b :: r → b = 48#8 → r = []) → digN (valD l) = l := by
  intro l
  generalize hn : l.length = n
  induction n generalizing l with
  | zero => intro _ h; exact absurd (List.eq_nil_of_length_eq_zero hn) h
  | succ n ih =>
    intro hd hne hz
    obtain ⟨q, b, rfl⟩ : ∃ q b, l = q ++ [b] := ⟨l.dropLast, l.getLast hne, (List.dropLast_concat_getLast hne).symm⟩
    have hb := hd b (by simp)
    have hdb : dg (b.toNat - 48) = b := by
      apply BitVec.eq_of_toNat_eq; rw [dg_toNat]; obtain ⟨h1, h2⟩ := hb; omega
    rw [valD_snoc]
    cases q with
    | nil =>
      have : valD [] = 0 := rfl
      rw [this, digN_lt (by obtain ⟨h1, h2⟩ := hb; omega)]
      simp [hdb]
    | cons y q =>
      have hq := ih (y :: q) (by simpa using hn) (fun b hb => hd b (List.mem_append_left _ hb)) (by simp) (fun b r e eb => by
        obtain ⟨rfl, rfl⟩ := List.cons.inj e
        exact absurd (hz y (q ++ [b]) rfl eb) (by simp))
      have hv : 0 < valD (y :: q) := by
        rcases Nat.eq_zero_or_pos (valD (y :: q)) with h | h
        · rw [h] at hq
          rw [digN_lt (by omega)] at hq
          simp only [List.cons.injEq] at hq
          have e48 : y = 48#8 := by rw [← hq.1]; rfl
          exact absurd (hz y (q ++ [b]) rfl e48) (by simp)
        · exact h
      obtain ⟨h1, h2⟩ := hb
      rw [digN_ge (by omega), show (10 * valD (y :: q) + (b.toNat - 48)) / 10 = valD (y :: q) by omega, hq]
      congr 2
      apply BitVec.eq_of_toNat_eq; rw [dg_toNat]; omega
end Go.Proofs.YtepongfhnammkaaDoor

/- more of the shelf's contracts laid at this seat (printed by tools/shelf.py) -/
namespace Go.Proofs.YtepongfhnammkaaDoor
set_option linter.all false
open Go.Shelf Go.RowKit
def lays138_ren : Go.Shelf.Ren := ⟨fun | 138 => 74 | 195 => 87 | 218 => 89 | 143 => 75 | 219 => 72 | 217 => 83 | 225 => 84 | 224 => 85 | 267 => 86 | 266 => 93 | 314 => 94 | n => n, fun | 9 => 9 | 3 => 3 | 4 => 4 | 5 => 5 | 0 => 0 | 46 => 117 | 146 => 195 | 51 => 186 | n => n, fun | 1 => 2 | n => n⟩
theorem lays138 : Go.Proofs.Lays.n138 Tryd.prog lays138_ren := {
  mixed := by kernel_rfl
  f138 := Tryd.func74.trans (congrArg some (by kernel_rfl))
  f143 := Tryd.func75.trans (congrArg some (by kernel_rfl))
  f195 := Tryd.func87.trans (congrArg some (by kernel_rfl))
  f217 := Tryd.func83.trans (congrArg some (by kernel_rfl))
  f218 := Tryd.func89.trans (congrArg some (by kernel_rfl))
  f219 := Tryd.func72.trans (congrArg some (by kernel_rfl))
  f224 := Tryd.func85.trans (congrArg some (by kernel_rfl))
  f225 := Tryd.func84.trans (congrArg some (by kernel_rfl))
  f266 := Tryd.func93.trans (congrArg some (by kernel_rfl))
  f267 := Tryd.func86.trans (congrArg some (by kernel_rfl))
  f314 := Tryd.func94.trans (congrArg some (by kernel_rfl))
  t0 := Tryd.underlying0
  a0 := Tryd.isAgg0
  z0 := Tryd.sizeOf0
  v0 := Tryd.zeroValue0
  t3 := Tryd.underlying3
  a3 := Tryd.isAgg3
  z3 := Tryd.sizeOf3
  v3 := Tryd.zeroValue3
  t4 := Tryd.underlying4
  a4 := Tryd.isAgg4
  z4 := Tryd.sizeOf4
  v4 := Tryd.zeroValue4
  t5 := Tryd.underlying5
  a5 := Tryd.isAgg5
  z5 := Tryd.sizeOf5
  v5 := Tryd.zeroValue5
  t9 := Tryd.underlying9
  a9 := Tryd.isAgg9
  z9 := Tryd.sizeOf9
  v9 := Tryd.zeroValue9
  t46 := Tryd.underlying117
  a46 := Tryd.isAgg117
  z46 := Tryd.sizeOf117
  v46 := Tryd.zeroValue117
  t51 := Tryd.underlying186
  a51 := Tryd.isAgg186
  z51 := Tryd.sizeOf186
  v51 := Tryd.zeroValue186
  t146 := Tryd.underlying195
  a146 := Tryd.isAgg195
  z146 := Tryd.sizeOf195
  v146 := Tryd.zeroValue195
  g1 := by kernel_rfl }

def lays143_ren : Go.Shelf.Ren := ⟨fun | 143 => 75 | 219 => 72 | 217 => 83 | 225 => 84 | 224 => 85 | 267 => 86 | 266 => 93 | 314 => 94 | n => n, fun | 9 => 9 | 3 => 3 | 4 => 4 | 5 => 5 | 46 => 117 | 146 => 195 | 51 => 186 | n => n, fun | 1 => 2 | n => n⟩
theorem lays143 : Go.Proofs.Lays.n143 Tryd.prog lays143_ren := {
  mixed := by kernel_rfl
  f143 := Tryd.func75.trans (congrArg some (by kernel_rfl))
  f217 := Tryd.func83.trans (congrArg some (by kernel_rfl))
  f219 := Tryd.func72.trans (congrArg some (by kernel_rfl))
  f224 := Tryd.func85.trans (congrArg some (by kernel_rfl))
  f225 := Tryd.func84.trans (congrArg some (by kernel_rfl))
  f266 := Tryd.func93.trans (congrArg some (by kernel_rfl))
  f267 := Tryd.func86.trans (congrArg some (by kernel_rfl))
  f314 := Tryd.func94.trans (congrArg some (by kernel_rfl))
  t3 := Tryd.underlying3
  a3 := Tryd.isAgg3
  z3 := Tryd.sizeOf3
  v3 := Tryd.zeroValue3
  t4 := Tryd.underlying4
  a4 := Tryd.isAgg4
  z4 := Tryd.sizeOf4
  v4 := Tryd.zeroValue4
  t5 := Tryd.underlying5
  a5 := Tryd.isAgg5
  z5 := Tryd.sizeOf5
  v5 := Tryd.zeroValue5
  t9 := Tryd.underlying9
  a9 := Tryd.isAgg9
  z9 := Tryd.sizeOf9
  v9 := Tryd.zeroValue9
  t46 := Tryd.underlying117
  a46 := Tryd.isAgg117
  z46 := Tryd.sizeOf117
  v46 := Tryd.zeroValue117
  t51 := Tryd.underlying186
  a51 := Tryd.isAgg186
  z51 := Tryd.sizeOf186
  v51 := Tryd.zeroValue186
  t146 := Tryd.underlying195
  a146 := Tryd.isAgg195
  z146 := Tryd.sizeOf195
  v146 := Tryd.zeroValue195
  g1 := by kernel_rfl }

def lays137_ren : Go.Shelf.Ren := ⟨fun | 137 => 90 | 217 => 83 | 266 => 93 | n => n, fun | 9 => 9 | 5 => 5 | 3 => 3 | n => n, fun | n => n⟩
theorem lays137 : Go.Proofs.Lays.n137 Tryd.prog lays137_ren := {
  mixed := by kernel_rfl
  f137 := Tryd.func90.trans (congrArg some (by kernel_rfl))
  f217 := Tryd.func83.trans (congrArg some (by kernel_rfl))
  f266 := Tryd.func93.trans (congrArg some (by kernel_rfl))
  t3 := Tryd.underlying3
  a3 := Tryd.isAgg3
  z3 := Tryd.sizeOf3
  v3 := Tryd.zeroValue3
  t5 := Tryd.underlying5
  a5 := Tryd.isAgg5
  z5 := Tryd.sizeOf5
  v5 := Tryd.zeroValue5
  t9 := Tryd.underlying9
  a9 := Tryd.isAgg9
  z9 := Tryd.sizeOf9
  v9 := Tryd.zeroValue9 }

def lays221_ren : Go.Shelf.Ren := ⟨fun | 221 => 62 | 268 => 73 | 138 => 74 | 143 => 75 | 195 => 87 | 197 => 88 | 218 => 89 | 219 => 72 | 260 => 95 | 217 => 83 | 225 => 84 | 224 => 85 | 267 => 86 | 266 => 93 | 314 => 94 | n => n, fun | 9 => 9 | 3 => 3 | 31 => 67 | 4 => 4 | 0 => 0 | 105 => 192 | 21 => 21 | 5 => 5 | 46 => 117 | 119 => 198 | 139 => 201 | 138 => 200 | 146 => 195 | 51 => 186 | n => n, fun | 1 => 2 | 3 => 5 | 4 => 6 | n => n⟩
theorem lays221 : Go.Proofs.Lays.n221 Tryd.prog lays221_ren := {
  mixed := by kernel_rfl
  f138 := Tryd.func74.trans (congrArg some (by kernel_rfl))
  f143 := Tryd.func75.trans (congrArg some (by kernel_rfl))
  f195 := Tryd.func87.trans (congrArg some (by kernel_rfl))
  f197 := Tryd.func88.trans (congrArg some (by kernel_rfl))
  f217 := Tryd.func83.trans (congrArg some (by kernel_rfl))
  f218 := Tryd.func89.trans (congrArg some (by kernel_rfl))
  f219 := Tryd.func72.trans (congrArg some (by kernel_rfl))
  f221 := Tryd.func62.trans (congrArg some (by kernel_rfl))
  f224 := Tryd.func85.trans (congrArg some (by kernel_rfl))
  f225 := Tryd.func84.trans (congrArg some (by kernel_rfl))
  f260 := Tryd.func95.trans (congrArg some (by kernel_rfl))
  f266 := Tryd.func93.trans (congrArg some (by kernel_rfl))
  f267 := Tryd.func86.trans (congrArg some (by kernel_rfl))
  f268 := Tryd.func73.trans (congrArg some (by kernel_rfl))
  f314 := Tryd.func94.trans (congrArg some (by kernel_rfl))
  t0 := Tryd.underlying0
  a0 := Tryd.isAgg0
  z0 := Tryd.sizeOf0
  v0 := Tryd.zeroValue0
  t3 := Tryd.underlying3
  a3 := Tryd.isAgg3
  z3 := Tryd.sizeOf3
  v3 := Tryd.zeroValue3
  t4 := Tryd.underlying4
  a4 := Tryd.isAgg4
  z4 := Tryd.sizeOf4
  v4 := Tryd.zeroValue4
  t5 := Tryd.underlying5
  a5 := Tryd.isAgg5
  z5 := Tryd.sizeOf5
  v5 := Tryd.zeroValue5
  t9 := Tryd.underlying9
  a9 := Tryd.isAgg9
  z9 := Tryd.sizeOf9
  v9 := Tryd.zeroValue9
  t21 := Tryd.underlying21
  a21 := Tryd.isAgg21
  z21 := Tryd.sizeOf21
  v21 := Tryd.zeroValue21
  t31 := Tryd.underlying67
  a31 := Tryd.isAgg67
  z31 := Tryd.sizeOf67
  v31 := Tryd.zeroValue67
  t46 := Tryd.underlying117
  a46 := Tryd.isAgg117
  z46 := Tryd.sizeOf117
  v46 := Tryd.zeroValue117
  t51 := Tryd.underlying186
  a51 := Tryd.isAgg186
  z51 := Tryd.sizeOf186
  v51 := Tryd.zeroValue186
  t105 := Tryd.underlying192
  a105 := Tryd.isAgg192
  z105 := Tryd.sizeOf192
  v105 := Tryd.zeroValue192
  t119 := Tryd.underlying198
  a119 := Tryd.isAgg198
  z119 := Tryd.sizeOf198
  t138 := Tryd.underlying200
  a138 := Tryd.isAgg200
  z138 := Tryd.sizeOf200
  v138 := Tryd.zeroValue200
  t139 := Tryd.underlying201
  a139 := Tryd.isAgg201
  z139 := Tryd.sizeOf201
  v139 := Tryd.zeroValue201
  t146 := Tryd.underlying195
  a146 := Tryd.isAgg195
  z146 := Tryd.sizeOf195
  v146 := Tryd.zeroValue195
  g1 := by kernel_rfl
  g3 := by kernel_rfl
  g4 := by kernel_rfl }

def lays219_ren : Go.Shelf.Ren := ⟨fun | 219 => 72 | 217 => 83 | 225 => 84 | 224 => 85 | 267 => 86 | 266 => 93 | 314 => 94 | n => n, fun | 9 => 9 | 3 => 3 | 4 => 4 | 5 => 5 | 46 => 117 | 146 => 195 | 51 => 186 | n => n, fun | 1 => 2 | n => n⟩
theorem lays219 : Go.Proofs.Lays.n219 Tryd.prog lays219_ren := {
  mixed := by kernel_rfl
  f217 := Tryd.func83.trans (congrArg some (by kernel_rfl))
  f219 := Tryd.func72.trans (congrArg some (by kernel_rfl))
  f224 := Tryd.func85.trans (congrArg some (by kernel_rfl))
  f225 := Tryd.func84.trans (congrArg some (by kernel_rfl))
  f266 := Tryd.func93.trans (congrArg some (by kernel_rfl))
  f267 := Tryd.func86.trans (congrArg some (by kernel_rfl))
  f314 := Tryd.func94.trans (congrArg some (by kernel_rfl))
  t3 := Tryd.underlying3
  a3 := Tryd.isAgg3
  z3 := Tryd.sizeOf3
  v3 := Tryd.zeroValue3
  t4 := Tryd.underlying4
  a4 := Tryd.isAgg4
  z4 := Tryd.sizeOf4
  v4 := Tryd.zeroValue4
  t5 := Tryd.underlying5
  a5 := Tryd.isAgg5
  z5 := Tryd.sizeOf5
  v5 := Tryd.zeroValue5
  t9 := Tryd.underlying9
  a9 := Tryd.isAgg9
  z9 := Tryd.sizeOf9
  v9 := Tryd.zeroValue9
  t46 := Tryd.underlying117
  a46 := Tryd.isAgg117
  z46 := Tryd.sizeOf117
  v46 := Tryd.zeroValue117
  t51 := Tryd.underlying186
  a51 := Tryd.isAgg186
  z51 := Tryd.sizeOf186
  v51 := Tryd.zeroValue186
  t146 := Tryd.underlying195
  a146 := Tryd.isAgg195
  z146 := Tryd.sizeOf195
  v146 := Tryd.zeroValue195
  g1 := by kernel_rfl }
end Go.Proofs.YtepongfhnammkaaDoor

namespace Go.Proofs.YtepongfhnammkaaDoor
set_option linter.all false
open Go.RowKit
/-! the library's functions on strings, at one byte -/
abbrev uB (c : BitVec 8) : UInt8 := UInt8.ofBitVec c
theorem uB_inj {a b : BitVec 8} (h : uB a = uB b) : a = b := congrArg UInt8.toBitVec h
theorem u8s_mem {c : BitVec 8} {s : B8} : uB c ∈ u8s s ↔ c ∈ s :=
  ⟨fun h => by obtain ⟨x, hx, e⟩ := List.mem_map.1 h; rw [← uB_inj e]; exact hx, fun h => List.mem_map.2 ⟨c, h, rfl⟩⟩
theorem u8s_count (c : BitVec 8) (s : B8) : (u8s s).count (uB c) = s.count c := by
  induction s with
  | nil => rfl
  | cons b r ih =>
    show (uB b :: u8s r).count (uB c) = _
    rw [List.count_cons, List.count_cons, ih]
    by_cases h : b = c
    · subst h; simp
    · have h2 : ¬ uB b = uB c := fun e => h (uB_inj e)
      simp [h, h2]
theorem ixL {u : UInt8} : ∀ (s : List UInt8), Lib.indexByte s u = if u ∈ s then ((cutAt u s).1.length : Int) else -1
  | [] => rfl
  | b :: r => by
    have ih := ixL (u := u) r
    unfold Lib.indexByte cutAt
    by_cases h : b = u
    · subst h; simp
    · have h' : ¬ u = b := fun e => h e.symm
      simp only [beq_iff_eq, h, if_false, List.mem_cons, h', false_or]
      rw [ih]
      by_cases hm : u ∈ r
      · simp only [if_pos hm]
        rw [if_neg (by omega)]
        simp
      · simp only [if_neg hm]; rfl
theorem cut_take (u : UInt8) (s : List UInt8) (h : u ∈ s) : s.take (cutAt u s).1.length = (cutAt u s).1 ∧ s.drop ((cutAt u s).1.length + 1) = (cutAt u s).2 := by
  have e := cutAt_in h
  have key : ∀ (x y : List UInt8), (x ++ u :: y).take x.length = x ∧ (x ++ u :: y).drop (x.length + 1) = y := fun x y => by simp
  have k := key (cutAt u s).1 (cutAt u s).2
  rw [← e] at k
  exact k
theorem splitK_C {u : UInt8} : ∀ (k : Nat) (s : List UInt8), s.count u ≤ k → Lib.splitK [u] 0 k s = splitC u s
  | 0, s, h => by
    have : u ∉ s := List.count_eq_zero.1 (by omega)
    rw [splitC_out this]; rfl
  | k + 1, s, h => by
    unfold Lib.splitK
    rw [Lib.index_one, ixL]
    by_cases hm : u ∈ s
    · rw [if_pos hm, if_neg (by simp only [beq_iff_eq]; omega), splitC_in hm]
      have h1 := cut_take u s hm
      have h2 : (((cutAt u s).1.length : Nat) : Int).toNat = (cutAt u s).1.length := by omega
      rw [h2, Nat.add_zero, List.length_singleton, h1.1, h1.2, splitK_C k]
      have h3 := congrArg (List.count u) (cutAt_in hm)
      rw [List.count_append, List.count_cons_self] at h3
      omega
    · rw [if_neg hm, splitC_out hm]; rfl
def ixC (c : BitVec 8) (s : B8) : Int := if c ∈ s then ((cutAt c s).1.length : Int) else -1
theorem cutAt_u8 (c : BitVec 8) (s : B8) : (cutAt (uB c) (u8s s)).1 = u8s (cutAt c s).1 ∧ (cutAt (uB c) (u8s s)).2 = u8s (cutAt c s).2 := by
  induction s with
  | nil => exact ⟨rfl, rfl⟩
  | cons b r ih =>
    have e : cutAt (uB c) (u8s (b :: r)) = if uB b = uB c then ([], u8s r) else (uB b :: (cutAt (uB c) (u8s r)).1, (cutAt (uB c) (u8s r)).2) := rfl
    have e2 : cutAt c (b :: r) = if b = c then ([], r) else (b :: (cutAt c r).1, (cutAt c r).2) := rfl
    rw [e, e2]
    by_cases h : b = c
    · rw [if_pos (congrArg uB h), if_pos h]; exact ⟨rfl, rfl⟩
    · rw [if_neg (fun e => h (uB_inj e)), if_neg h]
      exact ⟨by rw [ih.1]; rfl, ih.2⟩
theorem ixC_lib (c : BitVec 8) (s : B8) : Lib.indexByte (u8s s) (uB c) = ixC c s := by
  rw [ixL, ixC, (cutAt_u8 c s).1]
  by_cases h : c ∈ s
  · rw [if_pos h, if_pos (u8s_mem.2 h)]; simp
  · rw [if_neg h, if_neg (fun e => h (u8s_mem.1 e))]
/-- two strings come in, nothing is written -/
theorem two_str {σ : Sg} {A : Own} {w : World} {s t : B8} {vs : List Value} (h : hvs w A σ [.str s, .str t] vs) : vs = [.string (baOf s), .string (baOf t)] := by
  obtain ⟨p, m1, rfl, h1, q, m2, rfl, h2, h3⟩ := h
  simp only [hvs] at h3; subst h3
  obtain rfl : p = .string (baOf s) := by simpa [SV.h1, SV.hc] using h1
  obtain rfl : q = .string (baOf t) := by simpa [SV.h1, SV.hc] using h2
  rfl
theorem inR_le {n : Nat} (h : n ≤ 1000000) : inR (n : Int) := by unfold inR; omega
theorem int_hv {σ : Sg} {A : Own} {w : World} {n : Int} (h : inR n) : (SV.int .i64 n).hv w A σ (.int .i64 n) := by
  simp only [SV.hv, SV.h1, SV.hc, true_and]; exact fun _ => h
def count_c : Ctr where
  D := B8 × BitVec 8
  pre := fun (s, _) => s.length ≤ 1000000
  args := fun (s, c) => [.str s, .str [c]]
  res := fun (s, c) _ => .int .i64 (s.count c : Int)
theorem count_ok : count_c.Ok Tryd.prog 74 := by
  rintro ⟨s, c⟩ hp A0 w σ vs hA hobs hargs hdom hgl
  obtain rfl := two_str hargs
  refine (Any.strings_Count_one lays138 (baOf s) (uB c) w).mono ?_
  rintro e w' ⟨rfl, rfl⟩
  refine ⟨(), _, σ, rfl, trivial, fun _ _ _ h => h, fun k hk => hdom k hk, ?_, Mod.refl _ _, hobs, fun c hc => .inl hc⟩
  have e : Lib.countByte (baOf s).data.toList (uB c) = s.count c := u8s_count c s
  rw [e]
  exact int_hv (inR_le (Nat.le_trans (List.count_le_length (a := c) (l := s)) hp))
theorem ixC_inR {c : BitVec 8} {s : B8} (h : s.length ≤ 1000000) : inR (ixC c s) := by
  have := cutAt_len c s
  unfold ixC
  split
  · exact inR_le (by omega)
  · unfold inR; omega
def ixl_c : Ctr where
  D := B8 × BitVec 8
  pre := fun (s, _) => s.length ≤ 1000000
  args := fun (s, c) => [.str s, .str [c]]
  res := fun (s, c) _ => .int .i64 (ixC c s)
theorem ixl_ok : ixl_c.Ok Tryd.prog 72 := by
  rintro ⟨s, c⟩ hp A0 w σ vs hA hobs hargs hdom hgl
  obtain rfl := two_str hargs
  refine (Any.stringslite_Index_one lays219 (baOf s) (uB c) w).mono ?_
  rintro e w' ⟨rfl, rfl⟩
  refine ⟨(), _, σ, rfl, trivial, fun _ _ _ h => h, fun k hk => hdom k hk, ?_, Mod.refl _ _, hobs, fun c hc => .inl hc⟩
  have e : Lib.indexByte (baOf s).data.toList (uB c) = ixC c s := ixC_lib c s
  rw [e]
  exact int_hv (ixC_inR hp)
def ixb_c : Ctr where
  D := B8 × BitVec 8
  pre := fun (s, _) => s.length ≤ 1000000
  args := fun (s, c) => [.str s, .u8 c]
  res := fun (s, c) _ => .int .i64 (ixC c s)
theorem ixb_ok : ixb_c.Ok Tryd.prog 90 := by
  rintro ⟨s, c⟩ hp A0 w σ vs hA hobs hargs hdom hgl
  obtain ⟨p, m1, rfl, h1, q, m2, rfl, h2, h3⟩ := hargs
  simp only [hvs] at h3; subst h3
  obtain rfl : p = .string (baOf s) := by simpa [SV.h1, SV.hc] using h1
  obtain rfl : q = .int .u8 (c.toNat : Int) := by simpa [SV.h1, SV.hc] using h2
  refine (Any.strings_IndexByte lays137 (baOf s) (c.toNat : Int) w).mono ?_
  rintro e w' ⟨rfl, rfl⟩
  refine ⟨(), _, σ, rfl, trivial, fun _ _ _ h => h, fun k hk => hdom k hk, ?_, Mod.refl _ _, hobs, fun c hc => .inl hc⟩
  have eu : ((c.toNat : Int).toNat).toUInt8 = uB c := by
    rw [Int.toNat_natCast]
    apply congrArg UInt8.ofBitVec (a₁ := (c.toNat.toUInt8).toBitVec) (a₂ := c)
    simp
  have e : Lib.indexByte (baOf s).data.toList ((c.toNat : Int).toNat).toUInt8 = ixC c s := by rw [eu]; exact ixC_lib c s
  rw [e]
  exact int_hv (ixC_inR hp)
/-- the pieces, as foreign strings -/
def gs_c : Ctr where
  D := B8 × BitVec 8
  pre := fun (s, _) => s.length ≤ 1000000
  args := fun (s, c) => [.str s, .str [c], .int .i64 0, .int .i64 (-1)]
  res := fun (s, c) _ => .fs 1 eStr (splitC c s)
theorem ba1 {c : BitVec 8} : (⟨#[uB c]⟩ : ByteArray).data.toList = [uB c] := rfl
theorem indexB_one (x : ByteArray) (c : BitVec 8) : Lib.indexB x ⟨#[uB c]⟩ = Lib.indexByte x.data.toList (uB c) := Lib.index_one _ _
theorem countB_one (s : B8) (c : BitVec 8) : Lib.countB (baOf s) ⟨#[uB c]⟩ = s.count c := by
  show Lib.count (u8s s) [uB c] = _
  rw [Lib.count_one]; exact u8s_count c s
theorem splitB_C (s : B8) (c : BitVec 8) : Lib.splitB ⟨#[uB c]⟩ 0 (s.count c) (baOf s) = (splitC c s).map baOf := by
  have h := Lib.splitB_data ⟨#[uB c]⟩ 0 (s.count c) (baOf s)
  rw [ba1, baOf_data, splitK_C _ _ (by rw [u8s_count]; exact Nat.le_refl _)] at h
  have h2 : splitC (uB c) (u8s s) = (splitC c s).map u8s := splitC_map (f := uB) (fun a b e => uB_inj e) c s
  rw [h2] at h
  have h3 : ∀ {l : List ByteArray} {m : List B8}, l.map (·.data.toList) = m.map u8s → l = m.map baOf := by
    intro l
    induction l with
    | nil => intro m h; cases m with
      | nil => rfl
      | cons _ _ => simp at h
    | cons x r ih => intro m h; cases m with
      | nil => simp at h
      | cons y q =>
        simp only [List.map_cons, List.cons.injEq] at h ⊢
        refine ⟨?_, ih h.2⟩
        apply ByteArray.ext; apply Array.ext'; exact h.1
  exact h3 h
theorem gs_ok : gs_c.Ok Tryd.prog 62 := by
  rintro ⟨s, c⟩ hp A0 w σ vs hA hobs hargs hdom hgl
  obtain ⟨p, m1, rfl, h1, q, m2, rfl, h2, p3, m3, rfl, h3, p4, m4, rfl, h4, h5⟩ := hargs
  simp only [hvs] at h5; subst h5
  obtain rfl : p = .string (baOf s) := by simpa [SV.h1, SV.hc] using h1
  obtain rfl : q = .string (baOf [c]) := by simpa [SV.h1, SV.hc] using h2
  obtain rfl : p3 = .int .i64 0 := by obtain ⟨e, -⟩ := h3; cases e; rfl
  obtain rfl : p4 = .int .i64 (-1) := by obtain ⟨e, -⟩ := h4; cases e; rfl
  have hs1 : (⟨#[uB c]⟩ : ByteArray).size = 1 := rfl
  have hsz : (baOf s).size = s.length := by show (u8s s).toArray.size = _; simp
  have hp' : s.length ≤ 1000000 := hp
  have hcl := List.count_le_length (a := c) (l := s)
  have hc0 := Any.strings_genSplit_core lays221 (by kernel_rfl) (baOf s) ⟨#[uB c]⟩ 0 (-1) (s.count c + 1) w (by rw [hsz]; omega) (by rw [hs1]; omega) (by omega)
    (fun x cs hx => (Any.strings_Index_one lays143 x (uB c) _).mono fun e w' ⟨he, hw⟩ => ⟨by rw [he, indexB_one], hw⟩)
    ((Any.strings_Count_one lays138 (baOf s) (uB c) w).mono fun e w' ⟨he, hw⟩ => ⟨by
      rw [he, countB_one]
      have e : Lib.countByte (baOf s).data.toList (uB c) = s.count c := u8s_count c s
      rw [e], hw⟩) (by decide) (by decide) (by rw [if_pos (by decide), countB_one, hsz]; omega)
  rw [Nat.add_sub_cancel, splitB_C, List.length_map, splitC_len] at hc0
  have hfull : Lib.cellsOf ((splitC c s).map baOf) (s.count c + 1) = (((splitC c s).map baOf).map Value.string).toArray := by
    have := Lib.cellsOf_full ((splitC c s).map baOf)
    rw [List.length_map, splitC_len] at this
    exact this
  rw [hfull] at hc0
  refine hc0.mono ?_
  rintro e w' ⟨rfl, rfl⟩
  have hk : Kept w (w.alloc (.cells (((splitC c s).map baOf).map Value.string).toArray 9)) := Mod.alloc _ w _
  refine ⟨(), _, σ, rfl, trivial, fun _ _ _ h => h, fun k hk => hdom k hk, ?_, hk.mono fun _ x => x.elim, obs_kept hobs hk, fun c hc => .inl hc⟩
  show (SV.fs 1 eStr (splitC c s)).h1 (w.alloc (.cells (((splitC c s).map baOf).map Value.string).toArray 9)) (Av A0 σ []) σ _
  simp only [SV.h1, SV.hc]
  refine ⟨some ⟨w.heap.size, 0, none⟩, s.count c + 1, by rw [splitC_len], by rw [splitC_len]; omega, by unfold maxLen; omega, fun h => (by cases h), fun i hi => rfl, fun ad had => .inr ?_⟩
  cases had
  refine ⟨rfl, fun hx => ?_, _, _, _, heap_alloc_new w _, fun i hi => ?_⟩
  · rcases hx with hx | hx
    · exact absurd (hA _ hx) (Nat.lt_irrefl _)
    · exact hx.elim
  · have e : ((((((splitC c s).map baOf).map Value.string).toArray).toList.drop (0 + i * 1)).take 1) = [.string (baOf (splitC c s)[i])] := by
      rw [Nat.zero_add, Nat.mul_one]
      simp only [List.map_map]
      rw [List.drop_eq_getElem_cons (by simpa using hi)]
      simp
    rw [e]
    exact ⟨[_], [], rfl, by simp only [SV.hc], rfl⟩
end Go.Proofs.YtepongfhnammkaaDoor

namespace Go.Proofs.YtepongfhnammkaaDoor
set_option linter.all false
open Go.RowKit
/-! strings.Cut, strings.Split, and what takes fields -/
def slcut_c : Ctr where
  D := B8 × BitVec 8
  pre := fun (s, _) => s.length ≤ 1000000
  args := fun (s, c) => [.str s, .str [c]]
  res := fun (s, c) _ => .tup [.str (cutAt c s).1, .str (cutAt c s).2, .dec (c ∈ s) inferInstance]
theorem cut_pos (c : BitVec 8) (s : B8) (h : c ∈ s) : cutL s none (some ((cutAt c s).1.length : Int)) = (cutAt c s).1 ∧ cutL s (some (((cutAt c s).1.length : Int) + 1)) none = (cutAt c s).2 := by
  have e := cutAt_in h
  have key : ∀ (x y : B8), (x ++ c :: y).take x.length = x ∧ (x ++ c :: y).drop (x.length + 1) = y := fun x y => by simp
  have k := key (cutAt c s).1 (cutAt c s).2
  rw [← e] at k
  have e2 : (((cutAt c s).1.length : Int) + 1).toNat = (cutAt c s).1.length + 1 := by omega
  simp only [cutL, Int.toNat_natCast, e2]
  exact k
def slcut_H : Cfg := ⟨[(72, ixl_c)], [(3, [], [], (.one 0 0 false (.one 1 0 false (.one 2 0 false (.one 3 0 false (.one 4 0 false (.one 5 0 false (.one 6 0 false (.one 7 0 false (.one 8 0 false (.one 9 0 false (.one 10 0 false (.one 11 0 false .nil)))))))))))), [])], [], [], 23, 0, [], [], []⟩
theorem slcut_ok : slcut_c.Ok Tryd.prog 61 := by
  refine fn_ok slcut_H 0 rfl _ Tryd.func61 rfl rfl ⟨ixl_ok, trivial⟩ rfl rfl (by kernel_rfl) (fun _ => Nat.le_of_ble_eq_true rfl) ?_
  rintro ⟨s, c⟩ hp hr
  try dsimp only [slcut_c] at hp
  try simp only [slcut_c, Rng, RngL, inR, and_true, true_and] at hr
  have hpx : ixl_c.pre (s, c) := hp
  by_cases h : c ∈ s
  · have e : ixC c s = ((cutAt c s).1.length : Int) := if_pos h
    have hl := congrArg List.length (cutAt_in h)
    rw [List.length_append, List.length_cons] at hl
    obtain ⟨e1, e2⟩ := cut_pos c s h
    repeat' (first | (with_reducible refine Unf.h ?_) | ((conv => whnf); first | refine Fork.mk (fun h => ?_) (fun h => ?_) | (refine Side.mk ?_ ?_; focus (first | with_reducible rfl | assumption | omega | (intros; (try simp only [lenS, inR, cutS, loI, hiI, e, e1, e2] at *); omega) | (refine ⟨fun h => ?_, fun h => ?_⟩ <;> first | rfl | (cases h; done) | omega | (exfalso; omega) | (simp only [Bool.false_eq_true] at h; done)) | (simp only [*, e, e1, e2]; done) | (simp [*, e, e1, e2]; done))) | refine RetE.mk () trivial ?_ | refine Got.mk (fun _ _ => ?_) | refine retK_r ?_ | exact rfl | refine CallS.mk (c := ixl_c) ((s, c)) ?_) | fail); all_goals try (conv => whnf)
  · have e : ixC c s = -1 := if_neg h
    have e1 := cutAt_out h
    repeat' (first | (with_reducible refine Unf.h ?_) | ((conv => whnf); first | refine Fork.mk (fun h => ?_) (fun h => ?_) | (refine Side.mk ?_ ?_; focus (first | with_reducible rfl | assumption | omega | (simp only [*, e, e1]; done) | (simp only [*, e, e1, List.map_cons, List.map_nil, eB]; done) | (simp [*, e, e1]; done))) | refine RetE.mk () trivial ?_ | refine Got.mk (fun _ _ => ?_) | refine retK_r ?_ | exact rfl | refine CallS.mk (c := ixl_c) ((s, c)) ?_) | fail); all_goals try (conv => whnf)
def cut_c : Ctr where
  D := B8 × BitVec 8
  pre := fun (s, _) => s.length ≤ 1000000
  args := fun (s, c) => [.str s, .str [c]]
  res := fun (s, c) _ => .tup [.str (cutAt c s).1, .str (cutAt c s).2, .dec (c ∈ s) inferInstance]
def cut_H : Cfg := ⟨[(61, slcut_c)], [], [], [], 13, 0, [], [], []⟩
theorem cut_ok : cut_c.Ok Tryd.prog 44 := by
  refine fn_ok cut_H 0 rfl _ Tryd.func44 rfl rfl ⟨slcut_ok, trivial⟩ rfl rfl (by kernel_rfl) (fun _ => Nat.le_of_ble_eq_true rfl) ?_
  rintro ⟨s, c⟩ hp hr
  try dsimp only [cut_c] at hp
  try simp only [cut_c, Rng, RngL, inR, and_true, true_and] at hr
  have hpx : slcut_c.pre (s, c) := hp
  repeat' (first | (with_reducible refine Unf.h ?_) | ((conv => whnf); first | (refine Side.mk ?_ ?_; focus (first | with_reducible rfl | assumption)) | refine RetE.mk () trivial ?_ | refine Got.mk (fun _ _ => ?_) | refine retK_r ?_ | exact rfl | refine CallS.mk (c := slcut_c) ((s, c)) ?_) | fail); all_goals try (conv => whnf)
def split_c : Ctr where
  D := B8 × BitVec 8
  pre := fun (s, _) => s.length ≤ 1000000
  args := fun (s, c) => [.str s, .str [c]]
  res := fun (s, c) _ => .fs 1 eStr (splitC c s)
def split_H : Cfg := ⟨[(62, gs_c)], [], [], [], 8, 0, [], [], []⟩
theorem split_ok : split_c.Ok Tryd.prog 45 := by
  refine fn_ok split_H 0 rfl _ Tryd.func45 rfl rfl ⟨gs_ok, trivial⟩ rfl rfl (by kernel_rfl) (fun _ => Nat.le_of_ble_eq_true rfl) ?_
  rintro ⟨s, c⟩ hp hr
  try dsimp only [split_c] at hp
  try simp only [split_c, Rng, RngL, inR, and_true, true_and] at hr
  have hpx : gs_c.pre (s, c) := hp
  repeat' (first | (with_reducible refine Unf.h ?_) | ((conv => whnf); first | (refine Side.mk ?_ ?_; focus (first | with_reducible rfl | assumption)) | refine RetE.mk () trivial ?_ | refine Got.mk (fun _ _ => ?_) | refine retK_r ?_ | exact rfl | refine CallS.mk (c := gs_c) ((s, c)) ?_) | fail); all_goals try (conv => whnf)
end Go.Proofs.YtepongfhnammkaaDoor

namespace Go.Proofs.YtepongfhnammkaaDoor
set_option linter.all false
open Go.RowKit
/-! report.number -/
abbrev nmPost (s : B8) (r : Int × Bool) : Prop := (r.2 = true → mayM r.1 ∧ decR r.1 = s) ∧ (r.2 = false → ∀ n, mayM n → decR n ≠ s)
theorem valD_lt {l : B8} (h : ∀ b ∈ l, isD b) (hl : l.length ≤ 10) : valD l ≤ 9999999999 := by
  have key : ∀ (k : Nat) (l : B8), (∀ b ∈ l, isD b) → l.length = k → valD l < 10 ^ k := by
    intro k
    induction k with
    | zero => intro l _ h; rw [List.eq_nil_of_length_eq_zero h]; decide
    | succ k ih =>
      intro l hd hl
      have hne : l ≠ [] := by rintro rfl; simp at hl
      obtain ⟨q, b, rfl⟩ : ∃ q b, l = q ++ [b] := ⟨l.dropLast, l.getLast hne, (List.dropLast_concat_getLast hne).symm⟩
      have h1 := ih q (fun b hb => hd b (List.mem_append_left _ hb)) (by simpa using hl)
      obtain ⟨h2, h3⟩ := hd b (by simp)
      rw [valD_snoc, Nat.pow_succ]; omega
  have h1 := key l.length l h rfl
  have h2 : 10 ^ l.length ≤ 10 ^ 10 := Nat.pow_le_pow_right (by omega) hl
  omega
theorem valD_take {l : B8} {i : Nat} (h : i < l.length) : valD (l.take (i + 1)) = 10 * valD (l.take i) + (l[i].toNat - 48) := by
  rw [List.take_succ_eq_append_getElem h, valD_snoc]
theorem isD_take {l : B8} {i : Nat} (h : i < l.length) (h1 : ∀ b ∈ l.take i, isD b) (h2 : isD l[i]) : ∀ b ∈ l.take (i + 1), isD b := by
  intro b hb
  rw [List.take_succ_eq_append_getElem h] at hb
  rcases List.mem_append.1 hb with hb | hb
  · exact h1 b hb
  · rw [List.mem_singleton.1 hb]; exact h2
theorem sub48 {b : BitVec 8} (h : isD b) : (b - 48#8).toNat = b.toNat - 48 := by
  obtain ⟨h1, h2⟩ := h
  rw [BitVec.toNat_sub]
  have : (48#8).toNat = 48 := rfl
  rw [this]; omega
theorem no_nil {d : B8} (h : d.length = 0) (m : Nat) : digN m ≠ d := fun e => by have := digN_nz m; rw [e] at this; omega
theorem no_long {d : B8} (h : 10 < d.length) (m : Nat) (hm : m ≤ 1000000000) : digN m ≠ d := fun e => by have := digN_len 9 m (by omega); rw [e] at this; omega
theorem no_zero {d : B8} (h0 : 0 < d.length) (h : d[0] = 48#8) (h1 : 1 < d.length) (m : Nat) : digN m ≠ d := fun e => by
  cases d with
  | nil => simp at h0
  | cons b r => have := digN_head m e h; rw [this.2] at h1; simp at h1
theorem no_zeroY {d : B8} (h0 : 0 < d.length) (h : d[0] = 48#8) (m : Nat) (hm : 0 < m) : digN m ≠ d := fun e => by
  cases d with
  | nil => simp at h0
  | cons b r => have := digN_head m e h; omega
theorem no_sign {d : B8} {i : Nat} (hi : i < d.length) (h : ¬ isD d[i]) (m : Nat) : digN m ≠ d := fun e => by
  subst e; exact h (digN_isD m _ (List.getElem_mem hi))
theorem dg_val {d : B8} (hd : ∀ b ∈ d, isD b) (h0 : 0 < d.length) (hz : d[0] = 48#8 → d.length ≤ 1) : digN (valD d) = d :=
  digN_valD d hd (fun e => by rw [e] at h0; simp at h0) fun b r e eb => by
    subst e
    have := hz eb
    cases r with
    | nil => rfl
    | cons _ _ => simp at this
def nmb_c : Ctr where
  D := B8
  pre := fun d => d.length ≤ 1000000
  args := fun d => [.str d]
  E := Int × Bool
  post := fun d r => nmPost d r
  res := fun _ r => .tup [.int .i64 r.1, .bool r.2]
theorem nmb_no {d : B8} (h : ∀ m, m ≤ 1000000000 → digN m ≠ d) : nmb_c.post d (0, false) :=
  ⟨fun h => absurd h (by decide), fun _ n hn e => h n.toNat (by have := hn.1; have := hn.2; omega) e⟩
theorem nmb_end {d : B8} (h : digN (valD d) = d) : nmb_c.post d ((valD d : Int), decide (mayM ((valD d : Int)))) := by
  have e : decR ((valD d : Int)) = d := by show digN (Int.toNat _) = d; rw [Int.toNat_natCast, h]
  refine ⟨fun hm => ⟨of_decide_eq_true hm, e⟩, fun hm n hn en => ?_⟩
  have hf := of_decide_eq_false hm
  apply hf
  have h1 : n.toNat = valD d := by rw [← valD_digN n.toNat]; exact congrArg valD en
  have := hn.1; have := hn.2
  exact ⟨by omega, by omega⟩
def nmb_H : Cfg := ⟨[], [], [], [], 51, 0, [], [], []⟩
theorem nmb_ok : nmb_c.Ok Tryd.prog 64 := by
  refine fn_ok nmb_H 0 rfl _ Tryd.func64 rfl rfl trivial rfl rfl (by kernel_rfl) (fun _ => Nat.le_of_ble_eq_true rfl) ?_
  intro (d : B8) hp hr
  try dsimp only [nmb_c] at hp
  try simp only [nmb_c, Rng, RngL, inR, and_true, true_and] at hr
  have hdl : d.length ≤ 1000000 := hp
  have hno := fun h => nmb_no (d := d) h
  repeat' (first | (with_reducible refine Unf.h ?_) | ((conv => whnf); first | refine Fork.mk (fun h => ?_) (fun h => ?_) | (refine Side.mk ?_ ?_; focus (omega)) | (refine Idx.mk ?_ ?_; focus (omega)) | refine retK_r ?_) | fail); all_goals try (conv => whnf)
  · exact RetE.mk (0, false) (hno fun m _ => no_nil (by omega) m) (by repeat' (first | (with_reducible refine Unf.h ?_) | ((conv => whnf); first | (refine Side.mk ?_ ?_; focus (with_reducible rfl)) | (with_reducible refine Unf.h ?_) | exact rfl) | fail); all_goals try (conv => whnf))
  · exact RetE.mk (0, false) (hno fun m hm => no_long (by omega) m hm) (by repeat' (first | (with_reducible refine Unf.h ?_) | ((conv => whnf); first | (refine Side.mk ?_ ?_; focus (with_reducible rfl)) | (with_reducible refine Unf.h ?_) | exact rfl) | fail); all_goals try (conv => whnf))
  · exact RetE.mk (0, false) (hno fun m _ => no_zero (by omega) (by assumption) (by omega) m) (by repeat' (first | (with_reducible refine Unf.h ?_) | ((conv => whnf); first | (refine Side.mk ?_ ?_; focus (with_reducible rfl)) | (with_reducible refine Unf.h ?_) | exact rfl) | fail); all_goals try (conv => whnf))
  all_goals (
    have h0 : 0 < d.length := by omega
    have h7 : d.length ≤ 10 := by omega
    have hz : d[0]'h0 = 48#8 → d.length ≤ 1 := by
      intro e
      first | omega | exact absurd e (by assumption)
    clear hno
    refine LoopS.autoN (I := Nat) (fun i => i ≤ d.length ∧ ∀ b ∈ d.take i, isD b) (fun i => [(26, .int .i64 i), (4, .int .i64 (valD (d.take i) : Int))]) (fun _ => []) 0 (fun i => d.length - i) 0 ⟨Nat.zero_le _, fun b hb => absurd hb List.not_mem_nil⟩ ?_ ?_
    · have e : valD (d.take 0) = 0 := rfl
      repeat' (first | (with_reducible refine Unf.h ?_) | ((conv => whnf); first | (refine Side.mk ?_ ?_; focus (first | with_reducible rfl | (refine congrArg (SV.int _) ?_; omega))) | (with_reducible refine Unf.h ?_) | exact True.intro) | fail); all_goals try (conv => whnf)
    rintro i ⟨hi, hm⟩
    have hv := valD_lt hm (by rw [List.length_take]; omega)
    have hno := fun h => nmb_no (d := d) h
    have h48 : (48#8).toNat = 48 := rfl
    have h57 : (57#8).toNat = 57 := rfl
    repeat' (first | (with_reducible first | refine Unf.h ?_ | refine loopK_n ?_) | ((conv => whnf); first | refine Fork.mk (fun h => ?_) (fun h => ?_) | (refine Side.mk ?_ ?_; focus ((intros; (try simp only [lenS, inR, cutS, loI, hiI] at *); omega))) | (refine Idx.mk ?_ ?_; focus (omega)) | refine retK_r ?_) | fail); all_goals try (conv => whnf)
    · have hil : i < d.length := by omega
      have hs : ¬ isD (d[i]'hil) := fun hd => by
        have h2 : (d[i]'hil).toNat < (48#8).toNat := h
        have := hd.1; omega
      exact RetE.mk (0, false) (hno fun m _ => no_sign hil hs m) (by repeat' (first | (with_reducible refine Unf.h ?_) | ((conv => whnf); first | (refine Side.mk ?_ ?_; focus (with_reducible rfl)) | (with_reducible refine Unf.h ?_) | exact rfl) | fail); all_goals try (conv => whnf))
    · have hil : i < d.length := by omega
      have hs : ¬ isD (d[i]'hil) := fun hd => by
        have h2 : (57#8).toNat < (d[i]'hil).toNat := h
        have := hd.2; omega
      exact RetE.mk (0, false) (hno fun m _ => no_sign hil hs m) (by repeat' (first | (with_reducible refine Unf.h ?_) | ((conv => whnf); first | (refine Side.mk ?_ ?_; focus (with_reducible rfl)) | (with_reducible refine Unf.h ?_) | exact rfl) | fail); all_goals try (conv => whnf))
    · rename_i c1 c2
      have hil : i < d.length := by omega
      have hs : isD (d[i]'hil) := ⟨by have h2 : ¬ (d[i]'hil).toNat < (48#8).toNat := c2; omega, by have h2 : ¬ (57#8).toNat < (d[i]'hil).toNat := h; omega⟩
      have e : (10 * (valD (d.take i) : Int) + ((d[((i : Nat) : Int).toNat]'hil - 48#8).toNat : Int)) = (valD (d.take (i + 1)) : Int) := by
        rw [valD_take hil]
        have := sub48 hs
        show 10 * (valD (d.take i) : Int) + (((d[i]'hil) - 48#8).toNat : Int) = _
        rw [this]; omega
      clear hno hs
      refine ⟨i + 1, ⟨by omega, by omega, isD_take hil hm ⟨by have h2 : ¬ (d[i]'hil).toNat < (48#8).toNat := c2; omega, by have h2 : ¬ (57#8).toNat < (d[i]'hil).toNat := h; omega⟩⟩, ?_⟩
      repeat' (first | (with_reducible refine Unf.h ?_) | ((conv => whnf); first | (refine Side.mk ?_ ?_; focus (first | with_reducible rfl | (refine congrArg (SV.int _) ?_; omega))) | (with_reducible refine Unf.h ?_) | exact True.intro) | fail); all_goals try (conv => whnf)
    all_goals (
      have ht : d.take i = d := List.take_of_length_le (by omega)
      rw [ht] at hm hv ⊢
      have hdg : digN (valD d) = d := dg_val hm h0 hz
      skip
      first
        | (exfalso; omega)
        | (refine RetE.mk ((valD d : Int), decide (mayM ((valD d : Int)))) (nmb_end hdg) ?_
           repeat' (first | (with_reducible refine Unf.h ?_) | ((conv => whnf); first | (refine Side.mk ?_ ?_; focus (first | with_reducible rfl | exact decide_eq_decide.2 (by omega))) | (with_reducible refine Unf.h ?_) | exact rfl) | fail); all_goals try (conv => whnf)
           first | done | (refine Side.mk ?_ ?_; (focus (show _ ↔ _; simp only [decide_eq_true_eq, mayM]; omega)); (all_goals try (conv => whnf))))))
end Go.Proofs.YtepongfhnammkaaDoor

namespace Go.Proofs.YtepongfhnammkaaDoor
set_option linter.all false
open Go.RowKit
/-! report.numbers -/
abbrev nsPost (ws : List B8) (r : List Int × Bool) : Prop := (r.2 = true → allM r.1 ∧ r.1.map decR = ws) ∧ (r.2 = false → r.1 = [] ∧ ∀ ns, allM ns → ns.map decR ≠ ws)
def nums_c : Ctr where
  D := List B8
  pre := fun ws => ws.length ≤ 1000000 ∧ ∀ w ∈ ws, w.length ≤ 1000000
  args := fun ws => [.fs 1 eStr ws]
  E := List Int × Bool
  post := fun ws r => nsPost ws r
  res := fun _ r => .tup [.fs 1 eI r.1, .bool r.2]
theorem ns_no {ws : List B8} {i : Nat} (hi : i < ws.length) (h : ∀ n, mayM n → decR n ≠ ws[i]) : nsPost ws ([], false) :=
  ⟨fun h => (by cases h), fun _ => ⟨rfl, fun ns hm e => by
    subst e
    rw [List.length_map] at hi
    exact h (ns[i]) (hm _ (List.getElem_mem hi)) (by rw [List.getElem_map])⟩⟩
def nums_H : Cfg := ⟨[(64, nmb_c)], [], [], [], 28, 0, [], [], []⟩
theorem nums_ok : nums_c.Ok Tryd.prog 63 := by
  refine fn_ok nums_H 0 rfl _ Tryd.func63 rfl rfl ⟨nmb_ok, trivial⟩ rfl rfl (by kernel_rfl) (fun _ => Nat.le_of_ble_eq_true rfl) ?_
  intro (ws : List B8) hp hr
  try dsimp only [nums_c] at hp
  try simp only [nums_c, Rng, RngL, inR, and_true, true_and] at hr
  obtain ⟨hl, hw⟩ := hp
  repeat' (first | (with_reducible refine Unf.h ?_) | fail); all_goals try (conv => whnf)
  refine LoopS.autoN (I := List Int) (fun ns => ns.length ≤ ws.length ∧ allM ns ∧ ns.map decR = ws.take ns.length) (fun ns => [(11, .int .i64 (ns.length : Int)), (4, .own 0)]) (fun ns => [(0, .row 3 1 eI ns)]) 1 (fun ns => ws.length - ns.length) [] ⟨Nat.zero_le _, allM_nil, rfl⟩ ?_ ?_
  · repeat' (first | (with_reducible refine Unf.h ?_) | ((conv => whnf); first | (refine Side.mk ?_ ?_; focus (first | with_reducible rfl | (simp [*]; done))) | (with_reducible refine Unf.h ?_) | exact True.intro) | fail); all_goals try (conv => whnf)
  · rintro ns ⟨hi, hm, he⟩
    repeat' (first | (with_reducible refine Unf.h ?_) | ((conv => whnf); first | refine Fork.mk (fun h => ?_) (fun h => ?_) | (refine Idx.mk ?_ ?_; focus (omega)) | refine retK_r ?_) | fail); all_goals try (conv => whnf)
    · have h0 : ns.length < ws.length := by omega
      have hpn : nmb_c.pre (ws[((ns.length : Nat) : Int).toNat]'h0) := hw _ (List.getElem_mem _)
      first | refine CallS.mk (c := nmb_c) ((ws[((ns.length : Nat) : Int).toNat]'h0)) ?_ | refine Or2.l (CallS.mk (c := nmb_c) ((ws[((ns.length : Nat) : Int).toNat]'h0)) ?_) | refine Or2.r (CallS.mk (c := nmb_c) ((ws[((ns.length : Nat) : Int).toNat]'h0)) ?_)
      repeat (first | (with_reducible refine Unf.h ?_) | ((conv => whnf); first | (refine Side.mk ?_ ?_; focus (first | with_reducible rfl | assumption | exact True.intro | rfl)) | (with_reducible refine Unf.h ?_)))
      conv => whnf
      refine Got.mk (fun e he => ?_)
      obtain ⟨n, ok⟩ := e
      have he2 : nmPost (ws[ns.length]'h0) (n, ok) := he
      clear he
      cases ok with
      | false =>
        repeat' (first | (with_reducible refine Unf.h ?_) | ((conv => whnf); first | (with_reducible refine Unf.h ?_) | refine retK_r ?_) | fail); all_goals try (conv => whnf)
        exact RetE.mk (([] : List Int), false) (ns_no h0 (he2.2 rfl)) (by repeat' (first | (with_reducible refine Unf.h ?_) | ((conv => whnf); first | (refine Side.mk ?_ ?_; focus (with_reducible rfl)) | (with_reducible refine Unf.h ?_) | exact rfl) | fail); all_goals try (conv => whnf))
      | true =>
        obtain ⟨h1, h2⟩ := he2.1 rfl
        clear he2
        repeat' (first | (with_reducible first | refine Unf.h ?_ | refine loopK_n ?_) | ((conv => whnf); first | (refine Side.mk ?_ ?_; focus ((intros; (try simp only [lenS, inR, cutS, loI, hiI] at *); omega))) | refine Ex.mk [_] rfl ?_ | (with_reducible refine Unf.h ?_)) | fail); all_goals try (conv => whnf)
        refine ⟨ns ++ [n], ⟨by rw [List.length_append]; simp; omega, by rw [List.length_append]; simp; omega, ?_, ?_⟩, ?_⟩
        · intro m hmm
          rcases List.mem_append.1 hmm with hmm | hmm
          · exact hm m hmm
          · rw [List.mem_singleton.1 hmm]; exact h1
        · rw [List.map_append, List.length_append, List.length_singleton, List.take_succ_eq_append_getElem h0, List.map_singleton, h2]
          exact congrArg (· ++ _) (by assumption)
        · have e : ((ns.length : Nat) : Int) + 1 = (((ns ++ [n]).length : Nat) : Int) := by simp
          repeat' (first | (with_reducible refine Unf.h ?_) | ((conv => whnf); first | (refine Side.mk ?_ ?_; focus (first | with_reducible rfl | (refine congrArg (SV.int _) ?_; omega))) | (with_reducible refine Unf.h ?_) | exact True.intro) | fail); all_goals try (conv => whnf)
    · have ht : ws.take ns.length = ws := List.take_of_length_le (by omega)
      rw [ht] at he
      exact RetE.mk (ns, true) ⟨fun _ => ⟨hm, he⟩, fun h => by cases h⟩ (by repeat' (first | (with_reducible refine Unf.h ?_) | ((conv => whnf); first | (refine Side.mk ?_ ?_; focus (with_reducible rfl)) | (with_reducible refine Unf.h ?_) | exact rfl) | fail); all_goals try (conv => whnf))
end Go.Proofs.YtepongfhnammkaaDoor

namespace Go.Proofs.YtepongfhnammkaaDoor
set_option linter.all false
open Go.RowKit
/-! report.nibble, report.label -/
theorem hexs_mem {l : B8} {b : BitVec 8} (h : b ∈ hexs l) : b ∈ hexD := by
  unfold hexs at h
  obtain ⟨x, _, hx2⟩ := List.mem_flatMap.1 h
  have key : ∀ n, n < 16 → hx n ∈ hexD := by decide
  simp only [hexB, List.mem_cons, List.not_mem_nil, or_false] at hx2
  have := x.isLt
  rcases hx2 with rfl | rfl
  · exact key _ (by omega)
  · exact key _ (by omega)
theorem bytesS_mem {l : B8} {b : BitVec 8} (h : b ∈ bytesS l) : b = 45#8 ∨ b ∈ hexD := by
  unfold bytesS at h
  split at h
  · exact .inl (List.mem_singleton.1 h)
  · exact .inr (hexs_mem h)
def nib_c : Ctr where
  D := BitVec 8
  args := fun x => [.u8 x]
  res := fun x _ => .int .i64 (ixC x hexC)
def nib_H : Cfg := ⟨[(90, ixb_c)], [], [], [], 5, 0, [], [], []⟩
theorem nib_ok : nib_c.Ok Tryd.prog 76 := by
  refine fn_ok nib_H 0 rfl _ Tryd.func76 rfl rfl ⟨ixb_ok, trivial⟩ rfl rfl (by kernel_rfl) (fun _ => Nat.le_of_ble_eq_true rfl) ?_
  intro (x : BitVec 8) hp hr
  try dsimp only [nib_c] at hp
  try simp only [nib_c, Rng, RngL, inR, and_true, true_and] at hr
  have hpx : ixb_c.pre (hexC, x) := show hexC.length ≤ 1000000 by rw [hexC_len]; omega
  repeat' (first | (with_reducible refine Unf.h ?_) | ((conv => whnf); first | (refine Side.mk ?_ ?_; focus (first | with_reducible rfl | assumption | (refine congrArg (SV.int _) ?_; omega))) | refine RetE.mk () trivial ?_ | refine Got.mk (fun _ _ => ?_) | refine retK_r ?_ | exact rfl | refine CallS.mk (c := ixb_c) ((hexC, x)) ?_) | fail); all_goals try (conv => whnf)
abbrev lbPost (s : B8) (r : B8 × Bool) : Prop := (r.2 = true → bytesS r.1 = s ∧ r.1.length ≤ 100) ∧ (r.2 = false → r.1 = [] ∧ ∀ l, l.length ≤ 100 → bytesS l ≠ s)
def lbl_c : Ctr where
  D := B8
  pre := fun s => s.length ≤ 1000000
  args := fun s => [.str s]
  E := B8 × Bool
  post := fun s r => lbPost s r
  res := fun _ r => .tup [.fs 1 eB r.1, .bool r.2]
/-- the value of a sign of base 16 -/
theorem hx_of {k : Nat} {x : BitVec 8} (h : ixC x hexC = (k : Int)) : k < 16 ∧ hx k = x := by
  have key : ∀ n : Nat, n < 256 → ∀ k : Nat, k < 16 → ixC (BitVec.ofNat 8 n) hexC = (k : Int) → hx k = BitVec.ofNat 8 n := by decide +kernel
  have hk : k < 16 := by
    unfold ixC at h
    split at h
    · have := congrArg List.length (cutAt_in (by assumption : x ∈ hexC))
      rw [List.length_append, List.length_cons, hexC_len] at this
      omega
    · omega
  have := key x.toNat x.isLt k hk (by rw [BitVec.ofNat_toNat, BitVec.setWidth_eq]; exact h)
  rw [BitVec.ofNat_toNat, BitVec.setWidth_eq] at this
  exact ⟨hk, this⟩
theorem hx_no {x : BitVec 8} (h : ixC x hexC < 0) : x ∉ hexD := by
  intro hm
  have : x ∈ hexC := hm
  unfold ixC at h
  rw [if_pos this] at h; omega
theorem or16 {u v : Nat} (hu : u < 16) (hv : v < 16) : (((((u : Int) * 2 ^ (((4#64).toNat : Nat) : Int).toNat).toNat ||| ((v : Int)).toNat : Nat)) : Int) = ((16 * u + v : Nat) : Int) := by
  have key : ∀ u : Nat, u < 16 → ∀ v : Nat, v < 16 → (u * 16) ||| v = 16 * u + v := by decide +kernel
  have e4 : (((4#64).toNat : Nat) : Int).toNat = 4 := rfl
  have e5 : ((u : Int) * 2 ^ 4).toNat = u * 16 := by omega
  rw [e4, Int.toNat_natCast, e5, key u hu v hv]
theorem hexB_of {u v : Nat} (hu : u < 16) (hv : v < 16) : hexB (BitVec.ofInt 8 ((16 * u + v : Nat) : Int)) = [hx u, hx v] := by
  have key : ∀ u : Nat, u < 16 → ∀ v : Nat, v < 16 → hexB (BitVec.ofInt 8 ((16 * u + v : Nat) : Int)) = [hx u, hx v] := by decide +kernel
  exact key u hu v hv
theorem hexs_two {s r : B8} {u v : Nat} (hu : u < 16) (hv : v < 16) (h : 2 * r.length + 1 < s.length) (h2 : hexs r = s.take (2 * r.length)) (e1 : hx u = s[2 * r.length]) (e2 : hx v = s[2 * r.length + 1]) : hexs (r ++ [BitVec.ofInt 8 ((16 * u + v : Nat) : Int)]) = s.take (2 * (r ++ [BitVec.ofInt 8 ((16 * u + v : Nat) : Int)]).length) := by
  have e : hexs (r ++ [BitVec.ofInt 8 ((16 * u + v : Nat) : Int)]) = hexs r ++ hexB (BitVec.ofInt 8 ((16 * u + v : Nat) : Int)) := by
    unfold hexs; rw [List.flatMap_append]; simp
  rw [e, hexB_of hu hv, h2, List.length_append, List.length_singleton, show 2 * (r.length + 1) = 2 * r.length + 1 + 1 by omega, List.take_succ_eq_append_getElem h, List.take_succ_eq_append_getElem (by omega), e1, e2, List.append_assoc]
  rfl
def lbl_H : Cfg := ⟨[(76, nib_c)], [(9, [], [3, 8], (.one 0 0 false (.one 1 0 false (.one 2 0 false (.one 4 0 false (.one 5 0 false (.one 6 0 false (.one 7 0 false (.one 3 2 false (.one 8 2 false (.one 9 0 false (.one 10 0 false .nil))))))))))), [])], [], [], 54, 0, [], [], []⟩
theorem lbl_ok : lbl_c.Ok Tryd.prog 65 := by
  refine fn_ok lbl_H 0 rfl _ Tryd.func65 rfl rfl ⟨nib_ok, trivial⟩ rfl rfl (by kernel_rfl) (fun _ => Nat.le_of_ble_eq_true rfl) ?_
  intro (s : B8) hp hr
  try dsimp only [lbl_c] at hp
  try simp only [lbl_c, Rng, RngL, inR, and_true, true_and] at hr
  have hbad : ∀ x ∈ s, x ∉ hexD → s ≠ [45#8] → lbPost s ([], false) := fun x hx hn hs => ⟨fun h => absurd h (by decide), fun _ => ⟨rfl, fun l hll e => by
    rcases bytesS_mem (l := l) (by rw [e]; exact hx) with h | h
    · unfold bytesS at e
      split at e
      · exact hs e.symm
      · exact hn (hexs_mem (by rw [e]; exact hx))
    · exact hn h⟩⟩
  have hlen : s ≠ [45#8] → s.length = 0 ∨ s.length % 2 = 1 → lbPost s ([], false) := fun hs hl => ⟨fun h => absurd h (by decide), fun _ => ⟨rfl, fun l hll e => by
    unfold bytesS at e
    split at e
    · exact hs e.symm
    · rename_i hne
      have := hexs_len l
      rw [e] at this
      have : 0 < l.length := List.length_pos_iff.2 hne
      omega⟩⟩
  have hpx : ∀ x : BitVec 8, True := fun _ => trivial
  have hC : cS #[45] = [45#8] := rfl
  repeat' (first | (with_reducible refine Unf.h ?_) | ((conv => whnf); first | refine Fork.mk (fun h => ?_) (fun h => ?_) | (refine Side.mk ?_ ?_; focus (omega)) | refine retK_r ?_) | fail); all_goals try (conv => whnf)
  · exact RetE.mk ([], true) ⟨fun _ => ⟨by rw [h]; rfl, Nat.zero_le _⟩, fun h => absurd h (by decide)⟩ (by repeat' (first | (with_reducible refine Unf.h ?_) | ((conv => whnf); first | (refine Side.mk ?_ ?_; focus (with_reducible rfl)) | (with_reducible refine Unf.h ?_) | exact rfl) | fail); all_goals try (conv => whnf))
  · exact RetE.mk ([], false) (hlen (by assumption) (.inl (by omega))) (by repeat' (first | (with_reducible refine Unf.h ?_) | ((conv => whnf); first | (refine Side.mk ?_ ?_; focus (with_reducible rfl)) | (with_reducible refine Unf.h ?_) | exact rfl) | fail); all_goals try (conv => whnf))
  · exact RetE.mk ([], false) (hlen (by assumption) (.inr (by omega))) (by repeat' (first | (with_reducible refine Unf.h ?_) | ((conv => whnf); first | (refine Side.mk ?_ ?_; focus (with_reducible rfl)) | (with_reducible refine Unf.h ?_) | exact rfl) | fail); all_goals try (conv => whnf))
  · have hne : s ≠ [45#8] := by assumption
    exact RetE.mk ([], false) ⟨fun h => absurd h (by decide), fun _ => ⟨rfl, fun l hll e => by
      unfold bytesS at e
      split at e
      · exact hne e.symm
      · have := hexs_len l
        rw [e] at this
        omega⟩⟩ (by repeat' (first | (with_reducible refine Unf.h ?_) | ((conv => whnf); first | (refine Side.mk ?_ ?_; focus (with_reducible rfl)) | (with_reducible refine Unf.h ?_) | exact rfl) | fail); all_goals try (conv => whnf))
  · rename_i c1 c2 c3
    have hne : s ≠ [45#8] := c1
    have hs2 : s.length ≤ 200 := by omega
    clear hlen c1
    refine LoopS.autoN (I := B8) (fun r => 2 * r.length ≤ s.length ∧ hexs r = s.take (2 * r.length)) (fun r => match r with | [] => [(5, .int .i64 0), (4, .nils)] | b :: q => [(5, .int .i64 (2 * ((b :: q).length : Int))), (4, .own 0)]) (fun r => match r with | [] => [] | b :: q => [(0, .row 5 1 eB (b :: q))]) 1 (fun r => s.length - r.length) [] ⟨by simp, rfl⟩ ?_ ?_
    · repeat' (first | (with_reducible refine Unf.h ?_) | ((conv => whnf); first | (refine Side.mk ?_ ?_; focus (with_reducible rfl)) | (with_reducible refine Unf.h ?_) | exact True.intro) | fail); all_goals try (conv => whnf)
    · rintro (_ | ⟨b, q⟩) ⟨h1, h2⟩
      · repeat' (first | (with_reducible refine Unf.h ?_) | ((conv => whnf); first | refine Fork.mk (fun h => ?_) (fun h => ?_) | (refine Side.mk ?_ ?_; focus (first | omega | (intros; (try simp only [lenS, inR, cutS, loI, hiI] at *); omega))) | (refine Idx.mk ?_ ?_; focus (omega)) | refine retK_r ?_) | fail); all_goals try (conv => whnf)
        · have h0 : Int.toNat 0 < s.length := by show 0 < s.length; omega
          have h01 : Int.toNat (0 + 1) < s.length := by show 1 < s.length; omega
          have hq0 := hpx (s[Int.toNat 0]'h0)
          have hq1 := hpx (s[Int.toNat (0 + 1)]'h01)
          refine CallS.mk (c := nib_c) (s[Int.toNat 0]'h0) ?_
          repeat' (first | (with_reducible refine Unf.h ?_) | ((conv => whnf); first | (refine Side.mk ?_ ?_; focus (first | with_reducible rfl | exact True.intro)) | refine Got.mk (fun _ _ => ?_)) | fail); all_goals try (conv => whnf)
          refine CallS.mk (c := nib_c) (s[Int.toNat (0 + 1)]'h01) ?_
          repeat' (first | (with_reducible refine Unf.h ?_) | ((conv => whnf); first | refine Fork.mk (fun h => ?_) (fun h => ?_) | (refine Side.mk ?_ ?_; focus (first | with_reducible rfl | exact True.intro)) | refine Got.mk (fun _ _ => ?_) | refine retK_r ?_) | fail); all_goals try (conv => whnf)
          · exact RetE.mk ([], false) (hbad _ (List.getElem_mem h0) (hx_no h) hne) (by repeat' (first | (with_reducible refine Unf.h ?_) | ((conv => whnf); first | (refine Side.mk ?_ ?_; focus (with_reducible rfl)) | (with_reducible refine Unf.h ?_) | exact rfl) | fail); all_goals try (conv => whnf))
          · exact RetE.mk ([], false) (hbad _ (List.getElem_mem h01) (hx_no h) hne) (by repeat' (first | (with_reducible refine Unf.h ?_) | ((conv => whnf); first | (refine Side.mk ?_ ?_; focus (with_reducible rfl)) | (with_reducible refine Unf.h ?_) | exact rfl) | fail); all_goals try (conv => whnf))
          · obtain ⟨u, hu⟩ : ∃ u : Nat, ixC (s[Int.toNat 0]'h0) hexC = u := ⟨_, (Int.toNat_of_nonneg (by omega)).symm⟩
            obtain ⟨v, hv⟩ : ∃ v : Nat, ixC (s[Int.toNat (0 + 1)]'h01) hexC = v := ⟨_, (Int.toNat_of_nonneg (by omega)).symm⟩
            obtain ⟨u1, u2⟩ := hx_of hu
            obtain ⟨v1, v2⟩ := hx_of hv
            simp only [hu, hv]
            have e4 : (((4#64).toNat : Nat) : Int).toNat = 4 := rfl
            refine Side.mk ⟨by decide, by decide, by rw [e4]; unfold inR; omega⟩ ?_
            repeat' (first | (with_reducible refine Unf.h ?_) | fail); all_goals try (conv => whnf)
            refine Side.mk ⟨by rw [e4]; omega, by omega⟩ ?_
            have ew := or16 u1 v1
            clear e4
            simp only [ew]
            repeat' (first | (with_reducible first | refine Unf.h ?_ | refine loopK_n ?_) | ((conv => whnf); (refine Side.mk ?_ ?_; focus ((intros; (try simp only [lenS, inR, cutS, loI, hiI] at *); omega)))) | fail); all_goals try (conv => whnf)
            have hx2 := hexs_two (s := s) (r := []) u1 v1 (by simp; omega) rfl u2 v2
            refine ⟨[] ++ [BitVec.ofInt 8 ((16 * u + v : Nat) : Int)], ⟨by show s.length - 1 < s.length - 0; omega, by show 2 * 1 ≤ s.length; omega, hx2⟩, ?_⟩
            repeat' (first | (with_reducible refine Unf.h ?_) | ((conv => whnf); first | (refine Side.mk ?_ ?_; focus (first | with_reducible rfl | (simp only [*, List.map_cons, List.map_nil, eB]; done) | (simp [*]; done))) | (with_reducible refine Unf.h ?_) | exact True.intro) | fail); all_goals try (conv => whnf)
        · exfalso; omega
      · have h1' : 2 * (q.length + 1) ≤ s.length := h1
        have h3 : ((b :: q).length : Int) = (q.length : Int) + 1 := by simp
        repeat' (first | (with_reducible refine Unf.h ?_) | ((conv => whnf); first | refine Fork.mk (fun h => ?_) (fun h => ?_) | (refine Side.mk ?_ ?_; focus (first | omega | (intros; (try simp only [lenS, inR, cutS, loI, hiI] at *); omega))) | (refine Idx.mk ?_ ?_; focus (omega)) | refine retK_r ?_) | fail); all_goals try (conv => whnf)
        · have h0 : (2 * ((b :: q).length : Int)).toNat < s.length := by omega
          have h01 : (2 * ((b :: q).length : Int) + 1).toNat < s.length := by omega
          have hq0 := hpx (s[(2 * ((b :: q).length : Int)).toNat]'h0)
          have hq1 := hpx (s[(2 * ((b :: q).length : Int) + 1).toNat]'h01)
          refine CallS.mk (c := nib_c) (s[(2 * ((b :: q).length : Int)).toNat]'h0) ?_
          repeat' (first | (with_reducible refine Unf.h ?_) | ((conv => whnf); first | (refine Side.mk ?_ ?_; focus (first | with_reducible rfl | exact True.intro)) | refine Got.mk (fun _ _ => ?_)) | fail); all_goals try (conv => whnf)
          refine CallS.mk (c := nib_c) (s[(2 * ((b :: q).length : Int) + 1).toNat]'h01) ?_
          repeat' (first | (with_reducible refine Unf.h ?_) | ((conv => whnf); first | refine Fork.mk (fun h => ?_) (fun h => ?_) | (refine Side.mk ?_ ?_; focus (first | with_reducible rfl | exact True.intro)) | refine Got.mk (fun _ _ => ?_) | refine retK_r ?_) | fail); all_goals try (conv => whnf)
          · exact RetE.mk ([], false) (hbad _ (List.getElem_mem h0) (hx_no h) hne) (by repeat' (first | (with_reducible refine Unf.h ?_) | ((conv => whnf); first | (refine Side.mk ?_ ?_; focus (with_reducible rfl)) | (with_reducible refine Unf.h ?_) | exact rfl) | fail); all_goals try (conv => whnf))
          · exact RetE.mk ([], false) (hbad _ (List.getElem_mem h01) (hx_no h) hne) (by repeat' (first | (with_reducible refine Unf.h ?_) | ((conv => whnf); first | (refine Side.mk ?_ ?_; focus (with_reducible rfl)) | (with_reducible refine Unf.h ?_) | exact rfl) | fail); all_goals try (conv => whnf))
          · obtain ⟨u, hu⟩ : ∃ u : Nat, ixC (s[(2 * ((b :: q).length : Int)).toNat]'h0) hexC = u := ⟨_, (Int.toNat_of_nonneg (by omega)).symm⟩
            obtain ⟨v, hv⟩ : ∃ v : Nat, ixC (s[(2 * ((b :: q).length : Int) + 1).toNat]'h01) hexC = v := ⟨_, (Int.toNat_of_nonneg (by omega)).symm⟩
            obtain ⟨u1, u2⟩ := hx_of hu
            obtain ⟨v1, v2⟩ := hx_of hv
            simp only [hu, hv]
            have e4 : (((4#64).toNat : Nat) : Int).toNat = 4 := rfl
            refine Side.mk ⟨by decide, by decide, by rw [e4]; unfold inR; omega⟩ ?_
            repeat' (first | (with_reducible refine Unf.h ?_) | fail); all_goals try (conv => whnf)
            refine Side.mk ⟨by rw [e4]; omega, by omega⟩ ?_
            have ew := or16 u1 v1
            clear e4
            simp only [ew]
            have hlq : (b :: q).length ≤ 1000000 := by omega
            repeat' (first | (with_reducible first | refine Unf.h ?_ | refine loopK_n ?_) | ((conv => whnf); first | (refine Side.mk ?_ ?_; focus ((intros; (try simp only [lenS, inR, cutS, loI, hiI] at *); omega))) | refine Ex.mk [_] rfl ?_) | fail); all_goals try (conv => whnf)
            have hx2 := hexs_two (s := s) (r := b :: q) u1 v1 (by omega) h2 u2 v2
            refine ⟨(b :: q) ++ [BitVec.ofInt 8 ((16 * u + v : Nat) : Int)], ⟨by rw [List.length_append]; simp only [List.length_singleton]; omega, by rw [List.length_append]; simp only [List.length_singleton]; omega, hx2⟩, ?_⟩
            have hl2 : 2 * ((b :: q).length : Int) + 2 = 2 * ((b :: (q ++ [BitVec.ofInt 8 ((16 * u + v : Nat) : Int)])).length : Int) := by simp; omega
            repeat' (first | (with_reducible refine Unf.h ?_) | ((conv => whnf); first | (refine Side.mk ?_ ?_; focus (first | with_reducible rfl | (refine congrArg (SV.int _) ?_; omega) | (simp [*, hl2]; done))) | (with_reducible refine Unf.h ?_) | exact True.intro) | fail); all_goals try (conv => whnf)
        · have ht : s.take (2 * (b :: q).length) = s := List.take_of_length_le (by omega)
          refine RetE.mk (b :: q, true) ⟨fun _ => ⟨?_, by show (b :: q).length ≤ 100; omega⟩, fun h => (by simp at h)⟩ (by repeat' (first | (with_reducible refine Unf.h ?_) | ((conv => whnf); first | (refine Side.mk ?_ ?_; focus (with_reducible rfl)) | (with_reducible refine Unf.h ?_) | exact rfl) | fail); all_goals try (conv => whnf))
          show bytesS (b :: q) = s
          rw [bytesS, if_neg (by simp), h2, ht]
end Go.Proofs.YtepongfhnammkaaDoor

namespace Go.Proofs.YtepongfhnammkaaDoor
set_option linter.all false
open Go.RowKit
/-! the reader: follows, head, epoch -/
/-- a reader: what was read so far, the sort of the line ahead -/
abbrev rdO (r : Rep) (s : Int) : List Ob := [(0, .box 63 [.int .i64 r.tick, .int .i64 r.frames, .own 1, .own 2, .own 3, .own 4, .int .i64 s]), (1, .row 54 2 eEp r.eps), (2, .row 56 2 eRp r.reps), (3, .row 42 4 eUp r.upds), (4, .row 44 4 eUp r.looks)]
abbrev folP (s k : Int) : Prop := if k < 2 then k = s + 1 else 1 ≤ s ∧ s ≤ k
def fol_c : Ctr where
  D := Rep × Int × Int
  pre := fun (_, s, k) => -1 ≤ s ∧ s ≤ 5 ∧ 0 ≤ k ∧ k ≤ 5
  args := fun (_, _, k) => [.ptr 0 0, .int .i64 k]
  objs := fun (r, s, _) => rdO r s
  nn := 5
  res := fun (_, s, k) _ => .dec (folP s k) inferInstance
  out := fun (r, s, _) _ => rdO r s
def fol_H : Cfg := ⟨[], [], [], [], 27, 5, [], [], []⟩
theorem fol_ok : fol_c.Ok Tryd.prog 46 := by
  refine fn_ok fol_H 5 rfl _ Tryd.func46 rfl rfl trivial rfl rfl (by kernel_rfl) (fun _ => Nat.le_of_ble_eq_true rfl) ?_
  rintro ⟨r, s, k⟩ hp hr
  try dsimp only [fol_c] at hp
  try simp only [fol_c, Rng, RngL, inR, and_true, true_and] at hr
  obtain ⟨h1, h2, h3, h4⟩ := hp
  repeat' (first | (with_reducible refine Unf.h ?_) | ((conv => whnf); first | refine Fork.mk (fun h => ?_) (fun h => ?_) | (refine Side.mk ?_ ?_; focus (first | with_reducible rfl | (intros; (try simp only [lenS, inR, cutS, loI, hiI] at *); omega) | (simp [*]; done))) | refine RetE.mk () trivial ?_ | refine retK_r ?_ | exact rfl) | fail); all_goals try (conv => whnf)
  · have hk : ¬ k < 2 := by assumption
    refine Side.mk (by show s ≤ k ↔ folP s k; rw [folP, if_neg hk]; exact ⟨fun x => ⟨h, x⟩, fun x => x.2⟩) ?_
    repeat' (first | (with_reducible refine Unf.h ?_) | ((conv => whnf); first | (refine Side.mk ?_ ?_; focus (with_reducible rfl)) | exact rfl) | fail); all_goals try (conv => whnf)
  · have hk : ¬ k < 2 := by assumption
    refine Side.mk (by show false = true ↔ folP s k; rw [folP, if_neg hk]; exact ⟨fun x => (by cases x), fun x => absurd x.1 h⟩) ?_
    repeat' (first | (with_reducible refine Unf.h ?_) | ((conv => whnf); first | (refine Side.mk ?_ ?_; focus (with_reducible rfl)) | exact rfl) | fail); all_goals try (conv => whnf)
end Go.Proofs.YtepongfhnammkaaDoor

namespace Go.Proofs.YtepongfhnammkaaDoor
set_option linter.all false
open Go.RowKit
/-! the reader: epoch -/
theorem allM3' {a b c : Int} : allM [a, b, c] ↔ mayM a ∧ mayM b ∧ mayM c := by simp [allM]
/-- a reader whose rows bear other names -/
abbrev rdN (n1 n2 n3 n4 : Nat) (r : Rep) (s : Int) : List Ob := [(0, .box 63 [.int .i64 r.tick, .int .i64 r.frames, .own n1, .own n2, .own n3, .own n4, .int .i64 s]), (n1, .row 54 2 eEp r.eps), (n2, .row 56 2 eRp r.reps), (n3, .row 42 4 eUp r.upds), (n4, .row 44 4 eUp r.looks)]
abbrev addE (r : Rep) (p : Int × Int) : Rep := { r with eps := r.eps ++ [p] }
abbrev epLn (r : Rep) (p : Int × Int) (ws : List B8) : Prop := (r.eps.length < 1000 ∧ mayM p.1 ∧ mayM p.2) ∧ [decR ((r.eps.length : Int) + 1), decR p.1, decR p.2] = ws
theorem decR_inj {a b : Int} (ha : mayM a) (hb : mayM b) (h : decR a = decR b) : a = b := by
  have h1 : a.toNat = b.toNat := by rw [← valD_digN a.toNat, ← valD_digN b.toNat]; exact congrArg valD h
  have := ha.1; have := hb.1; omega
theorem decs_inj : ∀ {a b : List Int}, allM a → allM b → a.map decR = b.map decR → a = b
  | [], [], _, _, _ => rfl
  | [], _ :: _, _, _, h => by simp at h
  | _ :: _, [], _, _, h => by simp at h
  | x :: a, y :: b, h1, h2, h => by
    simp only [List.map_cons, List.cons.injEq] at h
    rw [decR_inj (h1 x (by simp)) (h2 y (by simp)) h.1, decs_inj (fun n hn => h1 n (by simp [hn])) (fun n hn => h2 n (by simp [hn])) h.2]
theorem ep_may {r : Rep} {p : Int × Int} (h : r.eps.length < 1000 ∧ mayM p.1 ∧ mayM p.2) : allM [(r.eps.length : Int) + 1, p.1, p.2] := allM3'.2 ⟨⟨by omega, by omega⟩, h.2.1, h.2.2⟩
theorem ep_is {r : Rep} {ns : List Int} {ws : List B8} (h1 : allM ns) (h2 : ns.map decR = ws) {p : Int × Int} (h : epLn r p ws) : ns = [(r.eps.length : Int) + 1, p.1, p.2] :=
  decs_inj h1 (ep_may h.1) (h2.trans h.2.symm)
def repo_c : Ctr where
  D := Rep × Int × List B8
  pre := fun (r, _, ws) => nums_c.pre ws ∧ r.eps.length ≤ 1000
  args := fun (_, _, ws) => [.ptr 0 0, .fs 1 eStr ws]
  objs := fun (r, s, _) => rdO r s
  nn := 5
  E := Option (Int × Int)
  post := fun (r, _, ws) e => match e with
    | some p => epLn r p ws
    | none => ∀ p, ¬ epLn r p ws
  res := fun _ e => .bool e.isSome
  out := fun (r, s, _) e => match e with
    | some p => rdN 5 2 3 4 (addE r p) s
    | none => rdO r s
  mm := 1
def repo_H : Cfg := ⟨[(63, nums_c)], [(2, [10, 15, 23], [], (.one 0 0 false (.one 1 0 false (.one 2 0 false (.one 3 0 false (.one 4 0 false (.one 5 0 false (.one 6 0 false (.one 7 0 false (.one 8 0 false (.one 9 0 false (.one 10 1 false (.one 11 0 false (.one 12 0 false (.one 13 0 false (.one 14 0 false (.one 15 1 false (.one 16 0 false (.one 17 0 false (.one 18 0 false (.one 19 0 false (.one 20 0 false (.one 21 0 false (.one 22 0 false (.one 23 1 false (.one 24 0 false (.one 25 0 false .nil)))))))))))))))))))))))))), []), (4, [5, 8, 11], [13, 14, 18], (.one 0 0 false (.one 1 0 false (.one 2 0 false (.one 3 0 false (.one 4 0 false (.one 5 1 false (.one 6 0 false (.one 7 0 false (.one 8 1 false (.one 9 0 false (.one 10 0 false (.one 11 1 false (.one 12 0 false (.one 13 2 true (.one 14 2 false (.one 15 0 false (.one 16 0 false (.one 17 0 false (.one 18 2 false .nil))))))))))))))))))), [])], [], [], 56, 5, [], [], []⟩
theorem repo_ok : repo_c.Ok Tryd.prog 48 := by
  refine fn_ok repo_H 5 rfl _ Tryd.func48 rfl rfl ⟨nums_ok, trivial⟩ rfl rfl (by kernel_rfl) (fun _ => Nat.le_of_ble_eq_true rfl) ?_
  rintro ⟨r, s, ws⟩ ⟨hp, hl⟩ hr
  try dsimp only [repo_c] at hp
  try simp only [repo_c, Rng, RngL, inR, and_true, true_and] at hr
  repeat' (first | (with_reducible refine Unf.h ?_) | fail); all_goals try (conv => whnf)
  first | refine CallS.mk (c := nums_c) (ws) ?_ | refine Or2.l (CallS.mk (c := nums_c) (ws) ?_) | refine Or2.r (CallS.mk (c := nums_c) (ws) ?_)
  repeat (first | (with_reducible refine Unf.h ?_) | ((conv => whnf); first | (refine Side.mk ?_ ?_; focus (first | with_reducible rfl | assumption | exact True.intro | rfl)) | (with_reducible refine Unf.h ?_)))
  conv => whnf
  refine Got.mk (fun e he => ?_)
  obtain ⟨ns, ok⟩ := e
  have he2 : nsPost ws (ns, ok) := he
  clear he
  cases ok with
  | false =>
    repeat' (first | (with_reducible refine Unf.h ?_) | ((conv => whnf); first | (with_reducible refine Unf.h ?_) | refine retK_r ?_) | fail); all_goals try (conv => whnf)
    exact RetE.mk (none : Option (Int × Int)) (fun p h => (he2.2 rfl).2 _ (ep_may h.1) h.2) (by repeat' (first | (with_reducible refine Unf.h ?_) | ((conv => whnf); first | (refine Side.mk ?_ ?_; focus (first | with_reducible rfl | (simp [*]; done))) | exact rfl) | fail); all_goals try (conv => whnf))
  | true =>
    obtain ⟨h1, h2⟩ := he2.1 rfl
    dsimp only at h1 h2
    clear he2
    have his := fun p (h : epLn r p ws) => ep_is h1 h2 h
    repeat' (first | (with_reducible refine Unf.h ?_) | ((conv => whnf); first | refine Fork.mkn (fun h => ?_) (fun h => ?_) | refine Fork.mk (fun h => ?_) (fun h => ?_) | (refine Side.mk ?_ ?_; focus ((intros; (try simp only [lenS, inR, cutS, loI, hiI] at *); omega))) | (refine Idx.mk ?_ ?_; focus (omega)) | (with_reducible refine Unf.h ?_) | refine retK_r ?_) | fail); all_goals try (conv => whnf)
    · exact RetE.mk (none : Option (Int × Int)) (fun p hh => by have e := his p hh; subst e; exact h rfl) (by repeat' (first | (with_reducible refine Unf.h ?_) | ((conv => whnf); first | (refine Side.mk ?_ ?_; focus (first | with_reducible rfl | (simp [*]; done))) | exact rfl) | fail); all_goals try (conv => whnf))
    · exact RetE.mk (none : Option (Int × Int)) (fun p hh => by have e := his p hh; subst e; exact h rfl) (by repeat' (first | (with_reducible refine Unf.h ?_) | ((conv => whnf); first | (refine Side.mk ?_ ?_; focus (first | with_reducible rfl | (simp [*]; done))) | exact rfl) | fail); all_goals try (conv => whnf))
    · exact RetE.mk (none : Option (Int × Int)) (fun p hh => by have e := his p hh; subst e; have := hh.1.1; simp at h; omega) (by repeat' (first | (with_reducible refine Unf.h ?_) | ((conv => whnf); first | (refine Side.mk ?_ ?_; focus (first | with_reducible rfl | (simp [*]; done))) | exact rfl) | fail); all_goals try (conv => whnf))
    · rename_i c1 c2
      obtain ⟨x, a, b, rfl⟩ : ∃ x a b, ns = [x, a, b] := by
        match ns, c1 with
        | [x, a, b], _ => exact ⟨x, a, b, rfl⟩
      have c2 : x = (r.eps.length : Int) + 1 := c2
      have c3 : ¬ (1000 : Int) < x := h
      clear his
      obtain ⟨hx, ha, hb⟩ := allM3'.1 h1
      refine Ex.mk [(a, b)] rfl ?_
      repeat' (first | (with_reducible refine Unf.h ?_) | ((conv => whnf); first | (refine Side.mk ?_ ?_; focus ((intros; (try simp only [lenS, inR, cutS, loI, hiI] at *); omega))) | refine retK_r ?_) | fail); all_goals try (conv => whnf)
      exact RetE.mk (some (a, b)) ⟨⟨by omega, ha, hb⟩, by rw [← h2, c2]; rfl⟩ (by repeat' (first | (with_reducible refine Unf.h ?_) | ((conv => whnf); first | (refine Side.mk ?_ ?_; focus (first | with_reducible rfl | (simp [*]; done))) | exact rfl) | fail); all_goals try (conv => whnf))
end Go.Proofs.YtepongfhnammkaaDoor

namespace Go.Proofs.YtepongfhnammkaaDoor
set_option linter.all false
open Go.RowKit
/-! the reader: head -/
abbrev hdR (r : Rep) (b : Bool) (n : Int) : Rep := match b with | false => { r with tick := n } | true => { r with frames := n }
theorem one_el {ns : List Int} (h : ((ns.length : Nat) : Int) = 1) : ∃ n, ns = [n] := by
  match ns, h with
  | [n], _ => exact ⟨n, rfl⟩
  | [], h => simp at h
  | _ :: _ :: _, h => simp at h; omega
def rhd_c : Ctr where
  D := Rep × Int × Bool × List B8
  pre := fun (_, _, _, ws) => nums_c.pre ws
  args := fun (_, _, b, ws) => [.ptr 0 0, (match b with | false => .int .i64 0 | true => .int .i64 1), .fs 1 eStr ws]
  objs := fun (r, s, _, _) => rdO r s
  nn := 5
  E := Option Int
  post := fun (_, _, _, ws) e => match e with
    | some n => mayM n ∧ [decR n] = ws
    | none => ∀ n, mayM n → [decR n] ≠ ws
  res := fun _ e => .bool e.isSome
  out := fun (r, s, b, _) e => match e with
    | some n => rdO (hdR r b n) s
    | none => rdO r s
def rhd_H : Cfg := ⟨[(63, nums_c)], [], [], [], 37, 5, [], [], []⟩
theorem rhd_ok : rhd_c.Ok Tryd.prog 47 := by
  refine fn_ok rhd_H 5 rfl _ Tryd.func47 rfl rfl ⟨nums_ok, trivial⟩ rfl rfl (by kernel_rfl) (fun _ => Nat.le_of_ble_eq_true rfl) ?_
  rintro ⟨r, s, b, ws⟩ hp hr
  try dsimp only [rhd_c] at hp
  try simp only [rhd_c, Rng, RngL, inR, and_true, true_and] at hr
  have hno : ∀ ns : List Int, allM ns → ns.map decR = ws → ns.length ≠ 1 → rhd_c.post (r, s, b, ws) (none : Option Int) := fun ns h1 h2 h3 n hn e => h3 (by
    rw [← h2] at e
    have := congrArg List.length e
    simpa using this.symm)
  cases b with
  | false =>
    repeat' (first | (with_reducible refine Unf.h ?_) | fail); all_goals try (conv => whnf)
    first | refine CallS.mk (c := nums_c) (ws) ?_ | refine Or2.l (CallS.mk (c := nums_c) (ws) ?_) | refine Or2.r (CallS.mk (c := nums_c) (ws) ?_)
    repeat (first | (with_reducible refine Unf.h ?_) | ((conv => whnf); first | (refine Side.mk ?_ ?_; focus (first | with_reducible rfl | assumption | exact True.intro | rfl)) | (with_reducible refine Unf.h ?_)))
    conv => whnf
    refine Got.mk (fun e he => ?_)
    obtain ⟨ns, ok⟩ := e
    have he2 : nsPost ws (ns, ok) := he
    clear he
    cases ok with
    | false =>
      repeat' (first | (with_reducible refine Unf.h ?_) | ((conv => whnf); first | (with_reducible refine Unf.h ?_) | refine retK_r ?_) | fail); all_goals try (conv => whnf)
      exact RetE.mk (none : Option Int) (fun n hn e => (he2.2 rfl).2 [n] (fun m hm => by rw [List.mem_singleton.1 hm]; exact hn) e) (by repeat' (first | (with_reducible refine Unf.h ?_) | ((conv => whnf); first | (refine Side.mk ?_ ?_; focus (first | with_reducible rfl | (simp [*]; done))) | exact rfl) | fail); all_goals try (conv => whnf))
    | true =>
      obtain ⟨h1, h2⟩ := he2.1 rfl
      dsimp only at h1 h2
      clear he2
      repeat' (first | (with_reducible refine Unf.h ?_) | ((conv => whnf); first | refine Fork.mkn (fun h => ?_) (fun h => ?_) | refine Fork.mk (fun h => ?_) (fun h => ?_) | (refine Idx.mk ?_ ?_; focus (omega)) | (with_reducible refine Unf.h ?_) | refine retK_r ?_) | fail); all_goals try (conv => whnf)
      · exact RetE.mk (none : Option Int) (hno ns h1 h2 (fun e => h (show ((ns.length : Nat) : Int) = 1 by omega))) (by repeat' (first | (with_reducible refine Unf.h ?_) | ((conv => whnf); first | (refine Side.mk ?_ ?_; focus (first | with_reducible rfl | (simp [*]; done))) | exact rfl) | fail); all_goals try (conv => whnf))
      all_goals first
        | exact absurd rfl (by assumption)
        | exact absurd (show (1 : Int) = 0 by assumption) (by decide)
        | skip
      · rename_i c
        obtain ⟨n, rfl⟩ := one_el c
        exact RetE.mk (some n) ⟨h1 n (by simp), h2⟩ (by repeat' (first | (with_reducible refine Unf.h ?_) | ((conv => whnf); first | (refine Side.mk ?_ ?_; focus (first | with_reducible rfl | exact dT (by omega) | (simp [*]; done))) | exact rfl) | fail); all_goals try (conv => whnf))
  | true =>
    repeat' (first | (with_reducible refine Unf.h ?_) | fail); all_goals try (conv => whnf)
    first | refine CallS.mk (c := nums_c) (ws) ?_ | refine Or2.l (CallS.mk (c := nums_c) (ws) ?_) | refine Or2.r (CallS.mk (c := nums_c) (ws) ?_)
    repeat (first | (with_reducible refine Unf.h ?_) | ((conv => whnf); first | (refine Side.mk ?_ ?_; focus (first | with_reducible rfl | assumption | exact True.intro | rfl)) | (with_reducible refine Unf.h ?_)))
    conv => whnf
    refine Got.mk (fun e he => ?_)
    obtain ⟨ns, ok⟩ := e
    have he2 : nsPost ws (ns, ok) := he
    clear he
    cases ok with
    | false =>
      repeat' (first | (with_reducible refine Unf.h ?_) | ((conv => whnf); first | (with_reducible refine Unf.h ?_) | refine retK_r ?_) | fail); all_goals try (conv => whnf)
      exact RetE.mk (none : Option Int) (fun n hn e => (he2.2 rfl).2 [n] (fun m hm => by rw [List.mem_singleton.1 hm]; exact hn) e) (by repeat' (first | (with_reducible refine Unf.h ?_) | ((conv => whnf); first | (refine Side.mk ?_ ?_; focus (first | with_reducible rfl | (simp [*]; done))) | exact rfl) | fail); all_goals try (conv => whnf))
    | true =>
      obtain ⟨h1, h2⟩ := he2.1 rfl
      dsimp only at h1 h2
      clear he2
      repeat' (first | (with_reducible refine Unf.h ?_) | ((conv => whnf); first | refine Fork.mkn (fun h => ?_) (fun h => ?_) | refine Fork.mk (fun h => ?_) (fun h => ?_) | (refine Idx.mk ?_ ?_; focus (omega)) | (with_reducible refine Unf.h ?_) | refine retK_r ?_) | fail); all_goals try (conv => whnf)
      · exact RetE.mk (none : Option Int) (hno ns h1 h2 (fun e => h (show ((ns.length : Nat) : Int) = 1 by omega))) (by repeat' (first | (with_reducible refine Unf.h ?_) | ((conv => whnf); first | (refine Side.mk ?_ ?_; focus (first | with_reducible rfl | (simp [*]; done))) | exact rfl) | fail); all_goals try (conv => whnf))
      all_goals first
        | exact absurd rfl (by assumption)
        | exact absurd (show (1 : Int) = 0 by assumption) (by decide)
        | skip
      · rename_i c
        obtain ⟨n, rfl⟩ := one_el c
        exact RetE.mk (some n) ⟨h1 n (by simp), h2⟩ (by repeat' (first | (with_reducible refine Unf.h ?_) | ((conv => whnf); first | (refine Side.mk ?_ ?_; focus (first | with_reducible rfl | exact dT (by omega) | (simp [*]; done))) | exact rfl) | fail); all_goals try (conv => whnf))
end Go.Proofs.YtepongfhnammkaaDoor

namespace Go.Proofs.YtepongfhnammkaaDoor
set_option linter.all false
open Go.RowKit
/-! the reader: replica -/
abbrev addR (r : Rep) (p : Bool × Int) : Rep := { r with reps := r.reps ++ [p] }
abbrev rpWord (p : Bool × Int) : B8 := match p.1 with | true => goneW | false => decR p.2
abbrev rpLn (r : Rep) (p : Bool × Int) (ws : List B8) : Prop := (r.reps.length < 1000 ∧ rpOk p) ∧ [decR (r.reps.length : Int), rpWord p] = ws
theorem decR_gone {n : Int} : decR n ≠ goneW := fun e => by
  have h : (103#8) ∈ decR n := by rw [e]; decide
  have := (digN_isD _ _ h).2
  exact absurd this (by decide)
def rre_c : Ctr where
  D := Rep × Int × List B8
  pre := fun (r, _, ws) => nums_c.pre ws ∧ r.reps.length ≤ 1000
  args := fun (_, _, ws) => [.ptr 0 0, .fs 1 eStr ws]
  objs := fun (r, s, _) => rdO r s
  nn := 5
  E := Option (Bool × Int) × Rep
  post := fun (r, _, ws) e => match e.1 with
    | some p => rpLn r p ws ∧ e.2 = addR r p
    | none => ∀ p, ¬ rpLn r p ws
  res := fun _ e => .bool e.1.isSome
  out := fun (_, s, _) e => rdN 1 5 3 4 e.2 s
  mm := 1
def rre_H : Cfg := ⟨[(64, nmb_c)], [(9, [5, 6], [7, 8, 12], (.one 0 0 false (.one 1 0 false (.one 2 0 false (.one 3 0 false (.one 4 0 false (.one 5 1 false (.one 6 1 false (.one 7 2 true (.one 8 2 false (.one 9 0 false (.one 10 0 false (.one 11 0 false (.one 12 2 false .nil))))))))))))), [])], [], [], 63, 5, [], [6], []⟩
theorem rre_ok : rre_c.Ok Tryd.prog 49 := by
  refine fn_ok rre_H 5 rfl _ Tryd.func49 rfl rfl ⟨nmb_ok, trivial⟩ rfl rfl (by kernel_rfl) (fun _ => Nat.le_of_ble_eq_true rfl) ?_
  rintro ⟨r, s, ws⟩ ⟨hp, hl⟩ hr
  try dsimp only [rre_c] at hp
  try simp only [rre_c, Rng, RngL, inR, and_true, true_and] at hr
  have hnl : ∀ p, rpLn r p ws → ws.length = 2 := fun p h => by rw [← h.2]; rfl
  repeat' (first | (with_reducible refine Unf.h ?_) | ((conv => whnf); first | refine Fork.mkn (fun h => ?_) (fun h => ?_) | (refine Idx.mk ?_ ?_; focus (omega)) | refine retK_r ?_) | fail); all_goals try (conv => whnf)
  · exact RetE.mk ((none, r) : Option (Bool × Int) × Rep) (fun p hh => h (by have := hnl p hh; omega)) (by repeat' (first | (with_reducible refine Unf.h ?_) | ((conv => whnf); first | (refine Side.mk ?_ ?_; focus (first | with_reducible rfl | (simp [*]; done))) | exact rfl) | fail); all_goals try (conv => whnf))
  have h2 : ws.length = 2 := by omega
  obtain ⟨u, v, rfl⟩ : ∃ u v, ws = [u, v] := by
    match ws, h2 with
    | [u, v], _ => exact ⟨u, v, rfl⟩
  clear hnl h2
  have hpu : nmb_c.pre u := hp.2 u (by simp)
  have hpv : nmb_c.pre v := hp.2 v (by simp)
  all_goals try (conv => whnf)
  first | refine CallS.mk (c := nmb_c) (u) ?_ | refine Or2.l (CallS.mk (c := nmb_c) (u) ?_) | refine Or2.r (CallS.mk (c := nmb_c) (u) ?_)
  repeat (first | (with_reducible refine Unf.h ?_) | ((conv => whnf); first | (refine Side.mk ?_ ?_; focus (first | with_reducible rfl | assumption | exact True.intro | rfl)) | (with_reducible refine Unf.h ?_)))
  conv => whnf
  refine Got.mk (fun e he => ?_)
  obtain ⟨n, ok⟩ := e
  have he2 : nmPost u (n, ok) := he
  clear he
  cases ok with
  | false =>
    repeat' (first | (with_reducible refine Unf.h ?_) | ((conv => whnf); first | (with_reducible refine Unf.h ?_) | refine retK_r ?_) | fail); all_goals try (conv => whnf)
    exact RetE.mk ((none, r) : Option (Bool × Int) × Rep) (fun p hh => (he2.2 rfl) (r.reps.length : Int) ⟨by omega, by have := hh.1.1; omega⟩ (by have := hh.2; simp only [List.cons.injEq] at this; exact this.1)) (by repeat' (first | (with_reducible refine Unf.h ?_) | ((conv => whnf); first | (refine Side.mk ?_ ?_; focus (first | with_reducible rfl | (simp [*]; done))) | exact rfl) | fail); all_goals try (conv => whnf))
  | true =>
    obtain ⟨h1, h2⟩ := he2.1 rfl
    dsimp only at h1 h2
    clear he2
    have hat : ∀ p, rpLn r p [u, v] → n = (r.reps.length : Int) := fun p hh => decR_inj h1 ⟨by omega, by have := hh.1.1; omega⟩ (by have := hh.2; simp only [List.cons.injEq] at this; rw [h2, this.1])
    repeat' (first | (with_reducible refine Unf.h ?_) | ((conv => whnf); first | refine Fork.mkn (fun h => ?_) (fun h => ?_) | refine Fork.mk (fun h => ?_) (fun h => ?_) | (with_reducible refine Unf.h ?_) | refine retK_r ?_) | fail); all_goals try (conv => whnf)
    · exact RetE.mk ((none, r) : Option (Bool × Int) × Rep) (fun p hh => h (hat p hh)) (by repeat' (first | (with_reducible refine Unf.h ?_) | ((conv => whnf); first | (refine Side.mk ?_ ?_; focus (first | with_reducible rfl | (simp [*]; done))) | exact rfl) | fail); all_goals try (conv => whnf))
    · have c2 : (1000 : Int) ≤ n := h
      exact RetE.mk ((none, r) : Option (Bool × Int) × Rep) (fun p hh => by have := hat p hh; have := hh.1.1; omega) (by repeat' (first | (with_reducible refine Unf.h ?_) | ((conv => whnf); first | (refine Side.mk ?_ ?_; focus (first | with_reducible rfl | (simp [*]; done))) | exact rfl) | fail); all_goals try (conv => whnf))
    · rename_i c1
      have c1 : n = (r.reps.length : Int) := c1
      have c2 : ¬ (1000 : Int) ≤ n := h
      clear hat
      refine CutS.auto (I := Bool) (fun b => b = decide (v = goneW)) (fun _ => [(7, .ptr 5 0)]) (fun b => (5, .box 56 [.bool b, .int .i64 0]) :: rdO r s) 6 ?_ ?_
      · repeat' (first | (with_reducible first | refine Unf.h ?_ | refine cutK_n ?_) | ((conv => whnf); (refine Idx.mk ?_ ?_; focus (omega))) | fail); all_goals try (conv => whnf)
        refine ⟨_, rfl, ?_⟩
        repeat' (first | (with_reducible refine Unf.h ?_) | ((conv => whnf); first | (refine Side.mk ?_ ?_; focus (with_reducible rfl)) | (with_reducible refine Unf.h ?_)) | fail); all_goals try (conv => whnf)
        refine Side.mk rfl ?_
        repeat' (first | (with_reducible refine Unf.h ?_) | ((conv => whnf); first | (refine Side.mk ?_ ?_; focus (with_reducible rfl)) | exact True.intro) | fail); all_goals try (conv => whnf)
      · rintro b hb
        cases b with
        | true =>
          have hg : v = goneW := of_decide_eq_true hb.symm
          clear hb
          repeat' (first | (with_reducible refine Unf.h ?_) | fail); all_goals try (conv => whnf)
          refine Ex.mk [((true, 0) : Bool × Int)] rfl ?_
          repeat' (first | (with_reducible refine Unf.h ?_) | ((conv => whnf); first | (refine Side.mk ?_ ?_; focus ((intros; (try simp only [lenS, inR, cutS, loI, hiI] at *); omega))) | refine retK_r ?_) | fail); all_goals try (conv => whnf)
          exact RetE.mk ((some (true, 0), addR r (true, 0)) : Option (Bool × Int) × Rep) ⟨⟨⟨by omega, ⟨by decide, by decide⟩, fun _ => rfl⟩, by rw [← c1, h2, hg]⟩, rfl⟩ (by repeat' (first | (with_reducible refine Unf.h ?_) | ((conv => whnf); first | (refine Side.mk ?_ ?_; focus (first | with_reducible rfl | (simp [*]; done))) | exact rfl) | fail); all_goals try (conv => whnf))
        | false =>
          have hg : v ≠ goneW := of_decide_eq_false hb.symm
          clear hb
          repeat' (first | (with_reducible refine Unf.h ?_) | ((conv => whnf); (refine Idx.mk ?_ ?_; focus (omega))) | fail); all_goals try (conv => whnf)
          first | refine CallS.mk (c := nmb_c) (v) ?_ | refine Or2.l (CallS.mk (c := nmb_c) (v) ?_) | refine Or2.r (CallS.mk (c := nmb_c) (v) ?_)
          repeat (first | (with_reducible refine Unf.h ?_) | ((conv => whnf); first | (refine Side.mk ?_ ?_; focus (first | with_reducible rfl | assumption | exact True.intro | rfl)) | (with_reducible refine Unf.h ?_)))
          conv => whnf
          refine Got.mk (fun e he => ?_)
          obtain ⟨m, ok⟩ := e
          have he2 : nmPost v (m, ok) := he
          clear he
          cases ok with
          | false =>
            repeat' (first | (with_reducible refine Unf.h ?_) | ((conv => whnf); (with_reducible refine Unf.h ?_)) | fail); all_goals try (conv => whnf)
            refine Ex.mk [((false, m) : Bool × Int)] rfl ?_
            repeat' (first | (with_reducible refine Unf.h ?_) | ((conv => whnf); first | (refine Side.mk ?_ ?_; focus ((intros; (try simp only [lenS, inR, cutS, loI, hiI] at *); omega))) | refine retK_r ?_) | fail); all_goals try (conv => whnf)
            refine RetE.mk ((none, addR r (false, m)) : Option (Bool × Int) × Rep) (fun p hh => ?_) (by repeat' (first | (with_reducible refine Unf.h ?_) | ((conv => whnf); first | (refine Side.mk ?_ ?_; focus (first | with_reducible rfl | (simp [*]; done))) | exact rfl) | fail); all_goals try (conv => whnf))
            obtain ⟨g, q⟩ := p
            have hh2 := hh.2
            simp only [List.cons.injEq, and_true] at hh2
            cases g with
            | true => exact hg hh2.2.symm
            | false => exact he2.2 rfl _ hh.1.2.1 hh2.2
          | true =>
            obtain ⟨h3, h4⟩ := he2.1 rfl
            dsimp only at h3 h4
            clear he2
            repeat' (first | (with_reducible refine Unf.h ?_) | ((conv => whnf); (with_reducible refine Unf.h ?_)) | fail); all_goals try (conv => whnf)
            refine Ex.mk [((false, m) : Bool × Int)] rfl ?_
            repeat' (first | (with_reducible refine Unf.h ?_) | ((conv => whnf); first | (refine Side.mk ?_ ?_; focus ((intros; (try simp only [lenS, inR, cutS, loI, hiI] at *); omega))) | refine retK_r ?_) | fail); all_goals try (conv => whnf)
            exact RetE.mk ((some (false, m), addR r (false, m)) : Option (Bool × Int) × Rep) ⟨⟨⟨by omega, h3, fun h => by cases h⟩, by rw [← c1, h2, ← h4]⟩, rfl⟩ (by repeat' (first | (with_reducible refine Unf.h ?_) | ((conv => whnf); first | (refine Side.mk ?_ ?_; focus (first | with_reducible rfl | (simp [*]; done))) | exact rfl) | fail); all_goals try (conv => whnf))
end Go.Proofs.YtepongfhnammkaaDoor

namespace Go.Proofs.YtepongfhnammkaaDoor
set_option linter.all false
open Go.RowKit
/-! the reader: named -/
abbrev upsOf (r : Rep) (b : Bool) : List Upd := match b with | false => r.upds | true => r.looks
abbrev addU (r : Rep) (b : Bool) (u : Upd) : Rep := match b with | false => { r with upds := r.upds ++ [u] } | true => { r with looks := r.looks ++ [u] }
abbrev upLn (l : List Upd) (u : Upd) (ws : List B8) : Prop := (l.length < 1000 ∧ upOk u) ∧ [decR u.client, decR u.seq, decR u.epoch, bytesS u.label] = ws
abbrev rdU (b : Bool) (r : Rep) (s : Int) : List Ob := match b with | false => rdN 1 2 5 4 r s | true => rdN 1 2 3 5 r s
def rnm_c : Ctr where
  D := Rep × Int × Bool × List B8
  pre := fun (r, _, b, ws) => nums_c.pre ws ∧ (upsOf r b).length ≤ 1000
  args := fun (_, _, b, ws) => [.ptr 0 0, (match b with | false => .int .i64 4 | true => .int .i64 5), .fs 1 eStr ws]
  objs := fun (r, s, _, _) => rdO r s
  nn := 5
  E := Option Upd × Rep
  post := fun (r, _, b, ws) e => match e.1 with
    | some u => upLn (upsOf r b) u ws ∧ e.2 = addU r b u
    | none => ∀ u, ¬ upLn (upsOf r b) u ws
  res := fun _ e => .bool e.1.isSome
  out := fun (_, s, b, _) e => rdU b e.2 s
  mm := 1
theorem u_three {l : List Upd} {u : Upd} {a b c d : B8} {ns : List Int} (h1 : allM ns) (h2 : ns.map decR = [a, b, c]) (h : upLn l u [a, b, c, d]) : ns = [u.client, u.seq, u.epoch] :=
  decs_inj h1 (fun n hn => by
    simp only [List.mem_cons, List.not_mem_nil, or_false] at hn
    rcases hn with rfl | rfl | rfl
    · exact h.1.2.1
    · exact h.1.2.2.1
    · exact h.1.2.2.2.1) (by
    have := h.2
    simp only [List.cons.injEq, and_true] at this
    rw [h2]; simp only [List.map_cons, List.map_nil, this])
theorem u_no {l : List Upd} {u : Upd} {a b c d : B8} (h2 : ∀ ns, allM ns → ns.map decR ≠ [a, b, c]) (h : upLn l u [a, b, c, d]) : False :=
  h2 [u.client, u.seq, u.epoch] (fun n hn => by
    simp only [List.mem_cons, List.not_mem_nil, or_false] at hn
    rcases hn with rfl | rfl | rfl
    · exact h.1.2.1
    · exact h.1.2.2.1
    · exact h.1.2.2.2.1) (by
    have := h.2
    simp only [List.cons.injEq, and_true] at this
    simp only [List.map_cons, List.map_nil, this])
theorem u_lab {l : List Upd} {u : Upd} {a b c d : B8} (h2 : ∀ l, l.length ≤ 100 → bytesS l ≠ d) (h : upLn l u [a, b, c, d]) : False :=
  h2 u.label h.1.2.2.2.2 (by have := h.2; simp only [List.cons.injEq, and_true] at this; exact this.2.2.2)
def rnm_H : Cfg := ⟨[(63, nums_c), (65, lbl_c)], [(8, [5, 8, 11, 14], [17, 18, 22], (.one 0 0 false (.one 1 0 false (.one 2 0 false (.one 3 0 false (.one 4 0 false (.one 5 1 false (.one 6 0 false (.one 7 0 false (.one 8 1 false (.one 9 0 false (.one 10 0 false (.one 11 1 false (.one 12 0 false (.one 13 0 false (.one 14 1 false (.one 15 0 false (.one 16 0 false (.one 17 2 true (.one 18 2 false (.one 19 0 false (.one 20 0 false (.one 21 0 false (.one 22 2 false .nil))))))))))))))))))))))), []), (10, [5, 8, 11, 14], [17, 18, 22], (.one 0 0 false (.one 1 0 false (.one 2 0 false (.one 3 0 false (.one 4 0 false (.one 5 1 false (.one 6 0 false (.one 7 0 false (.one 8 1 false (.one 9 0 false (.one 10 0 false (.one 11 1 false (.one 12 0 false (.one 13 0 false (.one 14 1 false (.one 15 0 false (.one 16 0 false (.one 17 2 true (.one 18 2 false (.one 19 0 false (.one 20 0 false (.one 21 0 false (.one 22 2 false .nil))))))))))))))))))))))), [])], [], [], 93, 5, [], [], []⟩
theorem rnm_ok : rnm_c.Ok Tryd.prog 50 := by
  refine fn_ok rnm_H 5 rfl _ Tryd.func50 rfl rfl ⟨nums_ok, lbl_ok, trivial⟩ rfl rfl (by kernel_rfl) (fun _ => Nat.le_of_ble_eq_true rfl) ?_
  rintro ⟨r, s, b, ws⟩ ⟨hp, hl⟩ hr
  try dsimp only [rnm_c] at hp
  try simp only [rnm_c, Rng, RngL, inR, and_true, true_and] at hr
  have hnl : ∀ u l, upLn l u ws → ws.length = 4 := fun p l h => by rw [← h.2]; rfl
  cases b with
  | false =>
    have hl : r.upds.length ≤ 1000 := hl
    repeat' (first | (with_reducible refine Unf.h ?_) | ((conv => whnf); first | refine Fork.mkn (fun h => ?_) (fun h => ?_) | (refine Side.mk ?_ ?_; focus ((intros; (try simp only [lenS, inR, cutS, loI, hiI] at *); omega))) | refine retK_r ?_) | fail); all_goals try (conv => whnf)
    · exact RetE.mk ((none, r) : Option Upd × Rep) (fun p hh => h (by have := hnl p _ hh; omega)) (by repeat' (first | (with_reducible refine Unf.h ?_) | ((conv => whnf); first | (refine Side.mk ?_ ?_; focus (first | with_reducible rfl | (simp [*]; done))) | exact rfl) | fail); all_goals try (conv => whnf))
    have h2 : ws.length = 4 := by omega
    obtain ⟨u, v, w, x, rfl⟩ : ∃ u v w x, ws = [u, v, w, x] := by
      match ws, h2 with
      | [u, v, w, x], _ => exact ⟨u, v, w, x, rfl⟩
    clear hnl h2
    have hpn : nums_c.pre [u, v, w] := ⟨by simp, fun y hy => hp.2 y (by simp at hy ⊢; rcases hy with h | h | h <;> simp [h])⟩
    have hpx : lbl_c.pre x := hp.2 x (by simp)
    have e3 : cutL [u, v, w, x] none (some 3) = [u, v, w] := rfl
    first | refine CallS.mk (c := nums_c) ([u, v, w]) ?_ | refine Or2.l (CallS.mk (c := nums_c) ([u, v, w]) ?_) | refine Or2.r (CallS.mk (c := nums_c) ([u, v, w]) ?_)
    repeat (first | (with_reducible refine Unf.h ?_) | ((conv => whnf); first | (refine Side.mk ?_ ?_; focus (first | with_reducible rfl | assumption | exact True.intro | rfl)) | (with_reducible refine Unf.h ?_)))
    conv => whnf
    refine Got.mk (fun e he => ?_)
    obtain ⟨ns, ok⟩ := e
    have he2 : nsPost [u, v, w] (ns, ok) := he
    clear he
    repeat' (first | (with_reducible refine Unf.h ?_) | ((conv => whnf); first | (refine Idx.mk ?_ ?_; focus (omega)) | (with_reducible refine Unf.h ?_)) | fail); all_goals try (conv => whnf)
    first | refine CallS.mk (c := lbl_c) (x) ?_ | refine Or2.l (CallS.mk (c := lbl_c) (x) ?_) | refine Or2.r (CallS.mk (c := lbl_c) (x) ?_)
    repeat (first | (with_reducible refine Unf.h ?_) | ((conv => whnf); first | (refine Side.mk ?_ ?_; focus (first | with_reducible rfl | assumption | exact True.intro | rfl)) | (with_reducible refine Unf.h ?_)))
    conv => whnf
    refine Got.mk (fun e he => ?_)
    obtain ⟨lb, ok2⟩ := e
    have he3 : lbPost x (lb, ok2) := he
    clear he
    cases ok with
    | false =>
      repeat' (first | (with_reducible refine Unf.h ?_) | ((conv => whnf); first | (with_reducible refine Unf.h ?_) | refine retK_r ?_) | fail); all_goals try (conv => whnf)
      exact RetE.mk ((none, r) : Option Upd × Rep) (fun p hh => u_no (he2.2 rfl).2 hh) (by repeat' (first | (with_reducible refine Unf.h ?_) | ((conv => whnf); first | (refine Side.mk ?_ ?_; focus (first | with_reducible rfl | (simp [*]; done))) | exact rfl) | fail); all_goals try (conv => whnf))
    | true =>
      cases ok2 with
      | false =>
        repeat' (first | (with_reducible refine Unf.h ?_) | ((conv => whnf); first | (with_reducible refine Unf.h ?_) | refine retK_r ?_) | fail); all_goals try (conv => whnf)
        exact RetE.mk ((none, r) : Option Upd × Rep) (fun p hh => u_lab (he3.2 rfl).2 hh) (by repeat' (first | (with_reducible refine Unf.h ?_) | ((conv => whnf); first | (refine Side.mk ?_ ?_; focus (first | with_reducible rfl | (simp [*]; done))) | exact rfl) | fail); all_goals try (conv => whnf))
      | true =>
        obtain ⟨h1, h2⟩ := he2.1 rfl
        obtain ⟨h3, h4⟩ := he3.1 rfl
        dsimp only at h1 h2 h3 h4
        clear he2 he3
        obtain ⟨a, b, c, rfl⟩ : ∃ a b c, ns = [a, b, c] := by
          match ns, congrArg List.length h2 with
          | [a, b, c], _ => exact ⟨a, b, c, rfl⟩
        have hx : ∀ p, upLn r.upds p [u, v, w, x] → p.client = a ∧ p.seq = b ∧ p.epoch = c := fun p hh => by
          have := u_three h1 h2 hh
          simp only [List.cons.injEq, and_true] at this
          exact ⟨this.1.symm, this.2.1.symm, this.2.2.symm⟩
        have hok : r.upds.length < 1000 → upLn r.upds ⟨a, b, c, lb⟩ [u, v, w, x] := fun hq => ⟨⟨hq, h1 a (by simp), h1 b (by simp), h1 c (by simp), h4⟩, by
          simp only [List.map_cons, List.map_nil, List.cons.injEq, and_true] at h2
          rw [h2.1, h2.2.1, h2.2.2, h3]⟩
        clear hx
        repeat' (first | (with_reducible refine Unf.h ?_) | ((conv => whnf); first | refine Fork.mk (fun h => ?_) (fun h => ?_) | (refine Idx.mk ?_ ?_; focus (first | omega | (simp only [lenS, inR, cutS, loI, hiI]; omega))) | (with_reducible refine Unf.h ?_)) | fail); all_goals try (conv => whnf)
        all_goals first
          | exact absurd rfl (by assumption)
          | exact absurd (show (5 : Int) = 4 by assumption) (by decide)
          | skip
        refine Ex.mk [(⟨a, b, c, lb⟩ : Upd)] rfl ?_
        repeat' (first | (with_reducible refine Unf.h ?_) | ((conv => whnf); first | (refine Side.mk ?_ ?_; focus ((intros; (try simp only [lenS, inR, cutS, loI, hiI] at *); omega))) | refine retK_r ?_) | fail); all_goals try (conv => whnf)
        by_cases hq : r.upds.length < 1000
        · refine RetE.mk ((some ⟨a, b, c, lb⟩, addU r false ⟨a, b, c, lb⟩) : Option Upd × Rep) ⟨hok hq, rfl⟩ ?_
          conv => whnf
          refine Side.mk (decide_eq_true (by rw [List.length_append, List.length_singleton]; omega)) ?_
          repeat' (first | (with_reducible refine Unf.h ?_) | ((conv => whnf); first | (refine Side.mk ?_ ?_; focus (with_reducible rfl)) | exact rfl) | fail); all_goals try (conv => whnf)
        · refine RetE.mk ((none, addU r false ⟨a, b, c, lb⟩) : Option Upd × Rep) (fun p hh => hq hh.1.1) ?_
          conv => whnf
          refine Side.mk (decide_eq_false (by rw [List.length_append, List.length_singleton]; omega)) ?_
          repeat' (first | (with_reducible refine Unf.h ?_) | ((conv => whnf); first | (refine Side.mk ?_ ?_; focus (with_reducible rfl)) | exact rfl) | fail); all_goals try (conv => whnf)
  | true =>
    have hl : r.looks.length ≤ 1000 := hl
    repeat' (first | (with_reducible refine Unf.h ?_) | ((conv => whnf); first | refine Fork.mkn (fun h => ?_) (fun h => ?_) | (refine Side.mk ?_ ?_; focus ((intros; (try simp only [lenS, inR, cutS, loI, hiI] at *); omega))) | refine retK_r ?_) | fail); all_goals try (conv => whnf)
    · exact RetE.mk ((none, r) : Option Upd × Rep) (fun p hh => h (by have := hnl p _ hh; omega)) (by repeat' (first | (with_reducible refine Unf.h ?_) | ((conv => whnf); first | (refine Side.mk ?_ ?_; focus (first | with_reducible rfl | (simp [*]; done))) | exact rfl) | fail); all_goals try (conv => whnf))
    have h2 : ws.length = 4 := by omega
    obtain ⟨u, v, w, x, rfl⟩ : ∃ u v w x, ws = [u, v, w, x] := by
      match ws, h2 with
      | [u, v, w, x], _ => exact ⟨u, v, w, x, rfl⟩
    clear hnl h2
    have hpn : nums_c.pre [u, v, w] := ⟨by simp, fun y hy => hp.2 y (by simp at hy ⊢; rcases hy with h | h | h <;> simp [h])⟩
    have hpx : lbl_c.pre x := hp.2 x (by simp)
    have e3 : cutL [u, v, w, x] none (some 3) = [u, v, w] := rfl
    first | refine CallS.mk (c := nums_c) ([u, v, w]) ?_ | refine Or2.l (CallS.mk (c := nums_c) ([u, v, w]) ?_) | refine Or2.r (CallS.mk (c := nums_c) ([u, v, w]) ?_)
    repeat (first | (with_reducible refine Unf.h ?_) | ((conv => whnf); first | (refine Side.mk ?_ ?_; focus (first | with_reducible rfl | assumption | exact True.intro | rfl)) | (with_reducible refine Unf.h ?_)))
    conv => whnf
    refine Got.mk (fun e he => ?_)
    obtain ⟨ns, ok⟩ := e
    have he2 : nsPost [u, v, w] (ns, ok) := he
    clear he
    repeat' (first | (with_reducible refine Unf.h ?_) | ((conv => whnf); first | (refine Idx.mk ?_ ?_; focus (omega)) | (with_reducible refine Unf.h ?_)) | fail); all_goals try (conv => whnf)
    first | refine CallS.mk (c := lbl_c) (x) ?_ | refine Or2.l (CallS.mk (c := lbl_c) (x) ?_) | refine Or2.r (CallS.mk (c := lbl_c) (x) ?_)
    repeat (first | (with_reducible refine Unf.h ?_) | ((conv => whnf); first | (refine Side.mk ?_ ?_; focus (first | with_reducible rfl | assumption | exact True.intro | rfl)) | (with_reducible refine Unf.h ?_)))
    conv => whnf
    refine Got.mk (fun e he => ?_)
    obtain ⟨lb, ok2⟩ := e
    have he3 : lbPost x (lb, ok2) := he
    clear he
    cases ok with
    | false =>
      repeat' (first | (with_reducible refine Unf.h ?_) | ((conv => whnf); first | (with_reducible refine Unf.h ?_) | refine retK_r ?_) | fail); all_goals try (conv => whnf)
      exact RetE.mk ((none, r) : Option Upd × Rep) (fun p hh => u_no (he2.2 rfl).2 hh) (by repeat' (first | (with_reducible refine Unf.h ?_) | ((conv => whnf); first | (refine Side.mk ?_ ?_; focus (first | with_reducible rfl | (simp [*]; done))) | exact rfl) | fail); all_goals try (conv => whnf))
    | true =>
      cases ok2 with
      | false =>
        repeat' (first | (with_reducible refine Unf.h ?_) | ((conv => whnf); first | (with_reducible refine Unf.h ?_) | refine retK_r ?_) | fail); all_goals try (conv => whnf)
        exact RetE.mk ((none, r) : Option Upd × Rep) (fun p hh => u_lab (he3.2 rfl).2 hh) (by repeat' (first | (with_reducible refine Unf.h ?_) | ((conv => whnf); first | (refine Side.mk ?_ ?_; focus (first | with_reducible rfl | (simp [*]; done))) | exact rfl) | fail); all_goals try (conv => whnf))
      | true =>
        obtain ⟨h1, h2⟩ := he2.1 rfl
        obtain ⟨h3, h4⟩ := he3.1 rfl
        dsimp only at h1 h2 h3 h4
        clear he2 he3
        obtain ⟨a, b, c, rfl⟩ : ∃ a b c, ns = [a, b, c] := by
          match ns, congrArg List.length h2 with
          | [a, b, c], _ => exact ⟨a, b, c, rfl⟩
        have hx : ∀ p, upLn r.looks p [u, v, w, x] → p.client = a ∧ p.seq = b ∧ p.epoch = c := fun p hh => by
          have := u_three h1 h2 hh
          simp only [List.cons.injEq, and_true] at this
          exact ⟨this.1.symm, this.2.1.symm, this.2.2.symm⟩
        have hok : r.looks.length < 1000 → upLn r.looks ⟨a, b, c, lb⟩ [u, v, w, x] := fun hq => ⟨⟨hq, h1 a (by simp), h1 b (by simp), h1 c (by simp), h4⟩, by
          simp only [List.map_cons, List.map_nil, List.cons.injEq, and_true] at h2
          rw [h2.1, h2.2.1, h2.2.2, h3]⟩
        clear hx
        repeat' (first | (with_reducible refine Unf.h ?_) | ((conv => whnf); first | refine Fork.mk (fun h => ?_) (fun h => ?_) | (refine Idx.mk ?_ ?_; focus (first | omega | (simp only [lenS, inR, cutS, loI, hiI]; omega))) | (with_reducible refine Unf.h ?_)) | fail); all_goals try (conv => whnf)
        all_goals first
          | exact absurd rfl (by assumption)
          | exact absurd (show (5 : Int) = 4 by assumption) (by decide)
          | skip
        refine Ex.mk [(⟨a, b, c, lb⟩ : Upd)] rfl ?_
        repeat' (first | (with_reducible refine Unf.h ?_) | ((conv => whnf); first | (refine Side.mk ?_ ?_; focus ((intros; (try simp only [lenS, inR, cutS, loI, hiI] at *); omega))) | refine retK_r ?_) | fail); all_goals try (conv => whnf)
        by_cases hq : r.looks.length < 1000
        · refine RetE.mk ((some ⟨a, b, c, lb⟩, addU r true ⟨a, b, c, lb⟩) : Option Upd × Rep) ⟨hok hq, rfl⟩ ?_
          conv => whnf
          refine Side.mk (decide_eq_true (by rw [List.length_append, List.length_singleton]; omega)) ?_
          repeat' (first | (with_reducible refine Unf.h ?_) | ((conv => whnf); first | (refine Side.mk ?_ ?_; focus (with_reducible rfl)) | exact rfl) | fail); all_goals try (conv => whnf)
        · refine RetE.mk ((none, addU r true ⟨a, b, c, lb⟩) : Option Upd × Rep) (fun p hh => hq hh.1.1) ?_
          conv => whnf
          refine Side.mk (decide_eq_false (by rw [List.length_append, List.length_singleton]; omega)) ?_
          repeat' (first | (with_reducible refine Unf.h ?_) | ((conv => whnf); first | (refine Side.mk ?_ ?_; focus (with_reducible rfl)) | exact rfl) | fail); all_goals try (conv => whnf)
end Go.Proofs.YtepongfhnammkaaDoor

/- plain laws: a report's lines as items; its text, and what is read of it (no program in sight) -/
namespace Go.Proofs.YtepongfhnammkaaDoor
set_option linter.all false
inductive Item
  | tick (n : Int)
  | frames (n : Int)
  | ep (p : Int × Int)
  | rp (p : Bool × Int)
  | up (u : Upd)
  | lk (u : Upd)
abbrev itS : Item → Int
  | .tick _ => 0
  | .frames _ => 1
  | .ep _ => 2
  | .rp _ => 3
  | .up _ => 4
  | .lk _ => 5
abbrev itW (r : Rep) : Item → List B8
  | .tick n => [tickW, decR n]
  | .frames n => [framesW, decR n]
  | .ep p => [epochW, decR ((r.eps.length : Int) + 1), decR p.1, decR p.2]
  | .rp p => [replicaW, decR (r.reps.length : Int), rpWord p]
  | .up u => [updateW, decR u.client, decR u.seq, decR u.epoch, bytesS u.label]
  | .lk u => [lookW, decR u.client, decR u.seq, decR u.epoch, bytesS u.label]
abbrev itOk (r : Rep) : Item → Prop
  | .tick n => mayM n
  | .frames n => mayM n
  | .ep p => r.eps.length < 1000 ∧ epOk p
  | .rp p => r.reps.length < 1000 ∧ rpOk p
  | .up u => r.upds.length < 1000 ∧ upOk u
  | .lk u => r.looks.length < 1000 ∧ upOk u
abbrev itA (r : Rep) : Item → Rep
  | .tick n => { r with tick := n }
  | .frames n => { r with frames := n }
  | .ep p => addE r p
  | .rp p => addR r p
  | .up u => addU r false u
  | .lk u => addU r true u
/-- no space, no line's end -/
abbrev cleanW (w : B8) : Prop := (32#8) ∉ w ∧ (10#8) ∉ w
theorem clean_dec (n : Int) : cleanW (decR n) :=
  ⟨fun h => by have := digN_isD _ _ h; exact absurd this (by decide), fun h => by have := digN_isD _ _ h; exact absurd this (by decide)⟩
theorem clean_lab (l : B8) : cleanW (bytesS l) :=
  ⟨fun h => by rcases bytesS_mem h with h | h <;> exact absurd h (by decide), fun h => by rcases bytesS_mem h with h | h <;> exact absurd h (by decide)⟩
theorem clean_it (r : Rep) (it : Item) : ∀ w ∈ itW r it, cleanW w := by
  intro w hw
  cases it with
  | tick n => simp only [itW, List.mem_cons, List.not_mem_nil, or_false] at hw; rcases hw with rfl | rfl <;> first | decide | exact clean_dec _ | exact clean_lab _
  | frames n => simp only [itW, List.mem_cons, List.not_mem_nil, or_false] at hw; rcases hw with rfl | rfl <;> first | decide | exact clean_dec _ | exact clean_lab _
  | ep p => simp only [itW, List.mem_cons, List.not_mem_nil, or_false] at hw; rcases hw with rfl | rfl | rfl | rfl <;> first | decide | exact clean_dec _ | exact clean_lab _
  | rp p =>
    obtain ⟨g, n⟩ := p
    simp only [itW, List.mem_cons, List.not_mem_nil, or_false] at hw
    rcases hw with rfl | rfl | rfl
    · decide
    · exact clean_dec _
    · cases g
      · exact clean_dec _
      · show cleanW goneW; decide
  | up u => simp only [itW, List.mem_cons, List.not_mem_nil, or_false] at hw; rcases hw with rfl | rfl | rfl | rfl | rfl <;> first | decide | exact clean_dec _ | exact clean_lab _
  | lk u => simp only [itW, List.mem_cons, List.not_mem_nil, or_false] at hw; rcases hw with rfl | rfl | rfl | rfl | rfl <;> first | decide | exact clean_dec _ | exact clean_lab _
theorem hexs_inj : ∀ {a b : B8}, hexs a = hexs b → a = b := by
  have key : ∀ x : Nat, x < 16 → ∀ y : Nat, y < 16 → hx x = hx y → x = y := by decide +kernel
  intro a
  induction a with
  | nil => intro b h; have := congrArg List.length h; rw [hexs_len, hexs_len] at this; exact (List.eq_nil_of_length_eq_zero (by simp only [List.length_nil] at this; omega)).symm
  | cons x r ih =>
    intro b h
    cases b with
    | nil => have := congrArg List.length h; rw [hexs_len, hexs_len] at this; simp at this
    | cons y q =>
      have e : ∀ z (t : B8), hexs (z :: t) = hexB z ++ hexs t := fun z t => by simp [hexs]
      rw [e, e] at h
      obtain ⟨h1, h2⟩ := List.append_inj h rfl
      have hx := x.isLt
      have hy := y.isLt
      simp only [hexB, List.cons.injEq, and_true] at h1
      have h3 := key _ (by omega) _ (by omega) h1.1
      have h4 := key _ (by omega) _ (by omega) h1.2
      have h5 : x.toNat = y.toNat := by omega
      rw [BitVec.eq_of_toNat_eq h5, ih h2]
theorem bytesS_inj {a b : B8} (h : bytesS a = bytesS b) : a = b := by
  unfold bytesS at h
  split at h
  · rename_i ha
    split at h
    · rename_i hb; rw [ha, hb]
    · have := congrArg List.length h; rw [hexs_len] at this; simp at this; omega
  · split at h
    · have := congrArg List.length h; rw [hexs_len] at this; simp at this; omega
    · exact hexs_inj h
theorem rpWord_inj {p q : Bool × Int} (hp : rpOk p) (hq : rpOk q) (h : rpWord p = rpWord q) : p = q := by
  obtain ⟨a, n⟩ := p
  obtain ⟨b, m⟩ := q
  cases a <;> cases b
  · exact congrArg _ (decR_inj hp.1 hq.1 h)
  · exact absurd h decR_gone
  · exact absurd h.symm decR_gone
  · have h1 : n = 0 := hp.2 rfl
    have h2 : m = 0 := hq.2 rfl
    rw [h1, h2]
theorem upd_inj {u v : Upd} (hu : upOk u) (hv : upOk v) (h1 : decR u.client = decR v.client) (h2 : decR u.seq = decR v.seq) (h3 : decR u.epoch = decR v.epoch) (h4 : bytesS u.label = bytesS v.label) : u = v := by
  obtain ⟨a, b, c, d⟩ := u
  obtain ⟨a', b', c', d'⟩ := v
  have e1 := decR_inj hu.1 hv.1 h1
  have e2 := decR_inj hu.2.1 hv.2.1 h2
  have e3 := decR_inj hu.2.2.1 hv.2.2.1 h3
  have e4 := bytesS_inj h4
  dsimp only at e1 e2 e3 e4
  subst e1 e2 e3 e4; rfl
theorem itW_inj {r : Rep} {a b : Item} (ha : itOk r a) (hb : itOk r b) (h : itW r a = itW r b) : a = b := by
  have hd : ∀ {x y : List B8}, x = y → x.head? = y.head? := fun e => by rw [e]
  cases a <;> cases b <;> first
    | (exact absurd (hd h) (by simp only [itW, List.head?_cons, Option.some.injEq]; decide))
    | skip
  all_goals simp only [itW, List.cons.injEq, and_true, true_and] at h
  · rw [decR_inj ha hb h]
  · rw [decR_inj ha hb h]
  · rename_i p q
    obtain ⟨a, b⟩ := p
    obtain ⟨c, d⟩ := q
    have e1 := decR_inj ha.2.1 hb.2.1 h.1
    have e2 := decR_inj ha.2.2 hb.2.2 h.2
    dsimp only at e1 e2
    rw [e1, e2]
  · rw [rpWord_inj ha.2 hb.2 h]
  · rw [upd_inj ha.2 hb.2 h.1 h.2.1 h.2.2.1 h.2.2.2]
  · rw [upd_inj ha.2 hb.2 h.1 h.2.1 h.2.2.1 h.2.2.2]
abbrev itT (r : Rep) (it : Item) : B8 := joinS [32#8] (itW r it) ++ [10#8]
/-- a text that is read, from a state to another -/
inductive Pth : Rep → Int → B8 → Rep → Int → Prop
  | nil {r : Rep} {s : Int} : Pth r s [] r s
  | cons {r r' : Rep} {s s' : Int} {t : B8} (it : Item) (hf : folP s (itS it)) (ho : itOk r it) (h : Pth (itA r it) (itS it) t r' s') : Pth r s (itT r it ++ t) r' s'
theorem Pth.app {r r' r'' : Rep} {s s' s'' : Int} {t u : B8} (h : Pth r s t r' s') (k : Pth r' s' u r'' s'') : Pth r s (t ++ u) r'' s'' := by
  induction h with
  | nil => exact k
  | cons it hf ho _ ih => rw [List.append_assoc]; exact .cons it hf ho (ih k)
theorem Pth.one {r : Rep} {s : Int} (it : Item) (hf : folP s (itS it)) (ho : itOk r it) : Pth r s (itT r it) (itA r it) (itS it) := by
  have := Pth.cons it hf ho .nil
  rw [List.append_nil] at this; exact this
theorem itW_ne (r : Rep) (it : Item) : ∃ x q, itW r it = x :: q := by cases it <;> exact ⟨_, _, rfl⟩
theorem joinS_mem {c : BitVec 8} {sep : B8} : ∀ {l : List B8}, c ∈ joinS sep l → c ∈ sep ∨ ∃ w ∈ l, c ∈ w := by
  intro l h
  cases l with
  | nil => exact absurd h List.not_mem_nil
  | cons x r =>
    simp only [joinS, List.mem_append, List.mem_flatten, List.mem_map] at h
    rcases h with h | ⟨y, ⟨w, hw, rfl⟩, h⟩
    · exact .inr ⟨x, by simp, h⟩
    · rcases List.mem_append.1 h with h | h
      · exact .inl h
      · exact .inr ⟨w, by simp [hw], h⟩
theorem itT_cut (r : Rep) (it : Item) (t : B8) : cutAt (10#8) (itT r it ++ t) = (joinS [32#8] (itW r it), t) ∧ splitC (32#8) (joinS [32#8] (itW r it)) = itW r it ∧ (10#8) ∈ itT r it ++ t := by
  refine ⟨?_, ?_, by simp⟩
  · have e : itT r it ++ t = joinS [32#8] (itW r it) ++ (10#8) :: t := by simp
    rw [e]
    exact cutAt_app fun h => by
      rcases joinS_mem h with h | ⟨w, hw, h⟩
      · exact absurd h (by decide)
      · exact (clean_it r it w hw).2 h
  · obtain ⟨x, q, e⟩ := itW_ne r it
    rw [e]
    exact splitC_join fun y hy => (clean_it r it y (by rw [e]; exact hy)).1
end Go.Proofs.YtepongfhnammkaaDoor

namespace Go.Proofs.YtepongfhnammkaaDoor
set_option linter.all false
open Go.RowKit
/-! the reader: take -/
abbrev nmAt : Nat → B8
  | 0 => tickW
  | 1 => framesW
  | 2 => epochW
  | 3 => replicaW
  | 4 => updateW
  | _ => lookW
def srt (w : B8) : Nat → Int
  | 0 => -1
  | n + 1 => if nmAt n = w then (n : Int) else srt w n
theorem srt_y {w : B8} {n : Nat} (h : nmAt n = w) : srt w (n + 1) = (n : Int) := if_pos h
theorem srt_n {w : B8} {n : Nat} (h : ¬ nmAt n = w) : srt w (n + 1) = srt w n := if_neg h
theorem nm_ne : ∀ i, i < 6 → ∀ j, j < 6 → nmAt i = nmAt j → i = j := by decide
theorem srt_of : ∀ i : Nat, i < 6 → srt (nmAt i) 6 = (i : Int) := by decide
theorem srt_cases (w : B8) : (srt w 6 = -1 ∧ ∀ i, i < 6 → nmAt i ≠ w) ∨ ∃ i, i < 6 ∧ w = nmAt i := by
  by_cases h : ∃ i, i < 6 ∧ nmAt i = w
  · obtain ⟨i, h1, h2⟩ := h; exact .inr ⟨i, h1, h2.symm⟩
  · have h' : ∀ i, i < 6 → nmAt i ≠ w := fun i hi e => h ⟨i, hi, e⟩
    refine .inl ⟨?_, h'⟩
    simp only [srt, if_neg (h' 0 (by omega)), if_neg (h' 1 (by omega)), if_neg (h' 2 (by omega)), if_neg (h' 3 (by omega)), if_neg (h' 4 (by omega)), if_neg (h' 5 (by omega))]
theorem itS_nm (r : Rep) (it : Item) : ∃ i : Nat, i < 6 ∧ itS it = (i : Int) ∧ (itW r it).head? = some (nmAt i) := by
  cases it
  · exact ⟨0, by omega, rfl, rfl⟩
  · exact ⟨1, by omega, rfl, rfl⟩
  · exact ⟨2, by omega, rfl, rfl⟩
  · exact ⟨3, by omega, rfl, rfl⟩
  · exact ⟨4, by omega, rfl, rfl⟩
  · exact ⟨5, by omega, rfl, rfl⟩
abbrev lenR (r : Rep) : Prop := r.eps.length ≤ 1000 ∧ r.reps.length ≤ 1000 ∧ r.upds.length ≤ 1000 ∧ r.looks.length ≤ 1000
abbrev tkP (r : Rep) (s : Int) (ws : List B8) (e : Option Item × Rep × Int) : Prop := match e.1 with
  | some it => (folP s (itS it) ∧ itOk r it ∧ itW r it = ws) ∧ e.2 = (itA r it, itS it)
  | none => ∀ it, folP s (itS it) → itOk r it → itW r it ≠ ws
theorem tk_no {r : Rep} {s : Int} {i : Nat} {ws : List B8} {x : Rep × Int} (hi : i < 6) (h : ∀ it, itS it = (i : Int) → folP s (i : Int) → itOk r it → itW r it ≠ nmAt i :: ws) : tkP r s (nmAt i :: ws) (none, x) := by
  intro it hf ho e
  obtain ⟨j, hj, h1, h2⟩ := itS_nm r it
  rw [e] at h2
  obtain rfl := nm_ne i hi j hj (Option.some.inj h2)
  exact h it h1 (h1 ▸ hf) ho e
def tk_c : Ctr where
  D := Rep × Int × B8 × List B8
  pre := fun (r, s, w, ws) => nums_c.pre (w :: ws) ∧ (-1 ≤ s ∧ s ≤ 5) ∧ lenR r
  args := fun (_, _, w, ws) => [.ptr 0 0, .fs 1 eStr (w :: ws)]
  objs := fun (r, s, _) => rdO r s
  nn := 5
  E := Option Item × Rep × Int
  post := fun (r, s, w, ws) e => tkP r s (w :: ws) e
  res := fun _ e => .bool e.1.isSome
  out := fun _ e => rdN 5 6 7 8 e.2.1 e.2.2
  mm := 4
def tk_H : Cfg := ⟨[(46, fol_c), (47, rhd_c), (48, repo_c), (49, rre_c), (50, rnm_c)], [], [], [], 58, 5, [], [], []⟩
theorem tk_ok : tk_c.Ok Tryd.prog 23 := by
  refine fn_ok tk_H 5 rfl _ Tryd.func23 rfl rfl ⟨fol_ok, rhd_ok, repo_ok, rre_ok, rnm_ok, trivial⟩ rfl rfl (by kernel_rfl) (fun _ => Nat.le_of_ble_eq_true rfl) ?_
  rintro ⟨r, s, w, ws⟩ ⟨hp, hs, hl⟩ hr
  try dsimp only [tk_c] at hp
  try simp only [tk_c, Rng, RngL, inR, and_true, true_and] at hr
  obtain ⟨hl1, hl2, hl3, hl4⟩ := hl
  obtain ⟨hs1, hs2⟩ := hs
  repeat' (first | (with_reducible refine Unf.h ?_) | fail); all_goals try (conv => whnf)
  refine LoopS.autoN (I := Nat) (fun i => i ≤ 6) (fun i => [(9, .int .i64 i), (5, .int .i64 (srt w i))]) (fun _ => rdO r s) 5 (fun i => 6 - i) 0 (by omega) ?_ ?_
  · have e : srt w 0 = -1 := rfl
    repeat' (first | (with_reducible refine Unf.h ?_) | ((conv => whnf); first | (refine Side.mk ?_ ?_; focus (first | with_reducible rfl | (refine congrArg (SV.int _) ?_; omega))) | (with_reducible refine Unf.h ?_) | exact True.intro) | fail); all_goals try (conv => whnf)
  · intro i hi
    have hfin : ∀ k : Int, True := fun _ => trivial
    match i, hi with
    | 0, _ =>
      repeat' (first | (with_reducible first | refine Unf.h ?_ | refine loopK_n ?_) | ((conv => whnf); first | refine Fork.mk (fun h => ?_) (fun h => ?_) | (refine Side.mk ?_ ?_; focus ((intros; (try simp only [lenS, inR, cutS, loI, hiI] at *); omega))) | (refine Idx.mk ?_ ?_; focus ((simp only [lenS, inR, cutS, loI, hiI]; omega))) | refine retK_r ?_) | fail); all_goals try (conv => whnf)
      all_goals first
        | (exfalso; omega)
        | skip
      · exact ⟨1, ⟨by omega, by omega⟩, by
          have e := srt_y (w := w) (n := 0) (by assumption)
          repeat' (first | (with_reducible refine Unf.h ?_) | ((conv => whnf); first | (refine Side.mk ?_ ?_; focus (first | with_reducible rfl | (refine congrArg (SV.int _) ?_; omega) | (simp only [*, e]; done))) | (with_reducible refine Unf.h ?_) | exact True.intro) | fail); all_goals try (conv => whnf)⟩
      · exact ⟨1, ⟨by omega, by omega⟩, by
          have e := srt_n (w := w) (n := 0) (by assumption)
          repeat' (first | (with_reducible refine Unf.h ?_) | ((conv => whnf); first | (refine Side.mk ?_ ?_; focus (first | with_reducible rfl | (refine congrArg (SV.int _) ?_; omega) | (simp only [*, e]; done))) | (with_reducible refine Unf.h ?_) | exact True.intro) | fail); all_goals try (conv => whnf)⟩
    | 1, _ =>
      repeat' (first | (with_reducible first | refine Unf.h ?_ | refine loopK_n ?_) | ((conv => whnf); first | refine Fork.mk (fun h => ?_) (fun h => ?_) | (refine Side.mk ?_ ?_; focus ((intros; (try simp only [lenS, inR, cutS, loI, hiI] at *); omega))) | (refine Idx.mk ?_ ?_; focus ((simp only [lenS, inR, cutS, loI, hiI]; omega))) | refine retK_r ?_) | fail); all_goals try (conv => whnf)
      all_goals first
        | (exfalso; omega)
        | skip
      · exact ⟨2, ⟨by omega, by omega⟩, by
          have e := srt_y (w := w) (n := 1) (by assumption)
          repeat' (first | (with_reducible refine Unf.h ?_) | ((conv => whnf); first | (refine Side.mk ?_ ?_; focus (first | with_reducible rfl | (refine congrArg (SV.int _) ?_; omega) | (simp only [*, e]; done))) | (with_reducible refine Unf.h ?_) | exact True.intro) | fail); all_goals try (conv => whnf)⟩
      · exact ⟨2, ⟨by omega, by omega⟩, by
          have e := srt_n (w := w) (n := 1) (by assumption)
          repeat' (first | (with_reducible refine Unf.h ?_) | ((conv => whnf); first | (refine Side.mk ?_ ?_; focus (first | with_reducible rfl | (refine congrArg (SV.int _) ?_; omega) | (simp only [*, e]; done))) | (with_reducible refine Unf.h ?_) | exact True.intro) | fail); all_goals try (conv => whnf)⟩
    | 2, _ =>
      repeat' (first | (with_reducible first | refine Unf.h ?_ | refine loopK_n ?_) | ((conv => whnf); first | refine Fork.mk (fun h => ?_) (fun h => ?_) | (refine Side.mk ?_ ?_; focus ((intros; (try simp only [lenS, inR, cutS, loI, hiI] at *); omega))) | (refine Idx.mk ?_ ?_; focus ((simp only [lenS, inR, cutS, loI, hiI]; omega))) | refine retK_r ?_) | fail); all_goals try (conv => whnf)
      all_goals first
        | (exfalso; omega)
        | skip
      · exact ⟨3, ⟨by omega, by omega⟩, by
          have e := srt_y (w := w) (n := 2) (by assumption)
          repeat' (first | (with_reducible refine Unf.h ?_) | ((conv => whnf); first | (refine Side.mk ?_ ?_; focus (first | with_reducible rfl | (refine congrArg (SV.int _) ?_; omega) | (simp only [*, e]; done))) | (with_reducible refine Unf.h ?_) | exact True.intro) | fail); all_goals try (conv => whnf)⟩
      · exact ⟨3, ⟨by omega, by omega⟩, by
          have e := srt_n (w := w) (n := 2) (by assumption)
          repeat' (first | (with_reducible refine Unf.h ?_) | ((conv => whnf); first | (refine Side.mk ?_ ?_; focus (first | with_reducible rfl | (refine congrArg (SV.int _) ?_; omega) | (simp only [*, e]; done))) | (with_reducible refine Unf.h ?_) | exact True.intro) | fail); all_goals try (conv => whnf)⟩
    | 3, _ =>
      repeat' (first | (with_reducible first | refine Unf.h ?_ | refine loopK_n ?_) | ((conv => whnf); first | refine Fork.mk (fun h => ?_) (fun h => ?_) | (refine Side.mk ?_ ?_; focus ((intros; (try simp only [lenS, inR, cutS, loI, hiI] at *); omega))) | (refine Idx.mk ?_ ?_; focus ((simp only [lenS, inR, cutS, loI, hiI]; omega))) | refine retK_r ?_) | fail); all_goals try (conv => whnf)
      all_goals first
        | (exfalso; omega)
        | skip
      · exact ⟨4, ⟨by omega, by omega⟩, by
          have e := srt_y (w := w) (n := 3) (by assumption)
          repeat' (first | (with_reducible refine Unf.h ?_) | ((conv => whnf); first | (refine Side.mk ?_ ?_; focus (first | with_reducible rfl | (refine congrArg (SV.int _) ?_; omega) | (simp only [*, e]; done))) | (with_reducible refine Unf.h ?_) | exact True.intro) | fail); all_goals try (conv => whnf)⟩
      · exact ⟨4, ⟨by omega, by omega⟩, by
          have e := srt_n (w := w) (n := 3) (by assumption)
          repeat' (first | (with_reducible refine Unf.h ?_) | ((conv => whnf); first | (refine Side.mk ?_ ?_; focus (first | with_reducible rfl | (refine congrArg (SV.int _) ?_; omega) | (simp only [*, e]; done))) | (with_reducible refine Unf.h ?_) | exact True.intro) | fail); all_goals try (conv => whnf)⟩
    | 4, _ =>
      repeat' (first | (with_reducible first | refine Unf.h ?_ | refine loopK_n ?_) | ((conv => whnf); first | refine Fork.mk (fun h => ?_) (fun h => ?_) | (refine Side.mk ?_ ?_; focus ((intros; (try simp only [lenS, inR, cutS, loI, hiI] at *); omega))) | (refine Idx.mk ?_ ?_; focus ((simp only [lenS, inR, cutS, loI, hiI]; omega))) | refine retK_r ?_) | fail); all_goals try (conv => whnf)
      all_goals first
        | (exfalso; omega)
        | skip
      · exact ⟨5, ⟨by omega, by omega⟩, by
          have e := srt_y (w := w) (n := 4) (by assumption)
          repeat' (first | (with_reducible refine Unf.h ?_) | ((conv => whnf); first | (refine Side.mk ?_ ?_; focus (first | with_reducible rfl | (refine congrArg (SV.int _) ?_; omega) | (simp only [*, e]; done))) | (with_reducible refine Unf.h ?_) | exact True.intro) | fail); all_goals try (conv => whnf)⟩
      · exact ⟨5, ⟨by omega, by omega⟩, by
          have e := srt_n (w := w) (n := 4) (by assumption)
          repeat' (first | (with_reducible refine Unf.h ?_) | ((conv => whnf); first | (refine Side.mk ?_ ?_; focus (first | with_reducible rfl | (refine congrArg (SV.int _) ?_; omega) | (simp only [*, e]; done))) | (with_reducible refine Unf.h ?_) | exact True.intro) | fail); all_goals try (conv => whnf)⟩
    | 5, _ =>
      repeat' (first | (with_reducible first | refine Unf.h ?_ | refine loopK_n ?_) | ((conv => whnf); first | refine Fork.mk (fun h => ?_) (fun h => ?_) | (refine Side.mk ?_ ?_; focus ((intros; (try simp only [lenS, inR, cutS, loI, hiI] at *); omega))) | (refine Idx.mk ?_ ?_; focus ((simp only [lenS, inR, cutS, loI, hiI]; omega))) | refine retK_r ?_) | fail); all_goals try (conv => whnf)
      all_goals first
        | (exfalso; omega)
        | skip
      · exact ⟨6, ⟨by omega, by omega⟩, by
          have e := srt_y (w := w) (n := 5) (by assumption)
          repeat' (first | (with_reducible refine Unf.h ?_) | ((conv => whnf); first | (refine Side.mk ?_ ?_; focus (first | with_reducible rfl | (refine congrArg (SV.int _) ?_; omega) | (simp only [*, e]; done))) | (with_reducible refine Unf.h ?_) | exact True.intro) | fail); all_goals try (conv => whnf)⟩
      · exact ⟨6, ⟨by omega, by omega⟩, by
          have e := srt_n (w := w) (n := 5) (by assumption)
          repeat' (first | (with_reducible refine Unf.h ?_) | ((conv => whnf); first | (refine Side.mk ?_ ?_; focus (first | with_reducible rfl | (refine congrArg (SV.int _) ?_; omega) | (simp only [*, e]; done))) | (with_reducible refine Unf.h ?_) | exact True.intro) | fail); all_goals try (conv => whnf)⟩
    | 6, _ =>
      rcases srt_cases w with ⟨e, hno⟩ | ⟨k, hk, rfl⟩
      · simp only [e]
        repeat' (first | (with_reducible refine Unf.h ?_) | ((conv => whnf); first | refine Fork.mk (fun h => ?_) (fun h => ?_) | refine retK_r ?_) | fail); all_goals try (conv => whnf)
        all_goals try (exfalso; omega)
        refine RetE.mk ((none, r, s) : Option Item × Rep × Int) (fun it _ _ e2 => ?_) (by repeat' (first | (with_reducible refine Unf.h ?_) | ((conv => whnf); first | (refine Side.mk ?_ ?_; focus (first | with_reducible rfl | exact dF (by omega))) | exact rfl) | fail); all_goals try (conv => whnf))
        obtain ⟨j, hj, h1, h2⟩ := itS_nm r it
        rw [e2] at h2
        exact hno j hj (Option.some.inj h2).symm
      · have hpf : ∀ k : Int, 0 ≤ k → k ≤ 5 → fol_c.pre (r, s, k) := fun k h1 h2 => ⟨hs1, hs2, h1, h2⟩
        have hpw : nums_c.pre ws := ⟨by have := hp.1; rw [List.length_cons] at this; omega, fun x hx => hp.2 x (List.mem_cons_of_mem _ hx)⟩
        simp only [srt_of k hk]
        match k, hk with
        | 0, _ =>
          have hpf := hpf 0 (by omega) (by omega)
          skip
          repeat' (first | (with_reducible refine Unf.h ?_) | ((conv => whnf); first | refine Fork.mk (fun h => ?_) (fun h => ?_) | refine retK_r ?_) | fail); all_goals try (conv => whnf)
          all_goals try (exfalso; omega)
          refine CallS.mk (c := fol_c) ((r, s, 0)) ?_
          repeat' (first | (with_reducible refine Unf.h ?_) | ((conv => whnf); first | refine Fork.mkn (fun h => ?_) (fun h => ?_) | refine Fork.mk (fun h => ?_) (fun h => ?_) | (refine Side.mk ?_ ?_; focus (first | with_reducible rfl | assumption | omega | (refine congrArg (SV.int _) ?_; omega) | (intros; (try simp only [lenS, inR, cutS, loI, hiI] at *); omega))) | refine Got.mk (fun _ _ => ?_) | refine retK_r ?_) | fail); all_goals try (conv => whnf)
          all_goals try (exfalso; omega)
          · exact RetE.mk ((none, r, s) : Option Item × Rep × Int) (tk_no (x := (r, s)) (i := 0) (by omega) fun it _ hf2 _ _ => absurd hf2 (by assumption)) (by repeat' (first | (with_reducible refine Unf.h ?_) | ((conv => whnf); first | (refine Side.mk ?_ ?_; focus (first | with_reducible rfl | (simp [*]; done))) | exact rfl) | fail); all_goals try (conv => whnf))
          · have hf : folP s 0 := by assumption
            first | refine CallS.mk (c := rhd_c) ((r, 0, false, ws)) ?_ | refine Or2.l (CallS.mk (c := rhd_c) ((r, 0, false, ws)) ?_) | refine Or2.r (CallS.mk (c := rhd_c) ((r, 0, false, ws)) ?_)
            repeat (first | (with_reducible refine Unf.h ?_) | ((conv => whnf); first | (refine Side.mk ?_ ?_; focus (first | with_reducible rfl | assumption | exact True.intro | rfl)) | (with_reducible refine Unf.h ?_)))
            conv => whnf
            refine Got.mk (fun e he => ?_)
            have he2 : rhd_c.post (r, 0, false, ws) e := he
            clear he
            cases e with
            | none =>
              repeat' (first | (with_reducible refine Unf.h ?_) | ((conv => whnf); first | (with_reducible refine Unf.h ?_) | refine retK_r ?_) | fail); all_goals try (conv => whnf)
              refine RetE.mk ((none, r, 0) : Option Item × Rep × Int) (tk_no (x := (r, 0)) (i := 0) (by omega) fun it hs _ ho e => ?_) (by repeat' (first | (with_reducible refine Unf.h ?_) | ((conv => whnf); first | (refine Side.mk ?_ ?_; focus (first | with_reducible rfl | exact dF (by omega))) | exact rfl) | fail); all_goals try (conv => whnf))
              cases it <;> first
                | (simp [itS] at hs; done)
                | (exact he2 _ ho (List.cons.inj e).2)
            | some n =>
              repeat' (first | (with_reducible refine Unf.h ?_) | ((conv => whnf); first | (with_reducible refine Unf.h ?_) | refine retK_r ?_) | fail); all_goals try (conv => whnf)
              exact RetE.mk ((some (.tick n), itA r (.tick n), 0) : Option Item × Rep × Int) ⟨⟨hf, he2.1, congrArg (List.cons _) he2.2⟩, rfl⟩ (by repeat' (first | (with_reducible refine Unf.h ?_) | ((conv => whnf); first | (refine Side.mk ?_ ?_; focus (first | with_reducible rfl | (simp [*]; done))) | exact rfl) | fail); all_goals try (conv => whnf))
        | 1, _ =>
          have hpf := hpf 1 (by omega) (by omega)
          skip
          repeat' (first | (with_reducible refine Unf.h ?_) | ((conv => whnf); first | refine Fork.mk (fun h => ?_) (fun h => ?_) | refine retK_r ?_) | fail); all_goals try (conv => whnf)
          all_goals try (exfalso; omega)
          refine CallS.mk (c := fol_c) ((r, s, 1)) ?_
          repeat' (first | (with_reducible refine Unf.h ?_) | ((conv => whnf); first | refine Fork.mkn (fun h => ?_) (fun h => ?_) | refine Fork.mk (fun h => ?_) (fun h => ?_) | (refine Side.mk ?_ ?_; focus (first | with_reducible rfl | assumption | omega | (refine congrArg (SV.int _) ?_; omega) | (intros; (try simp only [lenS, inR, cutS, loI, hiI] at *); omega))) | refine Got.mk (fun _ _ => ?_) | refine retK_r ?_) | fail); all_goals try (conv => whnf)
          all_goals try (exfalso; omega)
          · exact RetE.mk ((none, r, s) : Option Item × Rep × Int) (tk_no (x := (r, s)) (i := 1) (by omega) fun it _ hf2 _ _ => absurd hf2 (by assumption)) (by repeat' (first | (with_reducible refine Unf.h ?_) | ((conv => whnf); first | (refine Side.mk ?_ ?_; focus (first | with_reducible rfl | (simp [*]; done))) | exact rfl) | fail); all_goals try (conv => whnf))
          · have hf : folP s 1 := by assumption
            first | refine CallS.mk (c := rhd_c) ((r, 1, true, ws)) ?_ | refine Or2.l (CallS.mk (c := rhd_c) ((r, 1, true, ws)) ?_) | refine Or2.r (CallS.mk (c := rhd_c) ((r, 1, true, ws)) ?_)
            repeat (first | (with_reducible refine Unf.h ?_) | ((conv => whnf); first | (refine Side.mk ?_ ?_; focus (first | with_reducible rfl | assumption | exact True.intro | rfl)) | (with_reducible refine Unf.h ?_)))
            conv => whnf
            refine Got.mk (fun e he => ?_)
            have he2 : rhd_c.post (r, 1, true, ws) e := he
            clear he
            cases e with
            | none =>
              repeat' (first | (with_reducible refine Unf.h ?_) | ((conv => whnf); first | (with_reducible refine Unf.h ?_) | refine retK_r ?_) | fail); all_goals try (conv => whnf)
              refine RetE.mk ((none, r, 1) : Option Item × Rep × Int) (tk_no (x := (r, 1)) (i := 1) (by omega) fun it hs _ ho e => ?_) (by repeat' (first | (with_reducible refine Unf.h ?_) | ((conv => whnf); first | (refine Side.mk ?_ ?_; focus (first | with_reducible rfl | exact dF (by omega))) | exact rfl) | fail); all_goals try (conv => whnf))
              cases it <;> first
                | (simp [itS] at hs; done)
                | (exact he2 _ ho (List.cons.inj e).2)
            | some n =>
              repeat' (first | (with_reducible refine Unf.h ?_) | ((conv => whnf); first | (with_reducible refine Unf.h ?_) | refine retK_r ?_) | fail); all_goals try (conv => whnf)
              exact RetE.mk ((some (.frames n), itA r (.frames n), 1) : Option Item × Rep × Int) ⟨⟨hf, he2.1, congrArg (List.cons _) he2.2⟩, rfl⟩ (by repeat' (first | (with_reducible refine Unf.h ?_) | ((conv => whnf); first | (refine Side.mk ?_ ?_; focus (first | with_reducible rfl | (simp [*]; done))) | exact rfl) | fail); all_goals try (conv => whnf))
        | 2, _ =>
          have hpf := hpf 2 (by omega) (by omega)
          have hpr : repo_c.pre (r, 2, ws) := ⟨hpw, hl1⟩
          repeat' (first | (with_reducible refine Unf.h ?_) | ((conv => whnf); first | refine Fork.mk (fun h => ?_) (fun h => ?_) | refine retK_r ?_) | fail); all_goals try (conv => whnf)
          all_goals try (exfalso; omega)
          refine CallS.mk (c := fol_c) ((r, s, 2)) ?_
          repeat' (first | (with_reducible refine Unf.h ?_) | ((conv => whnf); first | refine Fork.mkn (fun h => ?_) (fun h => ?_) | refine Fork.mk (fun h => ?_) (fun h => ?_) | (refine Side.mk ?_ ?_; focus (first | with_reducible rfl | assumption | omega | (refine congrArg (SV.int _) ?_; omega) | (intros; (try simp only [lenS, inR, cutS, loI, hiI] at *); omega))) | refine Got.mk (fun _ _ => ?_) | refine retK_r ?_) | fail); all_goals try (conv => whnf)
          all_goals try (exfalso; omega)
          · exact RetE.mk ((none, r, s) : Option Item × Rep × Int) (tk_no (x := (r, s)) (i := 2) (by omega) fun it _ hf2 _ _ => absurd hf2 (by assumption)) (by repeat' (first | (with_reducible refine Unf.h ?_) | ((conv => whnf); first | (refine Side.mk ?_ ?_; focus (first | with_reducible rfl | (simp [*]; done))) | exact rfl) | fail); all_goals try (conv => whnf))
          · have hf : folP s 2 := by assumption
            first | refine CallS.mk (c := repo_c) ((r, 2, ws)) ?_ | refine Or2.l (CallS.mk (c := repo_c) ((r, 2, ws)) ?_) | refine Or2.r (CallS.mk (c := repo_c) ((r, 2, ws)) ?_)
            repeat (first | (with_reducible refine Unf.h ?_) | ((conv => whnf); first | (refine Side.mk ?_ ?_; focus (first | with_reducible rfl | assumption | exact True.intro | rfl)) | (with_reducible refine Unf.h ?_)))
            conv => whnf
            refine Got.mk (fun e he => ?_)
            have he2 : repo_c.post (r, 2, ws) e := he
            clear he
            cases e with
            | none =>
              repeat' (first | (with_reducible refine Unf.h ?_) | ((conv => whnf); first | (with_reducible refine Unf.h ?_) | refine retK_r ?_) | fail); all_goals try (conv => whnf)
              refine RetE.mk ((none, r, 2) : Option Item × Rep × Int) (tk_no (x := (r, 2)) (i := 2) (by omega) fun it hs _ ho e => ?_) (by repeat' (first | (with_reducible refine Unf.h ?_) | ((conv => whnf); first | (refine Side.mk ?_ ?_; focus (first | with_reducible rfl | exact dF (by omega))) | exact rfl) | fail); all_goals try (conv => whnf))
              cases it <;> first
                | (simp [itS] at hs; done)
                | (exact he2 _ ⟨ho, (List.cons.inj e).2⟩)
            | some p =>
              repeat' (first | (with_reducible refine Unf.h ?_) | ((conv => whnf); first | (with_reducible refine Unf.h ?_) | refine retK_r ?_) | fail); all_goals try (conv => whnf)
              exact RetE.mk ((some (.ep p), itA r (.ep p), 2) : Option Item × Rep × Int) ⟨⟨hf, he2.1, congrArg (List.cons _) he2.2⟩, rfl⟩ (by repeat' (first | (with_reducible refine Unf.h ?_) | ((conv => whnf); first | (refine Side.mk ?_ ?_; focus (first | with_reducible rfl | (simp [*]; done))) | exact rfl) | fail); all_goals try (conv => whnf))
        | 3, _ =>
          have hpf := hpf 3 (by omega) (by omega)
          have hpr : rre_c.pre (r, 3, ws) := ⟨hpw, hl2⟩
          repeat' (first | (with_reducible refine Unf.h ?_) | ((conv => whnf); first | refine Fork.mk (fun h => ?_) (fun h => ?_) | refine retK_r ?_) | fail); all_goals try (conv => whnf)
          all_goals try (exfalso; omega)
          refine CallS.mk (c := fol_c) ((r, s, 3)) ?_
          repeat' (first | (with_reducible refine Unf.h ?_) | ((conv => whnf); first | refine Fork.mkn (fun h => ?_) (fun h => ?_) | refine Fork.mk (fun h => ?_) (fun h => ?_) | (refine Side.mk ?_ ?_; focus (first | with_reducible rfl | assumption | omega | (refine congrArg (SV.int _) ?_; omega) | (intros; (try simp only [lenS, inR, cutS, loI, hiI] at *); omega))) | refine Got.mk (fun _ _ => ?_) | refine retK_r ?_) | fail); all_goals try (conv => whnf)
          all_goals try (exfalso; omega)
          · exact RetE.mk ((none, r, s) : Option Item × Rep × Int) (tk_no (x := (r, s)) (i := 3) (by omega) fun it _ hf2 _ _ => absurd hf2 (by assumption)) (by repeat' (first | (with_reducible refine Unf.h ?_) | ((conv => whnf); first | (refine Side.mk ?_ ?_; focus (first | with_reducible rfl | (simp [*]; done))) | exact rfl) | fail); all_goals try (conv => whnf))
          · have hf : folP s 3 := by assumption
            first | refine CallS.mk (c := rre_c) ((r, 3, ws)) ?_ | refine Or2.l (CallS.mk (c := rre_c) ((r, 3, ws)) ?_) | refine Or2.r (CallS.mk (c := rre_c) ((r, 3, ws)) ?_)
            repeat (first | (with_reducible refine Unf.h ?_) | ((conv => whnf); first | (refine Side.mk ?_ ?_; focus (first | with_reducible rfl | assumption | exact True.intro | rfl)) | (with_reducible refine Unf.h ?_)))
            conv => whnf
            refine Got.mk (fun e he => ?_)
            have he2 : rre_c.post (r, 3, ws) e := he
            clear he
            obtain ⟨e, r2⟩ := e
            cases e with
            | none =>
              repeat' (first | (with_reducible refine Unf.h ?_) | ((conv => whnf); first | (with_reducible refine Unf.h ?_) | refine retK_r ?_) | fail); all_goals try (conv => whnf)
              refine RetE.mk ((none, r2, 3) : Option Item × Rep × Int) (tk_no (x := (r2, 3)) (i := 3) (by omega) fun it hs _ ho e => ?_) (by repeat' (first | (with_reducible refine Unf.h ?_) | ((conv => whnf); first | (refine Side.mk ?_ ?_; focus (first | with_reducible rfl | exact dF (by omega))) | exact rfl) | fail); all_goals try (conv => whnf))
              cases it <;> first
                | (simp [itS] at hs; done)
                | (rename_i p; exact he2 p ⟨ho, (List.cons.inj e).2⟩)
            | some p =>
              obtain ⟨he3, e4⟩ := he2
              obtain rfl : r2 = addR r p := e4
              repeat' (first | (with_reducible refine Unf.h ?_) | ((conv => whnf); first | (with_reducible refine Unf.h ?_) | refine retK_r ?_) | fail); all_goals try (conv => whnf)
              exact RetE.mk ((some (.rp p), itA r (.rp p), 3) : Option Item × Rep × Int) ⟨⟨hf, he3.1, congrArg (List.cons _) he3.2⟩, rfl⟩ (by repeat' (first | (with_reducible refine Unf.h ?_) | ((conv => whnf); first | (refine Side.mk ?_ ?_; focus (first | with_reducible rfl | (simp [*]; done))) | exact rfl) | fail); all_goals try (conv => whnf))
        | 4, _ =>
          have hpf := hpf 4 (by omega) (by omega)
          have hpr : rnm_c.pre (r, 4, false, ws) := ⟨hpw, hl3⟩
          repeat' (first | (with_reducible refine Unf.h ?_) | ((conv => whnf); first | refine Fork.mk (fun h => ?_) (fun h => ?_) | refine retK_r ?_) | fail); all_goals try (conv => whnf)
          all_goals try (exfalso; omega)
          refine CallS.mk (c := fol_c) ((r, s, 4)) ?_
          repeat' (first | (with_reducible refine Unf.h ?_) | ((conv => whnf); first | refine Fork.mkn (fun h => ?_) (fun h => ?_) | refine Fork.mk (fun h => ?_) (fun h => ?_) | (refine Side.mk ?_ ?_; focus (first | with_reducible rfl | assumption | omega | (refine congrArg (SV.int _) ?_; omega) | (intros; (try simp only [lenS, inR, cutS, loI, hiI] at *); omega))) | refine Got.mk (fun _ _ => ?_) | refine retK_r ?_) | fail); all_goals try (conv => whnf)
          all_goals try (exfalso; omega)
          · exact RetE.mk ((none, r, s) : Option Item × Rep × Int) (tk_no (x := (r, s)) (i := 4) (by omega) fun it _ hf2 _ _ => absurd hf2 (by assumption)) (by repeat' (first | (with_reducible refine Unf.h ?_) | ((conv => whnf); first | (refine Side.mk ?_ ?_; focus (first | with_reducible rfl | (simp [*]; done))) | exact rfl) | fail); all_goals try (conv => whnf))
          · have hf : folP s 4 := by assumption
            first | refine CallS.mk (c := rnm_c) ((r, 4, false, ws)) ?_ | refine Or2.l (CallS.mk (c := rnm_c) ((r, 4, false, ws)) ?_) | refine Or2.r (CallS.mk (c := rnm_c) ((r, 4, false, ws)) ?_)
            repeat (first | (with_reducible refine Unf.h ?_) | ((conv => whnf); first | (refine Side.mk ?_ ?_; focus (first | with_reducible rfl | assumption | exact True.intro | rfl)) | (with_reducible refine Unf.h ?_)))
            conv => whnf
            refine Got.mk (fun e he => ?_)
            have he2 : rnm_c.post (r, 4, false, ws) e := he
            clear he
            obtain ⟨e, r2⟩ := e
            cases e with
            | none =>
              repeat' (first | (with_reducible refine Unf.h ?_) | ((conv => whnf); first | (with_reducible refine Unf.h ?_) | refine retK_r ?_) | fail); all_goals try (conv => whnf)
              refine RetE.mk ((none, r2, 4) : Option Item × Rep × Int) (tk_no (x := (r2, 4)) (i := 4) (by omega) fun it hs _ ho e => ?_) (by repeat' (first | (with_reducible refine Unf.h ?_) | ((conv => whnf); first | (refine Side.mk ?_ ?_; focus (first | with_reducible rfl | exact dF (by omega))) | exact rfl) | fail); all_goals try (conv => whnf))
              cases it <;> first
                | (simp [itS] at hs; done)
                | (rename_i p; exact he2 p ⟨ho, (List.cons.inj e).2⟩)
            | some p =>
              obtain ⟨he3, e4⟩ := he2
              obtain rfl : r2 = addU r false p := e4
              repeat' (first | (with_reducible refine Unf.h ?_) | ((conv => whnf); first | (with_reducible refine Unf.h ?_) | refine retK_r ?_) | fail); all_goals try (conv => whnf)
              exact RetE.mk ((some (.up p), itA r (.up p), 4) : Option Item × Rep × Int) ⟨⟨hf, he3.1, congrArg (List.cons _) he3.2⟩, rfl⟩ (by repeat' (first | (with_reducible refine Unf.h ?_) | ((conv => whnf); first | (refine Side.mk ?_ ?_; focus (first | with_reducible rfl | (simp [*]; done))) | exact rfl) | fail); all_goals try (conv => whnf))
        | 5, _ =>
          have hpf := hpf 5 (by omega) (by omega)
          have hpr : rnm_c.pre (r, 5, true, ws) := ⟨hpw, hl4⟩
          repeat' (first | (with_reducible refine Unf.h ?_) | ((conv => whnf); first | refine Fork.mk (fun h => ?_) (fun h => ?_) | refine retK_r ?_) | fail); all_goals try (conv => whnf)
          all_goals try (exfalso; omega)
          refine CallS.mk (c := fol_c) ((r, s, 5)) ?_
          repeat' (first | (with_reducible refine Unf.h ?_) | ((conv => whnf); first | refine Fork.mkn (fun h => ?_) (fun h => ?_) | refine Fork.mk (fun h => ?_) (fun h => ?_) | (refine Side.mk ?_ ?_; focus (first | with_reducible rfl | assumption | omega | (refine congrArg (SV.int _) ?_; omega) | (intros; (try simp only [lenS, inR, cutS, loI, hiI] at *); omega))) | refine Got.mk (fun _ _ => ?_) | refine retK_r ?_) | fail); all_goals try (conv => whnf)
          all_goals try (exfalso; omega)
          · exact RetE.mk ((none, r, s) : Option Item × Rep × Int) (tk_no (x := (r, s)) (i := 5) (by omega) fun it _ hf2 _ _ => absurd hf2 (by assumption)) (by repeat' (first | (with_reducible refine Unf.h ?_) | ((conv => whnf); first | (refine Side.mk ?_ ?_; focus (first | with_reducible rfl | (simp [*]; done))) | exact rfl) | fail); all_goals try (conv => whnf))
          · have hf : folP s 5 := by assumption
            first | refine CallS.mk (c := rnm_c) ((r, 5, true, ws)) ?_ | refine Or2.l (CallS.mk (c := rnm_c) ((r, 5, true, ws)) ?_) | refine Or2.r (CallS.mk (c := rnm_c) ((r, 5, true, ws)) ?_)
            repeat (first | (with_reducible refine Unf.h ?_) | ((conv => whnf); first | (refine Side.mk ?_ ?_; focus (first | with_reducible rfl | assumption | exact True.intro | rfl)) | (with_reducible refine Unf.h ?_)))
            conv => whnf
            refine Got.mk (fun e he => ?_)
            have he2 : rnm_c.post (r, 5, true, ws) e := he
            clear he
            obtain ⟨e, r2⟩ := e
            cases e with
            | none =>
              repeat' (first | (with_reducible refine Unf.h ?_) | ((conv => whnf); first | (with_reducible refine Unf.h ?_) | refine retK_r ?_) | fail); all_goals try (conv => whnf)
              refine RetE.mk ((none, r2, 5) : Option Item × Rep × Int) (tk_no (x := (r2, 5)) (i := 5) (by omega) fun it hs _ ho e => ?_) (by repeat' (first | (with_reducible refine Unf.h ?_) | ((conv => whnf); first | (refine Side.mk ?_ ?_; focus (first | with_reducible rfl | exact dF (by omega))) | exact rfl) | fail); all_goals try (conv => whnf))
              cases it <;> first
                | (simp [itS] at hs; done)
                | (rename_i p; exact he2 p ⟨ho, (List.cons.inj e).2⟩)
            | some p =>
              obtain ⟨he3, e4⟩ := he2
              obtain rfl : r2 = addU r true p := e4
              repeat' (first | (with_reducible refine Unf.h ?_) | ((conv => whnf); first | (with_reducible refine Unf.h ?_) | refine retK_r ?_) | fail); all_goals try (conv => whnf)
              exact RetE.mk ((some (.lk p), itA r (.lk p), 5) : Option Item × Rep × Int) ⟨⟨hf, he3.1, congrArg (List.cons _) he3.2⟩, rfl⟩ (by repeat' (first | (with_reducible refine Unf.h ?_) | ((conv => whnf); first | (refine Side.mk ?_ ?_; focus (first | with_reducible rfl | (simp [*]; done))) | exact rfl) | fail); all_goals try (conv => whnf))
end Go.Proofs.YtepongfhnammkaaDoor

/- plain laws: reading line by line -/
namespace Go.Proofs.YtepongfhnammkaaDoor
set_option linter.all false
abbrev RI := Rep × Int × Way
abbrev invR (i : RI) : Prop := lenR i.1 ∧ -1 ≤ i.2.1 ∧ i.2.1 ≤ 5
abbrev RX := B8 × List B8 × Bool
abbrev xpR (i : RI) (x : RX) : Prop := i.2.2 = .normal ∧ invR i ∧ nums_c.pre (x.1 :: x.2.1)
abbrev itNo (r : Rep) (s : Int) (ws : List B8) : Prop := ∀ it, folP s (itS it) → itOk r it → itW r it ≠ ws
def nxR (i : RI) (x : RX) (i' : RI) : Prop :=
  (∃ it, x.2.2 = true ∧ folP i.2.1 (itS it) ∧ itOk i.1 it ∧ itW i.1 it = x.1 :: x.2.1 ∧ i' = (itA i.1 it, itS it, .normal)) ∨ ((x.2.2 = true → itNo i.1 i.2.1 (x.1 :: x.2.1)) ∧ i'.2.2 = .ret)
theorem inv_step {r : Rep} {s : Int} {it : Item} (h : lenR r) (ho : itOk r it) : invR (itA r it, itS it, Way.normal) := by
  obtain ⟨h1, h2, h3, h4⟩ := h
  cases it with
  | tick n => exact ⟨⟨h1, h2, h3, h4⟩, show (-1 : Int) ≤ 0 by decide, show (0 : Int) ≤ 5 by decide⟩
  | frames n => exact ⟨⟨h1, h2, h3, h4⟩, show (-1 : Int) ≤ 1 by decide, show (1 : Int) ≤ 5 by decide⟩
  | ep p => exact ⟨⟨by show (r.eps ++ [p]).length ≤ 1000; rw [List.length_append, List.length_singleton]; have := ho.1; omega, h2, h3, h4⟩, show (-1 : Int) ≤ 2 by decide, show (2 : Int) ≤ 5 by decide⟩
  | rp p => exact ⟨⟨h1, by show (r.reps ++ [p]).length ≤ 1000; rw [List.length_append, List.length_singleton]; have := ho.1; omega, h3, h4⟩, show (-1 : Int) ≤ 3 by decide, show (3 : Int) ≤ 5 by decide⟩
  | up p => exact ⟨⟨h1, h2, by show (r.upds ++ [p]).length ≤ 1000; rw [List.length_append, List.length_singleton]; have := ho.1; omega, h4⟩, show (-1 : Int) ≤ 4 by decide, show (4 : Int) ≤ 5 by decide⟩
  | lk p => exact ⟨⟨h1, h2, h3, by show (r.looks ++ [p]).length ≤ 1000; rw [List.length_append, List.length_singleton]; have := ho.1; omega⟩, show (-1 : Int) ≤ 5 by decide, show (5 : Int) ≤ 5 by decide⟩
theorem nxR_inv {i i' : RI} {x : RX} (hi : invR i) (h : nxR i x i') (hn : i'.2.2 = .normal) : invR i' := by
  rcases h with ⟨it, _, _, ho, _, rfl⟩ | ⟨_, h⟩
  · exact inv_step (s := i.2.1) hi.1 ho
  · rw [h] at hn; cases hn
inductive Rd : RI → B8 → RI → Prop
  | nil {i : RI} (hn : i.2.2 = .normal) : Rd i [] i
  | stop {i i' : RI} {s : B8} (hs : s ≠ []) (x : RX) (hx : x.1 :: x.2.1 = splitC (32#8) (cutAt (10#8) s).1) (he : x.2.2 = decide ((10#8) ∈ s)) (h : nxR i x i') (hn : i'.2.2 ≠ .normal) : Rd i s i'
  | go {i i' i'' : RI} {s : B8} (hs : s ≠ []) (x : RX) (hx : x.1 :: x.2.1 = splitC (32#8) (cutAt (10#8) s).1) (he : x.2.2 = decide ((10#8) ∈ s)) (h : nxR i x i') (hn : i'.2.2 = .normal) (k : Rd i' (cutAt (10#8) s).2 i'') : Rd i s i''
theorem Rd.sound {i j : RI} {s : B8} (h : Rd i s j) (hj : j.2.2 = .normal) : Pth i.1 i.2.1 s j.1 j.2.1 := by
  induction h with
  | nil _ => exact .nil
  | stop _ _ _ _ _ hn => exact absurd hj hn
  | @go i i' i'' s hs x hx he h hn k ih =>
    rcases h with ⟨it, h1, h2, h3, h4, rfl⟩ | ⟨_, h⟩
    · rw [h1] at he
      have hm : (10#8) ∈ s := of_decide_eq_true he.symm
      have e1 := cutAt_in hm
      have e2 : (cutAt (10#8) s).1 = joinS [32#8] (itW i.1 it) := by rw [h4, hx, join_splitC]
      have e3 : s = itT i.1 it ++ (cutAt (10#8) s).2 := by
        conv => lhs; rw [e1]
        rw [e2]; simp
      rw [e3]
      exact .cons it h2 h3 (ih hj)
    · rw [h] at hn; cases hn
theorem Rd.full {r r' : Rep} {s s' : Int} {t : B8} (h : Pth r s t r' s') : ∀ {j : RI}, Rd (r, s, .normal) t j → j = (r', s', .normal) := by
  induction h with
  | nil =>
    intro j h
    generalize ht : ([] : B8) = t at h
    cases h with
    | nil _ => rfl
    | stop hs => exact absurd ht.symm hs
    | go hs => exact absurd ht.symm hs
  | @cons r r' s s' t it hf ho _ ih =>
    intro j h
    obtain ⟨c1, c2, c3⟩ := itT_cut r it t
    have key : ∀ (x : RX) (i' : RI), x.1 :: x.2.1 = splitC (32#8) (cutAt (10#8) (itT r it ++ t)).1 → x.2.2 = decide ((10#8) ∈ itT r it ++ t) → nxR (r, s, .normal) x i' → i' = (itA r it, itS it, .normal) := by
      intro x i' hx he hn
      rw [c1, c2] at hx
      have he' : x.2.2 = true := by rw [he]; exact decide_eq_true c3
      rcases hn with ⟨it', _, _, h3, h4, h5⟩ | ⟨hno, _⟩
      · obtain rfl := itW_inj h3 ho (h4.trans hx)
        exact h5
      · exact absurd hx.symm (hno he' it hf ho)
    generalize hu : itT r it ++ t = u at h
    cases h with
    | nil _ => rw [hu] at c3; exact absurd c3 List.not_mem_nil
    | stop hs x hx he h hn =>
      rw [hu] at key
      have := key x _ hx he h
      rw [this] at hn; exact absurd rfl hn
    | go hs x hx he h hn k =>
      rw [hu] at key c1
      have e := key x _ hx he h
      subst e
      rw [c1] at k
      exact ih k
/-! ## the text of what was read so far -/
abbrev rep00 : Rep := ⟨0, 0, [], [], [], []⟩
def shp (r : Rep) (s : Int) : Prop := (s < 5 → r.looks = []) ∧ (s < 4 → r.upds = []) ∧ (s < 3 → r.reps = []) ∧ (s < 2 → r.eps = []) ∧ (s < 1 → r.frames = 0) ∧ (s < 0 → r.tick = 0)
def txt (r : Rep) (s : Int) : B8 := if s < 0 then [] else if s < 1 then lineW tickW [r.tick] [] else repT r
theorem catN_app {α : Type} (f : Nat → α → B8) (l : List α) (a : α) : ∀ n, n ≤ l.length → catN f (l ++ [a]) n = catN f l n := by
  intro n
  induction n with
  | zero => intro _; rfl
  | succ n ih =>
    intro h
    simp only [catN]
    rw [ih (by omega), List.getElem?_append_left (by omega)]
theorem catN_snoc {α : Type} (f : Nat → α → B8) (l : List α) (a : α) : catN f (l ++ [a]) (l ++ [a]).length = catN f l l.length ++ f l.length a := by
  rw [List.length_append, List.length_singleton]
  simp only [catN]
  rw [catN_app f l a _ (Nat.le_refl _), List.getElem?_concat_length]
theorem shp_step {r : Rep} {s : Int} {it : Item} (h : shp r s) (hs : -1 ≤ s) (hf : folP s (itS it)) (ho : itOk r it) : shp (itA r it) (itS it) ∧ txt (itA r it) (itS it) = txt r s ++ itT r it := by
  obtain ⟨a, b, c, d, e, f⟩ := h
  cases it with
  | tick n =>
    have hf : folP s 0 := hf
    show shp (itA r (.tick n)) 0 ∧ txt (itA r (.tick n)) 0 = _
    have hs : (0 : Int) = s + 1 := by rw [folP, if_pos (by decide)] at hf; exact hf
    obtain rfl : s = -1 := by omega
    exact ⟨⟨fun _ => a (by decide), fun _ => b (by decide), fun _ => c (by decide), fun _ => d (by decide), fun _ => e (by decide), fun h => absurd h (by decide)⟩, rfl⟩
  | frames n =>
    have hf : folP s 1 := hf
    show shp (itA r (.frames n)) 1 ∧ txt (itA r (.frames n)) 1 = _
    have hs : (1 : Int) = s + 1 := by rw [folP, if_pos (by decide)] at hf; exact hf
    obtain rfl : s = 0 := by omega
    obtain ⟨tick, frames, eps, reps, upds, looks⟩ := r
    obtain rfl : looks = [] := a (by decide)
    obtain rfl : upds = [] := b (by decide)
    obtain rfl : reps = [] := c (by decide)
    obtain rfl : eps = [] := d (by decide)
    refine ⟨⟨fun _ => rfl, fun _ => rfl, fun _ => rfl, fun _ => rfl, fun h => absurd h (by decide), fun h => absurd h (by decide)⟩, ?_⟩
    have q1 : txt (itA ⟨tick, frames, [], [], [], []⟩ (.frames n)) 1 = ((((lineW tickW [tick] [] ++ lineW framesW [n] []) ++ []) ++ []) ++ []) ++ [] := rfl
    have q2 : txt ⟨tick, frames, [], [], [], []⟩ 0 = lineW tickW [tick] [] := rfl
    rw [q1, q2]; simp only [List.append_nil]; rfl
  | ep p =>
    have hf : folP s 2 := hf
    show shp (itA r (.ep p)) 2 ∧ txt (itA r (.ep p)) 2 = _
    have hs : 1 ≤ s ∧ s ≤ 2 := by rw [folP, if_neg (by decide)] at hf; exact hf
    obtain ⟨tick, frames, eps, reps, upds, looks⟩ := r
    obtain rfl : looks = [] := a (by omega)
    obtain rfl : upds = [] := b (by omega)
    obtain rfl : reps = [] := c (by omega)
    refine ⟨⟨fun _ => rfl, fun _ => rfl, fun _ => rfl, fun h => absurd h (by decide), fun h => absurd h (by decide), fun h => absurd h (by decide)⟩, ?_⟩
    have q1 : txt (itA ⟨tick, frames, eps, [], [], []⟩ (.ep p)) 2 = (((tH ⟨tick, frames, eps, [], [], []⟩ ++ catN epF (eps ++ [p]) (eps ++ [p]).length) ++ []) ++ []) ++ [] := rfl
    have q2 : txt ⟨tick, frames, eps, [], [], []⟩ s = (((tH ⟨tick, frames, eps, [], [], []⟩ ++ catN epF eps eps.length) ++ []) ++ []) ++ [] := by unfold txt; rw [if_neg (by omega), if_neg (by omega)]; rfl
    rw [q1, q2, catN_snoc]; simp only [List.append_nil, List.append_assoc]; rfl
  | rp p =>
    have hf : folP s 3 := hf
    show shp (itA r (.rp p)) 3 ∧ txt (itA r (.rp p)) 3 = _
    have hs : 1 ≤ s ∧ s ≤ 3 := by rw [folP, if_neg (by decide)] at hf; exact hf
    obtain ⟨tick, frames, eps, reps, upds, looks⟩ := r
    obtain rfl : looks = [] := a (by omega)
    obtain rfl : upds = [] := b (by omega)
    refine ⟨⟨fun _ => rfl, fun _ => rfl, fun h => absurd h (by decide), fun h => absurd h (by decide), fun h => absurd h (by decide), fun h => absurd h (by decide)⟩, ?_⟩
    have q1 : txt (itA ⟨tick, frames, eps, reps, [], []⟩ (.rp p)) 3 = ((t1 ⟨tick, frames, eps, reps, [], []⟩ eps.length ++ catN rpF (reps ++ [p]) (reps ++ [p]).length) ++ []) ++ [] := rfl
    have q2 : txt ⟨tick, frames, eps, reps, [], []⟩ s = ((t1 ⟨tick, frames, eps, reps, [], []⟩ eps.length ++ catN rpF reps reps.length) ++ []) ++ [] := by unfold txt; rw [if_neg (by omega), if_neg (by omega)]; rfl
    rw [q1, q2, catN_snoc]; simp only [List.append_nil, List.append_assoc]
    obtain ⟨g, n⟩ := p
    cases g <;> rfl
  | up p =>
    have hf : folP s 4 := hf
    show shp (itA r (.up p)) 4 ∧ txt (itA r (.up p)) 4 = _
    have hs : 1 ≤ s ∧ s ≤ 4 := by rw [folP, if_neg (by decide)] at hf; exact hf
    obtain ⟨tick, frames, eps, reps, upds, looks⟩ := r
    obtain rfl : looks = [] := a (by omega)
    refine ⟨⟨fun _ => rfl, fun h => absurd h (by decide), fun h => absurd h (by decide), fun h => absurd h (by decide), fun h => absurd h (by decide), fun h => absurd h (by decide)⟩, ?_⟩
    have q1 : txt (itA ⟨tick, frames, eps, reps, upds, []⟩ (.up p)) 4 = (t2 ⟨tick, frames, eps, reps, upds, []⟩ reps.length ++ catN (upF updateW) (upds ++ [p]) (upds ++ [p]).length) ++ [] := rfl
    have q2 : txt ⟨tick, frames, eps, reps, upds, []⟩ s = (t2 ⟨tick, frames, eps, reps, upds, []⟩ reps.length ++ catN (upF updateW) upds upds.length) ++ [] := by unfold txt; rw [if_neg (by omega), if_neg (by omega)]; rfl
    rw [q1, q2, catN_snoc]; simp only [List.append_nil, List.append_assoc]; rfl
  | lk p =>
    have hf : folP s 5 := hf
    show shp (itA r (.lk p)) 5 ∧ txt (itA r (.lk p)) 5 = _
    have hs : 1 ≤ s ∧ s ≤ 5 := by rw [folP, if_neg (by decide)] at hf; exact hf
    obtain ⟨tick, frames, eps, reps, upds, looks⟩ := r
    refine ⟨⟨fun h => absurd h (by decide), fun h => absurd h (by decide), fun h => absurd h (by decide), fun h => absurd h (by decide), fun h => absurd h (by decide), fun h => absurd h (by decide)⟩, ?_⟩
    have q1 : txt (itA ⟨tick, frames, eps, reps, upds, looks⟩ (.lk p)) 5 = t3 ⟨tick, frames, eps, reps, upds, looks⟩ upds.length ++ catN (upF lookW) (looks ++ [p]) (looks ++ [p]).length := rfl
    have q2 : txt ⟨tick, frames, eps, reps, upds, looks⟩ s = t3 ⟨tick, frames, eps, reps, upds, looks⟩ upds.length ++ catN (upF lookW) looks looks.length := by unfold txt; rw [if_neg (by omega), if_neg (by omega)]; rfl
    rw [q1, q2, catN_snoc]; simp only [List.append_nil, List.append_assoc]; rfl
theorem ok_step {r : Rep} {it : Item} (h : repOk r) (ho : itOk r it) : repOk (itA r it) := by
  obtain ⟨⟨⟨⟨⟨h1, h2⟩, h3⟩, h4⟩, h5⟩, h6⟩ := h
  have ap : ∀ {α : Type} {p : α → Prop} {l : List α} {a : α}, (∀ x ∈ l, p x) → p a → ∀ x ∈ l ++ [a], p x := fun h ha x hx => by
    rcases List.mem_append.1 hx with hx | hx
    · exact h x hx
    · rw [List.mem_singleton.1 hx]; exact ha
  cases it with
  | tick n => exact ⟨⟨⟨⟨⟨ho, h2⟩, h3⟩, h4⟩, h5⟩, h6⟩
  | frames n => exact ⟨⟨⟨⟨⟨h1, ho⟩, h3⟩, h4⟩, h5⟩, h6⟩
  | ep p => exact ⟨⟨⟨⟨⟨h1, h2⟩, ap h3 ho.2⟩, h4⟩, h5⟩, h6⟩
  | rp p => exact ⟨⟨⟨⟨⟨h1, h2⟩, h3⟩, ap h4 ho.2⟩, h5⟩, h6⟩
  | up p => exact ⟨⟨⟨⟨⟨h1, h2⟩, h3⟩, h4⟩, ap h5 ho.2⟩, h6⟩
  | lk p => exact ⟨⟨⟨⟨⟨h1, h2⟩, h3⟩, h4⟩, h5⟩, ap h6 ho.2⟩
theorem Pth.txt {r r' : Rep} {s s' : Int} {t : B8} (h : Pth r s t r' s') : -1 ≤ s → shp r s → repOk r → lenR r → (-1 ≤ s' ∧ shp r' s' ∧ repOk r' ∧ lenR r') ∧ Go.Proofs.YtepongfhnammkaaDoor.txt r' s' = Go.Proofs.YtepongfhnammkaaDoor.txt r s ++ t := by
  induction h with
  | nil => intro h0 h1 h2 h3; exact ⟨⟨h0, h1, h2, h3⟩, (List.append_nil _).symm⟩
  | @cons r r' s s' t it hf ho _ ih =>
    intro h0 h1 h2 h3
    obtain ⟨k1, k2⟩ := shp_step h1 h0 hf ho
    have k3 := inv_step (s := s) h3 ho
    obtain ⟨q1, q2⟩ := ih k3.2.1 k1 (ok_step h2 ho) k3.1
    exact ⟨q1, by rw [q2, k2, List.append_assoc]⟩
/-- what is read has its text -/
theorem Pth.rep {r : Rep} {s : Int} {t : B8} (h : Pth rep00 (-1) t r s) (hs : 1 ≤ s) : repOk r ∧ ¬ longR r ∧ repT r = t := by
  obtain ⟨⟨_, _, h3, h4⟩, h5⟩ := h.txt (by decide) ⟨fun _ => rfl, fun _ => rfl, fun _ => rfl, fun _ => rfl, fun _ => rfl, fun _ => rfl⟩ (by decide) (by decide)
  refine ⟨h3, fun hl => ?_, ?_⟩
  · obtain ⟨a, b, c, d⟩ := h4
    rcases hl with h | h | h | h <;> omega
  · unfold Go.Proofs.YtepongfhnammkaaDoor.txt at h5
    rw [if_neg (by omega), if_neg (by omega), if_pos (by decide)] at h5
    exact h5
end Go.Proofs.YtepongfhnammkaaDoor

/- plain laws: a report's text is read as it is -/
namespace Go.Proofs.YtepongfhnammkaaDoor
set_option linter.all false
theorem take_snoc {α : Type} {l : List α} {n : Nat} (h : n < l.length) : l.take n ++ [l[n]] = l.take (n + 1) := (List.take_succ_eq_append_getElem h).symm
theorem Pth.lines {α : Type} {f : Nat → α → B8} {l : List α} {R : Nat → Rep} {k : Int} {it : α → Item} (hk : ∀ a, itS (it a) = k) (hA : ∀ n (h : n < l.length), itA (R n) (it l[n]) = R (n + 1)) (hT : ∀ n (h : n < l.length), itT (R n) (it l[n]) = f n l[n]) (hO : ∀ n (h : n < l.length), itOk (R n) (it l[n])) (h2 : 2 ≤ k) {s : Int} (hs : 1 ≤ s ∧ s ≤ k) :
    ∀ n, n ≤ l.length → ∃ s', (1 ≤ s' ∧ s' ≤ k) ∧ Pth (R 0) s (catN f l n) (R n) s' := by
  intro n
  induction n with
  | zero => intro _; exact ⟨s, hs, .nil⟩
  | succ n ih =>
    intro hn
    obtain ⟨s', h1, h3⟩ := ih (by omega)
    have hl : n < l.length := by omega
    refine ⟨k, by omega, ?_⟩
    rw [← catN_succ f hl]
    refine h3.app ?_
    rw [← hT n hl, ← hA n hl]
    have := Pth.one (r := R n) (s := s') (it l[n]) (by rw [folP, hk, if_neg (by omega)]; exact ⟨h1.1, h1.2⟩) (hO n hl)
    rw [hk] at this; exact this
theorem Pth.of {r : Rep} (h : repOk r) (hl : ¬ longR r) : ∃ k, 1 ≤ k ∧ Pth rep00 (-1) (repT r) r k := by
  obtain ⟨⟨⟨⟨⟨h1, h2⟩, h3⟩, h4⟩, h5⟩, h6⟩ := h
  obtain ⟨tick, frames, eps, reps, upds, looks⟩ := r
  have q : eps.length ≤ 1000 ∧ reps.length ≤ 1000 ∧ upds.length ≤ 1000 ∧ looks.length ≤ 1000 := by
    simp only [longR] at hl; omega
  obtain ⟨q1, q2, q3, q4⟩ := q
  have p1 : Pth rep00 (-1) (itT rep00 (.tick tick)) ⟨tick, 0, [], [], [], []⟩ 0 := Pth.one (.tick tick) (show folP (-1) 0 by decide) h1
  have p2 : Pth ⟨tick, 0, [], [], [], []⟩ 0 (itT ⟨tick, 0, [], [], [], []⟩ (.frames frames)) ⟨tick, frames, [], [], [], []⟩ 1 := Pth.one (.frames frames) (show folP 0 1 by decide) h2
  obtain ⟨s1, b1, p3⟩ := Pth.lines (f := epF) (l := eps) (R := fun n => ⟨tick, frames, eps.take n, [], [], []⟩) (k := 2) (it := .ep) (fun _ => rfl)
    (fun n hn => by simp only [itA, addE, take_snoc hn]) (fun n hn => by simp only [itT, itW, List.length_take, Nat.min_eq_left (Nat.le_of_lt hn)]; rfl) (fun n hn => ⟨by show (eps.take n).length < 1000; rw [List.length_take]; omega, h3 _ (List.getElem_mem hn)⟩) (by decide) (s := 1) ⟨by decide, by decide⟩ eps.length (Nat.le_refl _)
  obtain ⟨s2, b2, p4⟩ := Pth.lines (f := rpF) (l := reps) (R := fun n => ⟨tick, frames, eps, reps.take n, [], []⟩) (k := 3) (it := .rp) (fun _ => rfl)
    (fun n hn => by simp only [itA, addR, take_snoc hn]) (fun n hn => by
      obtain ⟨g, m⟩ := reps[n]
      simp only [itT, itW, List.length_take, Nat.min_eq_left (Nat.le_of_lt hn)]
      cases g <;> rfl) (fun n hn => ⟨by show (reps.take n).length < 1000; rw [List.length_take]; omega, h4 _ (List.getElem_mem hn)⟩) (by decide) (s := s1) ⟨b1.1, by omega⟩ reps.length (Nat.le_refl _)
  obtain ⟨s3, b3, p5⟩ := Pth.lines (f := upF updateW) (l := upds) (R := fun n => ⟨tick, frames, eps, reps, upds.take n, []⟩) (k := 4) (it := .up) (fun _ => rfl)
    (fun n hn => by simp only [itA, addU, take_snoc hn]) (fun n hn => rfl) (fun n hn => ⟨by show (upds.take n).length < 1000; rw [List.length_take]; omega, h5 _ (List.getElem_mem hn)⟩) (by decide) (s := s2) ⟨b2.1, by omega⟩ upds.length (Nat.le_refl _)
  obtain ⟨s4, b4, p6⟩ := Pth.lines (f := upF lookW) (l := looks) (R := fun n => ⟨tick, frames, eps, reps, upds, looks.take n⟩) (k := 5) (it := .lk) (fun _ => rfl)
    (fun n hn => by simp only [itA, addU, take_snoc hn]) (fun n hn => rfl) (fun n hn => ⟨by show (looks.take n).length < 1000; rw [List.length_take]; omega, h6 _ (List.getElem_mem hn)⟩) (by decide) (s := s3) ⟨b3.1, by omega⟩ looks.length (Nat.le_refl _)
  simp only [List.take_zero, List.take_length] at p3 p4 p5 p6
  exact ⟨s4, b4.1, ((((p1.app p2).app p3).app p4).app p5).app p6⟩
/-- what Read answers -/
abbrev rdPost (t : B8) (e : Option Rep) : Prop := match e with
  | some r => (repOk r ∧ ¬ longR r ∧ repT r = t) ∧ ∀ r', repOk r' → ¬ longR r' → repT r' = t → r' = r
  | none => ∀ r, repOk r → ¬ longR r → repT r ≠ t
theorem Rd.post {t : B8} {j : RI} (h : Rd (rep00, -1, .normal) t j) : (j.2.2 = .normal ∧ 1 ≤ j.2.1 → rdPost t (some j.1)) ∧ (¬ (j.2.2 = .normal ∧ 1 ≤ j.2.1) → rdPost t none) := by
  have key : ∀ r', repOk r' → ¬ longR r' → repT r' = t → ∃ k, 1 ≤ k ∧ j = (r', k, .normal) := fun r' h1 h2 h3 => by
    obtain ⟨k, hk, hp⟩ := Pth.of h1 h2
    rw [h3] at hp
    exact ⟨k, hk, Rd.full hp h⟩
  refine ⟨fun ⟨h1, h2⟩ => ⟨Pth.rep (h.sound h1) h2, fun r' g1 g2 g3 => ?_⟩, fun hn r' g1 g2 g3 => hn ?_⟩
  · obtain ⟨k, _, e⟩ := key r' g1 g2 g3
    rw [e]
  · obtain ⟨k, hk, e⟩ := key r' g1 g2 g3
    rw [e]; exact ⟨rfl, hk⟩
end Go.Proofs.YtepongfhnammkaaDoor

namespace Go.Proofs.YtepongfhnammkaaDoor
set_option linter.all false
open Go.RowKit
/-! a text's lines, told one by one to whoever asks -/
abbrev ycR (J : RI × Sg → AO) : Ctr := yCtrJ (X := RX) (fun x => [.fs 1 eStr (x.1 :: x.2.1), .bool x.2.2]) xpR nxR (fun i => i.2.2) J
def lns_c (J : RI × Sg → AO) (y : Value) : Ctr where
  D := B8 × RI × Sg
  pre := fun (s, i, _) => s.length ≤ 900000 ∧ i.2.2 = .normal ∧ invR i ∧ (ycR J).OkBy Tryd.prog (CallsV Tryd.prog y)
  args := fun _ => [.val y, .ptr 0 0]
  objs := fun (s, i, v) => [(0, .box 9 [.str s]), (1, .ab (J (i, v)))]
  nn := 2
  E := RI × Sg
  post := fun (s, i, _) e => Rd i s e.1
  res := fun _ _ => .tup []
  out := fun _ e => [(1, .ab (J e))]
theorem splitC_len2 {c : BitVec 8} {l : B8} : (splitC c l).length ≤ l.length + 1 := by
  rw [splitC_len]; have := List.count_le_length (a := c) (l := l); omega
theorem isN_iff {w : Way} : isN w = true ↔ w = .normal := by cases w <;> simp [isN]
theorem cutAt_lt {c : BitVec 8} {t : B8} (h : t ≠ []) : (cutAt c t).2.length < t.length := by
  by_cases hm : c ∈ t
  · have := congrArg List.length (cutAt_in hm)
    rw [List.length_append, List.length_cons] at this; omega
  · rw [cutAt_out hm]; exact List.length_pos_iff.2 h
def lns_H : Cfg := ⟨[(44, cut_c), (45, split_c)], [], [], [], 22, 2, [], [], []⟩
theorem lns_ok (J : RI × Sg → AO) (y : Value): (lns_c J y).Ok Tryd.prog 43 := by
  refine fn_ok lns_H 2 rfl _ Tryd.func43 rfl rfl ⟨cut_ok, split_ok, trivial⟩ rfl rfl (by kernel_rfl) (fun _ => Nat.le_of_ble_eq_true rfl) ?_
  rintro ⟨s, i, v⟩ hp hr
  try dsimp only [lns_c] at hp
  try simp only [lns_c, Rng, RngL, inR, and_true, true_and] at hr
  obtain ⟨hlen, hn, hv, hy⟩ := hp
  repeat' (first | (with_reducible refine Unf.h ?_) | fail); all_goals try (conv => whnf)
  refine LoopS.autoN (I := B8 × RI × Sg) (fun x => x.1.length ≤ s.length ∧ x.2.1.2.2 = .normal ∧ invR x.2.1 ∧ ∀ e, Rd x.2.1 x.1 e → Rd i s e) (fun x => []) (fun x => [(0, .box 9 [.str x.1]), (1, .ab (J x.2))]) 2 (fun x => x.1.length) (s, i, v) ⟨Nat.le_refl _, hn, hv, fun _ h => h⟩ ?_ ?_
  · repeat' (first | (with_reducible refine Unf.h ?_) | ((conv => whnf); first | (refine Side.mk ?_ ?_; focus (with_reducible rfl)) | (with_reducible refine Unf.h ?_) | exact True.intro) | fail); all_goals try (conv => whnf)
  · rintro ⟨t, j, w⟩ ⟨h1, h2, h3, h4⟩
    dsimp only at h1 h2 h3 h4 ⊢
    have hpc : cut_c.pre (t, 10#8) := show t.length ≤ 1000000 by omega
    have hcl := cutAt_len (10#8) t
    have hps : split_c.pre ((cutAt (10#8) t).1, 32#8) := show (cutAt (10#8) t).1.length ≤ 1000000 by omega
    have hsl := splitC_len2 (c := 32#8) (l := (cutAt (10#8) t).1)
    obtain ⟨x, q, hxq⟩ : ∃ x q, splitC (32#8) (cutAt (10#8) t).1 = x :: q := by
      cases h : splitC (32#8) (cutAt (10#8) t).1 with
      | nil => exact absurd h (splitC_ne _ _)
      | cons x q => exact ⟨x, q, rfl⟩
    have hxp : nums_c.pre (x :: q) := by
      refine ⟨by rw [← hxq]; omega, fun y hy => ?_⟩
      have := (splitC_mem (c := 32#8) (l := (cutAt (10#8) t).1) (x := y) (by rw [hxq]; exact hy)).2
      omega
    repeat' (first | (with_reducible refine Unf.h ?_) | ((conv => whnf); first | refine Fork.mk (fun h => ?_) (fun h => ?_) | (refine Side.mk ?_ ?_; focus (omega)) | refine retK_n ?_) | fail); all_goals try (conv => whnf)
    all_goals try (exfalso; omega)
    · refine CallS.mk (c := cut_c) ((t, 10#8)) ?_
      repeat' (first | (with_reducible refine Unf.h ?_) | ((conv => whnf); first | (refine Side.mk ?_ ?_; focus (first | with_reducible rfl | assumption | (simp [*]; done))) | refine Got.mk (fun _ _ => ?_)) | fail); all_goals try (conv => whnf)
      all_goals try (exfalso; omega)
      refine CallS.mk (c := split_c) (((cutAt (10#8) t).1, 32#8)) ?_
      repeat' (first | (with_reducible refine Unf.h ?_) | ((conv => whnf); first | (refine Side.mk ?_ ?_; focus (first | with_reducible rfl | assumption | (simp [*]; done))) | refine Got.mk (fun _ _ => ?_)) | fail); all_goals try (conv => whnf)
      all_goals try (exfalso; omega)
      refine ValS.mk (OpsK.callY (c := ycR J) hy rfl rfl rfl rfl rfl ?_)
      refine CallS.mk (c := ycR J) ((j, w), (x, q, decide ((10#8) ∈ t))) ?_
      repeat' (first | (with_reducible refine Unf.h ?_) | ((conv => whnf); (refine Side.mk ?_ ?_; focus (first | with_reducible rfl | (simp only [*, hxq]; done)))) | fail); all_goals try (conv => whnf)
      all_goals try (exfalso; omega)
      refine Side.mk ⟨h2, h3, hxp⟩ ?_
      have ht0 : t ≠ [] := fun e => by subst e; exact absurd h (by decide)
      repeat' (first | (with_reducible first | refine Unf.h ?_ | refine loopK_n ?_) | ((conv => whnf); first | refine Fork.mkn (fun h => ?_) (fun h => ?_) | refine Got.mk (fun _ _ => ?_) | refine retK_r ?_) | fail); all_goals try (conv => whnf)
      all_goals try (exfalso; omega)
      · rename_i s' hs'
        have hs2 : nxR j (x, q, decide ((10#8) ∈ t)) s'.1 := hs'
        exact RetE.mk s' (h4 _ (.stop ht0 (x, q, decide ((10#8) ∈ t)) hxq.symm rfl hs2 fun e => h (isN_iff.2 e))) (by repeat' (first | (with_reducible refine Unf.h ?_) | ((conv => whnf); first | (refine Side.mk ?_ ?_; focus (with_reducible rfl)) | (with_reducible refine Unf.h ?_) | exact rfl) | fail); all_goals try (conv => whnf))
      · rename_i s' hs'
        have hs2 : nxR j (x, q, decide ((10#8) ∈ t)) s'.1 := hs'
        have hn2 : s'.1.2.2 = .normal := isN_iff.1 h
        have hlt := cutAt_lt (c := 10#8) ht0
        refine ⟨((cutAt (10#8) t).2, s'), ⟨hlt, by dsimp only; omega, hn2, nxR_inv h3 hs2 hn2, fun e he => h4 e (.go ht0 (x, q, decide ((10#8) ∈ t)) hxq.symm rfl hs2 hn2 he)⟩, ?_⟩
        repeat' (first | (with_reducible refine Unf.h ?_) | ((conv => whnf); first | (refine Side.mk ?_ ?_; focus (with_reducible rfl)) | (with_reducible refine Unf.h ?_) | exact True.intro) | fail); all_goals try (conv => whnf)
    · obtain rfl : t = [] := List.eq_nil_of_length_eq_zero (by omega)
      exact RetE.mk (j, w) (h4 _ (.nil h2)) (by repeat' (first | (with_reducible refine Unf.h ?_) | ((conv => whnf); first | (refine Side.mk ?_ ?_; focus (with_reducible rfl)) | (with_reducible refine Unf.h ?_) | exact rfl) | fail); all_goals try (conv => whnf))
/-! the function that makes the closure -/
def bxS (b : Nat) : Value := .pointer (some ⟨b, 0, none⟩)
def clnOs (s : B8) : List Ob := [(0, .box 9 [.str s])]
def lines_c : Ctr where
  D := B8
  args := fun s => [.str s]
  E := Value × Sg
  res := fun _ e => .val e.1
  out := fun s e => [(0, .ab (packAO e.2 (clnOs s) (cloQ 43 1 e.2 e.1)))]
  mm := 1
theorem lines_runs (s : ByteArray) (w : World) : Calls Tryd.prog 22 #[.string s] w fun e w' => e = .returned (.func (.func 43) #[] #[bxS w.heap.size]) ∧ w' = w.alloc (.cells #[.string s] 9) := by
  go_enter Tryd.func22, Tryd.ntmps22
  go_wp2
  go_ret
  exact ⟨rfl, rfl⟩
theorem lines_ok : lines_c.Ok Tryd.prog 22 := by
  rintro s _ A0 w σ vs hA hobs hargs hdom hgl
  obtain ⟨p, m1, rfl, h1, h3⟩ := hargs
  simp only [hvs] at h3; subst h3
  obtain rfl : p = .string (baOf s) := by simpa [SV.h1, SV.hc] using h1
  refine (lines_runs _ w).mono ?_
  rintro e w' ⟨rfl, rfl⟩
  obtain ⟨τ, hτ⟩ : ∃ τ : Sg, τ = fun k => if k = 0 then some (bxS w.heap.size) else none := ⟨_, rfl⟩
  have e0 : τ 0 = some (bxS w.heap.size) := by rw [hτ]; rfl
  have hm1 : Kept w (w.alloc (.cells #[.string (baOf s)] 9)) := Mod.alloc _ _ _
  have own0 : ∀ b, (SO.box 9 [.str s]).own τ 0 b ↔ b = w.heap.size := fun b => by
    constructor
    · rintro ⟨v, hv, hb⟩; rw [e0] at hv; cases hv; cases hb; rfl
    · rintro rfl; exact ⟨_, e0, rfl⟩
  have o0 : Obs τ A0 [] w := ⟨fun o ho => (by cases ho), trivial, fun b hb => hb.elim⟩
  have o1 : Obs τ A0 (clnOs s) (w.alloc (.cells #[.string (baOf s)] 9)) := by
    refine o0.cons hm1 ⟨w.heap.size, [.string (baOf s)], e0, World.alloc_heap_new _ _, [.string (baOf s)], [], rfl, ?_, rfl⟩ (fun b hb => ?_) hA
    · simp only [SV.hc]
    · have := (own0 b).1 hb; omega
  refine ⟨(_, τ), _, fun _ => none, rfl, trivial, fun k hk => absurd hk (Nat.not_lt_zero k), fun _ _ => rfl, ⟨rfl, rfl⟩, Mod.alloc _ _ _, ?_, fun b hb => .inr ?_⟩
  · refine o1.pack ⟨[bxS w.heap.size], rfl, fun i hi => ?_, fun u hu => ?_, rfl, fun k hk => ?_⟩
    · match i, hi with
      | 0, _ => exact e0
    · obtain rfl := List.mem_singleton.1 hu
      exact ⟨_, rfl⟩
    · rw [hτ]; simp only; rw [if_neg (by omega)]
  · rcases (pack_owns b).1 hb with hb | hb
    · have := (own0 b).1 hb; omega
    · exact hb.elim
theorem lines_law (s : B8) (hs : s.length ≤ 900000) : CloLawJ Tryd.prog (X := RX) (fun x => [.fs 1 eStr (x.1 :: x.2.1), .bool x.2.2]) xpR nxR (fun i => i.2.2) 1 (clnOs s) (fun J y => lns_c J y) (fun J y τ => (s, (rep00, -1, .normal), τ)) (rep00, -1, .normal) (fun i => Rd (rep00, -1, .normal) s i) where
  args := fun _ _ _ => rfl
  objs := fun _ _ _ => rfl
  nn := fun _ _ => rfl
  pre := fun _ _ _ h => ⟨hs, rfl, ⟨⟨by decide, by decide, by decide, by decide⟩, by decide, by decide⟩, h⟩
  out := fun _ _ _ e he => ⟨_, e.2, he, rfl⟩
end Go.Proofs.YtepongfhnammkaaDoor

namespace Go.Proofs.YtepongfhnammkaaDoor
set_option linter.all false
open Go.RowKit
/-! report.Read -/
abbrev erW : Way → Int
  | .normal => 0
  | _ => 2
abbrev rdS (i : RI) : List Ob := [(0, .box 27 [.int .i64 0, .int .i64 0, .nils, .nils, .nils, .nils]), (1, .box 30 [.int .i64 (erW i.2.2)]), (3, .box 61 [.ptr 2 0]),
  (2, .box 63 [.int .i64 i.1.tick, .int .i64 i.1.frames, .own 4, .own 5, .own 6, .own 7, .int .i64 i.2.1]), (4, .row 54 2 eEp i.1.eps), (5, .row 56 2 eRp i.1.reps), (6, .row 42 4 eUp i.1.upds), (7, .row 44 4 eUp i.1.looks)]
theorem Rd.way {i j : RI} {s : B8} (h : Rd i s j) : j.2.2 = .normal ∨ j.2.2 = .ret := by
  induction h with
  | nil hn => exact .inl hn
  | stop _ _ _ _ h hn =>
    rcases h with ⟨it, _, _, _, _, rfl⟩ | ⟨_, h⟩
    · exact .inl rfl
    · exact .inr h
  | go _ _ _ _ _ _ _ ih => exact ih
def read_c : Ctr where
  D := B8
  pre := fun s => s.length ≤ 900000
  args := fun s => [.str s]
  E := Option Rep
  post := fun s e => rdPost s e
  res := fun _ e => match e with
    | some r => .tup [.agg (eRep r), .int .i64 0]
    | none => .tup [.agg (eRep rep00), .int .i64 2]
def read_H : Cfg := ⟨[(22, lines_c), (23, tk_c)], [], [], [], 32, 0, [], [], []⟩
theorem read_ok : read_c.Ok Tryd.prog 11 := by
  refine fn_ok read_H 0 rfl _ Tryd.func11 rfl rfl ⟨lines_ok, tk_ok, trivial⟩ rfl rfl (by kernel_rfl) (fun _ => Nat.le_of_ble_eq_true rfl) ?_
  intro (s : B8) hp hr
  try dsimp only [read_c] at hp
  try simp only [read_c, Rng, RngL, inR, and_true, true_and] at hr
  have hp : s.length ≤ 900000 := hp
  repeat' (first | (with_reducible refine Unf.h ?_) | ((conv => whnf); first | (refine Side.mk ?_ ?_; focus (first | with_reducible rfl | exact True.intro)) | refine Got.mk (fun _ _ => ?_) | refine CallS.mk (c := lines_c) (s) ?_) | fail); all_goals try (conv => whnf)
  all_goals try (exfalso; omega)
  rename_i c hc
  obtain ⟨v, τc⟩ := c
  refine Or2.r ?_
  refine RangeJ.mk (lines_law s hp) 43 (fun J y => lns_ok J y) τc 4 _ rfl [(2, .ptr 0 0), (3, .ptr 1 0), (4, .ptr 3 0)] rdS 4 8 rfl rfl (fun _ => ⟨rfl, rfl⟩) (fun _ => rfl) ?_ ?_ ?_ ?_ ?_
  · repeat' (first | (with_reducible refine Unf.h ?_) | ((conv => whnf); first | (refine Side.mk ?_ ?_; focus (with_reducible rfl)) | (with_reducible refine Unf.h ?_) | exact True.intro) | fail); all_goals try (conv => whnf)
  all_goals try (exfalso; omega)
  · rintro ⟨r, k, w⟩ ⟨x, xs, en⟩ ⟨h1, h2, h3⟩
    dsimp only at h1 h2 h3
    subst h1
    have hpt : tk_c.pre (r, k, x, xs) := ⟨h3, h2.2, h2.1⟩
    cases en with
    | false =>
      repeat' (first | (with_reducible refine Unf.h ?_) | fail); all_goals try (conv => whnf)
      all_goals try (exfalso; omega)
      refine ⟨(r, k, .ret), .inr ⟨fun h => (by cases h), rfl⟩, ?_, rfl⟩
      repeat' (first | (with_reducible refine Unf.h ?_) | ((conv => whnf); first | (refine Side.mk ?_ ?_; focus (with_reducible rfl)) | (with_reducible refine Unf.h ?_) | exact True.intro) | fail); all_goals try (conv => whnf)
      all_goals try (exfalso; omega)
    | true =>
      repeat' (first | (with_reducible refine Unf.h ?_) | fail); all_goals try (conv => whnf)
      all_goals try (exfalso; omega)
      first | refine CallS.mk (c := tk_c) ((r, k, x, xs)) ?_ | refine Or2.l (CallS.mk (c := tk_c) ((r, k, x, xs)) ?_) | refine Or2.r (CallS.mk (c := tk_c) ((r, k, x, xs)) ?_)
      repeat (first | (with_reducible refine Unf.h ?_) | ((conv => whnf); first | (refine Side.mk ?_ ?_; focus (first | with_reducible rfl | assumption | exact True.intro | rfl)) | (with_reducible refine Unf.h ?_)))
      conv => whnf
      refine Got.mk (fun e he => ?_)
      have he2 : tkP r k (x :: xs) e := he
      clear he
      obtain ⟨e, r2, k2⟩ := e
      cases e with
      | none =>
        repeat' (first | (with_reducible refine Unf.h ?_) | ((conv => whnf); (with_reducible refine Unf.h ?_)) | fail); all_goals try (conv => whnf)
        all_goals try (exfalso; omega)
        refine ⟨(r2, k2, .ret), .inr ⟨fun _ => he2, rfl⟩, ?_, rfl⟩
        repeat' (first | (with_reducible refine Unf.h ?_) | ((conv => whnf); first | (refine Side.mk ?_ ?_; focus (with_reducible rfl)) | (with_reducible refine Unf.h ?_) | exact True.intro) | fail); all_goals try (conv => whnf)
        all_goals try (exfalso; omega)
      | some it =>
        obtain ⟨⟨g1, g2, g3⟩, g4⟩ := he2
        obtain ⟨rfl, rfl⟩ : r2 = itA r it ∧ k2 = itS it := ⟨congrArg Prod.fst g4, congrArg Prod.snd g4⟩
        repeat' (first | (with_reducible refine Unf.h ?_) | ((conv => whnf); (with_reducible refine Unf.h ?_)) | fail); all_goals try (conv => whnf)
        all_goals try (exfalso; omega)
        refine ⟨(itA r it, itS it, .normal), .inl ⟨it, rfl, g1, g2, g3, rfl⟩, ?_, rfl⟩
        repeat' (first | (with_reducible refine Unf.h ?_) | ((conv => whnf); first | (refine Side.mk ?_ ?_; focus (with_reducible rfl)) | (with_reducible refine Unf.h ?_) | exact True.intro) | fail); all_goals try (conv => whnf)
        all_goals try (exfalso; omega)
  · exact fun i x h => h.1
  · rfl
  · rintro ⟨r, k, w⟩ hi
    have hpo := Rd.post hi
    cases w with
    | normal =>
      repeat' (first | (with_reducible refine Unf.h ?_) | ((conv => whnf); first | refine Fork.mk (fun h => ?_) (fun h => ?_) | refine retK_r ?_) | fail); all_goals try (conv => whnf)
      all_goals try (exfalso; omega)
      · exact RetE.mk (none : Option Rep) (hpo.2 fun x => by have := x.2; omega) (by repeat' (first | (with_reducible refine Unf.h ?_) | ((conv => whnf); first | (refine Side.mk ?_ ?_; focus (with_reducible rfl)) | (with_reducible refine Unf.h ?_) | exact rfl) | fail); all_goals try (conv => whnf))
      · exact RetE.mk (some r : Option Rep) (hpo.1 ⟨rfl, by omega⟩) (by repeat' (first | (with_reducible refine Unf.h ?_) | ((conv => whnf); first | (refine Side.mk ?_ ?_; focus (with_reducible rfl)) | (with_reducible refine Unf.h ?_) | exact rfl) | fail); all_goals try (conv => whnf))
    | ret =>
      repeat' (first | (with_reducible refine Unf.h ?_) | ((conv => whnf); refine retK_r ?_) | fail); all_goals try (conv => whnf)
      all_goals try (exfalso; omega)
      exact RetE.mk (none : Option Rep) (hpo.2 fun x => by cases x.1) (by repeat' (first | (with_reducible refine Unf.h ?_) | ((conv => whnf); first | (refine Side.mk ?_ ?_; focus (with_reducible rfl)) | (with_reducible refine Unf.h ?_) | exact rfl) | fail); all_goals try (conv => whnf))
    | exit j =>
      rcases Rd.way hi with h | h <;> cases h
end Go.Proofs.YtepongfhnammkaaDoor

namespace Go.Proofs.YtepongfhnammkaaDoor
set_option linter.all false
open Go.RowKit
/-! the document's Same, of a report and itself -/
def same_c : Ctr where
  D := List (BitVec 8) × List (BitVec 8)
  args := fun (a, b) => [.fs 1 eB a, .fs 1 eB b]
  res := fun (a, b) _ => .dec (a = b) inferInstance
def same_H : Cfg := ⟨[], [(6, [3, 7], [], (.one 0 0 false (.one 1 0 false (.one 2 0 false (.one 3 1 false (.one 4 0 false (.one 5 0 false (.one 6 0 false (.one 7 1 false (.one 8 0 false .nil))))))))), [])], [], [], 26, 0, [], [], []⟩
theorem same_ok : same_c.Ok Tryd.prog 24 := by
  refine fn_ok same_H 0 rfl _ Tryd.func24 rfl rfl trivial rfl rfl (by kernel_rfl) (fun _ => Nat.le_of_ble_eq_true rfl) ?_
  rintro ⟨a, b⟩ hp hr
  try dsimp only [same_c] at hp
  try simp only [same_c, Rng, RngL, inR, and_true, true_and] at hr
  repeat' (first | (with_reducible refine Unf.h ?_) | ((conv => whnf); first | refine Fork.mkn (fun h => ?_) (fun h => ?_) | refine RetE.mk () trivial ?_ | refine retK_r ?_) | fail); all_goals try (conv => whnf)
  · exact Side.mk ⟨fun h => (by cases h), fun e => absurd (congrArg (fun l => ((List.length l : Nat) : Int)) e) h⟩ (by repeat' (first | (with_reducible refine Unf.h ?_) | ((conv => whnf); exact rfl) | fail); all_goals try (conv => whnf))
  have hl : a.length = b.length := by omega
  refine LoopS.mk (fun i : Nat => i ≤ a.length ∧ a.take i = b.take i) (fun i => [(0, .fs 1 eB a), (1, .fs 1 eB b), (5, .int .i64 i)]) (fun _ => []) 0 (fun i => a.length - i) 0 ⟨Nat.zero_le _, rfl⟩ ?_ ?_
  · repeat' (first | (with_reducible refine Unf.h ?_) | ((conv => whnf); first | (refine Side.mk ?_ ?_; focus (first | with_reducible rfl | (refine congrArg (SV.int _) ?_; omega))) | (with_reducible refine Unf.h ?_) | exact True.intro) | fail); all_goals try (conv => whnf)
  · rintro i ⟨hi, he⟩
    repeat' (first | (with_reducible first | refine Unf.h ?_ | refine loopK_n ?_) | ((conv => whnf); first | refine Fork.mkn (fun h => ?_) (fun h => ?_) | refine Fork.mk (fun h => ?_) (fun h => ?_) | (refine Side.mk ?_ ?_; focus ((intros; (try simp only [lenS, inR, cutS, loI, hiI] at *); omega))) | (refine Idx.mk ?_ ?_; focus (omega)) | refine RetE.mk () trivial ?_ | refine retK_r ?_) | fail); all_goals try (conv => whnf)
    · exact Side.mk ⟨fun h => (by cases h), fun e => absurd (by subst e; rfl) h⟩ (by repeat' (first | (with_reducible refine Unf.h ?_) | ((conv => whnf); exact rfl) | fail); all_goals try (conv => whnf))
    · refine ⟨i + 1, ⟨by omega, by omega, ?_⟩, by repeat' (first | (with_reducible refine Unf.h ?_) | ((conv => whnf); first | (refine Side.mk ?_ ?_; focus (first | with_reducible rfl | (refine congrArg (SV.int _) ?_; omega))) | (with_reducible refine Unf.h ?_) | exact True.intro) | fail); all_goals try (conv => whnf)⟩
      have h1 : i < a.length := by omega
      have h2 : i < b.length := by omega
      have h3 : a[i] = b[i] := by simpa using h
      rw [List.take_succ_eq_append_getElem h1, List.take_succ_eq_append_getElem h2, he, h3]
    · refine Side.mk ⟨fun _ => ?_, fun _ => rfl⟩ (by repeat' (first | (with_reducible refine Unf.h ?_) | ((conv => whnf); exact rfl) | fail); all_goals try (conv => whnf))
      have : i = a.length := by omega
      rw [this, List.take_length, hl, List.take_length] at he
      exact he
def rsm_c : Ctr where
  D := Rep
  args := fun r => [.agg (eRep r), .agg (eRep r)]
  res := fun _ _ => .bool true
def rsm_H : Cfg := ⟨[(24, same_c)], [(6, [1, 4, 6, 9], [], (.one 0 0 false (.one 1 1 false (.one 2 0 false (.one 3 0 false (.one 4 1 false (.one 5 0 false (.one 6 1 false (.one 7 0 false (.one 8 0 false (.one 9 1 false (.one 10 0 false .nil))))))))))), []), (11, [1, 4, 6, 9], [], (.one 0 0 false (.one 1 1 false (.one 2 0 false (.one 3 0 false (.one 4 1 false (.one 5 0 false (.one 6 1 false (.one 7 0 false (.one 8 0 false (.one 9 1 false (.one 10 0 false .nil))))))))))), []), (16, [1, 4, 6, 9], [10, 11, 12, 13], (.one 0 0 false (.one 1 1 false (.one 2 0 false (.one 3 0 false (.one 4 1 false (.one 5 0 false (.one 6 1 false (.one 7 0 false (.one 8 0 false (.one 9 1 false (.alt 10 true (.one 11 2 true (.one 12 2 true (.one 13 2 false .nil))) (.one 11 2 true (.one 10 2 true (.one 12 2 true (.one 13 2 false .nil))))))))))))))), []), (22, [1, 4, 6, 9], [10, 11, 12, 13], (.one 0 0 false (.one 1 1 false (.one 2 0 false (.one 3 0 false (.one 4 1 false (.one 5 0 false (.one 6 1 false (.one 7 0 false (.one 8 0 false (.one 9 1 false (.alt 10 true (.one 11 2 true (.one 12 2 true (.one 13 2 false .nil))) (.one 11 2 true (.one 10 2 true (.one 12 2 true (.one 13 2 false .nil))))))))))))))), [])], [], [], 185, 0, [], [], []⟩
theorem rsm_ok : rsm_c.Ok Tryd.prog 12 := by
  refine fn_ok rsm_H 0 rfl _ Tryd.func12 rfl rfl ⟨same_ok, trivial⟩ rfl rfl (by kernel_rfl) (fun _ => Nat.le_of_ble_eq_true rfl) ?_
  intro (r : Rep) hp hr
  try dsimp only [rsm_c] at hp
  try simp only [rsm_c, Rng, RngL, inR, and_true, true_and] at hr
  repeat' (first | (with_reducible refine Unf.h ?_) | ((conv => whnf); first | refine Fork.mkn (fun h => ?_) (fun h => ?_) | (refine Side.mk ?_ ?_; focus (omega)) | refine RetE.mk () trivial ?_ | refine retK_r ?_ | exact rfl) | fail); all_goals try (conv => whnf)
  all_goals try (exfalso; omega)
  obtain ⟨⟨-, -, b1, b2, b3, b4⟩, -⟩ := hr
  refine LoopS.autoN (I := Nat) (fun i => i ≤ r.eps.length) (fun i => [(5, .int .i64 i)]) (fun _ => [(0, .box 27 (eRep r)), (1, .box 27 (eRep r))]) 2 (fun i => r.eps.length - i) 0 (Nat.zero_le _) ?_ ?_
  · repeat' (first | (with_reducible refine Unf.h ?_) | ((conv => whnf); first | (refine Side.mk ?_ ?_; focus (first | with_reducible rfl | (refine congrArg (SV.int _) ?_; omega))) | (with_reducible refine Unf.h ?_) | exact True.intro) | fail); all_goals try (conv => whnf)
  all_goals try (exfalso; omega)
  · intro i hi
    repeat' (first | (with_reducible first | refine Unf.h ?_ | refine loopK_n ?_) | ((conv => whnf); first | refine Fork.mkn (fun h => ?_) (fun h => ?_) | refine Fork.mk (fun h => ?_) (fun h => ?_) | (refine Side.mk ?_ ?_; focus (first | omega | (intros; (try simp only [lenS, inR, cutS, loI, hiI] at *); omega))) | (refine Idx.mk ?_ ?_; focus (omega)) | refine RetE.mk () trivial ?_ | refine retK_r ?_ | exact rfl) | fail); all_goals try (conv => whnf)
    all_goals try (exfalso; omega)
    · refine ⟨i + 1, ⟨by omega, by omega⟩, ?_⟩
      repeat' (first | (with_reducible refine Unf.h ?_) | ((conv => whnf); first | (refine Side.mk ?_ ?_; focus (first | with_reducible rfl | (refine congrArg (SV.int _) ?_; omega))) | (with_reducible refine Unf.h ?_) | exact True.intro) | fail); all_goals try (conv => whnf)
      all_goals try (exfalso; omega)
    refine LoopS.autoN (I := Nat) (fun i => i ≤ r.reps.length) (fun i => [(6, .int .i64 i)]) (fun _ => [(0, .box 27 (eRep r)), (1, .box 27 (eRep r))]) 2 (fun i => r.reps.length - i) 0 (Nat.zero_le _) ?_ ?_
    · repeat' (first | (with_reducible refine Unf.h ?_) | ((conv => whnf); first | (refine Side.mk ?_ ?_; focus (first | with_reducible rfl | (refine congrArg (SV.int _) ?_; omega))) | (with_reducible refine Unf.h ?_) | exact True.intro) | fail); all_goals try (conv => whnf)
    all_goals try (exfalso; omega)
    · intro i hi
      repeat' (first | (with_reducible first | refine Unf.h ?_ | refine loopK_n ?_) | ((conv => whnf); first | refine Fork.mkn (fun h => ?_) (fun h => ?_) | refine Fork.mk (fun h => ?_) (fun h => ?_) | (refine Side.mk ?_ ?_; focus ((intros; (try simp only [lenS, inR, cutS, loI, hiI] at *); omega))) | (refine Idx.mk ?_ ?_; focus (omega)) | refine RetE.mk () trivial ?_ | refine retK_r ?_) | fail); all_goals try (conv => whnf)
      all_goals try (exfalso; omega)
      · exact absurd ⟨Iff.rfl, rfl⟩ h
      · refine ⟨i + 1, ⟨by omega, by omega⟩, ?_⟩
        repeat' (first | (with_reducible refine Unf.h ?_) | ((conv => whnf); first | (refine Side.mk ?_ ?_; focus (first | with_reducible rfl | (refine congrArg (SV.int _) ?_; omega))) | (with_reducible refine Unf.h ?_) | exact True.intro) | fail); all_goals try (conv => whnf)
        all_goals try (exfalso; omega)
      refine LoopS.autoN (I := Nat) (fun i => i ≤ r.upds.length) (fun i => [(7, .int .i64 i)]) (fun _ => [(0, .box 27 (eRep r)), (1, .box 27 (eRep r))]) 2 (fun i => r.upds.length - i) 0 (Nat.zero_le _) ?_ ?_
      · repeat' (first | (with_reducible refine Unf.h ?_) | ((conv => whnf); first | (refine Side.mk ?_ ?_; focus (first | with_reducible rfl | (refine congrArg (SV.int _) ?_; omega))) | (with_reducible refine Unf.h ?_) | exact True.intro) | fail); all_goals try (conv => whnf)
      all_goals try (exfalso; omega)
      · intro i hi
        repeat' (first | (with_reducible refine Unf.h ?_) | ((conv => whnf); first | refine Both.mk ?_ ?_ | refine Both.mk ?_ ?_ | refine Fork.mkn (fun h => ?_) (fun h => ?_) | refine Fork.mk (fun h => ?_) (fun h => ?_) | (refine Side.mk ?_ ?_; focus (omega)) | (refine Idx.mk ?_ ?_; focus (omega)) | refine RetE.mk () trivial ?_ | refine retK_r ?_ | exact rfl) | fail); all_goals try (conv => whnf)
        all_goals try (exfalso; omega)
        · have h0 : i < r.upds.length := by omega
          refine CallS.mk (c := same_c) (((r.upds[((i : Nat) : Int).toNat]'h0).label, (r.upds[((i : Nat) : Int).toNat]'h0).label)) ?_
          repeat' (first | (with_reducible first | refine Unf.h ?_ | refine loopK_n ?_) | ((conv => whnf); first | refine Fork.mkn (fun h => ?_) (fun h => ?_) | (refine Side.mk ?_ ?_; focus (first | with_reducible rfl | exact True.intro | (intros; (try simp only [lenS, inR, cutS, loI, hiI] at *); omega))) | refine RetE.mk () trivial ?_ | refine Got.mk (fun _ _ => ?_) | refine retK_r ?_) | fail); all_goals try (conv => whnf)
          all_goals try (exfalso; omega)
          · exact absurd rfl h
          · refine ⟨i + 1, ⟨by omega, by omega⟩, ?_⟩
            repeat' (first | (with_reducible refine Unf.h ?_) | ((conv => whnf); first | (refine Side.mk ?_ ?_; focus (first | with_reducible rfl | (refine congrArg (SV.int _) ?_; omega))) | (with_reducible refine Unf.h ?_) | exact True.intro) | fail); all_goals try (conv => whnf)
            all_goals try (exfalso; omega)
        · have h0 : i < r.upds.length := by omega
          refine CallS.mk (c := same_c) (((r.upds[((i : Nat) : Int).toNat]'h0).label, (r.upds[((i : Nat) : Int).toNat]'h0).label)) ?_
          repeat' (first | (with_reducible first | refine Unf.h ?_ | refine loopK_n ?_) | ((conv => whnf); first | refine Fork.mkn (fun h => ?_) (fun h => ?_) | (refine Side.mk ?_ ?_; focus (first | with_reducible rfl | exact True.intro | (intros; (try simp only [lenS, inR, cutS, loI, hiI] at *); omega))) | refine RetE.mk () trivial ?_ | refine Got.mk (fun _ _ => ?_) | refine retK_r ?_) | fail); all_goals try (conv => whnf)
          all_goals try (exfalso; omega)
          · exact absurd rfl h
          · refine ⟨i + 1, ⟨by omega, by omega⟩, ?_⟩
            repeat' (first | (with_reducible refine Unf.h ?_) | ((conv => whnf); first | (refine Side.mk ?_ ?_; focus (first | with_reducible rfl | (refine congrArg (SV.int _) ?_; omega))) | (with_reducible refine Unf.h ?_) | exact True.intro) | fail); all_goals try (conv => whnf)
            all_goals try (exfalso; omega)
        refine LoopS.autoN (I := Nat) (fun i => i ≤ r.looks.length) (fun i => [(10, .int .i64 i)]) (fun _ => [(0, .box 27 (eRep r)), (1, .box 27 (eRep r))]) 2 (fun i => r.looks.length - i) 0 (Nat.zero_le _) ?_ ?_
        · repeat' (first | (with_reducible refine Unf.h ?_) | ((conv => whnf); first | (refine Side.mk ?_ ?_; focus (first | with_reducible rfl | (refine congrArg (SV.int _) ?_; omega))) | (with_reducible refine Unf.h ?_) | exact True.intro) | fail); all_goals try (conv => whnf)
        all_goals try (exfalso; omega)
        · intro i hi
          repeat' (first | (with_reducible refine Unf.h ?_) | ((conv => whnf); first | refine Both.mk ?_ ?_ | refine Both.mk ?_ ?_ | refine Fork.mkn (fun h => ?_) (fun h => ?_) | refine Fork.mk (fun h => ?_) (fun h => ?_) | (refine Side.mk ?_ ?_; focus (first | with_reducible rfl | omega)) | (refine Idx.mk ?_ ?_; focus (omega)) | refine RetE.mk () trivial ?_ | refine retK_r ?_ | exact rfl) | fail); all_goals try (conv => whnf)
          all_goals try (exfalso; omega)
          · have h0 : i < r.looks.length := by omega
            refine CallS.mk (c := same_c) (((r.looks[((i : Nat) : Int).toNat]'h0).label, (r.looks[((i : Nat) : Int).toNat]'h0).label)) ?_
            repeat' (first | (with_reducible first | refine Unf.h ?_ | refine loopK_n ?_) | ((conv => whnf); first | refine Fork.mkn (fun h => ?_) (fun h => ?_) | (refine Side.mk ?_ ?_; focus (first | with_reducible rfl | exact True.intro | (intros; (try simp only [lenS, inR, cutS, loI, hiI] at *); omega))) | refine RetE.mk () trivial ?_ | refine Got.mk (fun _ _ => ?_) | refine retK_r ?_) | fail); all_goals try (conv => whnf)
            all_goals try (exfalso; omega)
            · exact absurd rfl h
            · refine ⟨i + 1, ⟨by omega, by omega⟩, ?_⟩
              repeat' (first | (with_reducible refine Unf.h ?_) | ((conv => whnf); first | (refine Side.mk ?_ ?_; focus (first | with_reducible rfl | (refine congrArg (SV.int _) ?_; omega))) | (with_reducible refine Unf.h ?_) | exact True.intro) | fail); all_goals try (conv => whnf)
              all_goals try (exfalso; omega)
          · have h0 : i < r.looks.length := by omega
            refine CallS.mk (c := same_c) (((r.looks[((i : Nat) : Int).toNat]'h0).label, (r.looks[((i : Nat) : Int).toNat]'h0).label)) ?_
            repeat' (first | (with_reducible first | refine Unf.h ?_ | refine loopK_n ?_) | ((conv => whnf); first | refine Fork.mkn (fun h => ?_) (fun h => ?_) | (refine Side.mk ?_ ?_; focus (first | with_reducible rfl | exact True.intro | (intros; (try simp only [lenS, inR, cutS, loI, hiI] at *); omega))) | refine RetE.mk () trivial ?_ | refine Got.mk (fun _ _ => ?_) | refine retK_r ?_) | fail); all_goals try (conv => whnf)
            all_goals try (exfalso; omega)
            · exact absurd rfl h
            · refine ⟨i + 1, ⟨by omega, by omega⟩, ?_⟩
              repeat' (first | (with_reducible refine Unf.h ?_) | ((conv => whnf); first | (refine Side.mk ?_ ?_; focus (first | with_reducible rfl | (refine congrArg (SV.int _) ?_; omega))) | (with_reducible refine Unf.h ?_) | exact True.intro) | fail); all_goals try (conv => whnf)
              all_goals try (exfalso; omega)
end Go.Proofs.YtepongfhnammkaaDoor

namespace Go.Proofs.YtepongfhnammkaaDoor
set_option linter.all false
open Go.RowKit
/-! ReportReads, ReportBack, ReportNone -/
theorem writeP_ok {r : Rep} (h : repOk r) (hl : ¬ longR r) : writeP r = (repT r, 0) := by unfold writeP; rw [if_neg hl, if_pos h]
theorem rep_small {r : Rep} (h : repOk r) : rwp_c.pre r := ⟨fun u hu => by have := (h.1.2 u hu).2.2.2; omega, fun u hu => by have := (h.2 u hu).2.2.2; omega⟩
def rrl_c : Ctr where
  D := B8
  pre := fun s => s.length ≤ 9223372036854775807
  args := fun s => [.str s]
  res := fun _ _ => .bool true
def rrl_H : Cfg := ⟨[(7, raw_c), (11, read_c), (10, rwp_c), (12, rsm_c)], [], [], [], 41, 0, [], [], []⟩
theorem rrl_ok : rrl_c.Ok Tryd.prog 4 := by
  refine fn_ok rrl_H 0 rfl _ Tryd.func4 rfl rfl ⟨raw_ok, read_ok, rwp_ok, rsm_ok, trivial⟩ rfl rfl (by kernel_rfl) (fun _ => Nat.le_of_ble_eq_true rfl) ?_
  intro (s : B8) hp hr
  try dsimp only [rrl_c] at hp
  try simp only [rrl_c, Rng, RngL, inR, and_true, true_and] at hr
  have hp3 : s.length ≤ 9223372036854775807 := hp
  repeat' (first | (with_reducible refine Unf.h ?_) | ((conv => whnf); first | refine Fork.mk (fun h => ?_) (fun h => ?_) | (refine Side.mk ?_ ?_; focus (first | with_reducible rfl | exact True.intro | omega)) | refine RetE.mk () trivial ?_ | refine Got.mk (fun _ _ => ?_) | refine retK_r ?_ | exact rfl | refine CallS.mk (c := raw_c) (()) ?_) | fail); all_goals try (conv => whnf)
  all_goals try (exfalso; omega)
  have hp2 : read_c.pre s := show s.length ≤ 900000 by omega
  first | refine CallS.mk (c := read_c) (s) ?_ | refine Or2.l (CallS.mk (c := read_c) (s) ?_) | refine Or2.r (CallS.mk (c := read_c) (s) ?_)
  repeat (first | (with_reducible refine Unf.h ?_) | ((conv => whnf); first | (refine Side.mk ?_ ?_; focus (first | with_reducible rfl | assumption | exact True.intro | rfl)) | (with_reducible refine Unf.h ?_)))
  conv => whnf
  refine Got.mk (fun e he => ?_)
  have he2 : rdPost s e := he
  clear he
  cases e with
  | none =>
    repeat' (first | (with_reducible refine Unf.h ?_) | ((conv => whnf); first | refine Fork.mkn (fun h => ?_) (fun h => ?_) | refine Fork.mk (fun h => ?_) (fun h => ?_) | (refine Side.mk ?_ ?_; focus (first | with_reducible rfl | exact True.intro | omega)) | refine RetE.mk () trivial ?_ | refine Got.mk (fun _ _ => ?_) | (with_reducible refine Unf.h ?_) | refine retK_r ?_ | exact rfl | refine CallS.mk (c := rsm_c) (rep00) ?_) | fail); all_goals try (conv => whnf)
    all_goals try (exfalso; omega)
  | some r =>
    obtain ⟨⟨h1, h2, h3⟩, -⟩ := he2
    have hw := rep_small h1
    have e := writeP_ok h1 h2
    rw [h3] at e
    repeat' (first | (with_reducible refine Unf.h ?_) | ((conv => whnf); first | refine Fork.mkn (fun h => ?_) (fun h => ?_) | refine Fork.mk (fun h => ?_) (fun h => ?_) | (refine Side.mk ?_ ?_; focus (first | with_reducible rfl | assumption | omega | (simp [*, e]; done))) | refine RetE.mk () trivial ?_ | refine Got.mk (fun _ _ => ?_) | (with_reducible refine Unf.h ?_) | refine retK_r ?_ | exact rfl | refine CallS.mk (c := rwp_c) (r) ?_) | fail); all_goals try (conv => whnf)
    all_goals try (exfalso; omega)
    exact absurd (by rw [e]) h
theorem line_le {nm : B8} {nums : List Int} {bh : List B8} (hn : nm.length ≤ 10) (hm : allM nums) (hb : ∀ s ∈ bh, s.length ≤ 201) (hl : nums.length + bh.length ≤ 4 := by simp) : (lineW nm nums bh).length ≤ 1011 := by
  have h3 := joinS_len (sep := [32#8]) (k := 201) (ls := nm :: nums.map decR ++ bh) (fun s hs => by
    rcases List.mem_append.1 hs with hs | hs
    · rcases List.mem_cons.1 hs with rfl | hs
      · omega
      · obtain ⟨n, hn, rfl⟩ := List.mem_map.1 hs
        have := decR_len (hm n hn); omega
    · exact hb s hs)
  have h4 : (nm :: nums.map decR ++ bh).length * (201 + [32#8].length) ≤ 5 * 202 := Nat.mul_le_mul (by simp only [List.length_append, List.length_cons, List.length_map]; omega) (Nat.le_refl _)
  unfold lineW
  rw [List.length_append, List.length_singleton]; omega
theorem catN_le {α : Type} {f : Nat → α → B8} {l : List α} {k : Nat} : ∀ {n : Nat}, (∀ i (h : i < l.length), (f i l[i]).length ≤ k) → (catN f l n).length ≤ k * n
  | 0, _ => by simp [catN]
  | n + 1, h => by
    have := catN_le (n := n) h
    rw [Nat.mul_add, Nat.mul_one]
    rcases Nat.lt_or_ge n l.length with hn | hn
    · have h2 := h n hn
      rw [← catN_succ f hn, List.length_append]; omega
    · simp only [catN, List.getElem?_eq_none hn, List.append_nil]; omega
theorem rep_le {r : Rep} (h : repOk r) (l1 : r.eps.length ≤ 200) (l2 : r.reps.length ≤ 200) (l3 : r.upds.length ≤ 200) (l4 : r.looks.length ≤ 200) : (repT r).length ≤ 900000 := by
  obtain ⟨⟨⟨⟨⟨h1, h2⟩, h3⟩, h4⟩, h5⟩, h6⟩ := h
  have hno : ∀ s ∈ ([] : List B8), s.length ≤ 201 := fun s h => absurd h List.not_mem_nil
  have a1 := line_le (nm := tickW) (nums := [r.tick]) (bh := []) (by decide) (allM1.2 h1) hno
  have a2 := line_le (nm := framesW) (nums := [r.frames]) (bh := []) (by decide) (allM1.2 h2) hno
  have b1 := catN_le (f := epF) (l := r.eps) (k := 1011) (n := r.eps.length) fun i h => line_le (by decide) (allM3.2 ⟨⟨by omega, by omega⟩, h3 _ (List.getElem_mem h)⟩) hno
  have b2 := catN_le (f := rpF) (l := r.reps) (k := 1011) (n := r.reps.length) fun i h => by
    have ho := h4 _ (List.getElem_mem h)
    generalize r.reps[i] = e at ho
    obtain ⟨g, n⟩ := e
    cases g
    · exact line_le (by decide) (allM2.2 ⟨⟨by omega, by omega⟩, ho.1⟩) hno
    · exact line_le (by decide) (allM1.2 ⟨by omega, by omega⟩) (fun s h => by rw [List.mem_singleton.1 h]; decide)
  have b3 := catN_le (f := upF updateW) (l := r.upds) (k := 1011) (n := r.upds.length) fun i h => by
    have ho := h5 _ (List.getElem_mem h)
    exact line_le (by decide) (allM3.2 ⟨ho.1, ho.2.1, ho.2.2.1⟩) (fun s h => by rw [List.mem_singleton.1 h]; have := bytesS_len (r.upds[i].label); omega)
  have b4 := catN_le (f := upF lookW) (l := r.looks) (k := 1011) (n := r.looks.length) fun i h => by
    have ho := h6 _ (List.getElem_mem h)
    exact line_le (by decide) (allM3.2 ⟨ho.1, ho.2.1, ho.2.2.1⟩) (fun s h => by rw [List.mem_singleton.1 h]; have := bytesS_len (r.looks[i].label); omega)
  unfold repT t4 t3 t2 t1 tH
  simp only [List.length_append]
  omega
def rbk_c : Ctr where
  D := Rep
  args := fun r => [.agg (eRep r)]
  res := fun _ _ => .bool true
def rbk_H : Cfg := ⟨[(7, raw_c), (8, rfew_c), (9, wrp_c), (11, read_c), (12, rsm_c)], [], [], [], 36, 0, [], [], []⟩
theorem rbk_ok : rbk_c.Ok Tryd.prog 5 := by
  refine fn_ok rbk_H 0 rfl _ Tryd.func5 rfl rfl ⟨raw_ok, rfew_ok, wrp_ok, read_ok, rsm_ok, trivial⟩ rfl rfl (by kernel_rfl) (fun _ => Nat.le_of_ble_eq_true rfl) ?_
  intro (r : Rep) hp hr
  try dsimp only [rbk_c] at hp
  try simp only [rbk_c, Rng, RngL, inR, and_true, true_and] at hr
  clear hr
  have hpf : rfew_c.pre (r, 200) := show (200 : Int) ≤ 1999 by decide
  repeat' (first | (with_reducible refine Unf.h ?_) | ((conv => whnf); first | (refine Side.mk ?_ ?_; focus (first | with_reducible rfl | exact True.intro | assumption)) | refine Got.mk (fun _ _ => ?_) | refine CallS.mk (c := raw_c) (()) ?_ | refine CallS.mk (c := rfew_c) ((r, 200)) ?_) | fail); all_goals try (conv => whnf)
  all_goals try (exfalso; omega)
  rename_i e he
  have he2 : e = true → smallU r.upds ∧ smallU r.looks ∧ (r.eps.length : Int) ≤ 200 ∧ (r.reps.length : Int) ≤ 200 ∧ (r.upds.length : Int) ≤ 200 ∧ (r.looks.length : Int) ≤ 200 := he
  clear he
  cases e with
  | false =>
    repeat' (first | (with_reducible refine Unf.h ?_) | ((conv => whnf); first | (refine Side.mk ?_ ?_; focus (first | with_reducible rfl | exact True.intro)) | refine RetE.mk () trivial ?_ | refine Got.mk (fun _ _ => ?_) | (with_reducible refine Unf.h ?_) | refine retK_r ?_ | exact rfl | refine CallS.mk (c := raw_c) (()) ?_) | fail); all_goals try (conv => whnf)
    all_goals try (exfalso; omega)
  | true =>
    obtain ⟨h1, h2, l1, l2, l3, l4⟩ := he2 rfl
    clear he2
    have hpw : wrp_c.pre r := ⟨h1, h2⟩
    have hlong : ¬ longR r := by unfold longR; omega
    by_cases hok : repOk r
    · have e := writeP_ok hok hlong
      have hpr : read_c.pre (repT r) := rep_le hok (by omega) (by omega) (by omega) (by omega)
      have hpr2 : read_c.pre (writeP r).1 := by rw [e]; exact hpr
      have e0 : (writeP r).2 = 0 := by rw [e]
      repeat' (first | (with_reducible refine Unf.h ?_) | ((conv => whnf); first | refine Fork.mkn (fun h => ?_) (fun h => ?_) | (refine Side.mk ?_ ?_; focus (first | with_reducible rfl | assumption | omega)) | refine RetE.mk () trivial ?_ | refine Got.mk (fun _ _ => ?_) | (with_reducible refine Unf.h ?_) | refine retK_r ?_ | exact rfl | refine CallS.mk (c := wrp_c) (r) ?_) | fail); all_goals try (conv => whnf)
      all_goals try (exfalso; omega)
      first | refine CallS.mk (c := read_c) ((writeP r).1) ?_ | refine Or2.l (CallS.mk (c := read_c) ((writeP r).1) ?_) | refine Or2.r (CallS.mk (c := read_c) ((writeP r).1) ?_)
      repeat (first | (with_reducible refine Unf.h ?_) | ((conv => whnf); first | (refine Side.mk ?_ ?_; focus (first | with_reducible rfl | assumption | exact True.intro | rfl)) | (with_reducible refine Unf.h ?_)))
      conv => whnf
      refine Got.mk (fun e he => ?_)
      have he2 : rdPost (writeP r).1 e := he
      clear he
      have e9 : (writeP r).1 = repT r := by rw [writeP_ok hok hlong]
      rw [e9] at he2
      cases e with
      | none => exact absurd rfl (he2 r hok hlong)
      | some r' =>
        obtain rfl := he2.2 r hok hlong rfl
        repeat' (first | (with_reducible refine Unf.h ?_) | ((conv => whnf); first | refine Fork.mk (fun h => ?_) (fun h => ?_) | (refine Side.mk ?_ ?_; focus (first | with_reducible rfl | exact True.intro | omega)) | refine RetE.mk () trivial ?_ | refine Got.mk (fun _ _ => ?_) | (with_reducible refine Unf.h ?_) | refine retK_r ?_ | exact rfl | refine CallS.mk (c := rsm_c) (r) ?_) | fail); all_goals try (conv => whnf)
        all_goals try (exfalso; omega)
    · have e : writeP r = ([], 1) := by unfold writeP; rw [if_neg hlong, if_neg hok]
      have e0 : (writeP r).2 = 1 := by rw [e]
      have e1 : (writeP r).1 = [] := by rw [e]
      repeat' (first | (with_reducible refine Unf.h ?_) | ((conv => whnf); first | refine Fork.mkn (fun h => ?_) (fun h => ?_) | (refine Side.mk ?_ ?_; focus (first | with_reducible rfl | assumption | (simp [*, e0, e1]; done))) | refine RetE.mk () trivial ?_ | refine Got.mk (fun _ _ => ?_) | (with_reducible refine Unf.h ?_) | refine retK_r ?_ | exact rfl | refine CallS.mk (c := wrp_c) (r) ?_) | fail); all_goals try (conv => whnf)
      all_goals try (exfalso; omega)
def of0_c : Ctr where
  D := Unit
  args := fun _ => [.nilp]
  res := fun _ _ => .agg (eRep rep00)
def of0_H : Cfg := ⟨[], [(9, [1, 6], [8, 9, 11, 14, 15, 17], (.one 0 0 false (.one 1 1 false (.one 2 0 false (.one 3 0 false (.one 4 0 false (.one 5 0 false (.one 6 1 false (.one 7 0 false (.one 10 0 false (.one 8 2 true (.one 9 2 true (.one 11 2 true (.one 12 0 false (.one 13 0 false (.one 14 2 true (.one 15 2 false (.one 16 0 false (.one 17 2 false .nil)))))))))))))))))), []), (14, [1], [5, 7, 8, 10], (.one 0 0 false (.one 1 1 false (.one 2 0 false (.one 3 0 false (.one 4 0 false (.one 5 2 true (.one 6 0 false (.one 7 2 true (.one 8 2 false (.one 9 0 false (.one 10 2 false .nil))))))))))), []), (19, [1, 3, 5, 7, 9], [10, 12, 13, 15], (.one 0 0 false (.one 1 1 false (.one 2 0 false (.one 3 1 false (.one 4 0 false (.one 5 1 false (.one 6 0 false (.one 7 1 false (.one 8 0 false (.one 9 1 false (.one 10 2 true (.one 11 0 false (.one 12 2 true (.one 13 2 false (.one 14 0 false (.one 15 2 false .nil)))))))))))))))), []), (24, [1, 3, 6, 9, 13], [14, 16, 17, 19], (.one 0 0 false (.one 1 1 false (.one 2 0 false (.one 3 1 false (.one 4 0 false (.one 5 0 false (.one 6 1 false (.one 7 0 false (.one 8 0 false (.one 9 1 false (.one 10 0 false (.one 11 0 false (.one 12 0 false (.one 13 1 false (.one 14 2 true (.one 15 0 false (.one 16 2 true (.one 17 2 false (.one 18 0 false (.one 19 2 false .nil)))))))))))))))))))), [])], [], [], 117, 0, [], [], []⟩
theorem of0_ok : of0_c.Ok Tryd.prog 13 := by
  refine fn_ok of0_H 0 rfl _ Tryd.func13 rfl rfl trivial rfl rfl (by kernel_rfl) (fun _ => Nat.le_of_ble_eq_true rfl) ?_
  rintro ⟨⟩ hp hr
  try dsimp only [of0_c] at hp
  try simp only [of0_c, Rng, RngL, inR, and_true, true_and] at hr
  repeat' (first | (with_reducible refine Unf.h ?_) | ((conv => whnf); first | (refine Side.mk ?_ ?_; focus (with_reducible rfl)) | refine RetE.mk () trivial ?_ | refine retK_r ?_ | exact rfl) | fail); all_goals try (conv => whnf)
  all_goals try (exfalso; omega)
def rnn_c : Ctr where
  D := Int
  args := fun n => [.int .i64 n]
  res := fun _ _ => .bool true
def rnn_H : Cfg := ⟨[(13, of0_c), (9, wrp_c), (7, raw_c), (11, read_c)], [], [], [], 69, 0, [], [], []⟩
theorem rnn_ok : rnn_c.Ok Tryd.prog 6 := by
  refine fn_ok rnn_H 0 rfl _ Tryd.func6 rfl rfl ⟨of0_ok, wrp_ok, raw_ok, read_ok, trivial⟩ rfl rfl (by kernel_rfl) (fun _ => Nat.le_of_ble_eq_true rfl) ?_
  intro (n : Int) hp hr
  try dsimp only [rnn_c] at hp
  try simp only [rnn_c, Rng, RngL, inR, and_true, true_and] at hr
  let r : Rep := ⟨n, 0, [], [], [], []⟩
  have hpw : wrp_c.pre ⟨n, 0, [], [], [], []⟩ := ⟨fun u h => absurd h List.not_mem_nil, fun u h => absurd h List.not_mem_nil⟩
  have hlong : ¬ longR ⟨n, 0, [], [], [], []⟩ := by simp [longR]
  by_cases hm : mayM n
  · have hok : repOk ⟨n, 0, [], [], [], []⟩ := ⟨⟨⟨⟨⟨hm, show mayM 0 by decide⟩, fun e h => absurd h List.not_mem_nil⟩, fun e h => absurd h List.not_mem_nil⟩, fun e h => absurd h List.not_mem_nil⟩, fun e h => absurd h List.not_mem_nil⟩
    have e := writeP_ok hok hlong
    have e0 : (writeP ⟨n, 0, [], [], [], []⟩).2 = 0 := by rw [e]
    have hpr2 : read_c.pre (writeP ⟨n, 0, [], [], [], []⟩).1 := by rw [e]; exact rep_le hok (by simp) (by simp) (by simp) (by simp)
    have hm2 := hm.1
    have hm3 := hm.2
    repeat' (first | (with_reducible refine Unf.h ?_) | ((conv => whnf); first | (refine Side.mk ?_ ?_; focus (first | with_reducible rfl | exact True.intro)) | refine Got.mk (fun _ _ => ?_) | refine CallS.mk (c := of0_c) (()) ?_) | fail); all_goals try (conv => whnf)
    all_goals try (exfalso; omega)
    refine CallS.mk (c := wrp_c) ((⟨n, 0, [], [], [], []⟩ : Rep)) ?_
    repeat' (first | (with_reducible refine Unf.h ?_) | ((conv => whnf); first | refine Fork.mk (fun h => ?_) (fun h => ?_) | (refine Side.mk ?_ ?_; focus (first | with_reducible rfl | assumption)) | refine Got.mk (fun _ _ => ?_)) | fail); all_goals try (conv => whnf)
    all_goals try (exfalso; omega)
    first | refine CallS.mk (c := read_c) ((writeP ⟨n, 0, [], [], [], []⟩).1) ?_ | refine Or2.l (CallS.mk (c := read_c) ((writeP ⟨n, 0, [], [], [], []⟩).1) ?_) | refine Or2.r (CallS.mk (c := read_c) ((writeP ⟨n, 0, [], [], [], []⟩).1) ?_)
    repeat (first | (with_reducible refine Unf.h ?_) | ((conv => whnf); first | (refine Side.mk ?_ ?_; focus (first | with_reducible rfl | assumption | exact True.intro | rfl)) | (with_reducible refine Unf.h ?_)))
    conv => whnf
    refine Got.mk (fun e he => ?_)
    have he2 : rdPost (writeP ⟨n, 0, [], [], [], []⟩).1 e := he
    clear he
    have e9 : (writeP ⟨n, 0, [], [], [], []⟩).1 = repT ⟨n, 0, [], [], [], []⟩ := by rw [writeP_ok hok hlong]
    rw [e9] at he2
    cases e with
    | none => exact absurd rfl (he2 _ hok hlong)
    | some r' =>
      obtain rfl := he2.2 _ hok hlong rfl
      repeat' (first | (with_reducible refine Unf.h ?_) | ((conv => whnf); first | refine Fork.mk (fun h => ?_) (fun h => ?_) | (refine Side.mk ?_ ?_; focus (first | exact True.intro | omega | (intros; (try simp only [lenS, inR, cutS, loI, hiI, e0] at *); omega) | (simp [*, e0]; done))) | refine RetE.mk () trivial ?_ | refine Got.mk (fun _ _ => ?_) | (with_reducible refine Unf.h ?_) | refine retK_r ?_ | exact rfl | refine CallS.mk (c := raw_c) (()) ?_) | fail); all_goals try (conv => whnf)
      all_goals try (exfalso; omega)
      all_goals first
        | exact absurd rfl h
        | exact absurd e0 h
        | skip
  · have e : writeP ⟨n, 0, [], [], [], []⟩ = ([], 1) := by unfold writeP; rw [if_neg hlong, if_neg (fun h => hm h.1.1.1.1.1)]
    have e0 : (writeP ⟨n, 0, [], [], [], []⟩).2 = 1 := by rw [e]
    have e1 : (writeP ⟨n, 0, [], [], [], []⟩).1 = [] := by rw [e]
    have hm2 : n < 0 ∨ 1000000000 < n := by simp only [mayM] at hm; omega
    repeat' (first | (with_reducible refine Unf.h ?_) | ((conv => whnf); first | (refine Side.mk ?_ ?_; focus (first | with_reducible rfl | exact True.intro)) | refine Got.mk (fun _ _ => ?_) | refine CallS.mk (c := of0_c) (()) ?_) | fail); all_goals try (conv => whnf)
    all_goals try (exfalso; omega)
    refine CallS.mk (c := wrp_c) ((⟨n, 0, [], [], [], []⟩ : Rep)) ?_
    repeat' (first | (with_reducible refine Unf.h ?_) | ((conv => whnf); first | refine Fork.mk (fun h => ?_) (fun h => ?_) | (refine Side.mk ?_ ?_; focus (first | with_reducible rfl | exact True.intro | assumption | omega | (simp [*, e0, e1]; done))) | refine RetE.mk () trivial ?_ | refine Got.mk (fun _ _ => ?_) | refine retK_r ?_ | exact rfl | refine CallS.mk (c := raw_c) (()) ?_) | fail); all_goals try (conv => whnf)
    all_goals try (exfalso; omega)
end Go.Proofs.YtepongfhnammkaaDoor

/- MY OWN ENGINE: what a report is; a listed table of strings. -/
namespace Go.Proofs.YtepongfhnammkaaDoor
set_option linter.all false
open Go.RowKit Go.ChangeShapes Go.WideShapes Go.ChangeAt
theorem Tryd.own : ownKnob Tryd.prog.godebug = none := by kernel_rfl
theorem Tryd.laidOut : laidOutB Tryd.prog = true := by kernel_rfl
section
variable {H : Type} {enc : TypeId × Value → H} {W : World} {spare : Nat → Bool} {held : Bool}
theorem o_int : Opens Tryd.prog enc W spare held 3 (fun n : Int => [.int .i64 n]) := o_i64 (i := ⟨.int .i64, 1, 8⟩) rfl rfl
theorem o_bl : Opens Tryd.prog enc W spare held 4 (fun b : Bool => [.bool b]) := o_bool (t := 4) (i := ⟨.bool, 1, 1⟩) rfl rfl
theorem o_byte : Opens Tryd.prog enc W spare held 5 eB := o_uns (i := ⟨.int .u8, 1, 1⟩) (k := .u8) (w := 8) (mk := .u8) rfl rfl rfl rfl (fun _ _ => hc8)
theorem o_bytes : Opens Tryd.prog enc W spare held 40 (fun l : List (BitVec 8) => [.fs 1 eB l]) :=
  o_slice (i := ⟨.sl 5, 1, 24⟩) (j := ⟨.int .u8, 1, 1⟩) (f := eB) rfl rfl rfl rfl rfl o_byte (fun _ => rfl)
theorem o_ep : Opens Tryd.prog enc W spare held 54 eEp :=
  (o_struct (i := ⟨.st [(0, 3), (1, 3)], 2, 16⟩) rfl rfl
    (o_field (off := 0) (off2 := 1) (j := ⟨.int .i64, 1, 8⟩) rfl o_int (fun _ => rfl) rfl
    (o_last (j := ⟨.int .i64, 1, 8⟩) rfl o_int (fun _ => rfl))) (fun _ => rfl) (by kernel_rfl)).map (fun p => ((p.1, p.2) : Int × Int)) (fun _ => rfl)
theorem o_eps : Opens Tryd.prog enc W spare held 22 (fun l : List (Int × Int) => [.fs 2 eEp l]) :=
  o_slice (i := ⟨.sl 54, 1, 24⟩) (j := ⟨.st [(0, 3), (1, 3)], 2, 16⟩) rfl rfl rfl rfl rfl o_ep (fun _ => rfl)
theorem o_rp : Opens Tryd.prog enc W spare held 56 eRp :=
  (o_struct (i := ⟨.st [(0, 4), (1, 3)], 2, 16⟩) rfl rfl
    (o_field (off := 0) (off2 := 1) (j := ⟨.bool, 1, 1⟩) rfl o_bl (fun _ => rfl) rfl
    (o_last (j := ⟨.int .i64, 1, 8⟩) rfl o_int (fun _ => rfl))) (fun _ => rfl) (by kernel_rfl)).map (fun p => ((p.1, p.2) : Bool × Int)) (fun _ => rfl)
theorem o_rps : Opens Tryd.prog enc W spare held 23 (fun l : List (Bool × Int) => [.fs 2 eRp l]) :=
  o_slice (i := ⟨.sl 56, 1, 24⟩) (j := ⟨.st [(0, 4), (1, 3)], 2, 16⟩) rfl rfl rfl rfl rfl o_rp (fun _ => rfl)
theorem o_up : Opens Tryd.prog enc W spare held 42 eUp :=
  (o_struct (i := ⟨.st [(0, 3), (1, 3), (2, 3), (3, 40)], 4, 48⟩) rfl rfl
    (o_field (off := 0) (off2 := 1) (j := ⟨.int .i64, 1, 8⟩) rfl o_int (fun _ => rfl) rfl
    (o_field (off := 1) (off2 := 2) (j := ⟨.int .i64, 1, 8⟩) rfl o_int (fun _ => rfl) rfl
    (o_field (off := 2) (off2 := 3) (j := ⟨.int .i64, 1, 8⟩) rfl o_int (fun _ => rfl) rfl
    (o_last (j := ⟨.sl 5, 1, 24⟩) rfl o_bytes (fun _ => rfl))))) (fun _ => rfl) (by kernel_rfl)).map (fun p => (⟨p.1, p.2.1, p.2.2.1, p.2.2.2⟩ : Upd)) (fun _ => rfl)
theorem o_ups : Opens Tryd.prog enc W spare held 24 (fun l : List Upd => [.fs 4 eUp l]) :=
  o_slice (i := ⟨.sl 42, 1, 24⟩) (j := ⟨.st [(0, 3), (1, 3), (2, 3), (3, 40)], 4, 48⟩) rfl rfl rfl rfl rfl o_up (fun _ => rfl)
theorem o_lk : Opens Tryd.prog enc W spare held 44 eUp :=
  (o_struct (i := ⟨.st [(0, 3), (1, 3), (2, 3), (3, 40)], 4, 48⟩) rfl rfl
    (o_field (off := 0) (off2 := 1) (j := ⟨.int .i64, 1, 8⟩) rfl o_int (fun _ => rfl) rfl
    (o_field (off := 1) (off2 := 2) (j := ⟨.int .i64, 1, 8⟩) rfl o_int (fun _ => rfl) rfl
    (o_field (off := 2) (off2 := 3) (j := ⟨.int .i64, 1, 8⟩) rfl o_int (fun _ => rfl) rfl
    (o_last (j := ⟨.sl 5, 1, 24⟩) rfl o_bytes (fun _ => rfl))))) (fun _ => rfl) (by kernel_rfl)).map (fun p => (⟨p.1, p.2.1, p.2.2.1, p.2.2.2⟩ : Upd)) (fun _ => rfl)
theorem o_lks : Opens Tryd.prog enc W spare held 25 (fun l : List Upd => [.fs 4 eUp l]) :=
  o_slice (i := ⟨.sl 44, 1, 24⟩) (j := ⟨.st [(0, 3), (1, 3), (2, 3), (3, 40)], 4, 48⟩) rfl rfl rfl rfl rfl o_lk (fun _ => rfl)
theorem o_rep : Opens Tryd.prog enc W spare held 27 eRep :=
  (o_struct (i := ⟨.st [(0, 3), (1, 3), (2, 22), (3, 23), (4, 24), (5, 25)], 6, 112⟩) rfl rfl
    (o_field (off := 0) (off2 := 1) (j := ⟨.int .i64, 1, 8⟩) rfl o_int (fun _ => rfl) rfl
    (o_field (off := 1) (off2 := 2) (j := ⟨.int .i64, 1, 8⟩) rfl o_int (fun _ => rfl) rfl
    (o_field (off := 2) (off2 := 3) (j := ⟨.sl 54, 1, 24⟩) rfl o_eps (fun _ => rfl) rfl
    (o_field (off := 3) (off2 := 4) (j := ⟨.sl 56, 1, 24⟩) rfl o_rps (fun _ => rfl) rfl
    (o_field (off := 4) (off2 := 5) (j := ⟨.sl 42, 1, 24⟩) rfl o_ups (fun _ => rfl) rfl
    (o_last (j := ⟨.sl 44, 1, 24⟩) rfl o_lks (fun _ => rfl))))))) (fun _ => rfl) (by kernel_rfl)).map (fun p => (⟨p.1, p.2.1, p.2.2.1, p.2.2.2.1, p.2.2.2.2.1, p.2.2.2.2.2⟩ : Rep)) (fun _ => rfl)
end
theorem str_of {s : ByteArray} {a : B8} (h : s.data.toList = u8s a) : s = baOf a := by
  apply ByteArray.ext
  apply Array.ext'
  rw [h]; rfl
section
variable {P : Program} [TabC P] {H : Type} {enc : TypeId × Value → H} {W : World} {spare : Nat → Bool} {held : Bool}
/-- a listed table of strings, as the engine has it -/
theorem glob_strs {n : String} {g t s m f : Nat} {i q : TI} {cs : Array Value} {p : List MemPlace} {gv : List B8} (hg : P.globalNamed n = some g) (hv : W.var? P n = some cs) (ht : ty P t = some i) (hk : i.k = .ar m s) (hq : ty P s = some q) (hqk : q.k = .str) (hq1 : q.size = 1) (hi : i.size = m) (hl : gv.length = m)
    (hd : DataW.trod enc P W 0 spare held f t cs.toList = some (.agg (gv.map fun b => .lit (.string (u8s b))), p)) : (SV.fpt (gv.map .str)).hc W none0 sg0 [.pointer (some ⟨g, 0, none⟩)] ∧ ∃ C T fr, W.heap[g]? = some (.cells C T fr) ∧ C.size = szL (gv.map .str) := by
  obtain ⟨xs, k, _, hx1, hlen, hxl, hel⟩ := DataW.trod_array (ty_array ht hk) hd
  rw [ty_cells ht, hi] at hlen
  simp only [Prod.mk.injEq, DataW.agg.injEq] at hx1
  simp only [World.var?, hg, Option.bind_some] at hv
  have hz : ∀ l : List B8, szL (l.map SV.str) = l.length := by
    intro l
    induction l with
    | nil => rfl
    | cons x r ih => simp only [List.map_cons, szL, SV.sz, ih, List.length_cons]; omega
  have hcs : cs.toList = gv.map fun b => Value.string (baOf b) := by
    apply List.ext_getElem
    · rw [hlen, List.length_map, hl]
    · intro r h1 h2
      have hr : r < gv.length := by simpa using h2
      have h3 := hel r (by omega)
      rw [ty_cells hq, hq1] at h3
      have hr' : r < xs.length := by omega
      rw [List.getElem?_eq_getElem hr'] at h3
      have h4 : (xs[r]).1 = .lit (.string (u8s gv[r])) := by
        have := congrArg (fun l => l[r]?) hx1.1
        simp only [List.getElem?_map, List.getElem?_eq_getElem hr', List.getElem?_eq_getElem hr, Option.map_some, Option.some.injEq] at this
        exact this.symm
      obtain ⟨s0, e0, e0', _⟩ := DataW.trod_string (ty_str hq hqk) h3
      rw [Nat.mul_one, List.drop_eq_getElem_cons h1] at e0
      simp only [List.take_succ_cons, List.take_zero, List.cons.injEq, and_true] at e0
      rw [e0'] at h4
      simp only [DataW.lit.injEq, Lit.string.injEq] at h4
      rw [List.getElem_map, e0, str_of h4]
  split at hv
  · rename_i C T fr hh
    have e := Option.some.inj hv
    have hsz : C.size = szL (gv.map .str) := by rw [hz, e, ← Array.length_toList, hlen, hl]
    refine ⟨?_, C, T, fr, hh, hsz⟩
    simp only [SV.hc]
    refine ⟨g, 0, rfl, fun h => h, C, T, fr, hh, ?_⟩
    rw [List.drop_zero, List.take_of_length_le (by rw [Array.length_toList, hsz]; exact Nat.le_refl _), e, hcs]
    have key : ∀ l : List B8, hL W none0 (l.map .str) sg0 (l.map fun b => Value.string (baOf b)) := by
      intro l
      induction l with
      | nil => rfl
      | cons x r ih => exact ⟨[_], _, rfl, by simp only [SV.hc], ih⟩
    exact key gv
  · cases hv
end
abbrev sortsS : List B8 := [tickW, framesW, epochW, replicaW, updateW, lookW]
def laidL : List (String × DataW Unit) := [("math/bits.deBruijn32tab", Rows.laid_math_bits_deBruijn32tab), ("math/bits.deBruijn64tab", Rows.laid_math_bits_deBruijn64tab), ("internal/strconv.uint64pow10", Rows.laid_internal_strconv_uint64pow10), ("unicode/utf8.acceptRanges", Rows.laid_unicode_utf8_acceptRanges), ("rolodex/report.sorts", Rows.laid_rolodex_report_sorts), ("unicode/utf8.first", Rows.laid_unicode_utf8_first)]
theorem gSorts : Tryd.prog.globalNamed "rolodex/report.sorts" = some 0 := by kernel_rfl
theorem tSorts : (Tryd.prog.globals[0]?).map (·.type) = some 124 := by kernel_rfl
theorem dSorts : (Rows.laid_rolodex_report_sorts : DataW Unit) = .agg (sortsS.map fun b => .lit (.string (u8s b))) := by kernel_rfl
theorem gl_eq : TabC.gl Tryd.prog = [((0 : Nat), sortsS.map .str), ((1 : Nat), Lib.pow10Tab.map (fun z => SV.int .u64 z))] := by kernel_rfl
theorem glob_of_laid {W : World} (h : laidMetH Tryd.prog laidL W) : Glob Tryd.prog W none0 := by
  rw [MakeChecks.laidMetH_plain _ _ _ (by kernel_rfl)] at h
  have hp : laidMet Tryd.prog (("internal/strconv.uint64pow10", Lib.tabData .u64 Lib.pow10Tab) :: laidL.drop 3) W := h.tail.tail
  have hs : laidMet Tryd.prog (("rolodex/report.sorts", Rows.laid_rolodex_report_sorts) :: laidL.drop 5) W := h.tail.tail.tail.tail
  have htab := Lib.tabIs_of_head (g := 1) (t := 185) (e := 173) (n := 20) (by kernel_rfl) (by kernel_rfl) (by kernel_rfl) (by kernel_rfl) (by kernel_rfl) (by kernel_rfl) hp
  obtain ⟨ps, ⟨g0, t0, cs0, f0, p0, q0, hg0, ht0, hv0, hd0, _, _⟩, _⟩ := hs
  obtain rfl := Option.some.inj (gSorts.symm.trans hg0)
  obtain rfl := Option.some.inj (tSorts.symm.trans ht0)
  rw [dSorts] at hd0
  intro g ps hm
  rw [gl_eq] at hm
  rcases List.mem_cons.1 hm with hm | hm
  · cases hm
    exact glob_strs (i := ⟨.ar 6 9, 6, 96⟩) (q := ⟨.str, 1, 16⟩) hg0 hv0 rfl rfl rfl rfl rfl rfl rfl hd0
  · obtain hm := List.mem_singleton.1 hm
    cases hm
    have hg : (Tryd.prog).globalNamed "internal/strconv.uint64pow10" = some 1 := by kernel_rfl
    unfold Lib.TabIs World.var? at htab
    rw [hg] at htab
    simp only [Option.bind_some] at htab
    split at htab
    · rename_i C T fr hh
      have e := Option.some.inj htab
      have key : ∀ l : List Int, hL W none0 (l.map fun z => SV.int .u64 z) sg0 (l.map fun z => Value.int .u64 z) := by
        intro l
        induction l with
        | nil => rfl
        | cons x r ih => exact ⟨[Value.int .u64 x], _, rfl, by simp [SV.hc], ih⟩
      have hz : szL (Lib.pow10Tab.map fun z => SV.int .u64 z) = 20 := rfl
      have hlen : C.size = 20 := by rw [e]; simp [Lib.pow10Tab]
      refine ⟨⟨1, 0, rfl, fun h => h, C, T, fr, hh, ?_⟩, C, T, fr, hh, by rw [hlen, hz]⟩
      rw [List.drop_zero, List.take_of_length_le (by rw [hz, Array.length_toList, hlen]; exact Nat.le_refl _), e]
      exact key _
    · cases htab
theorem door_met (os : Os) (args : Array Value) : laidMetH Tryd.prog laidL ((World.laidAll Tryd.prog os laidL).forCall (fun _ _ => 0) ⟨#[], args, []⟩).memory := by
  rw [MakeChecks.laidMetH_plain _ _ _ (by kernel_rfl)]
  exact laidMet_laidAll _ (by kernel_rfl) (by kernel_rfl)
section
variable {P : Program} [TabC P] {H : Type} {enc : TypeId × Value → H} {W : World} {spare : Nat → Bool} {held : Bool}
theorem arg_str {t base : Nat} {i : TI} (ht : ty P t = some i) (hk : i.k = .str) {v : Value} {d : DataW H} {p : List MemPlace} (hv : Value.okWide P W .any base t v) (h : DataW.Trod enc P W 0 spare held t v d p) : ∃ s : B8, (SV.str s).h1 W none0 sg0 v ∧ s.length ≤ 9223372036854775807 := by
  obtain ⟨s, rfl, _, _, hs⟩ := Go.ChangeMaps.open_string (ty_str ht hk) hv h
  refine ⟨s.data.toList.map (·.toBitVec), ?_, ?_⟩
  · simp only [SV.h1, SV.hc]
    rw [baOf_toList]
  · rw [List.length_map]; exact hs
end
end Go.Proofs.YtepongfhnammkaaDoor

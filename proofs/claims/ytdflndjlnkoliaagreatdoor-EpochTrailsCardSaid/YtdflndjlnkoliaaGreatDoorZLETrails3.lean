import Derived.Test.YtdflndjlnkoliaaGreatDoorFn
import Derived.Test.YtdflndjlnkoliaaGreatDoorZLETrails2
import Derived.Test.YtdflndjlnkoliaaGreatDoorZLETrails1
import Derived.Test.YtdflndjlnkoliaaGreatDoorLaw
namespace Go.Proofs.YtdflndjlnkoliaaGreatDoor
set_option linter.all false
/-! ranges of a list of hashes: what is put side by side -/
section
variable {α : Type} (nodeA : α → α → α)
structure Prt (α : Type) where
  fr : Nat
  sz : Nat
  h : α
/-- where a list of n is cut -/
def halfK (n : Nat) : Nat → Nat → Nat
  | 0, k => k
  | f + 1, k => if k < n - k then halfK n f (2 * k) else k
/-- the root of a list that is not empty -/
def rootL (zero : α) : Nat → List α → α
  | 0, _ => zero
  | _ + 1, [] => zero
  | _ + 1, [x] => x
  | f + 1, l => nodeA (rootL zero f (l.take (halfK l.length l.length 1))) (rootL zero f (l.drop (halfK l.length l.length 1)))
/-- a part is put on a stack (its top is the head) -/
def putSt : List (Prt α) → Prt α → List (Prt α)
  | [], p => [p]
  | a :: s, p => if a.sz = p.sz ∧ a.fr % (2 * a.sz) = 0 then putSt s ⟨a.fr, 2 * a.sz, nodeA a.h p.h⟩ else p :: a :: s
/-- one after another -/
def putStk : List (Prt α) → Nat → List α → List (Prt α)
  | s, _, [] => s
  | s, n, x :: r => putStk (putSt nodeA s ⟨n, 1, x⟩) (n + 1) r
theorem putStk_app (s : List (Prt α)) (n : Nat) (l m : List α) : putStk nodeA s n (l ++ m) = putStk nodeA (putStk nodeA s n l) (n + l.length) m := by
  induction l generalizing s n with
  | nil => rfl
  | cons x r ih =>
    show putStk nodeA (putSt nodeA s ⟨n, 1, x⟩) (n + 1) (r ++ m) = _
    rw [ih]
    show _ = putStk nodeA (putStk nodeA (putSt nodeA s ⟨n, 1, x⟩) (n + 1) r) (n + (r.length + 1)) m
    rw [show n + 1 + r.length = n + (r.length + 1) by omega]
/-- the top ends where the next begins -/
def topAt : List (Prt α) → Nat → Prop
  | [], _ => True
  | a :: _, n => a.fr + a.sz = n
theorem put_two (s : List (Prt α)) (n m : Nat) (x y : α) (hm : 0 < m) (hd : n % (2 * m) = 0) (ht : topAt s n) : putSt nodeA (putSt nodeA s ⟨n, m, x⟩) ⟨n + m, m, y⟩ = putSt nodeA s ⟨n, 2 * m, nodeA x y⟩ := by
  have h1 : putSt nodeA s ⟨n, m, x⟩ = ⟨n, m, x⟩ :: s := by
    cases s with
    | nil => rfl
    | cons a r =>
      unfold putSt
      rw [if_neg]
      rintro ⟨h1, h2⟩
      dsimp only at h1 h2
      have ht : a.fr + a.sz = n := ht
      rw [h1] at h2 ht
      have e : n = a.fr + m := ht.symm
      rw [e, Nat.add_mod, h2, Nat.zero_add, Nat.mod_mod] at hd
      rw [Nat.mod_eq_of_lt (by omega)] at hd
      omega
  rw [h1]
  show (if m = m ∧ n % (2 * m) = 0 then putSt nodeA s ⟨n, 2 * m, nodeA x y⟩ else _) = _
  rw [if_pos ⟨rfl, hd⟩]
theorem halfK_pow (j : Nat) : ∀ (f i : Nat), j ≤ f + i → i ≤ j → halfK (2 ^ (j + 1)) f (2 ^ i) = 2 ^ j
  | 0, i, h1, h2 => by
    have : i = j := by omega
    subst this; rfl
  | f + 1, i, h1, h2 => by
    have hij : 2 ^ i ≤ 2 ^ j := Nat.pow_le_pow_right (by decide) h2
    have hp : 2 ^ (j + 1) = 2 * 2 ^ j := by rw [Nat.pow_succ]; omega
    unfold halfK
    rcases Nat.lt_or_ge i j with h | h
    · have hlt : 2 ^ i < 2 ^ j := Nat.pow_lt_pow_right (by decide) h
      rw [if_pos (by omega), show 2 * 2 ^ i = 2 ^ (i + 1) by rw [Nat.pow_succ]; omega]
      exact halfK_pow j f (i + 1) (by omega) (by omega)
    · have : i = j := by omega
      subst this
      rw [if_neg (by omega)]
theorem two_pow_gt (j : Nat) : j < 2 ^ j := Nat.lt_two_pow_self
theorem rootL_pow (zero : α) {j f : Nat} {l : List α} (h : l.length = 2 ^ (j + 1)) : rootL nodeA zero (f + 1) l = nodeA (rootL nodeA zero f (l.take (2 ^ j))) (rootL nodeA zero f (l.drop (2 ^ j))) := by
  have h2 : 2 ≤ l.length := by rw [h, Nat.pow_succ]; have := Nat.pow_pos (n := j) (show 0 < 2 by decide); omega
  match l, h2 with
  | a :: b :: r, _ =>
    show nodeA (rootL nodeA zero f ((a :: b :: r).take (halfK (a :: b :: r).length (a :: b :: r).length 1))) _ = _
    have e := halfK_pow j (2 ^ (j + 1)) 0 (by have := two_pow_gt (j + 1); omega) (by omega)
    rw [Nat.pow_zero] at e
    rw [h, e]
theorem rootL_fuel (zero : α) : ∀ (j f g : Nat) (l : List α), l.length = 2 ^ j → j < f → j < g → rootL nodeA zero f l = rootL nodeA zero g l
  | 0, f + 1, g + 1, [x], _, _, _ => rfl
  | j + 1, f + 1, g + 1, l, h, hf, hg => by
    have hp : 2 ^ (j + 1) = 2 * 2 ^ j := by rw [Nat.pow_succ]; omega
    rw [rootL_pow nodeA zero h, rootL_pow nodeA zero h, rootL_fuel zero j f g _ (by rw [List.length_take]; omega) (by omega) (by omega), rootL_fuel zero j f g _ (by rw [List.length_drop]; omega) (by omega) (by omega)]
theorem putStk_pow (zero : α) : ∀ (j : Nat) (l : List α) (s : List (Prt α)) (n f : Nat), l.length = 2 ^ j → n % 2 ^ j = 0 → topAt s n → j < f → putStk nodeA s n l = putSt nodeA s ⟨n, 2 ^ j, rootL nodeA zero f l⟩
  | 0, [x], s, n, f + 1, _, _, _, _ => rfl
  | j + 1, l, s, n, f + 1, h, hn, ht, hf => by
    have hp : 2 ^ (j + 1) = 2 * 2 ^ j := by rw [Nat.pow_succ]; omega
    have hpos := Nat.pow_pos (n := j) (show 0 < 2 by decide)
    have h1 : (l.take (2 ^ j)).length = 2 ^ j := by rw [List.length_take]; omega
    have h2 : (l.drop (2 ^ j)).length = 2 ^ j := by rw [List.length_drop]; omega
    have hn1 : n % 2 ^ j = 0 := by
      rw [hp] at hn
      exact Nat.mod_eq_zero_of_dvd (Nat.dvd_trans ⟨2, by omega⟩ (Nat.dvd_of_mod_eq_zero hn))
    have e := (List.take_append_drop (2 ^ j) l).symm
    rw [e, putStk_app, h1, putStk_pow zero j _ s n f h1 hn1 ht (by omega), ← e]
    have ht2 : topAt (putSt nodeA s ⟨n, 2 ^ j, rootL nodeA zero f (l.take (2 ^ j))⟩) (n + 2 ^ j) := by
      clear h e
      generalize rootL nodeA zero f (l.take (2 ^ j)) = x
      cases s with
      | nil => rfl
      | cons a r =>
        unfold putSt
        rw [if_neg]
        · rfl
        · rintro ⟨q1, q2⟩
          dsimp only at q1 q2
          have ht : a.fr + a.sz = n := ht
          rw [q1] at q2 ht
          rw [hp, ← ht, Nat.add_mod, q2, Nat.zero_add, Nat.mod_mod, Nat.mod_eq_of_lt (by omega)] at hn
          omega
    have hn2 : (n + 2 ^ j) % 2 ^ j = 0 := by rw [Nat.add_mod_right]; exact hn1
    rw [putStk_pow zero j _ _ (n + 2 ^ j) f h2 hn2 ht2 (by omega), put_two nodeA s n (2 ^ j) _ _ hpos (by rw [← hp]; exact hn) ht, rootL_pow nodeA zero h, hp]
/-! segments -/
/-- the size of the segment that begins at a place -/
def segSz (fr to : Nat) : Nat → Nat → Nat
  | 0, n => n
  | f + 1, n => if 2 * n ≤ to - fr ∧ fr % (2 * n) = 0 then segSz fr to f (2 * n) else n
def sizeS (fr to : Nat) : Nat := segSz fr to (to - fr) 1
theorem segN_spec (fr to : Nat) : ∀ (f n j : Nat), n = 2 ^ j → n ≤ to - fr → fr % n = 0 → to - fr < n + f → ∃ i, segSz fr to f n = 2 ^ i ∧ 2 ^ i ≤ to - fr ∧ fr % 2 ^ i = 0 ∧ ¬ (2 * 2 ^ i ≤ to - fr ∧ fr % (2 * 2 ^ i) = 0)
  | 0, n, j, h, h1, h2, h3 => by omega
  | f + 1, n, j, h, h1, h2, h3 => by
    unfold segSz
    have hpos : 0 < n := by rw [h]; exact Nat.pow_pos (by decide)
    split
    · rename_i hc
      exact segN_spec fr to f (2 * n) (j + 1) (by rw [h, Nat.pow_succ]; omega) hc.1 hc.2 (by omega)
    · rename_i hc
      exact ⟨j, h, by rw [← h]; exact h1, by rw [← h]; exact h2, by rw [← h]; exact hc⟩
theorem sizeS_spec {fr to : Nat} (h : fr < to) : ∃ i, sizeS fr to = 2 ^ i ∧ 2 ^ i ≤ to - fr ∧ fr % 2 ^ i = 0 ∧ ¬ (2 * 2 ^ i ≤ to - fr ∧ fr % (2 * 2 ^ i) = 0) :=
  segN_spec fr to (to - fr) 1 0 rfl (by omega) (Nat.mod_one _) (by omega)
/-- the roots of the segments -/
def segR (zero : α) : Nat → Nat → List α → List α
  | 0, _, _ => []
  | _ + 1, _, [] => []
  | f + 1, fr, l => rootL nodeA zero l.length (l.take (sizeS fr (fr + l.length))) :: segR zero f (fr + sizeS fr (fr + l.length)) (l.drop (sizeS fr (fr + l.length)))
/-- the top does not go on to be made one with what comes -/
def topOk : List (Prt α) → Nat → Nat → Prop
  | [], _, _ => True
  | a :: _, n, to => a.fr + a.sz = n ∧ ¬ (2 * a.sz ≤ to - a.fr ∧ a.fr % (2 * a.sz) = 0)
theorem putStk_segs (zero : α) : ∀ (f : Nat) (l : List α) (s : List (Prt α)) (n : Nat), l.length ≤ f → topOk s n (n + l.length) → (putStk nodeA s n l).reverse.map (·.h) = s.reverse.map (·.h) ++ segR nodeA zero f n l
  | 0, l, s, n, hf, ht => by
    obtain rfl := List.eq_nil_of_length_eq_zero (by omega : l.length = 0)
    simp [putStk, segR]
  | f + 1, [], s, n, hf, ht => by simp [putStk, segR]
  | f + 1, x :: r, s, n, hf, ht => by
    obtain ⟨i, e1, e2, e3, e4⟩ := sizeS_spec (show n < n + (x :: r).length by simp)
    generalize hl : x :: r = l at *
    have hpos := Nat.pow_pos (n := i) (show 0 < 2 by decide)
    have h1 : (l.take (2 ^ i)).length = 2 ^ i := by rw [List.length_take]; omega
    have hta : topAt s n := by cases s with
      | nil => trivial
      | cons a q => exact ht.1
    have hseg : segR nodeA zero (f + 1) n l = rootL nodeA zero l.length (l.take (2 ^ i)) :: segR nodeA zero f (n + 2 ^ i) (l.drop (2 ^ i)) := by
      subst hl
      show rootL nodeA zero _ ((x :: r).take (sizeS n (n + (x :: r).length))) :: segR nodeA zero f (n + sizeS n (n + (x :: r).length)) ((x :: r).drop (sizeS n (n + (x :: r).length))) = _
      rw [e1]
    have hli : i < l.length := by have := two_pow_gt i; omega
    have hput : putSt nodeA s ⟨n, 2 ^ i, rootL nodeA zero l.length (l.take (2 ^ i))⟩ = ⟨n, 2 ^ i, rootL nodeA zero l.length (l.take (2 ^ i))⟩ :: s := by
      cases s with
      | nil => rfl
      | cons a q =>
        unfold putSt
        rw [if_neg]
        rintro ⟨q1, q2⟩
        dsimp only at q1 q2
        obtain ⟨g1, g2⟩ := ht
        exact g2 ⟨by omega, q2⟩
    have e := (List.take_append_drop (2 ^ i) l).symm
    rw [hseg]
    conv => lhs; rw [e, putStk_app, h1, putStk_pow nodeA zero i _ s n l.length h1 e3 hta hli, hput]
    have hd : (l.drop (2 ^ i)).length = l.length - 2 ^ i := List.length_drop ..
    have key := putStk_segs zero f (l.drop (2 ^ i)) (⟨n, 2 ^ i, rootL nodeA zero l.length (l.take (2 ^ i))⟩ :: s) (n + 2 ^ i) (by omega) (by
      refine ⟨rfl, ?_⟩
      dsimp only
      rw [hd, show n + 2 ^ i + (l.length - 2 ^ i) = n + l.length by omega]
      rw [show n + l.length - n = n + l.length - n from rfl] at e4
      exact e4)
    rw [key]
    simp
/-! the whole root -/
theorem halfK_spec (n : Nat) : ∀ (f k j : Nat), k = 2 ^ j → k < n → n ≤ k + f → ∃ i, halfK n f k = 2 ^ i ∧ 2 ^ i < n ∧ n ≤ 2 * 2 ^ i
  | 0, k, j, h, h1, h2 => by omega
  | f + 1, k, j, h, h1, h2 => by
    have hpos : 0 < k := by rw [h]; exact Nat.pow_pos (by decide)
    unfold halfK
    split
    · rename_i hc
      exact halfK_spec n f (2 * k) (j + 1) (by rw [h, Nat.pow_succ]; omega) (by omega) (by omega)
    · rename_i hc
      exact ⟨j, h, by omega, by omega⟩
theorem half_ok {n : Nat} (h : 2 ≤ n) : ∃ i, halfK n n 1 = 2 ^ i ∧ 2 ^ i < n ∧ n ≤ 2 * 2 ^ i := halfK_spec n n 1 0 rfl (by omega) (by omega)
theorem rootL_two (zero : α) {f : Nat} {l : List α} (h : 2 ≤ l.length) : rootL nodeA zero (f + 1) l = nodeA (rootL nodeA zero f (l.take (halfK l.length l.length 1))) (rootL nodeA zero f (l.drop (halfK l.length l.length 1))) := by
  match l, h with
  | a :: b :: r, _ => rfl
theorem rootL_any (zero : α) : ∀ (f g : Nat) (l : List α), l.length ≤ f → l.length ≤ g → rootL nodeA zero f l = rootL nodeA zero g l
  | 0, 0, l, _, _ => rfl
  | 0, g + 1, l, h, _ => by obtain rfl := List.eq_nil_of_length_eq_zero (by omega : l.length = 0); rfl
  | f + 1, 0, l, _, h => by obtain rfl := List.eq_nil_of_length_eq_zero (by omega : l.length = 0); rfl
  | f + 1, g + 1, l, h1, h2 => by
    by_cases hl : 2 ≤ l.length
    · obtain ⟨i, e, q1, q2⟩ := half_ok hl
      have hpos := Nat.pow_pos (n := i) (show 0 < 2 by decide)
      rw [rootL_two nodeA zero hl, rootL_two nodeA zero hl, e, rootL_any zero f g _ (by rw [List.length_take]; omega) (by rw [List.length_take]; omega), rootL_any zero f g _ (by rw [List.length_drop]; omega) (by rw [List.length_drop]; omega)]
    · match l, hl with
      | [], _ => rfl
      | [x], _ => rfl
      | a :: b :: r, hl => exact absurd (by simp) hl
/-- the last two made one, and so on -/
def foldRt (zero : α) : List α → α
  | [] => zero
  | [x] => x
  | x :: y :: r => nodeA x (foldRt zero (y :: r))
theorem pow_between {i j n : Nat} (h1 : 2 ^ i ≤ n) (h2 : n < 2 * 2 ^ i) (h3 : 2 ^ j ≤ n) (h4 : n < 2 * 2 ^ j) : i = j := by
  rcases Nat.lt_trichotomy i j with h | h | h
  · have := Nat.pow_le_pow_right (show 0 < 2 by decide) (show i + 1 ≤ j from h)
    rw [Nat.pow_succ] at this; omega
  · exact h
  · have := Nat.pow_le_pow_right (show 0 < 2 by decide) (show j + 1 ≤ i from h)
    rw [Nat.pow_succ] at this; omega
theorem zero_size {n : Nat} (h : 0 < n) : ∃ i, sizeS 0 n = 2 ^ i ∧ 2 ^ i ≤ n ∧ n < 2 * 2 ^ i := by
  obtain ⟨i, e1, e2, _, e4⟩ := sizeS_spec h
  refine ⟨i, e1, by omega, ?_⟩
  rcases Nat.lt_or_ge n (2 * 2 ^ i) with h | h
  · exact h
  · exact absurd ⟨by omega, Nat.zero_mod _⟩ e4
/-- behind a great power the segments are as from the beginning -/
theorem size_shift {k n to : Nat} (hn : n % 2 ^ k = 0) (h0 : n < to) (h : to - n ≤ 2 ^ k) (m : Nat) (hm : m + (to - n) ≤ 2 ^ k) : sizeS (n + m) (to + m) = sizeS m (m + (to - n)) := by
  obtain ⟨i, e1, e2, e3, e4⟩ := sizeS_spec (show n + m < to + m by omega)
  obtain ⟨j, g1, g2, g3, g4⟩ := sizeS_spec (show m < m + (to - n) by omega)
  have le : ∀ a : Nat, 2 ^ a ≤ to - n → ((n + m) % 2 ^ a = 0 ↔ m % 2 ^ a = 0) := by
    intro a ha
    have hak : a ≤ k := by
      rcases Nat.lt_or_ge k a with h' | h'
      · have := Nat.pow_lt_pow_right (show 1 < 2 by decide) h'; omega
      · exact h'
    have hd : n % 2 ^ a = 0 := Nat.mod_eq_zero_of_dvd (Nat.dvd_trans (Nat.pow_dvd_pow 2 hak) (Nat.dvd_of_mod_eq_zero hn))
    rw [Nat.add_mod, hd, Nat.zero_add, Nat.mod_mod]
  have p2 : ∀ a : Nat, 2 * 2 ^ a = 2 ^ (a + 1) := fun a => by rw [Nat.pow_succ]; omega
  rw [e1, g1]
  rw [p2] at e4 g4
  have ei : m % 2 ^ i = 0 := (le i (by omega)).1 e3
  have ej : (n + m) % 2 ^ j = 0 := (le j (by omega)).2 g3
  rcases Nat.lt_trichotomy i j with h' | h' | h'
  · exfalso
    have hpw := Nat.pow_le_pow_right (show 0 < 2 by decide) (show i + 1 ≤ j from h')
    exact e4 ⟨by omega, Nat.mod_eq_zero_of_dvd (Nat.dvd_trans (Nat.pow_dvd_pow 2 (show i + 1 ≤ j from h')) (Nat.dvd_of_mod_eq_zero ej))⟩
  · rw [h']
  · exfalso
    have hpw := Nat.pow_le_pow_right (show 0 < 2 by decide) (show j + 1 ≤ i from h')
    exact g4 ⟨by omega, Nat.mod_eq_zero_of_dvd (Nat.dvd_trans (Nat.pow_dvd_pow 2 (show j + 1 ≤ i from h')) (Nat.dvd_of_mod_eq_zero ei))⟩
theorem segR_shift (zero : α) {k n : Nat} (hn : n % 2 ^ k = 0) : ∀ (f m : Nat) (l : List α), m + l.length ≤ 2 ^ k → segR nodeA zero f (n + m) l = segR nodeA zero f m l
  | 0, m, l, _ => rfl
  | f + 1, m, [], _ => rfl
  | f + 1, m, x :: r, h => by
    have hs := size_shift (to := n + (x :: r).length) hn (by simp) (by omega) m (by omega)
    rw [show n + (x :: r).length - n = (x :: r).length by omega, show n + (x :: r).length + m = n + m + (x :: r).length by omega] at hs
    show rootL nodeA zero _ ((x :: r).take (sizeS (n + m) (n + m + (x :: r).length))) :: segR nodeA zero f (n + m + sizeS (n + m) (n + m + (x :: r).length)) ((x :: r).drop (sizeS (n + m) (n + m + (x :: r).length))) = rootL nodeA zero _ ((x :: r).take (sizeS m (m + (x :: r).length))) :: segR nodeA zero f (m + sizeS m (m + (x :: r).length)) ((x :: r).drop (sizeS m (m + (x :: r).length)))
    rw [hs]
    obtain ⟨i, g1, g2, _, _⟩ := sizeS_spec (show m < m + (x :: r).length by simp)
    rw [g1, Nat.add_assoc n m, segR_shift zero hn f (m + 2 ^ i) _ (by rw [List.length_drop]; omega)]
theorem segR_ne (zero : α) {f n : Nat} {l : List α} (h : l ≠ []) : segR nodeA zero (f + 1) n l ≠ [] := by
  cases l with
  | nil => exact absurd rfl h
  | cons x r => exact fun e => by cases e
theorem fold_segs (zero : α) : ∀ (f : Nat) (l : List α), l.length ≤ f → foldRt nodeA zero (segR nodeA zero f 0 l) = rootL nodeA zero f l
  | 0, l, h => by obtain rfl := List.eq_nil_of_length_eq_zero (by omega : l.length = 0); rfl
  | f + 1, [], h => rfl
  | f + 1, [x], h => by
    have e : sizeS 0 1 = 1 := rfl
    show foldRt nodeA zero (rootL nodeA zero 1 ([x].take (sizeS 0 (0 + [x].length))) :: segR nodeA zero f (0 + sizeS 0 (0 + [x].length)) ([x].drop (sizeS 0 (0 + [x].length)))) = x
    rw [show (0 + [x].length) = 1 from rfl, e]
    cases f <;> rfl
  | f + 1, x :: y :: r, h => by
    obtain ⟨i, e1, e2, e3⟩ := zero_size (show 0 < (x :: y :: r).length by simp)
    obtain ⟨j, g1, g2, g3⟩ := half_ok (show 2 ≤ (x :: y :: r).length by simp)
    have hseg : segR nodeA zero (f + 1) 0 (x :: y :: r) = rootL nodeA zero (x :: y :: r).length ((x :: y :: r).take (2 ^ i)) :: segR nodeA zero f (2 ^ i) ((x :: y :: r).drop (2 ^ i)) := by
      show rootL nodeA zero _ ((x :: y :: r).take (sizeS 0 (0 + (x :: y :: r).length))) :: segR nodeA zero f (0 + sizeS 0 (0 + (x :: y :: r).length)) ((x :: y :: r).drop (sizeS 0 (0 + (x :: y :: r).length))) = _
      rw [Nat.zero_add, e1, Nat.zero_add]
    have hlen : 2 ≤ (x :: y :: r).length := by simp
    generalize x :: y :: r = l at *
    have hpos := Nat.pow_pos (n := i) (show 0 < 2 by decide)
    rw [hseg]
    rcases Nat.lt_or_ge (2 ^ i) l.length with hlt | hge
    · have hij : i = j := by
        rcases Nat.lt_or_ge l.length (2 * 2 ^ j) with h' | h'
        · exact pow_between (by omega) e3 (by omega) h'
        · exfalso
          have el : l.length = 2 ^ (j + 1) := by rw [Nat.pow_succ]; omega
          have : i = j + 1 := pow_between (n := l.length) (by omega) e3 (by omega) (by rw [← el]; omega)
          rw [this] at hlt; omega
      have hd : (l.drop (2 ^ i)).length = l.length - 2 ^ i := List.length_drop ..
      have hsh : segR nodeA zero f (2 ^ i) (l.drop (2 ^ i)) = segR nodeA zero f 0 (l.drop (2 ^ i)) := by
        have := segR_shift nodeA zero (k := i) (n := 2 ^ i) (Nat.mod_self _) f 0 (l.drop (2 ^ i)) (by omega)
        rwa [Nat.add_zero] at this
      have hf : foldRt nodeA zero (rootL nodeA zero l.length (l.take (2 ^ i)) :: segR nodeA zero f 0 (l.drop (2 ^ i))) = nodeA (rootL nodeA zero l.length (l.take (2 ^ i))) (foldRt nodeA zero (segR nodeA zero f 0 (l.drop (2 ^ i)))) := by
        obtain ⟨f', rfl⟩ : ∃ f', f = f' + 1 := ⟨f - 1, by omega⟩
        have hne := segR_ne nodeA zero (f := f') (n := 0) (show l.drop (2 ^ i) ≠ [] from fun e => by rw [e] at hd; simp at hd; omega)
        generalize segR nodeA zero (f' + 1) 0 (l.drop (2 ^ i)) = q at *
        cases q with
        | nil => exact absurd rfl hne
        | cons a b => rfl
      rw [hsh, hf, fold_segs zero f _ (by omega), rootL_two nodeA zero hlen, g1, ← hij, rootL_any nodeA zero l.length f _ (by rw [List.length_take]; omega) (by rw [List.length_take]; omega)]
    · have el : l.length = 2 ^ i := by omega
      have hd : l.drop (2 ^ i) = [] := List.drop_eq_nil_of_le (by omega)
      have ht : l.take (2 ^ i) = l := List.take_of_length_le (by omega)
      rw [hd, ht]
      have : segR nodeA zero f (2 ^ i) ([] : List α) = [] := by cases f <;> rfl
      rw [this]
      exact rootL_any nodeA zero l.length (f + 1) l (Nat.le_refl _) h
termination_by f => f
/-- the program's size of a segment: the greatest power within, and within the place's own power -/
theorem size_prog {fr to L T : Nat} (h : fr < to) (h1 : 2 ^ L ≤ to - fr) (h2 : to - fr < 2 ^ (L + 1)) (h3 : fr % 2 ^ T = 0) (h4 : fr ≠ 0 → fr % 2 ^ (T + 1) ≠ 0) : sizeS fr to = if fr = 0 then 2 ^ L else 2 ^ min L T := by
  obtain ⟨i, e1, e2, e3, e4⟩ := sizeS_spec h
  have hpp : 2 * 2 ^ i = 2 ^ (i + 1) := by rw [Nat.pow_succ]; omega
  rw [hpp] at e4
  have hiL : i ≤ L := by
    rcases Nat.lt_or_ge L i with h' | h'
    · have := Nat.pow_le_pow_right (show 0 < 2 by decide) (show L + 1 ≤ i from h'); omega
    · exact h'
  by_cases h0 : fr = 0
  · rw [if_pos h0, e1]
    subst h0
    rcases Nat.lt_or_ge i L with h' | h'
    · exact absurd ⟨Nat.le_trans (Nat.pow_le_pow_right (by decide) (show i + 1 ≤ L from h')) h1, Nat.zero_mod _⟩ e4
    · rw [show i = L by omega]
  · rw [if_neg h0, e1]
    have hiT : i ≤ T := by
      rcases Nat.lt_or_ge T i with h' | h'
      · exact absurd (Nat.mod_eq_zero_of_dvd (Nat.dvd_trans (Nat.pow_dvd_pow 2 (show T + 1 ≤ i from h')) (Nat.dvd_of_mod_eq_zero e3))) (h4 h0)
      · exact h'
    rcases Nat.lt_or_ge i (min L T) with h' | h'
    · exact absurd ⟨Nat.le_trans (Nat.pow_le_pow_right (by decide) (show i + 1 ≤ L by omega)) h1, Nat.mod_eq_zero_of_dvd (Nat.dvd_trans (Nat.pow_dvd_pow 2 (show i + 1 ≤ T by omega)) (Nat.dvd_of_mod_eq_zero h3))⟩ e4
    · rw [show i = min L T by omega]
/-- how many segments -/
theorem segR_fuel {α : Type} (nodeA : α → α → α) (zero : α) : ∀ (f g fr : Nat) (l : List α), l.length ≤ f → l.length ≤ g → segR nodeA zero f fr l = segR nodeA zero g fr l
  | 0, 0, fr, l, _, _ => rfl
  | 0, g + 1, fr, l, h, _ => by obtain rfl := List.eq_nil_of_length_eq_zero (by omega : l.length = 0); rfl
  | f + 1, 0, fr, l, _, h => by obtain rfl := List.eq_nil_of_length_eq_zero (by omega : l.length = 0); rfl
  | f + 1, g + 1, fr, [], _, _ => rfl
  | f + 1, g + 1, fr, x :: r, h1, h2 => by
    obtain ⟨i, e1, e2, _, _⟩ := sizeS_spec (show fr < fr + (x :: r).length by simp)
    have hpos := Nat.pow_pos (n := i) (show 0 < 2 by decide)
    show rootL nodeA zero _ ((x :: r).take (sizeS fr (fr + (x :: r).length))) :: segR nodeA zero f (fr + sizeS fr (fr + (x :: r).length)) ((x :: r).drop (sizeS fr (fr + (x :: r).length))) = rootL nodeA zero _ ((x :: r).take (sizeS fr (fr + (x :: r).length))) :: segR nodeA zero g (fr + sizeS fr (fr + (x :: r).length)) ((x :: r).drop (sizeS fr (fr + (x :: r).length)))
    rw [e1, segR_fuel nodeA zero f g _ _ (by rw [List.length_drop]; simp only [List.length_cons] at h1 ⊢; omega) (by rw [List.length_drop]; simp only [List.length_cons] at h2 ⊢; omega)]
end
end Go.Proofs.YtdflndjlnkoliaaGreatDoor

namespace Go.Proofs.YtdflndjlnkoliaaGreatDoor
set_option linter.all false
open Go.RowKit
/-! parts side by side -/
def nodeH (a b : H256) : H256 := sha (1#8 :: (a.toList ++ b.toList))
def fnode_c : Ctr where
  D := H256 × H256
  args := fun (a, b) => [.agg [.arr8 a], .agg [.arr8 b]]
  res := fun (a, b) _ => .agg [.arr8 (nodeH a b)]
def fnode_H : Cfg := ⟨[(165, concat_c), (114, sum_c)], [(1, [], [0, 3, 4, 5, 6], (.one 1 0 false (.one 2 0 false (.one 0 2 false (.one 3 2 false (.one 4 2 false (.one 5 2 false (.one 6 2 false .nil))))))), [])], [], [], 11, 0, [], [], []⟩
theorem fnode_ok : fnode_c.Ok Tryz.prog 147 := by
  refine fn_ok fnode_H 0 rfl _ Tryz.func147 rfl rfl ⟨concat_ok, sum_ok, trivial⟩ rfl rfl (by kernel_rfl) (fun _ => Nat.le_of_ble_eq_true rfl) ?_
  rintro ⟨a, b⟩ hp hr
  try dsimp only [fnode_c] at hp
  try simp only [fnode_c, Rng, RngL, inR, and_true, true_and] at hr
  have hpc : concat_c.pre [[1#8], a.toList, b.toList] := ⟨by simp, by simp, by simp⟩
  repeat' (first | (with_reducible refine Unf.h ?_) | ((conv => whnf); first | (refine Side.mk ?_ ?_; focus (first | exact True.intro | (intros; (try simp only [lenS, inR, cutS, loI, hiI, cutv2] at *); omega))) | refine Ex.mk [_] rfl ?_) | fail); all_goals try (conv => whnf); all_goals try (exfalso; omega)
  refine CallS.mk (c := concat_c) ([[1#8], a.toList, b.toList]) ?_
  repeat' (first | (with_reducible refine Unf.h ?_) | fail); all_goals try (conv => whnf); all_goals try (exfalso; omega)
  refine Side.mk (by simp only [cutv2]; rfl) ?_
  have ef : ([[1#8], a.toList, b.toList] : List Bs).flatten = 1#8 :: (a.toList ++ b.toList) := by simp
  repeat' (first | (with_reducible refine Unf.h ?_) | ((conv => whnf); first | (refine Side.mk ?_ ?_; focus (assumption)) | refine Got.mk (fun _ _ => ?_) | (with_reducible refine Unf.h ?_)) | fail); all_goals try (conv => whnf); all_goals try (exfalso; omega)
  refine CallS.mk (c := sum_c) ((1#8 :: (a.toList ++ b.toList))) ?_
  repeat' (first | (with_reducible refine Unf.h ?_) | ((conv => whnf); first | (refine Side.mk ?_ ?_; focus (first | exact True.intro | (simp only [*, nodeH]; done))) | refine RetE.mk () trivial ?_ | refine Got.mk (fun _ _ => ?_) | refine retK_r ?_ | exact rfl) | fail); all_goals try (conv => whnf); all_goals try (exfalso; omega)
abbrev Part := Prt H256
abbrev ePt (p : Part) : List SV := [.int .i64 (p.fr : Int), .int .i64 (p.sz : Int), .arr8 p.h]
theorem putSt_bd {M F : Nat} : ∀ (s : List Part) (p : Part), (∀ a ∈ s, 1 ≤ a.sz ∧ a.sz ≤ M ∧ a.fr ≤ F) → 1 ≤ p.sz → p.sz ≤ 2 * M → p.fr ≤ F → ∀ a ∈ putSt nodeH s p, 1 ≤ a.sz ∧ a.sz ≤ 2 * M ∧ a.fr ≤ F
  | [], p, _, h0, h1, h2, a, ha => by obtain rfl := List.mem_singleton.1 ha; exact ⟨h0, h1, h2⟩
  | b :: s, p, h, h0, h1, h2, a, ha => by
    unfold putSt at ha
    have hb := h b (by simp)
    split at ha
    · exact putSt_bd s _ (fun c hc => h c (by simp [hc])) (by show 1 ≤ 2 * b.sz; omega) (by show 2 * b.sz ≤ _; omega) (by show b.fr ≤ F; exact hb.2.2) a ha
    · rcases List.mem_cons.1 ha with rfl | ha
      · exact ⟨h0, h1, h2⟩
      · have := h a ha; exact ⟨this.1, by omega, this.2.2⟩
theorem putSt_len : ∀ (s : List Part) (p : Part), (putSt nodeH s p).length ≤ s.length + 1
  | [], p => Nat.le_refl _
  | b :: s, p => by
    unfold putSt
    split
    · have := putSt_len s ⟨b.fr, 2 * b.sz, nodeH b.h p.h⟩
      rw [List.length_cons]; omega
    · simp
def fput_c : Ctr where
  D := List Part × Part
  pre := fun (s, p) => s.length ≤ 1000 ∧ (∀ a ∈ s, 1 ≤ a.sz ∧ a.sz ≤ 1152921504606846976 ∧ a.fr ≤ 1152921504606846976) ∧ p.sz ≤ 1152921504606846976 ∧ p.fr ≤ 1152921504606846976
  args := fun (_, p) => [.own 0, .agg (ePt p)]
  objs := fun (s, _) => [(0, .row 244 34 ePt s.reverse)]
  nn := 1
  res := fun _ _ => .own 1
  out := fun (s, p) _ => [(1, .row 244 34 ePt (putSt nodeH s p).reverse)]
  mm := 1
def fput_H : Cfg := ⟨[(147, fnode_c)], [(4, [1, 3, 6, 8], [9, 11], (.one 0 0 false (.one 1 1 false (.one 2 0 false (.one 3 1 false (.one 4 0 false (.one 5 0 false (.one 6 1 false (.one 7 0 false (.one 8 1 false (.one 9 2 true (.one 10 0 false (.one 11 2 false .nil)))))))))))), [])], [], [], 49, 1, [44], [], []⟩
theorem fput_ok : fput_c.Ok Tryz.prog 144 := by
  refine fn_ok fput_H 1 rfl _ Tryz.func144 rfl rfl ⟨fnode_ok, trivial⟩ rfl rfl (by kernel_rfl) (fun _ => Nat.le_of_ble_eq_true rfl) ?_
  rintro ⟨s0, p0⟩ hp hr
  try dsimp only [fput_c] at hp
  try simp only [fput_c, Rng, RngL, inR, and_true, true_and] at hr
  obtain ⟨hp1, hp2, hp3, hp4⟩ := hp
  have hp1 : s0.length ≤ 1000 := hp1
  have hp3 : p0.sz ≤ 1152921504606846976 := hp3
  have hp4 : p0.fr ≤ 1152921504606846976 := hp4
  repeat' (first | (with_reducible refine Unf.h ?_) | fail); all_goals try (conv => whnf); all_goals try (exfalso; omega)
  refine LoopS.mk (I := List Part × Part) (fun (t, p) => t.length ≤ s0.length ∧ (∀ a ∈ t, 1 ≤ a.sz ∧ a.sz ≤ 1152921504606846976 ∧ a.fr ≤ 1152921504606846976) ∧ p.sz ≤ 2305843009213693952 ∧ p.fr ≤ 1152921504606846976 ∧ putSt nodeH t.reverse p = putSt nodeH s0 p0) (fun (t, p) => [(0, .own 2), (3, .ptr 1 0)]) (fun (t, p) => [(1, .box 244 (ePt p)), (2, .row 244 34 ePt t)]) 3 (fun (t, _) => t.length) (s0.reverse, p0) ⟨by simp, fun a ha => hp2 a (List.mem_reverse.1 ha), by show p0.sz ≤ _; omega, hp4, by rw [List.reverse_reverse]⟩ ?_ ?_
  · repeat' (first | (with_reducible refine Unf.h ?_) | ((conv => whnf); first | (refine Side.mk ?_ ?_; focus (with_reducible rfl)) | (with_reducible refine Unf.h ?_) | exact True.intro) | fail); all_goals try (conv => whnf); all_goals try (exfalso; omega)
  · rintro ⟨t, p⟩ ⟨g1, g2, g3, g4, g5⟩
    have g1 : t.length ≤ s0.length := g1
    have g3 : p.sz ≤ 2305843009213693952 := g3
    have g4 : p.fr ≤ 1152921504606846976 := g4
    have g5 : putSt nodeH t.reverse p = putSt nodeH s0 p0 := g5
    rcases Nat.eq_zero_or_pos t.length with ht | ht
    · obtain rfl := List.eq_nil_of_length_eq_zero ht
      have e : (putSt nodeH s0 p0).reverse = [] ++ [p] := by rw [← g5]; rfl
      repeat' (first | (with_reducible refine Unf.h ?_) | ((conv => whnf); first | refine Fork.mk (fun h => ?_) (fun h => ?_) | (refine Side.mk ?_ ?_; focus (first | (intros; (try simp only [lenS, inR, cutS, loI, hiI, e] at *); omega) | (simp only [*, e]; done))) | refine RetE.mk () trivial ?_ | refine Ex.mk [_] rfl ?_ | refine retK_r ?_ | exact rfl) | fail); all_goals try (conv => whnf); all_goals try (exfalso; omega)
    · obtain ⟨a, ha⟩ : ∃ a, t[((t.length : Int) - 1).toNat]'(by omega) = a := ⟨_, rfl⟩
      obtain ⟨q, hq⟩ : ∃ q, t.take ((t.length : Int) - 1).toNat = q := ⟨_, rfl⟩
      have etq : t = q ++ [a] := by
        rw [← hq, ← ha]
        have := List.take_succ_eq_append_getElem (l := t) (i := ((t.length : Int) - 1).toNat) (by omega)
        rw [← this, show ((t.length : Int) - 1).toNat + 1 = t.length by omega, List.take_length]
      obtain ⟨a0, a1, a2⟩ := g2 a (by rw [etq]; simp)
      have er : t.reverse = a :: q.reverse := by rw [etq]; simp
      subst ha
      have emod : ((t[((t.length : Int) - 1).toNat]'(by omega)).fr : Int) % (2 * ((t[((t.length : Int) - 1).toNat]'(by omega)).sz : Int)) = (((t[((t.length : Int) - 1).toNat]'(by omega)).fr % (2 * (t[((t.length : Int) - 1).toNat]'(by omega)).sz) : Nat) : Int) := by push_cast; rfl
      by_cases hm : (t[((t.length : Int) - 1).toNat]'(by omega)).sz = p.sz ∧ (t[((t.length : Int) - 1).toNat]'(by omega)).fr % (2 * (t[((t.length : Int) - 1).toNat]'(by omega)).sz) = 0
      · have g6 : putSt nodeH q.reverse ⟨(t[((t.length : Int) - 1).toNat]'(by omega)).fr, 2 * (t[((t.length : Int) - 1).toNat]'(by omega)).sz, nodeH (t[((t.length : Int) - 1).toNat]'(by omega)).h p.h⟩ = putSt nodeH s0 p0 := by
          rw [← g5, er]
          exact (if_pos hm).symm
        obtain ⟨m1, m2⟩ := hm
        rw [m2] at emod
        have hql : q.length + 1 = t.length := by rw [etq]; simp
        have hqm : ∀ a ∈ q, a ∈ t := fun a ha => by rw [etq]; simp [ha]
        clear etq er
        repeat' (first | (with_reducible refine Unf.h ?_) | ((conv => whnf); first | refine Fork.mkn (fun h => ?_) (fun h => ?_) | refine Fork.mk (fun h => ?_) (fun h => ?_) | (refine Side.mk ?_ ?_; focus (first | omega | (intros; (try simp only [lenS, inR, cutS, loI, hiI] at *); omega))) | (refine Idx.mk ?_ ?_; focus (omega))) | fail); all_goals try (conv => whnf); all_goals try (exfalso; omega)
        refine CallS.mk (c := fnode_c) (((t[((t.length : Int) - 1).toNat]'(by omega)).h, p.h)) ?_
        repeat' (first | (with_reducible first | refine Unf.h ?_ | refine loopK_n ?_) | ((conv => whnf); first | (refine Side.mk ?_ ?_; focus (first | with_reducible rfl | exact True.intro | omega | (intros; (try simp only [lenS, inR, cutS, loI, hiI] at *); omega))) | refine Got.mk (fun _ _ => ?_)) | fail); all_goals try (conv => whnf); all_goals try (exfalso; omega)
        refine ⟨(q, ⟨(t[((t.length : Int) - 1).toNat]'(by omega)).fr, 2 * (t[((t.length : Int) - 1).toNat]'(by omega)).sz, nodeH (t[((t.length : Int) - 1).toNat]'(by omega)).h p.h⟩), ⟨by show q.length < t.length; omega, by show q.length ≤ _; omega, fun a ha => g2 a (hqm a ha), by show 2 * _ ≤ _; omega, a2, g6⟩, ?_⟩
        repeat' (first | (with_reducible refine Unf.h ?_) | ((conv => whnf); first | (refine Side.mk ?_ ?_; focus (first | with_reducible rfl | (simp only [*, hq]; done) | (simp [*, hq]; done))) | (with_reducible refine Unf.h ?_) | exact True.intro) | fail); all_goals try (conv => whnf); all_goals try (exfalso; omega)
      · have e : (putSt nodeH s0 p0).reverse = t ++ [p] := by
          rw [← g5, er]
          have : putSt nodeH (t[((t.length : Int) - 1).toNat]'(by omega) :: q.reverse) p = p :: t[((t.length : Int) - 1).toNat]'(by omega) :: q.reverse := if_neg hm
          rw [this]
          conv => rhs; rw [etq]
          simp
        clear etq er
        repeat' (first | (with_reducible refine Unf.h ?_) | ((conv => whnf); first | refine Fork.mkn (fun h => ?_) (fun h => ?_) | refine Fork.mk (fun h => ?_) (fun h => ?_) | (refine Side.mk ?_ ?_; focus (first | omega | (intros; (try simp only [lenS, inR, cutS, loI, hiI] at *); omega) | (simp only [*]; done))) | (refine Idx.mk ?_ ?_; focus (omega)) | refine RetE.mk () trivial ?_ | refine Ex.mk [_] rfl ?_ | refine retK_r ?_ | exact rfl) | fail); all_goals try (conv => whnf); all_goals try (exfalso; omega)
        all_goals first
          | (refine Side.mk (congrArg (SO.row _ _ _) e.symm) ?_; all_goals try (conv => whnf); all_goals try (exfalso; omega); done)
          | (exfalso; omega)
          | skip
end Go.Proofs.YtdflndjlnkoliaaGreatDoor

namespace Go.Proofs.YtdflndjlnkoliaaGreatDoor
set_option linter.all false
open Go.RowKit
/-! ranges of the log; trails -/
abbrev eH (v : H256) : List SV := [.arr8 v]
def fofL (fr : Nat) (l : List H256) : List H256 := (putStk nodeH [] fr l).reverse.map (·.h)
theorem stk_snoc (fr : Nat) (l : List H256) (x : H256) : putStk nodeH [] fr (l ++ [x]) = putSt nodeH (putStk nodeH [] fr l) ⟨fr + l.length, 1, x⟩ := by rw [putStk_app]; rfl
theorem stk_bd (fr : Nat) : ∀ (k : Nat) (l : List H256), l.length = k → (putStk nodeH [] fr l).length ≤ k ∧ ∀ a ∈ putStk nodeH [] fr l, 1 ≤ a.sz ∧ a.sz ≤ 2 ^ k ∧ a.fr ≤ fr + k
  | 0, l, h => by obtain rfl := List.eq_nil_of_length_eq_zero h; exact ⟨Nat.le_refl _, fun a ha => by cases ha⟩
  | k + 1, l, h => by
    have hne : l ≠ [] := fun e => by subst e; cases h
    obtain ⟨qs, p, rfl⟩ : ∃ qs p, l = qs ++ [p] := ⟨l.dropLast, l.getLast hne, (List.dropLast_concat_getLast hne).symm⟩
    have hq : qs.length = k := by simpa using h
    obtain ⟨h1, h2⟩ := stk_bd fr k qs hq
    rw [stk_snoc]
    refine ⟨Nat.le_trans (putSt_len _ _) (by omega), fun a ha => ?_⟩
    have hpos := Nat.pow_pos (n := k) (show 0 < 2 by decide)
    have := putSt_bd (M := 2 ^ k) (F := fr + k) _ ⟨fr + qs.length, 1, p⟩ h2 (Nat.le_refl _) (by show 1 ≤ _; omega) (by show fr + qs.length ≤ _; omega) a ha
    exact ⟨this.1, by rw [Nat.pow_succ]; omega, by omega⟩
def fhs_c : Ctr where
  D := List Part
  pre := fun t => t.length ≤ 1000
  args := fun t => [.fs 34 ePt t]
  res := fun t _ => .fs 32 eH (t.map (·.h))
def fhs_H : Cfg := ⟨[], [], [], [], 19, 0, [], [], []⟩
theorem fhs_ok : fhs_c.Ok Tryz.prog 145 := by
  refine fn_ok fhs_H 0 rfl _ Tryz.func145 rfl rfl trivial rfl rfl (by kernel_rfl) (fun _ => Nat.le_of_ble_eq_true rfl) ?_
  intro (t : List Part) hp hr
  try dsimp only [fhs_c] at hp
  try simp only [fhs_c, Rng, RngL, inR, and_true, true_and] at hr
  have hp : t.length ≤ 1000 := hp
  repeat' (first | (with_reducible refine Unf.h ?_) | fail); all_goals try (conv => whnf); all_goals try (exfalso; omega)
  refine LoopS.autoN (I := Nat) (fun i => i ≤ t.length) (fun i => [(8, .int .i64 (i : Int)), (3, .own 0)]) (fun i => [(0, .row 30 32 eH ((t.take i).map (·.h)))]) 1 (fun i => t.length - i) 0 (Nat.zero_le _) ?_ ?_
  · have e0 : (t.take 0).map (·.h) = [] := rfl
    repeat' (first | (with_reducible refine Unf.h ?_) | ((conv => whnf); first | (refine Side.mk ?_ ?_; focus (first | with_reducible rfl | assumption | (refine congrArg (SV.int _) ?_; omega))) | (with_reducible refine Unf.h ?_) | exact True.intro) | fail); all_goals try (conv => whnf); all_goals try (exfalso; omega)
  · intro i hi
    by_cases hil : i < t.length
    · have es : (t.take (i + 1)).map (·.h) = (t.take i).map (·.h) ++ [(t[((i : Nat) : Int).toNat]'hil).h] := by
        rw [List.take_succ_eq_append_getElem hil, List.map_append]; rfl
      have hl : ((t.take i).map (·.h)).length ≤ 1000 := by simp; omega
      repeat' (first | (with_reducible first | refine Unf.h ?_ | refine loopK_n ?_) | ((conv => whnf); first | refine Fork.mk (fun h => ?_) (fun h => ?_) | (refine Side.mk ?_ ?_; focus ((intros; (try simp only [lenS, inR, cutS, loI, hiI] at *); omega))) | (refine Idx.mk ?_ ?_; focus (omega)) | refine Ex.mk [_] rfl ?_) | fail); all_goals try (conv => whnf); all_goals try (exfalso; omega)
      refine ⟨i + 1, ⟨by omega, by omega⟩, ?_⟩
      repeat' (first | (with_reducible refine Unf.h ?_) | ((conv => whnf); first | (refine Side.mk ?_ ?_; focus (first | with_reducible rfl | (refine congrArg (SV.int _) ?_; omega) | (simp only [*, es]; done))) | (with_reducible refine Unf.h ?_) | exact True.intro) | fail); all_goals try (conv => whnf); all_goals try (exfalso; omega)
    · have e : t.take i = t := List.take_of_length_le (by omega)
      repeat' (first | (with_reducible refine Unf.h ?_) | ((conv => whnf); first | refine Fork.mk (fun h => ?_) (fun h => ?_) | (refine Side.mk ?_ ?_; focus ((simp only [*, e]; done))) | refine RetE.mk () trivial ?_ | refine retK_r ?_ | exact rfl) | fail); all_goals try (conv => whnf); all_goals try (exfalso; omega)
def fof_c : Ctr where
  D := Nat × List H256
  pre := fun (fr, l) => fr ≤ 1000000 ∧ l.length ≤ 40
  args := fun (fr, l) => [.int .i64 (fr : Int), .fs 32 eH l]
  res := fun (fr, l) _ => .tup [.agg [.int .i64 (fr : Int), .int .i64 ((fr : Int) + l.length), .fs 32 eH (fofL fr l)], .int .i64 0]
def fof_H : Cfg := ⟨[(144, fput_c), (145, fhs_c)], [], [], [], 46, 0, [], [], []⟩
theorem fof_ok : fof_c.Ok Tryz.prog 107 := by
  refine fn_ok fof_H 0 rfl _ Tryz.func107 rfl rfl ⟨fput_ok, fhs_ok, trivial⟩ rfl rfl (by kernel_rfl) (fun _ => Nat.le_of_ble_eq_true rfl) ?_
  rintro ⟨fr, l⟩ hp hr
  try dsimp only [fof_c] at hp
  try simp only [fof_c, Rng, RngL, inR, and_true, true_and] at hr
  obtain ⟨hp1, hp2⟩ := hp
  have hp1 : fr ≤ 1000000 := hp1
  have hp2 : l.length ≤ 40 := hp2
  repeat' (first | (with_reducible refine Unf.h ?_) | ((conv => whnf); first | refine Fork.mk (fun h => ?_) (fun h => ?_) | (refine Side.mk ?_ ?_; focus ((intros; (try simp only [lenS, inR, cutS, loI, hiI] at *); omega)))) | fail); all_goals try (conv => whnf); all_goals try (exfalso; omega)
  refine LoopS.autoN (I := Nat) (fun i => i ≤ l.length) (fun i => [(25, .int .i64 (i : Int)), (6, .own 1)]) (fun i => [(0, .box 205 [.int .i64 0, .int .i64 0, .nils]), (1, .row 244 34 ePt (putStk nodeH [] fr (l.take i)).reverse)]) 2 (fun i => l.length - i) 0 (Nat.zero_le _) ?_ ?_
  · have e0 : (putStk nodeH [] fr (l.take 0)).reverse = [] := rfl
    repeat' (first | (with_reducible refine Unf.h ?_) | ((conv => whnf); first | (refine Side.mk ?_ ?_; focus (first | with_reducible rfl | assumption | (refine congrArg (SV.int _) ?_; omega))) | (with_reducible refine Unf.h ?_) | exact True.intro) | fail); all_goals try (conv => whnf); all_goals try (exfalso; omega)
  · intro i hi
    by_cases hil : i < l.length
    · obtain ⟨x, hx⟩ : ∃ x, l[((i : Nat) : Int).toNat]'hil = x := ⟨_, rfl⟩
      have hx2 : l[i]'hil = x := hx
      have hli : (l.take i).length = i := by rw [List.length_take]; omega
      have es : putStk nodeH [] fr (l.take (i + 1)) = putSt nodeH (putStk nodeH [] fr (l.take i)) ⟨fr + i, 1, x⟩ := by
        rw [List.take_succ_eq_append_getElem hil, hx2, stk_snoc, hli]
      obtain ⟨b1, b2⟩ := stk_bd fr _ (l.take i) hli
      have hpw : 2 ^ i ≤ 2 ^ 40 := Nat.pow_le_pow_right (by decide) (by omega)
      have hpf : fput_c.pre (putStk nodeH [] fr (l.take i), ⟨fr + i, 1, x⟩) := ⟨by show (putStk nodeH [] fr (l.take i)).length ≤ 1000; omega, fun a ha => by have := b2 a ha; exact ⟨this.1, by omega, by omega⟩, by show 1 ≤ 1152921504606846976; omega, by show fr + i ≤ 1152921504606846976; omega⟩
      repeat' (first | (with_reducible refine Unf.h ?_) | ((conv => whnf); first | refine Fork.mk (fun h => ?_) (fun h => ?_) | (refine Side.mk ?_ ?_; focus ((intros; (try simp only [lenS, inR, cutS, loI, hiI] at *); omega))) | (refine Idx.mk ?_ ?_; focus (omega))) | fail); all_goals try (conv => whnf); all_goals try (exfalso; omega)
      rw [hx]
      refine CallS.mk (c := fput_c) ((putStk nodeH [] fr (l.take i), ⟨fr + i, 1, x⟩)) ?_
      repeat' (first | (with_reducible first | refine Unf.h ?_ | refine loopK_n ?_) | ((conv => whnf); first | (refine Side.mk ?_ ?_; focus (first | with_reducible rfl | assumption | (intros; (try simp only [lenS, inR, cutS, loI, hiI] at *); omega) | (simp [*]; done))) | refine Got.mk (fun _ _ => ?_)) | fail); all_goals try (conv => whnf); all_goals try (exfalso; omega)
      refine ⟨i + 1, ⟨by omega, by omega⟩, ?_⟩
      repeat' (first | (with_reducible refine Unf.h ?_) | ((conv => whnf); first | (refine Side.mk ?_ ?_; focus (first | with_reducible rfl | (refine congrArg (SV.int _) ?_; omega) | (simp only [*, es]; done))) | (with_reducible refine Unf.h ?_) | exact True.intro) | fail); all_goals try (conv => whnf); all_goals try (exfalso; omega)
    · have e : l.take i = l := List.take_of_length_le (by omega)
      rw [e]
      obtain ⟨b1, b2⟩ := stk_bd fr _ l rfl
      have hph : fhs_c.pre (putStk nodeH [] fr l).reverse := by show (putStk nodeH [] fr l).reverse.length ≤ 1000; rw [List.length_reverse]; omega
      repeat' (first | (with_reducible refine Unf.h ?_) | ((conv => whnf); first | refine Fork.mk (fun h => ?_) (fun h => ?_) | (refine Side.mk ?_ ?_; focus ((intros; (try simp only [lenS, inR, cutS, loI, hiI] at *); omega)))) | fail); all_goals try (conv => whnf); all_goals try (exfalso; omega)
      refine CallS.mk (c := fhs_c) ((putStk nodeH [] fr l).reverse) ?_
      repeat' (first | (with_reducible refine Unf.h ?_) | ((conv => whnf); first | (refine Side.mk ?_ ?_; focus (first | with_reducible rfl | assumption | (simp only [*, fofL]; done))) | refine RetE.mk () trivial ?_ | refine Got.mk (fun _ _ => ?_) | refine retK_r ?_ | exact rfl) | fail); all_goals try (conv => whnf); all_goals try (exfalso; omega)
def tof_c : Ctr where
  D := List H256 × Nat × Nat
  pre := fun (l, a, b) => a ≤ b ∧ b ≤ l.length ∧ l.length ≤ 40
  args := fun (l, a, b) => [.fs 32 eH l, .int .i64 (a : Int), .int .i64 (b : Int)]
  res := fun (l, a, b) _ => .fs 32 eH (fofL a ((l.take b).drop a))
def tof_H : Cfg := ⟨[(107, fof_c)], [], [], [], 20, 0, [], [], []⟩
theorem tof_ok : tof_c.Ok Tryz.prog 74 := by
  refine fn_ok tof_H 0 rfl _ Tryz.func74 rfl rfl ⟨fof_ok, trivial⟩ rfl rfl (by kernel_rfl) (fun _ => Nat.le_of_ble_eq_true rfl) ?_
  rintro ⟨l, a, b⟩ hp hr
  try dsimp only [tof_c] at hp
  try simp only [tof_c, Rng, RngL, inR, and_true, true_and] at hr
  obtain ⟨hp1, hp2, hp3⟩ := hp
  have hp1 : a ≤ b := hp1
  have hp2 : b ≤ l.length := hp2
  have hp3 : l.length ≤ 40 := hp3
  have ec : cutL l (some (a : Int)) (some (b : Int)) = (l.take b).drop a := by rw [cutL_eq]; rfl
  have hpo : fof_c.pre (a, (l.take b).drop a) := ⟨by show a ≤ 1000000; omega, by show ((l.take b).drop a).length ≤ 40; simp; omega⟩
  repeat' (first | (with_reducible refine Unf.h ?_) | ((conv => whnf); (refine Side.mk ?_ ?_; focus ((intros; (try simp only [lenS, inR, cutS, loI, hiI] at *); omega)))) | fail); all_goals try (conv => whnf); all_goals try (exfalso; omega)
  rw [ec]
  refine CallS.mk (c := fof_c) ((a, (l.take b).drop a)) ?_
  repeat' (first | (with_reducible refine Unf.h ?_) | ((conv => whnf); first | (refine Side.mk ?_ ?_; focus (first | with_reducible rfl | assumption)) | refine RetE.mk () trivial ?_ | refine Got.mk (fun _ _ => ?_) | refine retK_r ?_ | exact rfl) | fail); all_goals try (conv => whnf); all_goals try (exfalso; omega)
def tentF (l : List H256) (i : Int) : (List H256 × List H256) × Int := if 0 ≤ i ∧ i < l.length then ((fofL 0 (l.take i.toNat), fofL (i.toNat + 1) (l.drop (i.toNat + 1))), 0) else (([], []), 4)
def tent_c : Ctr where
  D := List H256 × Int
  pre := fun (l, _) => l.length ≤ 40
  args := fun (l, i) => [.fs 32 eH l, .int .i64 i]
  res := fun (l, i) _ => .tup [.agg [.fs 32 eH (tentF l i).1.1, .fs 32 eH (tentF l i).1.2], .int .i64 (tentF l i).2]
def tent_H : Cfg := ⟨[(74, tof_c)], [], [], [], 25, 0, [], [], []⟩
theorem tent_ok : tent_c.Ok Tryz.prog 30 := by
  refine fn_ok tent_H 0 rfl _ Tryz.func30 rfl rfl ⟨tof_ok, trivial⟩ rfl rfl (by kernel_rfl) (fun _ => Nat.le_of_ble_eq_true rfl) ?_
  rintro ⟨l, i⟩ hp hr
  try dsimp only [tent_c] at hp
  try simp only [tent_c, Rng, RngL, inR, and_true, true_and] at hr
  have hp : l.length ≤ 40 := hp
  by_cases h : 0 ≤ i ∧ i < l.length
  · obtain ⟨k, rfl⟩ : ∃ k : Nat, i = k := ⟨i.toNat, by omega⟩
    have ef : tentF l (k : Int) = ((fofL 0 ((l.take k).drop 0), fofL (k + 1) ((l.take l.length).drop (k + 1))), 0) := by
      rw [List.take_length]; exact if_pos h
    have h1 : tof_c.pre (l, 0, k) := ⟨Nat.zero_le _, by show k ≤ l.length; omega, hp⟩
    have h2 : tof_c.pre (l, k + 1, l.length) := ⟨by show k + 1 ≤ l.length; omega, Nat.le_refl _, hp⟩
    repeat' (first | (with_reducible refine Unf.h ?_) | ((conv => whnf); refine Fork.mk (fun h => ?_) (fun h => ?_)) | fail); all_goals try (conv => whnf); all_goals try (exfalso; omega)
    refine CallS.mk (c := tof_c) ((l, 0, k)) ?_
    repeat' (first | (with_reducible refine Unf.h ?_) | ((conv => whnf); first | (refine Side.mk ?_ ?_; focus (first | with_reducible rfl | assumption | (refine congrArg (SV.int _) ?_; omega) | (intros; (try simp only [lenS, inR, cutS, loI, hiI] at *); omega))) | refine Got.mk (fun _ _ => ?_)) | fail); all_goals try (conv => whnf); all_goals try (exfalso; omega)
    refine CallS.mk (c := tof_c) ((l, k + 1, l.length)) ?_
    repeat' (first | (with_reducible refine Unf.h ?_) | ((conv => whnf); first | (refine Side.mk ?_ ?_; focus (first | with_reducible rfl | assumption | (refine congrArg (SV.int _) ?_; omega) | (simp only [*, ef]; done))) | refine RetE.mk () trivial ?_ | refine Got.mk (fun _ _ => ?_) | refine retK_r ?_ | exact rfl) | fail); all_goals try (conv => whnf); all_goals try (exfalso; omega)
  · have ef : tentF l i = (([], []), 4) := if_neg h
    repeat' (first | (with_reducible refine Unf.h ?_) | ((conv => whnf); first | refine Fork.mk (fun h => ?_) (fun h => ?_) | (refine Side.mk ?_ ?_; focus ((simp only [*, ef]; done))) | refine RetE.mk () trivial ?_ | refine retK_r ?_ | exact rfl) | fail); all_goals try (conv => whnf); all_goals try (exfalso; omega)
def tgroF (l : List H256) (m : Int) : (List H256 × List H256) × Int := if 0 ≤ m ∧ m ≤ l.length then ((fofL 0 (l.take m.toNat), fofL m.toNat (l.drop m.toNat)), 0) else (([], []), 4)
def tgro_c : Ctr where
  D := List H256 × Int
  pre := fun (l, _) => l.length ≤ 40
  args := fun (l, i) => [.fs 32 eH l, .int .i64 i]
  res := fun (l, i) _ => .tup [.agg [.fs 32 eH (tgroF l i).1.1, .fs 32 eH (tgroF l i).1.2], .int .i64 (tgroF l i).2]
def tgro_H : Cfg := ⟨[(74, tof_c)], [], [], [], 24, 0, [], [], []⟩
theorem tgro_ok : tgro_c.Ok Tryz.prog 32 := by
  refine fn_ok tgro_H 0 rfl _ Tryz.func32 rfl rfl ⟨tof_ok, trivial⟩ rfl rfl (by kernel_rfl) (fun _ => Nat.le_of_ble_eq_true rfl) ?_
  rintro ⟨l, i⟩ hp hr
  try dsimp only [tgro_c] at hp
  try simp only [tgro_c, Rng, RngL, inR, and_true, true_and] at hr
  have hp : l.length ≤ 40 := hp
  by_cases h : 0 ≤ i ∧ i ≤ l.length
  · obtain ⟨k, rfl⟩ : ∃ k : Nat, i = k := ⟨i.toNat, by omega⟩
    have ef : tgroF l (k : Int) = ((fofL 0 ((l.take k).drop 0), fofL k ((l.take l.length).drop k)), 0) := by
      rw [List.take_length]; exact if_pos h
    have h1 : tof_c.pre (l, 0, k) := ⟨Nat.zero_le _, by show k ≤ l.length; omega, hp⟩
    have h2 : tof_c.pre (l, k, l.length) := ⟨by show k ≤ l.length; omega, Nat.le_refl _, hp⟩
    repeat' (first | (with_reducible refine Unf.h ?_) | ((conv => whnf); refine Fork.mk (fun h => ?_) (fun h => ?_)) | fail); all_goals try (conv => whnf); all_goals try (exfalso; omega)
    refine CallS.mk (c := tof_c) ((l, 0, k)) ?_
    repeat' (first | (with_reducible refine Unf.h ?_) | ((conv => whnf); first | (refine Side.mk ?_ ?_; focus (first | with_reducible rfl | assumption | (refine congrArg (SV.int _) ?_; omega))) | refine Got.mk (fun _ _ => ?_)) | fail); all_goals try (conv => whnf); all_goals try (exfalso; omega)
    refine CallS.mk (c := tof_c) ((l, k, l.length)) ?_
    repeat' (first | (with_reducible refine Unf.h ?_) | ((conv => whnf); first | (refine Side.mk ?_ ?_; focus (first | with_reducible rfl | assumption | (simp only [*, ef]; done))) | refine RetE.mk () trivial ?_ | refine Got.mk (fun _ _ => ?_) | refine retK_r ?_ | exact rfl) | fail); all_goals try (conv => whnf); all_goals try (exfalso; omega)
  · have ef : tgroF l i = (([], []), 4) := if_neg h
    repeat' (first | (with_reducible refine Unf.h ?_) | ((conv => whnf); first | refine Fork.mk (fun h => ?_) (fun h => ?_) | (refine Side.mk ?_ ?_; focus ((simp only [*, ef]; done))) | refine RetE.mk () trivial ?_ | refine retK_r ?_ | exact rfl) | fail); all_goals try (conv => whnf); all_goals try (exfalso; omega)
/-! the log's hashes of a directory -/
def eent_c : Ctr where
  D := Dir
  pre := fun (_, _, ss, _) => ss.length ≤ 1000
  args := fun _ => [.ptr 0 0]
  objs := fun (s, l, ss, ps) => stG s l ss ps
  nn := 6
  res := fun (_, _, ss, _) _ => .fs 32 eH (ss.map (·.entry))
  out := fun (s, l, ss, ps) _ => stG s l ss ps
def eent_H : Cfg := ⟨[], [], [], [], 22, 6, [], [], []⟩
theorem eent_ok : eent_c.Ok Tryz.prog 31 := by
  refine fn_ok eent_H 6 rfl _ Tryz.func31 rfl rfl trivial rfl rfl (by kernel_rfl) (fun _ => Nat.le_of_ble_eq_true rfl) ?_
  rintro ⟨s, l, ss, ps⟩ hp hr
  try dsimp only [eent_c] at hp
  try simp only [eent_c, Rng, RngL, inR, and_true, true_and] at hr
  have hp : ss.length ≤ 1000 := hp
  repeat' (first | (with_reducible refine Unf.h ?_) | fail); all_goals try (conv => whnf); all_goals try (exfalso; omega)
  refine LoopS.mk (I := Nat) (fun i => i ≤ ss.length) (fun i => [(11, .int .i64 (i : Int)), (10, .int .i64 (ss.length : Int)), (9, .own 3), (3, .own 6), (0, .ptr 0 0)]) (fun i => stG s l ss ps ++ [(6, .row 30 32 eH ((ss.take i).map (·.entry)))]) 7 (fun i => ss.length - i) 0 (Nat.zero_le _) ?_ ?_
  · have e0 : (ss.take 0).map (·.entry) = [] := rfl
    repeat' (first | (with_reducible refine Unf.h ?_) | ((conv => whnf); first | (refine Side.mk ?_ ?_; focus (first | with_reducible rfl | assumption | (refine congrArg (SV.int _) ?_; omega))) | (with_reducible refine Unf.h ?_) | exact True.intro) | fail); all_goals try (conv => whnf); all_goals try (exfalso; omega)
  · intro i hi
    by_cases hil : i < ss.length
    · have es : (ss.take (i + 1)).map (·.entry) = (ss.take i).map (·.entry) ++ [(ss[((i : Nat) : Int).toNat]'hil).entry] := by
        rw [List.take_succ_eq_append_getElem hil, List.map_append]; rfl
      have hl : ((ss.take i).map (·.entry)).length ≤ 1000 := by simp; omega
      repeat' (first | (with_reducible first | refine Unf.h ?_ | refine loopK_n ?_) | ((conv => whnf); first | refine Fork.mk (fun h => ?_) (fun h => ?_) | (refine Side.mk ?_ ?_; focus (first | omega | (intros; (try simp only [lenS, inR, cutS, loI, hiI] at *); omega))) | (refine Idx.mk ?_ ?_; focus (omega)) | refine Ex.mk [_] rfl ?_) | fail); all_goals try (conv => whnf); all_goals try (exfalso; omega)
      refine ⟨i + 1, ⟨by omega, by omega⟩, ?_⟩
      repeat' (first | (with_reducible refine Unf.h ?_) | ((conv => whnf); first | (refine Side.mk ?_ ?_; focus (first | with_reducible rfl | (refine congrArg (SV.int _) ?_; omega) | (simp only [*, es]; done))) | (with_reducible refine Unf.h ?_) | exact True.intro) | fail); all_goals try (conv => whnf); all_goals try (exfalso; omega)
    · have e : ss.take i = ss := List.take_of_length_le (by omega)
      repeat' (first | (with_reducible refine Unf.h ?_) | ((conv => whnf); first | refine Fork.mk (fun h => ?_) (fun h => ?_) | (refine Side.mk ?_ ?_; focus (first | with_reducible rfl | (simp only [*, e]; done))) | refine RetE.mk () trivial ?_ | refine retK_r ?_ | exact rfl) | fail); all_goals try (conv => whnf); all_goals try (exfalso; omega)
def placeF (l : List H256) (e n : Int) : (List H256 × List H256) × Int := if 1 ≤ e ∧ n ≤ l.length ∧ e ≤ n then tentF (l.take n.toNat) (e - 1) else (([], []), 4)
def eplc_c : Ctr where
  D := Dir × Int × Int
  pre := fun ((_, _, ss, _), _, _) => ss.length ≤ 40
  args := fun (_, e, n) => [.ptr 0 0, .int .i64 e, .int .i64 n]
  objs := fun ((s, l, ss, ps), _, _) => stG s l ss ps
  nn := 6
  res := fun ((_, _, ss, _), e, n) _ => .tup [.agg [.fs 32 eH (placeF (ss.map (·.entry)) e n).1.1, .fs 32 eH (placeF (ss.map (·.entry)) e n).1.2], .int .i64 (placeF (ss.map (·.entry)) e n).2]
  out := fun ((s, l, ss, ps), _, _) _ => stG s l ss ps
def eplc_H : Cfg := ⟨[(31, eent_c), (30, tent_c)], [], [], [], 35, 6, [], [], []⟩
theorem eplc_ok : eplc_c.Ok Tryz.prog 9 := by
  refine fn_ok eplc_H 6 rfl _ Tryz.func9 rfl rfl ⟨eent_ok, tent_ok, trivial⟩ rfl rfl (by kernel_rfl) (fun _ => Nat.le_of_ble_eq_true rfl) ?_
  rintro ⟨⟨s, l, ss, ps⟩, e, n⟩ hp hr
  try dsimp only [eplc_c] at hp
  try simp only [eplc_c, Rng, RngL, inR, and_true, true_and] at hr
  have hp : ss.length ≤ 40 := hp
  have hml : (ss.map (·.entry)).length = ss.length := by simp
  by_cases h : 1 ≤ e ∧ n ≤ (ss.map (·.entry)).length ∧ e ≤ n
  · have ef : placeF (ss.map (·.entry)) e n = tentF ((ss.map (·.entry)).take n.toNat) (e - 1) := if_pos h
    rw [hml] at h
    obtain ⟨h1, h2, h3⟩ := h
    have hpe : eent_c.pre (s, l, ss, ps) := by show ss.length ≤ 1000; omega
    have hpt : tent_c.pre ((ss.map (·.entry)).take n.toNat, e - 1) := by show ((ss.map (·.entry)).take n.toNat).length ≤ 40; rw [List.length_take]; omega
    have ec : cutL (ss.map (·.entry)) none (some n) = (ss.map (·.entry)).take n.toNat := by rw [cutL_eq]; rfl
    repeat' (first | (with_reducible refine Unf.h ?_) | ((conv => whnf); refine Fork.mk (fun h => ?_) (fun h => ?_)) | fail); all_goals try (conv => whnf); all_goals try (exfalso; omega)
    refine CallS.mk (c := eent_c) ((s, l, ss, ps)) ?_
    repeat' (first | (with_reducible refine Unf.h ?_) | ((conv => whnf); first | (refine Side.mk ?_ ?_; focus (first | with_reducible rfl | assumption | (intros; (try simp only [lenS, inR, cutS, loI, hiI] at *); omega))) | refine Got.mk (fun _ _ => ?_)) | fail); all_goals try (conv => whnf); all_goals try (exfalso; omega)
    rw [ec]
    refine CallS.mk (c := tent_c) (((ss.map (·.entry)).take n.toNat, e - 1)) ?_
    repeat' (first | (with_reducible refine Unf.h ?_) | ((conv => whnf); first | (refine Side.mk ?_ ?_; focus (first | with_reducible rfl | assumption | (simp only [*, ef]; done))) | refine RetE.mk () trivial ?_ | refine Got.mk (fun _ _ => ?_) | refine retK_r ?_ | exact rfl) | fail); all_goals try (conv => whnf); all_goals try (exfalso; omega)
  · have ef : placeF (ss.map (·.entry)) e n = (([], []), 4) := if_neg h
    rw [hml] at h
    repeat' (first | (with_reducible refine Unf.h ?_) | ((conv => whnf); first | refine Fork.mk (fun h => ?_) (fun h => ?_) | (refine Side.mk ?_ ?_; focus (first | with_reducible rfl | (simp only [*, ef]; done))) | refine RetE.mk () trivial ?_ | refine retK_r ?_ | exact rfl) | fail); all_goals try (conv => whnf); all_goals try (exfalso; omega)
def growthF (l : List H256) (m n : Int) : (List H256 × List H256) × Int := if 0 ≤ m ∧ n ≤ l.length ∧ m ≤ n then tgroF (l.take n.toNat) m else (([], []), 4)
def egth_c : Ctr where
  D := Dir × Int × Int
  pre := fun ((_, _, ss, _), _, _) => ss.length ≤ 40
  args := fun (_, e, n) => [.ptr 0 0, .int .i64 e, .int .i64 n]
  objs := fun ((s, l, ss, ps), _, _) => stG s l ss ps
  nn := 6
  res := fun ((_, _, ss, _), e, n) _ => .tup [.agg [.fs 32 eH (growthF (ss.map (·.entry)) e n).1.1, .fs 32 eH (growthF (ss.map (·.entry)) e n).1.2], .int .i64 (growthF (ss.map (·.entry)) e n).2]
  out := fun ((s, l, ss, ps), _, _) _ => stG s l ss ps
def egth_H : Cfg := ⟨[(31, eent_c), (32, tgro_c)], [], [], [], 34, 6, [], [], []⟩
theorem egth_ok : egth_c.Ok Tryz.prog 10 := by
  refine fn_ok egth_H 6 rfl _ Tryz.func10 rfl rfl ⟨eent_ok, tgro_ok, trivial⟩ rfl rfl (by kernel_rfl) (fun _ => Nat.le_of_ble_eq_true rfl) ?_
  rintro ⟨⟨s, l, ss, ps⟩, e, n⟩ hp hr
  try dsimp only [egth_c] at hp
  try simp only [egth_c, Rng, RngL, inR, and_true, true_and] at hr
  have hp : ss.length ≤ 40 := hp
  have hml : (ss.map (·.entry)).length = ss.length := by simp
  by_cases h : 0 ≤ e ∧ n ≤ (ss.map (·.entry)).length ∧ e ≤ n
  · have ef : growthF (ss.map (·.entry)) e n = tgroF ((ss.map (·.entry)).take n.toNat) e := if_pos h
    rw [hml] at h
    obtain ⟨h1, h2, h3⟩ := h
    have hpe : eent_c.pre (s, l, ss, ps) := by show ss.length ≤ 1000; omega
    have hpt : tgro_c.pre ((ss.map (·.entry)).take n.toNat, e) := by show ((ss.map (·.entry)).take n.toNat).length ≤ 40; rw [List.length_take]; omega
    have ec : cutL (ss.map (·.entry)) none (some n) = (ss.map (·.entry)).take n.toNat := by rw [cutL_eq]; rfl
    repeat' (first | (with_reducible refine Unf.h ?_) | ((conv => whnf); refine Fork.mk (fun h => ?_) (fun h => ?_)) | fail); all_goals try (conv => whnf); all_goals try (exfalso; omega)
    refine CallS.mk (c := eent_c) ((s, l, ss, ps)) ?_
    repeat' (first | (with_reducible refine Unf.h ?_) | ((conv => whnf); first | (refine Side.mk ?_ ?_; focus (first | with_reducible rfl | assumption | (intros; (try simp only [lenS, inR, cutS, loI, hiI] at *); omega))) | refine Got.mk (fun _ _ => ?_)) | fail); all_goals try (conv => whnf); all_goals try (exfalso; omega)
    rw [ec]
    refine CallS.mk (c := tgro_c) (((ss.map (·.entry)).take n.toNat, e)) ?_
    repeat' (first | (with_reducible refine Unf.h ?_) | ((conv => whnf); first | (refine Side.mk ?_ ?_; focus (first | with_reducible rfl | assumption | (simp only [*, ef]; done))) | refine RetE.mk () trivial ?_ | refine Got.mk (fun _ _ => ?_) | refine retK_r ?_ | exact rfl) | fail); all_goals try (conv => whnf); all_goals try (exfalso; omega)
  · have ef : growthF (ss.map (·.entry)) e n = (([], []), 4) := if_neg h
    rw [hml] at h
    repeat' (first | (with_reducible refine Unf.h ?_) | ((conv => whnf); first | refine Fork.mk (fun h => ?_) (fun h => ?_) | (refine Side.mk ?_ ?_; focus (first | with_reducible rfl | (simp only [*, ef]; done))) | refine RetE.mk () trivial ?_ | refine retK_r ?_ | exact rfl) | fail); all_goals try (conv => whnf); all_goals try (exfalso; omega)
end Go.Proofs.YtdflndjlnkoliaaGreatDoor

namespace Go.Proofs.YtdflndjlnkoliaaGreatDoor
set_option linter.all false
open Go.RowKit
/-! the document's log: leaves, nodes, lists, segments -/
def rleaf15_c : Ctr where
  D := Bs
  pre := fun b => b.length ≤ 1000000
  args := fun b => [.fs 1 eB b]
  res := fun b _ => .agg [.arr8 (sha (0#8 :: b))]
def rleaf15_H : Cfg := ⟨[(117, refsum_c)], [], [], [], 10, 0, [], [], []⟩
theorem rleaf15_ok : rleaf15_c.Ok Tryz.prog 78 := by
  refine fn_ok rleaf15_H 0 rfl _ Tryz.func78 rfl rfl ⟨refsum_ok, trivial⟩ rfl rfl (by kernel_rfl) (fun _ => Nat.le_of_ble_eq_true rfl) ?_
  intro (b : Bs) hp hr
  try dsimp only [rleaf15_c] at hp
  try simp only [rleaf15_c, Rng, RngL, inR, and_true, true_and] at hr
  have hp : b.length ≤ 1000000 := hp
  have hps : refsum_c.pre (0#8 :: b) := by show (0#8 :: b).length ≤ 1000000000; simp; omega
  repeat' (first | (with_reducible refine Unf.h ?_) | ((conv => whnf); first | (refine Side.mk ?_ ?_; focus ((intros; (try simp only [lenS, inR, cutS, loI, hiI] at *); omega))) | refine Ex.mk [_] rfl ?_) | fail); all_goals try (conv => whnf); all_goals try (exfalso; omega)
  refine CallS.mk (c := refsum_c) ((0#8 :: b)) ?_
  repeat' (first | (with_reducible refine Unf.h ?_) | ((conv => whnf); first | (refine Side.mk ?_ ?_; focus (first | with_reducible rfl | assumption | (simp [*]; done))) | refine RetE.mk () trivial ?_ | refine Got.mk (fun _ _ => ?_) | refine retK_r ?_ | exact rfl) | fail); all_goals try (conv => whnf); all_goals try (exfalso; omega)
def rtext15_c : Ctr where
  D := H256 × H256
  args := fun (a, b) => [.agg [.arr8 a], .agg [.arr8 b]]
  res := fun _ _ => .own 0
  out := fun (a, b) _ => [(0, .row 5 1 eB (1#8 :: (a.toList ++ b.toList)))]
  mm := 1
def rtext15_H : Cfg := ⟨[], [], [], [], 13, 0, [], [], []⟩
theorem rtext15_ok : rtext15_c.Ok Tryz.prog 158 := by
  refine fn_ok rtext15_H 0 rfl _ Tryz.func158 rfl rfl trivial rfl rfl (by kernel_rfl) (fun _ => Nat.le_of_ble_eq_true rfl) ?_
  rintro ⟨a, b⟩ hp hr
  try dsimp only [rtext15_c] at hp
  try simp only [rtext15_c, Rng, RngL, inR, and_true, true_and] at hr
  repeat (first | (with_reducible refine Unf.h ?_) | ((conv => whnf); (with_reducible first | refine Unf.h ?_ | refine loopK_n ?_ | refine cutK_n ?_)))
  conv => whnf
  refine Side.mk (by simp [cutS, loI, hiI]) ?_
  refine OpsK.bslA 8 0 0 _ _ rfl ?_
  repeat (first | (with_reducible refine Unf.h ?_) | ((conv => whnf); (with_reducible first | refine Unf.h ?_ | refine loopK_n ?_ | refine cutK_n ?_)))
  conv => whnf
  refine Side.mk (by simp [hiI]) ?_
  refine ⟨_, rfl, ?_⟩
  repeat (first | (with_reducible refine Unf.h ?_) | ((conv => whnf); (with_reducible first | refine Unf.h ?_ | refine loopK_n ?_ | refine cutK_n ?_)))
  conv => whnf
  refine Ex.mk [1#8] rfl ?_
  repeat (first | (with_reducible refine Unf.h ?_) | ((conv => whnf); (with_reducible first | refine Unf.h ?_ | refine loopK_n ?_ | refine cutK_n ?_)))
  conv => whnf
  refine Side.mk (by constructor <;> (simp [EF.els]; try omega)) ?_
  repeat (first | (with_reducible refine Unf.h ?_) | ((conv => whnf); (with_reducible first | refine Unf.h ?_ | refine loopK_n ?_ | refine cutK_n ?_)))
  conv => whnf
  refine Side.mk (by simp [cutS, loI, hiI]) ?_
  refine OpsK.bslA 11 1 0 _ _ rfl ?_
  repeat (first | (with_reducible refine Unf.h ?_) | ((conv => whnf); (with_reducible first | refine Unf.h ?_ | refine loopK_n ?_ | refine cutK_n ?_)))
  conv => whnf
  refine Side.mk (by simp [hiI]) ?_
  refine ⟨_, rfl, ?_⟩
  repeat (first | (with_reducible refine Unf.h ?_) | ((conv => whnf); (with_reducible first | refine Unf.h ?_ | refine loopK_n ?_ | refine cutK_n ?_)))
  conv => whnf
  refine Ex.mk _ rfl ?_
  repeat' (first | (with_reducible refine Unf.h ?_) | ((conv => whnf); first | (refine Side.mk ?_ ?_; focus ((intros; (try simp only [lenS, inR, cutS, loI, hiI] at *); omega))) | refine RetE.mk () trivial ?_ | refine retK_r ?_) | fail); all_goals try (conv => whnf); all_goals try (exfalso; omega)
  refine Side.mk (congrArg (SO.row _ _ _) (by simp only [cutv2]; simp)) ?_
  repeat' (first | (with_reducible refine Unf.h ?_) | ((conv => whnf); exact rfl) | fail); all_goals try (conv => whnf); all_goals try (exfalso; omega)
def rnode15_c : Ctr where
  D := H256 × H256
  args := fun (a, b) => [.agg [.arr8 a], .agg [.arr8 b]]
  res := fun (a, b) _ => .agg [.arr8 (nodeH a b)]
def rnode15_H : Cfg := ⟨[(158, rtext15_c), (117, refsum_c)], [], [], [], 9, 0, [], [], []⟩
theorem rnode15_ok : rnode15_c.Ok Tryz.prog 118 := by
  refine fn_ok rnode15_H 0 rfl _ Tryz.func118 rfl rfl ⟨rtext15_ok, refsum_ok, trivial⟩ rfl rfl (by kernel_rfl) (fun _ => Nat.le_of_ble_eq_true rfl) ?_
  rintro ⟨a, b⟩ hp hr
  try dsimp only [rnode15_c] at hp
  try simp only [rnode15_c, Rng, RngL, inR, and_true, true_and] at hr
  have hps : refsum_c.pre (1#8 :: (a.toList ++ b.toList)) := by show (1#8 :: (a.toList ++ b.toList)).length ≤ 1000000000; simp
  repeat' (first | (with_reducible refine Unf.h ?_) | fail); all_goals try (conv => whnf); all_goals try (exfalso; omega)
  refine CallS.mk (c := rtext15_c) ((a, b)) ?_
  repeat' (first | (with_reducible refine Unf.h ?_) | ((conv => whnf); first | (refine Side.mk ?_ ?_; focus (first | with_reducible rfl | exact True.intro)) | refine Got.mk (fun _ _ => ?_)) | fail); all_goals try (conv => whnf); all_goals try (exfalso; omega)
  refine CallS.mk (c := refsum_c) ((1#8 :: (a.toList ++ b.toList))) ?_
  repeat' (first | (with_reducible refine Unf.h ?_) | ((conv => whnf); first | (refine Side.mk ?_ ?_; focus (first | with_reducible rfl | assumption | (simp only [*, nodeH]; done))) | refine RetE.mk () trivial ?_ | refine Got.mk (fun _ _ => ?_) | refine retK_r ?_ | exact rfl) | fail); all_goals try (conv => whnf); all_goals try (exfalso; omega)
def rentry17_c : Ctr where
  D := Int × H256
  args := fun (e, r) => [.int .i64 e, .agg [.arr8 r]]
  res := fun (e, r) _ => .agg [.arr8 (entH e r)]
def rentry17_H : Cfg := ⟨[(77, number_c), (78, rleaf15_c)], [], [], [], 14, 0, [], [], []⟩
theorem rentry17_ok : rentry17_c.Ok Tryz.prog 34 := by
  refine fn_ok rentry17_H 0 rfl _ Tryz.func34 rfl rfl ⟨number_ok, rleaf15_ok, trivial⟩ rfl rfl (by kernel_rfl) (fun _ => Nat.le_of_ble_eq_true rfl) ?_
  rintro ⟨ep, r⟩ hp hr
  try dsimp only [rentry17_c] at hp
  try simp only [rentry17_c, Rng, RngL, inR, and_true, true_and] at hr
  have e4 := four_doc ep
  have hpn : number_c.pre (BitVec.ofInt 64 ep % 4294967296#64, 4) := show 4 ≤ 1000 by omega
  have hpf : rleaf15_c.pre (fourB ep ++ r.toList) := by show (fourB ep ++ r.toList).length ≤ 1000000; simp [fourB_len]
  repeat' (first | (with_reducible refine Unf.h ?_) | ((conv => whnf); (refine Side.mk ?_ ?_; focus ((simp [*]; done)))) | fail); all_goals try (conv => whnf); all_goals try (exfalso; omega)
  first | refine CallS.mk (c := number_c) ((BitVec.ofInt 64 ep % 4294967296#64, 4)) ?_ | refine Or2.l (CallS.mk (c := number_c) ((BitVec.ofInt 64 ep % 4294967296#64, 4)) ?_) | refine Or2.r (CallS.mk (c := number_c) ((BitVec.ofInt 64 ep % 4294967296#64, 4)) ?_)
  repeat (first | (with_reducible refine Unf.h ?_) | ((conv => whnf); first | (refine Side.mk ?_ ?_; focus (first | with_reducible rfl | assumption | exact True.intro | rfl)) | (with_reducible refine Unf.h ?_)))
  conv => whnf
  refine Got.mk (fun e he => ?_)
  repeat (first | (with_reducible refine Unf.h ?_) | ((conv => whnf); (with_reducible first | refine Unf.h ?_ | refine loopK_n ?_ | refine cutK_n ?_)))
  conv => whnf
  refine Side.mk (by simp [cutS, loI, hiI]) ?_
  refine OpsK.bslA 11 0 0 _ _ rfl ?_
  repeat (first | (with_reducible refine Unf.h ?_) | ((conv => whnf); (with_reducible first | refine Unf.h ?_ | refine loopK_n ?_ | refine cutK_n ?_)))
  conv => whnf
  refine Side.mk (by simp [hiI]) ?_
  refine ⟨_, rfl, ?_⟩
  repeat (first | (with_reducible refine Unf.h ?_) | ((conv => whnf); (with_reducible first | refine Unf.h ?_ | refine loopK_n ?_ | refine cutK_n ?_)))
  conv => whnf
  have hnl := beN_len (BitVec.ofInt 64 ep % 4294967296#64) 4
  have hrl : (List.drop (loI none).toNat (List.take (hiI 32 none).toNat r.toList)).length = 32 := by simp [cutv2]
  refine Ex.mk _ rfl ?_
  repeat (first | (with_reducible refine Unf.h ?_) | ((conv => whnf); (with_reducible first | refine Unf.h ?_ | refine loopK_n ?_ | refine cutK_n ?_)))
  conv => whnf
  refine Side.mk (by constructor <;> (simp only [EF.els, List.length_map, List.length_append, hnl, hrl]; omega)) ?_
  rw [cutv2, e4]
  repeat' (first | ((conv => whnf); (with_reducible refine Unf.h ?_)) | fail); all_goals try (conv => whnf); all_goals try (exfalso; omega)
  refine CallS.mk (c := rleaf15_c) ((fourB ep ++ r.toList)) ?_
  repeat' (first | (with_reducible refine Unf.h ?_) | ((conv => whnf); first | (refine Side.mk ?_ ?_; focus (first | with_reducible rfl | assumption | (simp only [*, entH]; done))) | refine RetE.mk () trivial ?_ | refine Got.mk (fun _ _ => ?_) | refine retK_r ?_ | exact rfl) | fail); all_goals try (conv => whnf); all_goals try (exfalso; omega)
def zeroR : H256 := sha []
def rsize15_c : Ctr where
  D := Nat × Nat
  pre := fun (fr, to) => fr < to ∧ to ≤ 4294967296
  args := fun (fr, to) => [.int .i64 (fr : Int), .int .i64 (to : Int)]
  res := fun (fr, to) _ => .int .i64 (sizeS fr to : Int)
def rsize15_H : Cfg := ⟨[], [], [], [], 22, 0, [], [], []⟩
theorem rsize15_ok : rsize15_c.Ok Tryz.prog 116 := by
  refine fn_ok rsize15_H 0 rfl _ Tryz.func116 rfl rfl trivial rfl rfl (by kernel_rfl) (fun _ => Nat.le_of_ble_eq_true rfl) ?_
  rintro ⟨fr, to⟩ hp hr
  try dsimp only [rsize15_c] at hp
  try simp only [rsize15_c, Rng, RngL, inR, and_true, true_and] at hr
  obtain ⟨hp1, hp2⟩ := hp
  have hp1 : fr < to := hp1
  have hp2 : to ≤ 4294967296 := hp2
  repeat' (first | (with_reducible refine Unf.h ?_) | fail); all_goals try (conv => whnf); all_goals try (exfalso; omega)
  refine LoopS.autoN (I := Nat × Nat) (fun (f, n) => segSz fr to f n = sizeS fr to ∧ 1 ≤ n ∧ n ≤ to - fr ∧ to - fr < n + f) (fun (f, n) => [(5, .int .i64 (n : Int))]) (fun _ => []) 0 (fun (f, _) => f) (to - fr, 1) ⟨rfl, Nat.le_refl _, by omega, by omega⟩ ?_ ?_
  · repeat' (first | (with_reducible refine Unf.h ?_) | ((conv => whnf); first | (refine Side.mk ?_ ?_; focus (first | with_reducible rfl | (refine congrArg (SV.int _) ?_; omega))) | (with_reducible refine Unf.h ?_) | exact True.intro) | fail); all_goals try (conv => whnf); all_goals try (exfalso; omega)
  · rintro ⟨f, n⟩ ⟨g1, g2, g3, g4⟩
    have g1 : segSz fr to f n = sizeS fr to := g1
    have g2 : 1 ≤ n := g2
    have g3 : n ≤ to - fr := g3
    have g4 : to - fr < n + f := g4
    have hm : ((fr : Int) % (2 * (n : Int))) = ((fr % (2 * n) : Nat) : Int) := by push_cast; rfl
    by_cases hc : 2 * n ≤ to - fr ∧ fr % (2 * n) = 0
    · obtain ⟨c1, c2⟩ := hc
      obtain ⟨f, rfl⟩ : ∃ f', f = f' + 1 := ⟨f - 1, by omega⟩
      have g5 : segSz fr to f (2 * n) = sizeS fr to := by rw [← g1]; exact (if_pos ⟨c1, c2⟩).symm
      rw [c2] at hm
      repeat' (first | (with_reducible first | refine Unf.h ?_ | refine loopK_n ?_) | ((conv => whnf); first | refine Fork.mk (fun h => ?_) (fun h => ?_) | (refine Side.mk ?_ ?_; focus (first | omega | (intros; (try simp only [lenS, inR, cutS, loI, hiI] at *); omega)))) | fail); all_goals try (conv => whnf); all_goals try (exfalso; omega)
      refine ⟨(f, 2 * n), ⟨by show f < f + 1; omega, g5, by omega, by omega, by omega⟩, ?_⟩
      repeat' (first | (with_reducible refine Unf.h ?_) | ((conv => whnf); first | (refine Side.mk ?_ ?_; focus (first | with_reducible rfl | (refine congrArg (SV.int _) ?_; omega))) | (with_reducible refine Unf.h ?_) | exact True.intro) | fail); all_goals try (conv => whnf); all_goals try (exfalso; omega)
    · have g5 : sizeS fr to = n := by
        rw [← g1]
        cases f with
        | zero => rfl
        | succ f => exact if_neg hc
      repeat' (first | (with_reducible refine Unf.h ?_) | ((conv => whnf); first | refine Fork.mk (fun h => ?_) (fun h => ?_) | (refine Side.mk ?_ ?_; focus (first | omega | (refine congrArg (SV.int _) ?_; omega) | (intros; (try simp only [lenS, inR, cutS, loI, hiI, g5] at *); omega))) | refine RetE.mk () trivial ?_ | refine retK_r ?_ | exact rfl) | fail); all_goals try (conv => whnf); all_goals try (exfalso; omega)
      all_goals (exfalso; omega)
def segZ : Nat → Nat → Nat → List Nat
  | 0, _, _ => []
  | f + 1, fr, to => if fr < to then sizeS fr to :: segZ f (fr + sizeS fr to) to else []
theorem size_pos {fr to : Nat} (h : fr < to) : 1 ≤ sizeS fr to ∧ sizeS fr to ≤ to - fr := by
  obtain ⟨i, e1, e2, _, _⟩ := sizeS_spec h
  rw [e1]
  exact ⟨Nat.pow_pos (by decide), e2⟩
theorem segZ_len : ∀ (f fr to : Nat), (segZ f fr to).length ≤ f
  | 0, _, _ => Nat.le_refl _
  | f + 1, fr, to => by
    unfold segZ
    split
    · have := segZ_len f (fr + sizeS fr to) to
      simp only [List.length_cons]; omega
    · simp
theorem segZ_fuel : ∀ (f g fr to : Nat), to - fr ≤ f → to - fr ≤ g → segZ f fr to = segZ g fr to
  | 0, 0, _, _, _, _ => rfl
  | 0, g + 1, fr, to, h, _ => by
    unfold segZ
    rw [if_neg (by omega)]
  | f + 1, 0, fr, to, _, h => by
    conv => lhs; unfold segZ
    rw [if_neg (by omega)]; rfl
  | f + 1, g + 1, fr, to, h1, h2 => by
    unfold segZ
    split
    · rename_i h
      have := size_pos h
      rw [segZ_fuel f g _ _ (by omega) (by omega)]
    · rfl
abbrev eN (n : Nat) : List SV := [.int .i64 (n : Int)]
def rsegs15_c : Ctr where
  D := Nat × Nat
  pre := fun (fr, to) => fr ≤ to ∧ to ≤ 1000000
  args := fun (fr, to) => [.int .i64 (fr : Int), .int .i64 (to : Int)]
  res := fun (fr, to) _ => .fs 1 eN (segZ (to - fr) fr to)
def rmay15_c : Ctr where
  D := Int × Int
  args := fun (fr, to) => [.int .i64 fr, .int .i64 to]
  res := fun (fr, to) _ => .dec (0 ≤ fr ∧ fr ≤ to ∧ to ≤ 2147483647) inferInstance
def rmay15_H : Cfg := ⟨[], [], [], [], 16, 0, [], [], []⟩
theorem rmay15_ok : rmay15_c.Ok Tryz.prog 115 := by
  refine fn_ok rmay15_H 0 rfl _ Tryz.func115 rfl rfl trivial rfl rfl (by kernel_rfl) (fun _ => Nat.le_of_ble_eq_true rfl) ?_
  rintro ⟨fr, to⟩ hp hr
  try dsimp only [rmay15_c] at hp
  try simp only [rmay15_c, Rng, RngL, inR, and_true, true_and] at hr
  repeat' (first | (with_reducible refine Unf.h ?_) | ((conv => whnf); first | refine Fork.mk (fun h => ?_) (fun h => ?_) | (refine Side.mk ?_ ?_; focus (first | omega | (refine ⟨fun h => ?_, fun h => ?_⟩ <;> first | rfl | (cases h; done) | omega | (exfalso; omega) | (simp only [Bool.false_eq_true] at h; done)))) | refine RetE.mk () trivial ?_ | refine retK_r ?_ | exact rfl) | fail); all_goals try (conv => whnf); all_goals try (exfalso; omega)
def rsegs15_H : Cfg := ⟨[(115, rmay15_c), (116, rsize15_c)], [], [], [], 25, 0, [], [], []⟩
theorem rsegs15_ok : rsegs15_c.Ok Tryz.prog 75 := by
  refine fn_ok rsegs15_H 0 rfl _ Tryz.func75 rfl rfl ⟨rmay15_ok, rsize15_ok, trivial⟩ rfl rfl (by kernel_rfl) (fun _ => Nat.le_of_ble_eq_true rfl) ?_
  rintro ⟨fr, to⟩ hp hr
  try dsimp only [rsegs15_c] at hp
  try simp only [rsegs15_c, Rng, RngL, inR, and_true, true_and] at hr
  obtain ⟨hp1, hp2⟩ := hp
  have hp1 : fr ≤ to := hp1
  have hp2 : to ≤ 1000000 := hp2
  repeat' (first | (with_reducible refine Unf.h ?_) | fail); all_goals try (conv => whnf); all_goals try (exfalso; omega)
  refine CallS.mk (c := rmay15_c) (((fr : Int), (to : Int))) ?_
  repeat' (first | (with_reducible refine Unf.h ?_) | ((conv => whnf); first | refine Fork.mkn (fun h => ?_) (fun h => ?_) | (refine Side.mk ?_ ?_; focus (first | with_reducible rfl | exact True.intro)) | refine Got.mk (fun _ _ => ?_)) | fail); all_goals try (conv => whnf); all_goals try (exfalso; omega)
  refine LoopS.autoN (I := Nat × List Nat) (fun (a, acc) => fr ≤ a ∧ a ≤ to ∧ acc.length ≤ a ∧ acc ++ segZ (to - a) a to = segZ (to - fr) fr to) (fun (a, acc) => [(0, .int .i64 (a : Int)), (5, .own 0)]) (fun (a, acc) => [(0, .row 3 1 eN acc)]) 1 (fun (a, _) => to - a) (fr, []) ⟨Nat.le_refl _, hp1, Nat.zero_le _, rfl⟩ ?_ ?_
  · repeat' (first | (with_reducible refine Unf.h ?_) | ((conv => whnf); first | (refine Side.mk ?_ ?_; focus (with_reducible rfl)) | (with_reducible refine Unf.h ?_) | exact True.intro) | fail); all_goals try (conv => whnf); all_goals try (exfalso; omega)
  · rintro ⟨a, acc⟩ ⟨g1, g2, g3, g4⟩
    have g1 : fr ≤ a := g1
    have g2 : a ≤ to := g2
    have g3 : acc.length ≤ a := g3
    have g4 : acc ++ segZ (to - a) a to = segZ (to - fr) fr to := g4
    by_cases hat : a < to
    · obtain ⟨z1, z2⟩ := size_pos hat
      have hpz : rsize15_c.pre (a, to) := ⟨hat, by omega⟩
      have ez : segZ (to - a) a to = sizeS a to :: segZ (to - (a + sizeS a to)) (a + sizeS a to) to := by
        obtain ⟨f, hf⟩ : ∃ f, to - a = f + 1 := ⟨to - a - 1, by omega⟩
        rw [hf]
        show (if a < to then _ else _) = _
        rw [if_pos hat, segZ_fuel f (to - (a + sizeS a to)) _ _ (by omega) (by omega)]
      rw [ez] at g4
      repeat' (first | (with_reducible refine Unf.h ?_) | ((conv => whnf); refine Fork.mk (fun h => ?_) (fun h => ?_)) | fail); all_goals try (conv => whnf); all_goals try (exfalso; omega)
      refine CallS.mk (c := rsize15_c) ((a, to)) ?_
      repeat' (first | (with_reducible first | refine Unf.h ?_ | refine loopK_n ?_) | ((conv => whnf); first | (refine Side.mk ?_ ?_; focus (first | with_reducible rfl | assumption | (intros; (try simp only [lenS, inR, cutS, loI, hiI] at *); omega))) | refine Got.mk (fun _ _ => ?_) | refine Ex.mk [_] rfl ?_) | fail); all_goals try (conv => whnf); all_goals try (exfalso; omega)
      refine ⟨(a + sizeS a to, acc ++ [sizeS a to]), ⟨by show to - (a + sizeS a to) < to - a; omega, by omega, by omega, by show (acc ++ [sizeS a to]).length ≤ _; simp; omega, by rw [List.append_assoc]; exact g4⟩, ?_⟩
      repeat' (first | (with_reducible refine Unf.h ?_) | ((conv => whnf); first | (refine Side.mk ?_ ?_; focus (first | with_reducible rfl | (refine congrArg (SV.int _) ?_; omega))) | (with_reducible refine Unf.h ?_) | exact True.intro) | fail); all_goals try (conv => whnf); all_goals try (exfalso; omega)
    · have e : segZ (to - a) a to = [] := by rw [show to - a = 0 by omega]; rfl
      rw [e, List.append_nil] at g4
      repeat' (first | (with_reducible refine Unf.h ?_) | ((conv => whnf); first | refine Fork.mk (fun h => ?_) (fun h => ?_) | (refine Side.mk ?_ ?_; focus ((simp only [*, g4]; done))) | refine RetE.mk () trivial ?_ | refine retK_r ?_ | exact rfl) | fail); all_goals try (conv => whnf); all_goals try (exfalso; omega)
end Go.Proofs.YtdflndjlnkoliaaGreatDoor

namespace Go.Proofs.YtdflndjlnkoliaaGreatDoor
set_option linter.all false
open Go.RowKit
/-! trees whose prefixes lead down -/
def agree (n : Nat) (a b : H256) : Prop := ∀ i, i < n → kb a i = kb b i
theorem agree_shared {a b : H256} {n : Nat} (hn : n ≤ 256) : agree n a b ↔ n ≤ shared a b := by
  constructor
  · intro h
    rcases Nat.lt_or_ge (shared a b) n with hl | hl
    · exact absurd (h _ hl) (shared_ne (by omega))
    · exact hl
  · intro h i hi; exact shared_eq (by omega)
theorem agree.symm {n : Nat} {a b : H256} (h : agree n a b) : agree n b a := fun i hi => (h i hi).symm
theorem agree.trans {n : Nat} {a b c : H256} (h : agree n a b) (g : agree n b c) : agree n a c := fun i hi => (h i hi).trans (g i hi)
theorem agree.mono {n m : Nat} {a b : H256} (h : agree n a b) (hm : m ≤ n) : agree m a b := fun i hi => h i (by omega)
theorem holds_agree {p : Pfx} {k : H256} : holdsP p k ↔ formedP p ∧ agree p.len.toNat p.bits k := by
  rw [holds_shared]
  refine and_congr_right fun hf => ?_
  rw [agree_shared (by have := hf.2.1; omega)]
  have := hf.1; omega
theorem within_agree {p q : Pfx} : withinP p q ↔ formedP p ∧ formedP q ∧ p.len ≤ q.len ∧ agree p.len.toNat p.bits q.bits := by
  rw [within_shared]
  constructor
  · rintro ⟨h1, h2, h3, h4⟩
    exact ⟨h1, h2, h3, (agree_shared (by have := h1.2.1; omega)).2 (by omega)⟩
  · rintro ⟨h1, h2, h3, h4⟩
    refine ⟨h1, h2, h3, ?_⟩
    have := (agree_shared (by have := h1.2.1; omega)).1 h4
    have := h1.1; omega
theorem formed_out {p : Pfx} (h : formedP p) {i : Nat} (hi : p.len ≤ i) : kb p.bits i = false := (formed_iff h.1 h.2.1).1 h i hi
theorem bitI_kb {k : H256} {n : Int} (h : 0 ≤ n) : bitI k n = 1 ↔ kb k n.toNat = true := by
  unfold bitI
  by_cases hb : kb k n.toNat = true
  · rw [if_pos ⟨h, hb⟩]; simp [hb]
  · rw [if_neg (fun h' => hb h'.2)]; simp [hb]
theorem child_len {p : Pfx} {b : Int} (h : childOk p b) : (childP p b).len = p.len + 1 := by unfold childP; rw [if_pos h]
theorem child_kb {p : Pfx} {b : Int} (h : childOk p b) (i : Nat) (hi : i < 256) : kb (childP p b).bits i = if i = p.len.toNat then decide (b = 1) else kb p.bits i := by
  unfold childP; rw [if_pos h]
  have h0 := h.1.1
  have h1 := h.2.1
  by_cases hb : b = 1
  · simp only [hb, if_true]
    rw [kb_setB _ _ _ (by omega) hi]
    by_cases hi2 : i = p.len.toNat
    · simp [hi2]
    · rw [if_neg hi2]
      have : ¬ p.len.toNat = i := fun e => hi2 e.symm
      simp [this]
  · simp only [hb, if_false]
    by_cases hi2 : i = p.len.toNat
    · rw [if_pos hi2, formed_out h.1 (by omega)]; simp
    · rw [if_neg hi2]
theorem child_formed {p : Pfx} {b : Int} (h : childOk p b) : formedP (childP p b) := by
  have h0 := h.1.1
  have h1 := h.2.1
  refine (formed_iff (by rw [child_len h]; omega) (by rw [child_len h]; omega)).2 fun i hi => ?_
  rw [child_len h] at hi
  by_cases hi2 : i < 256
  · rw [child_kb h i hi2, if_neg (by omega)]
    exact formed_out h.1 (by omega)
  · exact kb_out (by omega)
theorem child_agree {p : Pfx} {b : Int} (h : childOk p b) (k : H256) : agree (childP p b).len.toNat (childP p b).bits k ↔ agree p.len.toNat p.bits k ∧ kb k p.len.toNat = decide (b = 1) := by
  have h0 := h.1.1
  have h1 := h.2.1
  have hl : (childP p b).len.toNat = p.len.toNat + 1 := by rw [child_len h]; omega
  rw [hl]
  constructor
  · intro hh
    refine ⟨fun i hi => ?_, ?_⟩
    · have := hh i (by omega)
      rw [child_kb h i (by omega), if_neg (by omega)] at this
      exact this
    · have := hh p.len.toNat (by omega)
      rw [child_kb h _ (by omega), if_pos rfl] at this
      exact this.symm
  · rintro ⟨h2, h3⟩ i hi
    rw [child_kb h i (by omega)]
    by_cases hi2 : i = p.len.toNat
    · rw [if_pos hi2, hi2, h3]
    · rw [if_neg hi2]; exact h2 i (by omega)
theorem child_holds {p : Pfx} {b : Int} (h : childOk p b) {k : H256} (hk : holdsP p k) (hb : kb k p.len.toNat = decide (b = 1)) : holdsP (childP p b) k :=
  holds_agree.2 ⟨child_formed h, (child_agree h k).2 ⟨(holds_agree.1 hk).2, hb⟩⟩
def PT.wf : PT → Prop
  | .leaf _ _ => True
  | .node p a b => (formedP p ∧ p.len < 256) ∧ withinP (childP p 0) a.cover ∧ withinP (childP p 1) b.cover ∧ a.wf ∧ b.wf
theorem wf_ok {p : Pfx} (h : formedP p ∧ p.len < 256) (b : Int) (hb : b = 0 ∨ b = 1) : childOk p b := ⟨h.1, h.2, by omega, by omega⟩
theorem cover_formed : ∀ {T : PT}, T.wf → formedP T.cover
  | .leaf k _, _ => cutP_formed k 256
  | .node p _ _, h => h.1.1
theorem leaf_cover (k v : H256) : (PT.leaf k v).cover = ⟨256, k⟩ := by
  show cutP k 256 = _
  unfold cutP
  simp only [show min (max (256 : Int) 0) 256 = 256 by decide]
  rw [show (256 : Int).toNat = 256 from rfl, cutB_all]
theorem leaf_within {r : Pfx} {k v : H256} (h : holdsP r k) : withinP r (PT.leaf k v).cover := by
  rw [leaf_cover]
  refine within_agree.2 ⟨h.1, ?_, h.1.2.1, (holds_agree.1 h).2⟩
  have := cutP_formed k 256
  rw [show cutP k 256 = (⟨256, k⟩ : Pfx) from leaf_cover k k] at this
  exact this
/-- two that meet nowhere -/
theorem joinT_ok {a b : PT} (ha : a.wf) (hb : b.wf) (h1 : (shared a.cover.bits b.cover.bits : Int) < a.cover.len) (h2 : (shared a.cover.bits b.cover.bits : Int) < b.cover.len) :
    (PT.join a b).wf ∧ (PT.join a b).cover.len = shared a.cover.bits b.cover.bits ∧ agree (shared a.cover.bits b.cover.bits) (PT.join a b).cover.bits a.cover.bits := by
  have fa := cover_formed ha
  have fb := cover_formed hb
  generalize hp : a.cover = p at *
  generalize hq : b.cover = q at *
  generalize hs : shared p.bits q.bits = s at *
  have hm : meetP p q = cutP p.bits (s : Int) := by
    unfold meetP; rw [if_pos ⟨fa, fb⟩, hs]
    congr 1; omega
  have hq1 := fb.2.1
  have hlen : (meetP p q).len = s := by rw [hm]; unfold cutP; simp only; omega
  have hbits : (meetP p q).bits = cutB p.bits s := by rw [hm]; unfold cutP; simp only; congr 1; omega
  have hf : formedP (meetP p q) := by rw [hm]; exact cutP_formed _ _
  have hok : formedP (meetP p q) ∧ (meetP p q).len < 256 := ⟨hf, by rw [hlen]; omega⟩
  have ag : agree s (meetP p q).bits p.bits := fun i hi => by rw [hbits, kb_cutB]; simp [hi]
  have hsq : agree s p.bits q.bits := fun i hi => shared_eq (by omega)
  have hne : kb p.bits s ≠ kb q.bits s := by rw [← hs]; exact shared_ne (by omega)
  have side : ∀ (c : Int) (x : Pfx), (c = 0 ∨ c = 1) → formedP x → (s : Int) < x.len → agree s p.bits x.bits → kb x.bits s = decide (c = 1) → withinP (childP (meetP p q) c) x := fun c x hc fx hl hx hb => by
    have hco := wf_ok hok c hc
    refine within_agree.2 ⟨child_formed hco, fx, by rw [child_len hco, hlen]; omega, (child_agree hco _).2 ⟨?_, ?_⟩⟩
    · rw [hlen]; exact ag.trans hx
    · rw [hlen]; exact hb
  have refl : agree s p.bits p.bits := fun _ _ => rfl
  have hcov : (PT.join a b).cover = meetP p q := by
    unfold PT.join; simp only [hp, hq]; split <;> rfl
  refine ⟨?_, by rw [hcov]; exact hlen, by rw [hcov]; exact ag⟩
  unfold PT.join
  simp only [hp, hq]
  rw [hlen]
  by_cases hbit : bitI p.bits (s : Int) = 1
  · rw [if_pos hbit]
    have hb1 : kb p.bits s = true := (bitI_kb (by omega)).1 hbit
    have hb2 : kb q.bits s = false := by cases h : kb q.bits s; rfl; rw [hb1, h] at hne; exact absurd rfl hne
    exact ⟨hok, by rw [hq]; exact side 0 q (.inl rfl) fb h2 hsq (by rw [hb2]; rfl), by rw [hp]; exact side 1 p (.inr rfl) fa h1 refl (by rw [hb1]; rfl), hb, ha⟩
  · rw [if_neg hbit]
    have hb1 : kb p.bits s = false := by cases h : kb p.bits s; rfl; exact absurd ((bitI_kb (n := (s : Int)) (by omega)).2 h) hbit
    have hb2 : kb q.bits s = true := by cases h : kb q.bits s; rw [hb1, h] at hne; exact absurd rfl hne; rfl
    exact ⟨hok, by rw [hp]; exact side 0 p (.inl rfl) fa h1 refl (by rw [hb1]; rfl), by rw [hq]; exact side 1 q (.inr rfl) fb h2 hsq (by rw [hb2]; rfl), ha, hb⟩
/-- a leaf joined to what doesn't hold its key -/
theorem join_leaf {T : PT} {k v : H256} (h : T.wf) (hn : ¬ holdsP T.cover k) : (PT.join T (.leaf k v)).wf ∧ ∀ r, withinP r T.cover → holdsP r k → withinP r (PT.join T (.leaf k v)).cover := by
  have fT := cover_formed h
  have e : (PT.leaf k v).cover = ⟨256, k⟩ := leaf_cover k v
  have hs : (shared T.cover.bits k : Int) < T.cover.len := by
    rcases Int.lt_or_le (shared T.cover.bits k : Int) T.cover.len with h1 | h1
    · exact h1
    · exact absurd (holds_shared.2 ⟨fT, h1⟩) hn
  have hlen := fT.2.1
  have hbits : (PT.leaf k v).cover.bits = k := by rw [e]
  have hl2 : (PT.leaf k v).cover.len = 256 := by rw [e]
  obtain ⟨w1, w2, w3⟩ := joinT_ok (a := T) (b := .leaf k v) h trivial (by rw [hbits]; exact hs) (by rw [hbits, hl2]; omega)
  rw [hbits] at w2 w3
  refine ⟨w1, fun r hr hk => ?_⟩
  obtain ⟨r1, r2, r3, r4⟩ := within_agree.1 hr
  have hle : r.len.toNat ≤ shared T.cover.bits k := (agree_shared (by have := r1.2.1; omega)).1 (r4.symm.trans (holds_agree.1 hk).2)
  refine within_agree.2 ⟨r1, cover_formed w1, by rw [w2]; have := r1.1; omega, r4.trans ((w3.mono hle).symm)⟩
theorem ins_wf (k v : H256) : ∀ {T : PT}, T.wf → (T.ins k v).wf ∧ ∀ r, withinP r T.cover → holdsP r k → withinP r (T.ins k v).cover
  | .leaf k' v', h => by
    unfold PT.ins
    by_cases hk : k' = k
    · rw [if_pos hk]
      exact ⟨trivial, fun r _ hr => leaf_within hr⟩
    · rw [if_neg hk]
      refine join_leaf h fun hh => hk ?_
      rw [leaf_cover] at hh
      have := (holds_shared.1 hh).2
      have := shared_le k' k
      exact shared_all (show shared k' k = 256 by simp only at *; omega)
  | .node p a b, h => by
    obtain ⟨h0, h1, h2, h3, h4⟩ := h
    unfold PT.ins
    by_cases hh : holdsP p k
    · rw [if_pos hh]
      have hp0 := h0.1.1
      by_cases hb : bitI k p.len = 1
      · rw [if_pos hb]
        obtain ⟨i1, i2⟩ := ins_wf k v h4
        exact ⟨⟨h0, h1, i2 _ h2 (child_holds (wf_ok h0 1 (.inr rfl)) hh (by rw [(bitI_kb hp0).1 hb]; rfl)), h3, i1⟩, fun r hr _ => hr⟩
      · rw [if_neg hb]
        obtain ⟨i1, i2⟩ := ins_wf k v h3
        have hkb : kb k p.len.toNat = false := by cases hc : kb k p.len.toNat; rfl; exact absurd ((bitI_kb hp0).2 hc) hb
        exact ⟨⟨h0, i2 _ h1 (child_holds (wf_ok h0 0 (.inl rfl)) hh (by rw [hkb]; rfl)), h2, i1, h4⟩, fun r hr _ => hr⟩
    · rw [if_neg hh]
      exact join_leaf (T := .node p a b) ⟨h0, h1, h2, h3, h4⟩ hh
def wfO : Option PT → Prop
  | none => True
  | some T => T.wf
theorem trees_wf : ∀ (n : Nat) (ps : List KV), ps.length = n → wfO (treesF ps)
  | 0, ps, h => by
    obtain rfl := List.eq_nil_of_length_eq_zero h
    exact trivial
  | n + 1, ps, h => by
    have hne : ps ≠ [] := fun e => by subst e; cases h
    obtain ⟨qs, p, rfl⟩ : ∃ qs p, ps = qs ++ [p] := ⟨ps.dropLast, ps.getLast hne, (List.dropLast_concat_getLast hne).symm⟩
    have ih := trees_wf n qs (by simpa using h)
    rw [treesF_snoc]
    cases hq : treesF qs with
    | none => exact trivial
    | some T => rw [hq] at ih; exact (ins_wf p.1 p.2 ih).1
theorem built_wf (ps : List KV) : wfO (treesF ps) := trees_wf _ ps rfl
end Go.Proofs.YtdflndjlnkoliaaGreatDoor

namespace Go.Proofs.YtdflndjlnkoliaaGreatDoor
set_option linter.all false
open Go.RowKit
/-! the keys and values of a tree, rising -/
def PT.list : PT → List KV
  | .leaf k v => [(k, v)]
  | .node _ a b => a.list ++ b.list
theorem list_pos : ∀ T : PT, 0 < T.list.length
  | .leaf _ _ => by simp [PT.list]
  | .node _ a b => by have := list_pos a; simp only [PT.list, List.length_append]; omega
theorem wf_child {p : Pfx} {a : PT} {c : Int} (h0 : formedP p ∧ p.len < 256) (hc : c = 0 ∨ c = 1) (hw : withinP (childP p c) a.cover) {k : H256} (hk : holdsP a.cover k) : holdsP p k ∧ kb k p.len.toNat = decide (c = 1) := by
  have hco := wf_ok h0 c hc
  obtain ⟨w1, w2, w3, w4⟩ := within_agree.1 hw
  have hk2 := (holds_agree.1 hk).2
  have : agree (childP p c).len.toNat (childP p c).bits k := w4.trans (hk2.mono (by have := w1.1; omega))
  obtain ⟨g1, g2⟩ := (child_agree hco k).1 this
  exact ⟨holds_agree.2 ⟨h0.1, g1⟩, g2⟩
theorem leaf_holds (k v : H256) : holdsP (PT.leaf k v).cover k := by
  have := cover_formed (T := .leaf k v) trivial
  rw [leaf_cover] at this ⊢
  exact holds_agree.2 ⟨this, fun _ _ => rfl⟩
theorem wf_held : ∀ {T : PT}, T.wf → ∀ x ∈ T.list, holdsP T.cover x.1
  | .leaf k v, _, x, hx => by
    obtain rfl : x = (k, v) := by simpa [PT.list] using hx
    exact leaf_holds k v
  | .node p a b, h, x, hx => by
    obtain ⟨h0, h1, h2, h3, h4⟩ := h
    rcases List.mem_append.1 hx with hx | hx
    · exact (wf_child h0 (.inl rfl) h1 (wf_held h3 x hx)).1
    · exact (wf_child h0 (.inr rfl) h2 (wf_held h4 x hx)).1
theorem wf_left {p : Pfx} {a b : PT} (h : (PT.node p a b).wf) {x : KV} (hx : x ∈ a.list) : holdsP p x.1 ∧ kb x.1 p.len.toNat = false := wf_child h.1 (.inl rfl) h.2.1 (wf_held h.2.2.2.1 x hx)
theorem wf_right {p : Pfx} {a b : PT} (h : (PT.node p a b).wf) {x : KV} (hx : x ∈ b.list) : holdsP p x.1 ∧ kb x.1 p.len.toNat = true := wf_child h.1 (.inr rfl) h.2.2.1 (wf_held h.2.2.2.2 x hx)
theorem shared_at {x y : H256} {n : Nat} (hn : n < 256) (h : agree n x y) (hne : kb x n ≠ kb y n) : shared x y = n := shared_uniq (by omega) h (fun _ => hne)
theorem less_at {x y : H256} {n : Nat} (hn : n < 256) (h : agree n x y) (hx : kb x n = false) (hy : kb y n = true) : lessP x y := by
  have := shared_at hn h (by rw [hx, hy]; simp)
  exact ⟨by omega, by rw [this]; exact hx⟩
theorem less_asymm {x y : H256} (h : lessP x y) : ¬ lessP y x := fun g => by
  have hn := shared_ne h.1
  have e : shared y x = shared x y := shared_at h.1 (fun i hi => (shared_eq hi).symm) (fun e => hn e.symm)
  have h2 := h.2
  have g2 := g.2
  rw [e] at g2
  exact hn (by rw [h2, g2])
theorem less_irrefl (x : H256) : ¬ lessP x x := fun h => less_asymm h h
theorem not_less_at {x y : H256} {n : Nat} (hn : n < 256) (h : agree n x y) (hx : kb x n = false) (hy : kb y n = true) : ¬ lessP y x := less_asymm (less_at hn h hx hy)
theorem ne_at {x y : H256} {n : Nat} (hx : kb x n = false) (hy : kb y n = true) : x ≠ y := fun e => by rw [e, hy] at hx; cases hx
abbrev sortedL (l : List KV) : Prop := l.Pairwise fun x y => lessP x.1 y.1
theorem holds_agree2 {p : Pfx} {x y : H256} (hx : holdsP p x) (hy : holdsP p y) : agree p.len.toNat x y := ((holds_agree.1 hx).2).symm.trans (holds_agree.1 hy).2
theorem node_less {p : Pfx} {a b : PT} (h : (PT.node p a b).wf) {x y : KV} (hx : x ∈ a.list) (hy : y ∈ b.list) : lessP x.1 y.1 := by
  obtain ⟨x1, x2⟩ := wf_left h hx
  obtain ⟨y1, y2⟩ := wf_right h hy
  have := h.1.1.1
  have := h.1.2
  exact less_at (by omega) (holds_agree2 x1 y1) x2 y2
theorem wf_sorted : ∀ {T : PT}, T.wf → sortedL T.list
  | .leaf k v, _ => by simp [PT.list]
  | .node p a b, h => List.pairwise_append.2 ⟨wf_sorted h.2.2.2.1, wf_sorted h.2.2.2.2, fun _ hx _ hy => node_less h hx hy⟩
/-! putting into lists -/
def putL (k v : H256) : List KV → List KV
  | [] => [(k, v)]
  | x :: r => if lessP x.1 k then x :: putL k v r else (k, v) :: (x :: r).filter fun y => decide (y.1 ≠ k)
theorem putL_cons (k v : H256) (x : KV) (r : List KV) : putL k v (x :: r) = if lessP x.1 k then x :: putL k v r else (k, v) :: (x :: r).filter fun y => decide (y.1 ≠ k) := rfl
theorem putL_less {k v : H256} : ∀ {l m : List KV}, (∀ x ∈ l, lessP x.1 k) → putL k v (l ++ m) = l ++ putL k v m
  | [], _, _ => rfl
  | x :: r, m, h => by
    show putL k v (x :: (r ++ m)) = x :: (r ++ putL k v m)
    rw [putL_cons, if_pos (h x (by simp)), putL_less fun y hy => h y (by simp [hy])]
theorem filter_ne {k : H256} {l : List KV} (h : ∀ x ∈ l, x.1 ≠ k) : l.filter (fun y => decide (y.1 ≠ k)) = l := List.filter_eq_self.2 fun x hx => by simpa using h x hx
theorem putL_gt {k v : H256} : ∀ {l m : List KV}, (∀ x ∈ m, ¬ lessP x.1 k ∧ x.1 ≠ k) → putL k v (l ++ m) = putL k v l ++ m
  | [], [], _ => rfl
  | [], x :: m, h => by
    show putL k v (x :: m) = (k, v) :: x :: m
    rw [putL_cons, if_neg (h x (by simp)).1, filter_ne fun y hy => (h y hy).2]
  | x :: r, m, h => by
    show putL k v (x :: (r ++ m)) = _
    rw [putL_cons, putL_cons]
    split
    · rw [putL_gt h]; rfl
    · have e : (x :: (r ++ m)).filter (fun y => decide (y.1 ≠ k)) = (x :: r).filter (fun y => decide (y.1 ≠ k)) ++ m := by
        rw [show x :: (r ++ m) = (x :: r) ++ m from rfl, List.filter_append, filter_ne fun y hy => (h y hy).2]
      rw [e]; rfl
theorem meet_len {p q : Pfx} (fp : formedP p) (fq : formedP q) (h1 : (shared p.bits q.bits : Int) < p.len) (h2 : (shared p.bits q.bits : Int) < q.len) : (meetP p q).len = shared p.bits q.bits := by
  unfold meetP
  rw [if_pos ⟨fp, fq⟩]
  have := fp.2.1
  unfold cutP; simp only; omega
theorem join_list {T : PT} {k v : H256} (h : T.wf) (hn : ¬ holdsP T.cover k) : (PT.join T (.leaf k v)).list = putL k v T.list := by
  have fT := cover_formed h
  have e : (PT.leaf k v).cover = ⟨256, k⟩ := leaf_cover k v
  have hs : (shared T.cover.bits k : Int) < T.cover.len := by
    rcases Int.lt_or_le (shared T.cover.bits k : Int) T.cover.len with h1 | h1
    · exact h1
    · exact absurd (holds_shared.2 ⟨fT, h1⟩) hn
  have hlen := fT.2.1
  have fL : formedP (PT.leaf k v).cover := cover_formed (T := .leaf k v) trivial
  have hm : (meetP T.cover (PT.leaf k v).cover).len = shared T.cover.bits k := by
    have := meet_len (p := T.cover) (q := (PT.leaf k v).cover) fT fL (by rw [e]; exact hs) (by rw [e]; show (shared T.cover.bits k : Int) < 256; omega)
    rw [this, e]
  have hne := shared_ne (a := T.cover.bits) (b := k) (by omega)
  have ag : ∀ x ∈ T.list, agree (shared T.cover.bits k) x.1 k ∧ kb x.1 (shared T.cover.bits k) = kb T.cover.bits (shared T.cover.bits k) := fun x hx => by
    have hx2 := (holds_agree.1 (wf_held h x hx)).2
    exact ⟨((hx2.mono (by omega)).symm).trans (fun i hi => shared_eq hi), (hx2 _ (by omega)).symm⟩
  unfold PT.join
  simp only [hm]
  by_cases hb : bitI T.cover.bits (shared T.cover.bits k : Int) = 1
  · rw [if_pos hb]
    have hb1 : kb T.cover.bits (shared T.cover.bits k) = true := (bitI_kb (by omega)).1 hb
    have hb2 : kb k (shared T.cover.bits k) = false := by cases hc : kb k (shared T.cover.bits k); rfl; rw [hb1, hc] at hne; exact absurd rfl hne
    have := putL_gt (k := k) (v := v) (l := []) (m := T.list) fun x hx => by
      obtain ⟨g1, g2⟩ := ag x hx
      exact ⟨not_less_at (by omega) g1.symm hb2 (g2.trans hb1), (ne_at hb2 (g2.trans hb1)).symm⟩
    exact this.symm
  · rw [if_neg hb]
    have hb1 : kb T.cover.bits (shared T.cover.bits k) = false := by cases hc : kb T.cover.bits (shared T.cover.bits k); rfl; exact absurd ((bitI_kb (n := (shared T.cover.bits k : Int)) (by omega)).2 hc) hb
    have hb2 : kb k (shared T.cover.bits k) = true := by cases hc : kb k (shared T.cover.bits k); rw [hb1, hc] at hne; exact absurd rfl hne; rfl
    have := putL_less (k := k) (v := v) (l := T.list) (m := []) fun x hx => by
      obtain ⟨g1, g2⟩ := ag x hx
      exact less_at (by omega) g1 (g2.trans hb1) hb2
    rw [List.append_nil] at this
    exact this.symm
theorem ins_list {k v : H256} : ∀ {T : PT}, T.wf → (T.ins k v).list = putL k v T.list
  | .leaf k' v', h => by
    unfold PT.ins
    by_cases hk : k' = k
    · rw [if_pos hk]
      subst hk
      show [(k', v)] = putL k' v [(k', v')]
      unfold putL
      rw [if_neg (less_irrefl _)]; simp
    · rw [if_neg hk]
      refine join_list h fun hh => hk ?_
      rw [leaf_cover] at hh
      have := (holds_shared.1 hh).2
      have := shared_le k' k
      exact shared_all (show shared k' k = 256 by simp only at *; omega)
  | .node p a b, h => by
    have h0 := h.1
    unfold PT.ins
    by_cases hh : holdsP p k
    · rw [if_pos hh]
      have hp0 := h0.1.1
      have hp1 := h0.2
      by_cases hb : bitI k p.len = 1
      · rw [if_pos hb]
        have hkb := (bitI_kb hp0).1 hb
        show a.list ++ (b.ins k v).list = putL k v (a.list ++ b.list)
        rw [ins_list h.2.2.2.2, putL_less fun x hx => by
          obtain ⟨x1, x2⟩ := wf_left h hx
          exact less_at (by omega) (holds_agree2 x1 hh) x2 hkb]
      · rw [if_neg hb]
        have hkb : kb k p.len.toNat = false := by cases hc : kb k p.len.toNat; rfl; exact absurd ((bitI_kb hp0).2 hc) hb
        show (a.ins k v).list ++ b.list = putL k v (a.list ++ b.list)
        rw [ins_list h.2.2.2.1, putL_gt fun x hx => by
          obtain ⟨x1, x2⟩ := wf_right h hx
          exact ⟨not_less_at (by omega) (holds_agree2 hh x1) hkb x2, (ne_at hkb x2).symm⟩]
    · rw [if_neg hh]
      exact join_list h hh
def listO : Option PT → List KV
  | none => []
  | some T => T.list
def allL (ps : List KV) : List KV := ps.foldl (fun l p => putL p.1 p.2 l) []
theorem allL_snoc (ps : List KV) (p : KV) : allL (ps ++ [p]) = putL p.1 p.2 (allL ps) := by unfold allL; rw [List.foldl_append]; rfl
theorem all_trees_aux : ∀ (n : Nat) (ps : List KV), ps.length = n → allL ps = listO (treesF ps)
  | 0, ps, h => by
    obtain rfl := List.eq_nil_of_length_eq_zero h
    rfl
  | n + 1, ps, h => by
    have hne : ps ≠ [] := fun e => by subst e; cases h
    obtain ⟨qs, p, rfl⟩ : ∃ qs p, ps = qs ++ [p] := ⟨ps.dropLast, ps.getLast hne, (List.dropLast_concat_getLast hne).symm⟩
    have ih := all_trees_aux n qs (by simpa using h)
    have hw := built_wf qs
    rw [allL_snoc, treesF_snoc, ih]
    cases hq : treesF qs with
    | none => rfl
    | some T => rw [hq] at hw; exact (ins_list hw).symm
theorem all_trees (ps : List KV) : allL ps = listO (treesF ps) := all_trees_aux _ ps rfl
theorem sortedO {o : Option PT} (h : wfO o) : sortedL (listO o) := by
  cases o with
  | none => simp [listO]
  | some T => exact wf_sorted h
/-! what a list says of its tree -/
theorem over_spec {p : Pfx} {a b : PT} (h : (PT.node p a b).wf) {x y : KV} (hx : x ∈ a.list) (hy : y ∈ b.list) : shared x.1 y.1 = p.len.toNat ∧ cutP x.1 (shared x.1 y.1 : Int) = p := by
  obtain ⟨x1, x2⟩ := wf_left h hx
  obtain ⟨y1, y2⟩ := wf_right h hy
  have h0 := h.1.1.1
  have h1 := h.1.2
  have e : shared x.1 y.1 = p.len.toNat := shared_at (by omega) (holds_agree2 x1 y1) (by rw [x2, y2]; simp)
  refine ⟨e, ?_⟩
  rw [e]
  have e2 : (p.len.toNat : Int) = p.len := by omega
  rw [e2]
  unfold cutP
  rw [show min (max p.len 0) 256 = p.len by omega, x1.2]
theorem list_first (T : PT) : ∃ x, T.list[0]? = some x ∧ x ∈ T.list := ⟨T.list[0]'(list_pos T), List.getElem?_eq_getElem _, List.getElem_mem _⟩
theorem list_last (T : PT) : ∃ x, T.list[T.list.length - 1]? = some x ∧ x ∈ T.list := ⟨T.list[T.list.length - 1]'(by have := list_pos T; omega), List.getElem?_eq_getElem _, List.getElem_mem _⟩
/-- one list, one tree -/
theorem wf_inj : ∀ {T U : PT}, T.wf → U.wf → T.list = U.list → T = U
  | .leaf k v, .leaf k' v', _, _, h => by simp only [PT.list, List.cons.injEq, Prod.mk.injEq, and_true] at h; rw [h.1, h.2]
  | .leaf k v, .node p a b, _, _, h => by
    have h1 := congrArg List.length h
    simp only [PT.list, List.length_append, List.length_cons, List.length_nil] at h1
    have := list_pos a; have := list_pos b; omega
  | .node p a b, .leaf k v, _, _, h => by
    have h1 := congrArg List.length h
    simp only [PT.list, List.length_append, List.length_cons, List.length_nil] at h1
    have := list_pos a; have := list_pos b; omega
  | .node p a b, .node q c d, hT, hU, h => by
    have h' : a.list ++ b.list = c.list ++ d.list := h
    obtain ⟨x, x1, x2⟩ := list_first a
    obtain ⟨y, y1, y2⟩ := list_last b
    obtain ⟨x', x1', x2'⟩ := list_first c
    obtain ⟨y', y1', y2'⟩ := list_last d
    have la := list_pos a
    have lb := list_pos b
    have lc := list_pos c
    have ld := list_pos d
    have hlen := congrArg List.length h'
    simp only [List.length_append] at hlen
    have ex : x = x' := by
      have := congrArg (fun l : List KV => l[0]?) h'
      rw [List.getElem?_append_left la, List.getElem?_append_left lc, x1, x1'] at this
      exact Option.some.inj this
    have ey : y = y' := by
      have := congrArg (fun l : List KV => l[a.list.length + b.list.length - 1]?) h'
      rw [List.getElem?_append_right (by omega), List.getElem?_append_right (by omega)] at this
      rw [show a.list.length + b.list.length - 1 - a.list.length = b.list.length - 1 by omega, show a.list.length + b.list.length - 1 - c.list.length = d.list.length - 1 by omega, y1, y1'] at this
      exact Option.some.inj this
    subst ex ey
    have o1 := (over_spec hT x2 y2).2
    have o2 := (over_spec hU x2' y2').2
    have hpq : p = q := o1.symm.trans o2
    subst hpq
    have f1 : (a.list ++ b.list).filter (fun z => !kb z.1 p.len.toNat) = a.list := by
      rw [List.filter_append, List.filter_eq_self.2 fun z hz => by rw [(wf_left hT hz).2]; rfl, List.filter_eq_nil_iff.2 fun z hz => by rw [(wf_right hT hz).2]; simp, List.append_nil]
    have f2 : (c.list ++ d.list).filter (fun z => !kb z.1 p.len.toNat) = c.list := by
      rw [List.filter_append, List.filter_eq_self.2 fun z hz => by rw [(wf_left hU hz).2]; rfl, List.filter_eq_nil_iff.2 fun z hz => by rw [(wf_right hU hz).2]; simp, List.append_nil]
    have hac : a.list = c.list := by rw [← f1, h', f2]
    have hbd : b.list = d.list := by rw [hac] at h'; exact List.append_cancel_left h'
    rw [wf_inj hT.2.2.2.1 hU.2.2.2.1 hac, wf_inj hT.2.2.2.2 hU.2.2.2.2 hbd]
/-! lists with the same members -/
theorem sorted_uniq : ∀ {l m : List KV}, sortedL l → sortedL m → (∀ x, x ∈ l ↔ x ∈ m) → l = m
  | [], [], _, _, _ => rfl
  | [], y :: m, _, _, h => by have := (h y).2 (by simp); simp at this
  | x :: l, [], _, _, h => by have := (h x).1 (by simp); simp at this
  | x :: l, y :: m, hl, hm, h => by
    obtain ⟨l1, l2⟩ := List.pairwise_cons.1 hl
    obtain ⟨m1, m2⟩ := List.pairwise_cons.1 hm
    have e : x = y := by
      rcases List.mem_cons.1 ((h x).1 (by simp)) with h1 | h1
      · exact h1
      · rcases List.mem_cons.1 ((h y).2 (by simp)) with h2 | h2
        · exact h2.symm
        · exact absurd (l1 y h2) (less_asymm (m1 x h1))
    subst e
    congr 1
    refine sorted_uniq l2 m2 fun z => ⟨fun hz => ?_, fun hz => ?_⟩
    · rcases List.mem_cons.1 ((h z).1 (by simp [hz])) with h1 | h1
      · subst h1; exact absurd (l1 z hz) (less_irrefl _)
      · exact h1
    · rcases List.mem_cons.1 ((h z).2 (by simp [hz])) with h1 | h1
      · subst h1; exact absurd (m1 z hz) (less_irrefl _)
      · exact h1
theorem mem_putL {k v : H256} {x : KV} : ∀ {l : List KV}, sortedL l → (x ∈ putL k v l ↔ x = (k, v) ∨ x ∈ l ∧ x.1 ≠ k)
  | [], _ => by simp [putL]
  | y :: r, h => by
    obtain ⟨h1, h2⟩ := List.pairwise_cons.1 h
    unfold putL
    split
    · rename_i hy
      have hyk : y.1 ≠ k := fun e => by rw [e] at hy; exact less_irrefl _ hy
      rw [List.mem_cons, mem_putL h2, List.mem_cons]
      constructor
      · rintro (h | h | h)
        · exact .inr ⟨.inl h, by rw [h]; exact hyk⟩
        · exact .inl h
        · exact .inr ⟨.inr h.1, h.2⟩
      · rintro (h | ⟨h | h, g⟩)
        · exact .inr (.inl h)
        · exact .inl h
        · exact .inr (.inr ⟨h, g⟩)
    · rw [List.mem_cons, List.mem_filter]; simp
/-- pairs of which each key has one value -/
def funcL (l : List KV) : Prop := ∀ x ∈ l, ∀ y ∈ l, x.1 = y.1 → x = y
theorem mem_allL (S : List KV) (hS : funcL S) {x : KV} : ∀ (n : Nat) (ps : List KV), ps.length = n → (∀ y ∈ ps, y ∈ S) → (x ∈ allL ps ↔ x ∈ ps)
  | 0, ps, h, _ => by
    obtain rfl := List.eq_nil_of_length_eq_zero h
    rfl
  | n + 1, ps, h, hs => by
    have hne : ps ≠ [] := fun e => by subst e; cases h
    obtain ⟨qs, p, rfl⟩ : ∃ qs p, ps = qs ++ [p] := ⟨ps.dropLast, ps.getLast hne, (List.dropLast_concat_getLast hne).symm⟩
    have ih := mem_allL S hS (x := x) n qs (by simpa using h) fun y hy => hs y (by simp [hy])
    rw [allL_snoc, mem_putL (by rw [all_trees]; exact sortedO (built_wf qs)), ih]
    constructor
    · rintro (h | h)
      · rw [h]; simp
      · simp [h.1]
    · intro h
      rcases List.mem_append.1 h with h | h
      · by_cases he : x.1 = p.1
        · exact .inl (hS x (hs x (by simp [h])) p (hs p (by simp)) he)
        · exact .inr ⟨h, he⟩
      · obtain rfl : x = p := by simpa using h
        exact .inl rfl
theorem order_law {ps qs : List KV} (hS : funcL ps) (h : ∀ x, x ∈ qs ↔ x ∈ ps) : treesF qs = treesF ps := by
  have e : allL qs = allL ps := by
    refine sorted_uniq ?_ ?_ fun x => ?_
    · rw [all_trees]; exact sortedO (built_wf qs)
    · rw [all_trees]; exact sortedO (built_wf ps)
    · rw [mem_allL ps hS (x := x) _ ps rfl fun _ h => h, mem_allL ps hS (x := x) _ qs rfl fun y hy => (h y).1 hy]; exact h x
  rw [all_trees, all_trees] at e
  have w1 := built_wf qs
  have w2 := built_wf ps
  cases h3 : treesF qs with
  | none =>
    cases h4 : treesF ps with
    | none => rfl
    | some T => rw [h3, h4] at e; have := list_pos T; rw [show listO (some T) = T.list from rfl, show listO none = ([] : List KV) from rfl] at e; rw [← e] at this; simp at this
  | some U =>
    cases h4 : treesF ps with
    | none => rw [h3, h4] at e; have := list_pos U; rw [show listO (some U) = U.list from rfl, show listO none = ([] : List KV) from rfl] at e; rw [e] at this; simp at this
    | some T =>
      rw [h3] at w1 e
      rw [h4] at w2 e
      rw [wf_inj w1 w2 e]
end Go.Proofs.YtdflndjlnkoliaaGreatDoor

namespace Go.Proofs.YtdflndjlnkoliaaGreatDoor
set_option linter.all false
open Go.RowKit
/-! the chapter's lists -/
def putI (k v : H256) : Bool → List KV → List KV
  | true, r => r.filter fun y => decide (y.1 ≠ k)
  | false, r => putL k v r
theorem putL_len (k v : H256) : ∀ l : List KV, (putL k v l).length ≤ l.length + 1
  | [] => by simp [putL]
  | x :: r => by
    rw [putL_cons]; split
    · have := putL_len k v r; simp only [List.length_cons]; omega
    · have := List.length_filter_le (fun y : KV => decide (y.1 ≠ k)) (x :: r); simp only [List.length_cons] at *; omega
theorem putI_less {k v : H256} {x : KV} {r : List KV} (h : lessP x.1 k) : putI k v false (x :: r) = x :: putI k v false r := by
  show putL k v (x :: r) = x :: putL k v r
  rw [putL_cons, if_pos h]
theorem putI_ge {k v : H256} {x : KV} {r : List KV} (h : ¬ lessP x.1 k) : putI k v false (x :: r) = (k, v) :: putI k v true (x :: r) := by
  show putL k v (x :: r) = (k, v) :: (x :: r).filter (fun y => decide (y.1 ≠ k))
  rw [putL_cons, if_neg h]
theorem putI_same {k v : H256} {x : KV} {r : List KV} (h : x.1 = k) : putI k v true (x :: r) = putI k v true r := by
  show (x :: r).filter (fun y => decide (y.1 ≠ k)) = r.filter (fun y => decide (y.1 ≠ k))
  rw [List.filter_cons_of_neg (by simp [h])]
theorem putI_other {k v : H256} {x : KV} {r : List KV} (h : ¬ x.1 = k) : putI k v true (x :: r) = x :: putI k v true r := by
  show (x :: r).filter (fun y => decide (y.1 ≠ k)) = x :: r.filter (fun y => decide (y.1 ≠ k))
  rw [List.filter_cons_of_pos (by simp [h])]
def rput_c : Ctr where
  D := List KV × H256 × H256
  pre := fun (l, _, _) => l.length ≤ 1000000
  args := fun (l, k, v) => [.fs 64 eKV l, .agg [.arr8 k], .agg [.arr8 v]]
  res := fun (l, k, v) _ => .fs 64 eKV (putL k v l)
def rput_H : Cfg := ⟨[(137, rless_c)], [(6, [7, 8], [9], (.one 0 0 false (.one 1 0 false (.one 2 0 false (.one 3 0 false (.one 4 0 false (.one 5 0 false (.one 6 0 false (.one 7 1 false (.one 8 1 false (.one 9 2 false (.one 10 0 false (.one 11 0 false .nil)))))))))))), []), (9, [4, 5], [], (.one 0 0 false (.one 1 0 false (.one 2 0 false (.one 3 0 false (.one 4 1 false (.one 5 1 false (.one 6 0 false .nil))))))), [])], [], [], 57, 0, [], [], []⟩
theorem rput_ok : rput_c.Ok Tryz.prog 95 := by
  refine fn_ok rput_H 0 rfl _ Tryz.func95 rfl rfl ⟨rless_ok, trivial⟩ rfl rfl (by kernel_rfl) (fun _ => Nat.le_of_ble_eq_true rfl) ?_
  rintro ⟨l, k, v⟩ hp hr
  try dsimp only [rput_c] at hp
  try simp only [rput_c, Rng, RngL, inR, and_true, true_and] at hr
  repeat' (first | (with_reducible refine Unf.h ?_) | fail); all_goals try (conv => whnf)
  refine LoopS.autoN (I := Nat × List KV × Bool) (fun (i, o, b) => i ≤ l.length ∧ (b = false → o.length ≤ i) ∧ o.length ≤ i + 1 ∧ o ++ putI k v b (l.drop i) = putL k v l) (fun (i, o, b) => [(9, .int .i64 i), (8, .bool b), (7, .own 2)]) (fun (i, o, b) => [(0, .box 30 [.arr8 k]), (1, .box 30 [.arr8 v]), (2, .row 186 64 eKV o)]) 3 (fun (i, _, _) => l.length - i) (0, [], false) ⟨Nat.zero_le _, by simp, by simp, rfl⟩ ?_ ?_
  · repeat' (first | (with_reducible refine Unf.h ?_) | ((conv => whnf); first | (refine Side.mk ?_ ?_; focus (first | with_reducible rfl | (refine congrArg (SV.int _) ?_; omega))) | (with_reducible refine Unf.h ?_) | exact True.intro) | fail); all_goals try (conv => whnf)
  · rintro ⟨i, o, b⟩ ⟨h1, h2, h3, h4⟩
    by_cases hi : i < l.length
    · have hic : (i : Int).toNat < l.length := by omega
      rw [List.drop_eq_getElem_cons hi] at h4
      have es : l[i]'hi = l[(i : Int).toNat]'hic := by congr 1
      rw [es] at h4
      generalize hx : l[(i : Int).toNat]'hic = x at *
      have inv : ∀ (o' : List KV) (b' : Bool), (b' = false → o'.length ≤ i + 1) → o'.length ≤ i + 2 → o' ++ putI k v b' (l.drop (i + 1)) = putL k v l → l.length - (i + 1) < l.length - i ∧ i + 1 ≤ l.length ∧ (b' = false → o'.length ≤ i + 1) ∧ o'.length ≤ i + 1 + 1 ∧ o' ++ putI k v b' (l.drop (i + 1)) = putL k v l := fun o' b' g1 g2 g3 => ⟨by omega, by omega, g1, by omega, g3⟩
      cases b
      · have h2 := h2 rfl
        repeat' (first | (with_reducible first | refine Unf.h ?_ | refine loopK_n ?_) | ((conv => whnf); first | refine Fork.mkn (fun h => ?_) (fun h => ?_) | refine Fork.mk (fun h => ?_) (fun h => ?_) | (refine Side.mk ?_ ?_; focus (first | with_reducible rfl | exact True.intro | (intros; (try simp only [lenS, inR, cutS, loI, hiI, hx] at *); omega) | (simp only [*, hx]; done))) | (refine Idx.mk ?_ ?_; focus (omega)) | refine Got.mk (fun _ _ => ?_) | refine Ex.mk [_] rfl ?_ | refine CallS.mk (c := rless_c) ((x.1, k)) ?_) | fail); all_goals try (conv => whnf)
        · refine ⟨[(k, v)], rfl, ?_⟩
          rw [putI_ge h] at h4
          repeat' (first | (with_reducible first | refine Unf.h ?_ | refine loopK_n ?_) | ((conv => whnf); first | refine Fork.mkn (fun h => ?_) (fun h => ?_) | (refine Side.mk ?_ ?_; focus ((intros; (try simp only [lenS, inR, cutS, loI, hiI, hx] at *); omega))) | (refine Idx.mk ?_ ?_; focus (omega)) | refine Ex.mk [_] rfl ?_) | fail); all_goals try (conv => whnf)
          · have hne : ¬ x.1 = k := fun e => h (by rw [hx, e])
            rw [putI_other hne] at h4
            refine ⟨(i + 1, o ++ [(k, v)] ++ [x], true), inv _ _ (by simp) (by simp; omega) (by rw [← h4]; simp), ?_⟩
            repeat' (first | (with_reducible refine Unf.h ?_) | ((conv => whnf); first | (refine Side.mk ?_ ?_; focus (first | with_reducible rfl | (refine congrArg (SV.int _) ?_; omega) | (simp only [*, hx]; done))) | (with_reducible refine Unf.h ?_) | exact True.intro) | fail); all_goals try (conv => whnf)
          · have he : x.1 = k := by rw [hx] at h; exact Vector.toList_inj.1 h
            rw [putI_same he] at h4
            refine ⟨(i + 1, o ++ [(k, v)], true), inv _ _ (by simp) (by simp; omega) (by rw [← h4]; simp), ?_⟩
            repeat' (first | (with_reducible refine Unf.h ?_) | ((conv => whnf); first | (refine Side.mk ?_ ?_; focus (first | with_reducible rfl | (refine congrArg (SV.int _) ?_; omega))) | (with_reducible refine Unf.h ?_) | exact True.intro) | fail); all_goals try (conv => whnf)
        · have hl : lessP x.1 k := by assumption
          rw [putI_less hl] at h4
          refine ⟨(i + 1, o ++ [x], false), inv _ _ (by simp; omega) (by simp; omega) (by rw [← h4]; simp), ?_⟩
          repeat' (first | (with_reducible refine Unf.h ?_) | ((conv => whnf); first | (refine Side.mk ?_ ?_; focus (first | with_reducible rfl | (refine congrArg (SV.int _) ?_; omega) | (simp only [*, hx]; done))) | (with_reducible refine Unf.h ?_) | exact True.intro) | fail); all_goals try (conv => whnf)
        · have hl : lessP x.1 k := by assumption
          rw [hx] at h
          rw [Vector.toList_inj.1 h] at hl
          exact absurd hl (less_irrefl _)
        · exfalso; omega
      · clear h2
        repeat' (first | (with_reducible first | refine Unf.h ?_ | refine loopK_n ?_) | ((conv => whnf); first | refine Fork.mkn (fun h => ?_) (fun h => ?_) | refine Fork.mk (fun h => ?_) (fun h => ?_) | (refine Side.mk ?_ ?_; focus (first | omega | (intros; (try simp only [lenS, inR, cutS, loI, hiI, hx] at *); omega))) | (refine Idx.mk ?_ ?_; focus (omega)) | refine RetE.mk () trivial ?_ | refine Ex.mk [_] rfl ?_ | refine retK_r ?_ | exact rfl) | fail); all_goals try (conv => whnf)
        · have hne : ¬ x.1 = k := fun e => h (by rw [hx, e])
          rw [putI_other hne] at h4
          refine ⟨(i + 1, o ++ [x], true), inv _ _ (by simp) (by simp; omega) (by rw [← h4]; simp), ?_⟩
          repeat' (first | (with_reducible refine Unf.h ?_) | ((conv => whnf); first | (refine Side.mk ?_ ?_; focus (first | with_reducible rfl | (refine congrArg (SV.int _) ?_; omega) | (simp only [*, hx]; done))) | (with_reducible refine Unf.h ?_) | exact True.intro) | fail); all_goals try (conv => whnf)
        · rw [hx] at h
          rw [putI_same (Vector.toList_inj.1 h)] at h4
          refine ⟨(i + 1, o, true), inv _ _ (by simp) (by omega) h4, ?_⟩
          repeat' (first | (with_reducible refine Unf.h ?_) | ((conv => whnf); first | (refine Side.mk ?_ ?_; focus (first | with_reducible rfl | (refine congrArg (SV.int _) ?_; omega))) | (with_reducible refine Unf.h ?_) | exact True.intro) | fail); all_goals try (conv => whnf)
        all_goals (exfalso; omega)
    · have e : l.drop i = [] := List.drop_eq_nil_of_le (by omega)
      rw [e] at h4
      cases b
      · replace h4 : putL k v l = o ++ [(k, v)] := h4.symm
        repeat' (first | (with_reducible refine Unf.h ?_) | ((conv => whnf); first | refine Fork.mk (fun h => ?_) (fun h => ?_) | (refine Idx.mk ?_ ?_; focus (omega))) | fail); all_goals try (conv => whnf)
        · exfalso; omega
        · refine ⟨[(k, v)], rfl, ?_⟩
          repeat' (first | (with_reducible refine Unf.h ?_) | ((conv => whnf); first | (refine Side.mk ?_ ?_; focus (first | (intros; (try simp only [lenS, inR, cutS, loI, hiI, h4] at *); omega) | (simp only [*, h4]; done))) | refine RetE.mk () trivial ?_ | refine retK_r ?_ | exact rfl) | fail); all_goals try (conv => whnf)
      · replace h4 : o ++ [] = putL k v l := h4
        rw [List.append_nil] at h4
        repeat' (first | (with_reducible first | refine Unf.h ?_ | refine loopK_n ?_) | ((conv => whnf); first | refine Fork.mkn (fun h => ?_) (fun h => ?_) | refine Fork.mk (fun h => ?_) (fun h => ?_) | (refine Side.mk ?_ ?_; focus (first | omega | (simp only [*, h4]; done))) | (refine Idx.mk ?_ ?_; focus (omega)) | refine RetE.mk () trivial ?_ | refine Ex.mk [_] rfl ?_ | refine retK_r ?_ | exact rfl) | fail); all_goals try (conv => whnf)
        all_goals (exfalso; omega)
def rall_c : Ctr where
  D := List KV
  pre := fun l => l.length ≤ 100000
  args := fun l => [.fs 64 eKV l]
  res := fun l _ => .fs 64 eKV (allL l)
theorem allL_take (l : List KV) (i : Nat) (h : i < l.length) : allL (l.take (i + 1)) = putL l[i].1 l[i].2 (allL (l.take i)) := by
  rw [List.take_succ_eq_append_getElem h, allL_snoc]
theorem allL_len : ∀ (n : Nat) (l : List KV), l.length = n → (allL l).length ≤ n
  | 0, l, h => by obtain rfl := List.eq_nil_of_length_eq_zero h; exact Nat.le_refl _
  | n + 1, l, h => by
    have hne : l ≠ [] := fun e => by subst e; cases h
    obtain ⟨qs, p, rfl⟩ : ∃ qs p, l = qs ++ [p] := ⟨l.dropLast, l.getLast hne, (List.dropLast_concat_getLast hne).symm⟩
    have ih := allL_len n qs (by simpa using h)
    have := putL_len p.1 p.2 (allL qs)
    rw [allL_snoc]; omega
end Go.Proofs.YtdflndjlnkoliaaGreatDoor

namespace Go.Proofs.YtdflndjlnkoliaaGreatDoor
set_option linter.all false
open Go.RowKit
/-! the chapter's trees -/
def getO (l : List KV) (k : H256) : Option KV := l.find? fun x => decide (x.1 = k)
def valO : Option KV → H256
  | none => zeroH
  | some x => x.2
theorem getO_cons (x : KV) (r : List KV) (k : H256) : getO (x :: r) k = if x.1 = k then some x else getO r k := by
  unfold getO
  by_cases h : x.1 = k
  · rw [if_pos h, List.find?_cons_of_pos (by simp [h])]
  · rw [if_neg h, List.find?_cons_of_neg (by simp [h])]
def rget_c : Ctr where
  D := List KV × H256
  args := fun (l, k) => [.fs 64 eKV l, .agg [.arr8 k]]
  res := fun (l, k) _ => .tup [.agg [.arr8 (valO (getO l k))], .dec ((getO l k).isSome = true) inferInstance]
/-! the longest prefix that holds all -/
def rover_c : Ctr where
  D := Pfx × PT × PT
  pre := fun (p, a, b) => (PT.node p a b).wf
  args := fun (_, a, b) => [.fs 64 eKV (a.list ++ b.list)]
  res := fun (p, _, _) _ => .agg (ePfx p)
theorem app_first {a b : PT} (i : Nat) (hi : i = 0) (h : i < (a.list ++ b.list).length) : (a.list ++ b.list)[i] ∈ a.list := by
  subst hi
  rw [List.getElem_append_left (list_pos a)]; exact List.getElem_mem _
theorem app_last {a b : PT} (i : Nat) (hi : i = a.list.length + b.list.length - 1) (h : i < (a.list ++ b.list).length) : (a.list ++ b.list)[i] ∈ b.list := by
  have := list_pos b
  rw [List.getElem_append_right (by omega)]; exact List.getElem_mem _
def rover_H : Cfg := ⟨[(135, rshared_c), (134, rcut_c)], [(1, [3, 10], [11, 12, 13, 14], (.one 0 0 false (.one 1 0 false (.one 2 0 false (.one 3 1 false (.one 4 0 false (.one 5 0 false (.one 6 0 false (.one 7 0 false (.one 8 0 false (.one 9 0 false (.one 10 1 false (.alt 11 true (.one 12 2 true (.one 13 2 true (.one 14 2 false .nil))) (.one 12 2 true (.one 11 2 true (.one 13 2 true (.one 14 2 false .nil)))))))))))))))), []), (2, [0, 1, 2], [3, 4, 5], (.one 0 1 false (.one 1 1 false (.one 2 1 false (.one 3 2 true (.one 4 2 false (.one 5 2 false .nil)))))), [])], [], [], 21, 0, [], [1], []⟩
theorem rover_ok : rover_c.Ok Tryz.prog 91 := by
  refine fn_ok rover_H 0 rfl _ Tryz.func91 rfl rfl ⟨rshared_ok, rcut_ok, trivial⟩ rfl rfl (by kernel_rfl) (fun _ => Nat.le_of_ble_eq_true rfl) ?_
  rintro ⟨p, a, b⟩ hp hr
  try dsimp only [rover_c] at hp
  try simp only [rover_c, Rng, RngL, inR, and_true, true_and] at hr
  have la := list_pos a
  have lb := list_pos b
  have hlen : (a.list ++ b.list).length = a.list.length + b.list.length := List.length_append
  have h0 : (0 : Int).toNat < (a.list ++ b.list).length := by show 0 < _; omega
  have h1 : (((a.list ++ b.list).length : Int) - 1).toNat < (a.list ++ b.list).length := by omega
  have hx : (a.list ++ b.list)[(0 : Int).toNat]'h0 ∈ a.list := app_first _ rfl h0
  have hy : (a.list ++ b.list)[(((a.list ++ b.list).length : Int) - 1).toNat]'h1 ∈ b.list := app_last _ (by omega) h1
  have ho := (over_spec hp hx hy).2
  repeat' (first | (with_reducible refine Unf.h ?_) | fail); all_goals try (conv => whnf)
  refine CutS.auto (I := Unit) (fun _ => True) (fun _ => [(3, .ptr 1 0), (4, .ptr 2 0)]) (fun _ => [(1, .box 30 [.arr8 ((a.list ++ b.list)[(0 : Int).toNat]'h0).1]), (2, .box 30 [.arr8 ((a.list ++ b.list)[(((a.list ++ b.list).length : Int) - 1).toNat]'h1).1]), (0, .box 58 [.int .i64 0, .arr8 zeroH])]) 3 ?_ ?_
  · repeat' (first | (with_reducible first | refine Unf.h ?_ | refine cutK_n ?_) | ((conv => whnf); first | refine Both.mk ?_ ?_ | (refine Side.mk ?_ ?_; focus ((intros; (try simp only [lenS, inR, cutS, loI, hiI] at *); omega))) | (refine Idx.mk ?_ ?_; focus (omega))) | fail); all_goals try (conv => whnf)
    all_goals (refine ⟨(), trivial, ?_⟩)
    all_goals repeat' (first | (with_reducible refine Unf.h ?_) | ((conv => whnf); first | (refine Side.mk ?_ ?_; focus (with_reducible rfl)) | (with_reducible refine Unf.h ?_) | exact True.intro) | fail); all_goals try (conv => whnf)
  · intro _ _
    generalize (a.list ++ b.list)[(0 : Int).toNat]'h0 = x at *
    generalize (a.list ++ b.list)[(((a.list ++ b.list).length : Int) - 1).toNat]'h1 = y at *
    repeat' (first | (with_reducible refine Unf.h ?_) | ((conv => whnf); first | (refine Side.mk ?_ ?_; focus (first | with_reducible rfl | exact True.intro | (simp only [*, ho]; done))) | refine RetE.mk () trivial ?_ | refine Got.mk (fun _ _ => ?_) | refine retK_r ?_ | exact rfl | refine CallS.mk (c := rshared_c) ((x.1, y.1)) ?_ | refine CallS.mk (c := rcut_c) ((x.1, (shared x.1 y.1 : Int))) ?_) | fail); all_goals try (conv => whnf)
/-! how many keys have a 0 behind -/
def rpart_c : Ctr where
  D := Pfx × PT × PT
  pre := fun (p, a, b) => (PT.node p a b).wf
  args := fun (p, a, b) => [.fs 64 eKV (a.list ++ b.list), .agg (ePfx p)]
  res := fun (_, a, _) _ => .int .i64 a.list.length
theorem part_bit {p : Pfx} {a b : PT} (hp : (PT.node p a b).wf) (i : Nat) (h : i < (a.list ++ b.list).length) : bitI ((a.list ++ b.list)[i]).1 p.len = 0 ↔ i < a.list.length := by
  have h0 := hp.1.1.1
  by_cases hi : i < a.list.length
  · rw [List.getElem_append_left hi]
    have := (wf_left hp (List.getElem_mem hi)).2
    have hn : ¬ bitI (a.list[i]).1 p.len = 1 := fun h' => by rw [(bitI_kb h0).1 h'] at this; cases this
    rcases bitI_01 (a.list[i]).1 p.len with e | e
    · simp [e, hi]
    · exact absurd e hn
  · rw [List.getElem_append_right (by omega)]
    have hm := (wf_right hp (List.getElem_mem (show i - a.list.length < b.list.length by rw [List.length_append] at h; omega))).2
    rw [(bitI_kb h0).2 hm]; simp [hi]
def rpart_H : Cfg := ⟨[(94, rbit_c)], [(2, [9, 11], [12], (.one 0 0 false (.one 1 0 false (.one 2 0 false (.one 3 0 false (.one 4 0 false (.one 5 0 false (.one 6 0 false (.one 7 0 false (.one 8 0 false (.one 9 1 false (.one 10 0 false (.one 11 1 false (.one 12 2 false (.one 13 0 false (.one 14 0 false .nil))))))))))))))), [])], [], [], 24, 0, [], [], []⟩
theorem rpart_ok : rpart_c.Ok Tryz.prog 92 := by
  refine fn_ok rpart_H 0 rfl _ Tryz.func92 rfl rfl ⟨rbit_ok, trivial⟩ rfl rfl (by kernel_rfl) (fun _ => Nat.le_of_ble_eq_true rfl) ?_
  rintro ⟨p, a, b⟩ hp hr
  try dsimp only [rpart_c] at hp
  try simp only [rpart_c, Rng, RngL, inR, and_true, true_and] at hr
  have lb := list_pos b
  have hlen : (a.list ++ b.list).length = a.list.length + b.list.length := List.length_append
  have hbit := part_bit hp
  generalize hl : a.list ++ b.list = l at *
  repeat' (first | (with_reducible refine Unf.h ?_) | fail); all_goals try (conv => whnf)
  refine LoopS.auto (fun i : Nat => i ≤ a.list.length) (fun i => [(5, .int .i64 i)]) (fun _ => [(0, .box 58 (ePfx p))]) (fun i => a.list.length - i) 0 (by omega) ?_ ?_
  · repeat' (first | (with_reducible refine Unf.h ?_) | ((conv => whnf); first | (refine Side.mk ?_ ?_; focus (first | with_reducible rfl | (refine congrArg (SV.int _) ?_; omega))) | (with_reducible refine Unf.h ?_) | exact True.intro) | fail); all_goals try (conv => whnf)
  · intro i hi
    have hic : (i : Int).toNat < l.length := by omega
    have hb := hbit (i : Int).toNat hic
    repeat' (first | (with_reducible first | refine Unf.h ?_ | refine loopK_n ?_) | ((conv => whnf); first | refine Fork.mk (fun h => ?_) (fun h => ?_) | (refine Side.mk ?_ ?_; focus (first | with_reducible rfl | exact True.intro | (refine congrArg (SV.int _) ?_; omega) | (intros; (try simp only [lenS, inR, cutS, loI, hiI] at *); omega) | (simp only [*]; done))) | (refine Idx.mk ?_ ?_; focus (omega)) | refine RetE.mk () trivial ?_ | refine Got.mk (fun _ _ => ?_) | refine retK_r ?_ | exact rfl | refine CallS.mk (c := rbit_c) (((l[(i : Int).toNat]'hic).1, p.len)) ?_) | fail); all_goals try (conv => whnf)
    · have := hb.1 (by assumption)
      refine ⟨i + 1, ⟨by omega, by omega⟩, ?_⟩
      repeat' (first | (with_reducible refine Unf.h ?_) | ((conv => whnf); first | (refine Side.mk ?_ ?_; focus (first | with_reducible rfl | (refine congrArg (SV.int _) ?_; omega))) | (with_reducible refine Unf.h ?_) | exact True.intro) | fail); all_goals try (conv => whnf)
  /-! the root of a list -/
def PT.text : PT → Bs
  | .leaf k v => leafT k v
  | .node p a b => innerT p.len p.bits a.hash b.hash
theorem hash_text (T : PT) : T.hash = sha T.text := by cases T <;> rfl
theorem text_len (T : PT) : T.text.length ≤ 1000000000 := by
  cases T with
  | leaf k v => exact leafT_len k v
  | node p a b => exact innerT_len p.len p.bits a.hash b.hash
def hashO : Option PT → H256
  | none => emptyH
  | some T => T.hash
def rtop_c (n : Nat) : Ctr where
  D := PT
  pre := fun T => T.wf ∧ T.depth ≤ n
  args := fun T => [.fs 64 eKV T.list]
  res := fun T _ => .fs 1 eB T.text
def rroot_c (n : Nat) : Ctr where
  D := Option PT
  pre := fun o => wfO o ∧ depthO o < n
  args := fun o => [.fs 64 eKV (listO o)]
  res := fun o _ => .agg [.arr8 (hashO o)]
def rtop_H (n : Nat): Cfg := ⟨[(159, rleaf_c), (91, rover_c), (92, rpart_c), (79, (rroot_c n)), (160, rinner_c)], [(5, [0], [4, 8, 9], (.one 0 1 false (.one 1 0 false (.one 2 0 false (.one 3 0 false (.one 5 0 false (.one 6 0 false (.one 7 0 false (.one 4 2 true (.one 8 2 true (.one 9 2 false (.one 10 0 false .nil))))))))))), [])], [], [], 27, 0, [], [], []⟩
theorem rtop_ok (n : Nat) (h : (rroot_c n).Ok Tryz.prog 79): (rtop_c n).Ok Tryz.prog 120 := by
  refine fn_ok (rtop_H n) 0 rfl _ Tryz.func120 rfl rfl ⟨rleaf_ok, rover_ok, rpart_ok, h, rinner_ok, trivial⟩ rfl rfl (by kernel_rfl) (fun _ => Nat.le_of_ble_eq_true rfl) ?_
  intro (T : PT) hp hr
  try dsimp only [rtop_c] at hp
  try simp only [rtop_c, Rng, RngL, inR, and_true, true_and] at hr
  obtain ⟨hw, hd⟩ := hp
  cases T with
  | leaf k v =>
    have e : (PT.leaf k v).list = [(k, v)] := rfl
    have e2 : (PT.leaf k v).text = leafT k v := rfl
    repeat' (first | (with_reducible refine Unf.h ?_) | ((conv => whnf); first | refine Fork.mk (fun h => ?_) (fun h => ?_) | (refine Side.mk ?_ ?_; focus (first | exact True.intro | (simp only [*, e, e2]; done) | (simp [*, e, e2]; done))) | (refine Idx.mk ?_ ?_; focus (omega)) | refine RetE.mk () trivial ?_ | refine Got.mk (fun _ _ => ?_) | refine retK_r ?_ | exact rfl | refine CallS.mk (c := rleaf_c) ((k, v)) ?_) | fail); all_goals try (conv => whnf)
    exact absurd rfl h
  | node p a b =>
    have e : (PT.node p a b).list = a.list ++ b.list := rfl
    rw [e] at hr
    show Vc _ _ _ (argE [.fs 64 eKV (a.list ++ b.list)] 0) _ _ _
    have hlen : (a.list ++ b.list).length = a.list.length + b.list.length := List.length_append
    have la := list_pos a
    have lb := list_pos b
    have h0 := hw.1.1.1
    have h1 := hw.1.2
    have hpa : (rroot_c n).pre (some a) := ⟨hw.2.2.2.1, by simp only [PT.depth] at hd; show a.depth < n; omega⟩
    have hpb : (rroot_c n).pre (some b) := ⟨hw.2.2.2.2, by simp only [PT.depth] at hd; show b.depth < n; omega⟩
    have ca : cutL (a.list ++ b.list) none (some (a.list.length : Int)) = a.list := by simp [cutL, loI, hiI]
    have cb : cutL (a.list ++ b.list) (some (a.list.length : Int)) none = b.list := by simp [cutL, loI, hiI]
    have e2 : (PT.node p a b).text = innerT p.len p.bits a.hash b.hash := rfl
    repeat' (first | (with_reducible refine Unf.h ?_) | ((conv => whnf); first | refine Fork.mk (fun h => ?_) (fun h => ?_) | (refine Side.mk ?_ ?_; focus (first | with_reducible rfl | assumption | (intros; (try simp only [lenS, inR, cutS, loI, hiI] at *); omega))) | (refine Idx.mk ?_ ?_; focus (omega)) | refine Got.mk (fun _ _ => ?_) | refine CallS.mk (c := rover_c) ((p, a, b)) ?_ | refine CallS.mk (c := rpart_c) ((p, a, b)) ?_) | fail); all_goals try (conv => whnf)
    · exfalso; omega
    · refine CallS.mk (c := rroot_c n) (some a) ?_
      repeat' (first | (with_reducible refine Unf.h ?_) | ((conv => whnf); first | (refine Side.mk ?_ ?_; focus (first | assumption | (simp only [*, ca, listO]; done))) | refine Got.mk (fun _ _ => ?_)) | fail); all_goals try (conv => whnf)
      refine CallS.mk (c := rroot_c n) (some b) ?_
      repeat' (first | (with_reducible refine Unf.h ?_) | ((conv => whnf); first | (refine Side.mk ?_ ?_; focus (first | with_reducible rfl | exact True.intro | assumption | (simp only [*, cb, listO, hashO, e2]; done))) | refine RetE.mk () trivial ?_ | refine Got.mk (fun _ _ => ?_) | refine retK_r ?_ | exact rfl | refine CallS.mk (c := rinner_c) ((p.len, p.bits, a.hash, b.hash)) ?_) | fail); all_goals try (conv => whnf)
def rroot_H (n : Nat): Cfg := ⟨[(119, rempty_c), (120, (rtop_c n)), (117, refsum_c)], [], [], [], 10, 0, [], [], []⟩
theorem rroot_ok (n : Nat) (h : (rtop_c n).Ok Tryz.prog 120): (rroot_c (n + 1)).Ok Tryz.prog 79 := by
  refine fn_ok (rroot_H n) 0 rfl _ Tryz.func79 rfl rfl ⟨rempty_ok, h, refsum_ok, trivial⟩ rfl rfl (by kernel_rfl) (fun _ => Nat.le_of_ble_eq_true rfl) ?_
  intro (o : Option PT) hp hr
  try dsimp only [rroot_c] at hp
  try simp only [rroot_c, Rng, RngL, inR, and_true, true_and] at hr
  obtain ⟨hw, hd⟩ := hp
  cases o with
  | none =>
    repeat' (first | (with_reducible refine Unf.h ?_) | ((conv => whnf); first | refine Fork.mk (fun h => ?_) (fun h => ?_) | (refine Side.mk ?_ ?_; focus (first | exact True.intro | (simp only [*, hashO]; done))) | refine RetE.mk () trivial ?_ | refine Got.mk (fun _ _ => ?_) | refine retK_r ?_ | exact rfl | refine CallS.mk (c := rempty_c) (()) ?_) | fail); all_goals try (conv => whnf)
    exact absurd rfl h
  | some T =>
    have e := hash_text T
    have lt := list_pos T
    have hpre : (rtop_c n).pre T := ⟨hw, by have : T.depth < n + 1 := hd; omega⟩
    have htl := text_len T
    repeat' (first | (with_reducible refine Unf.h ?_) | ((conv => whnf); first | refine Fork.mk (fun h => ?_) (fun h => ?_) | (refine Side.mk ?_ ?_; focus (first | with_reducible rfl | assumption | (simp only [*, hashO, listO, e]; done))) | refine RetE.mk () trivial ?_ | refine Got.mk (fun _ _ => ?_) | refine retK_r ?_ | exact rfl | refine CallS.mk (T) ?_ | refine CallS.mk (c := refsum_c) (T.text) ?_) | fail); all_goals try (conv => whnf)
    have : T.list.length = 0 := by have h' : (T.list.length : Int) = 0 := h; omega
    omega
theorem rroot_all : ∀ n, (rroot_c n).Ok Tryz.prog 79
  | 0 => fun o hp => absurd hp.2 (Nat.not_lt_zero _)
  | n + 1 => rroot_ok n (rtop_ok n (rroot_all n))
theorem rroot1000_ok : (rroot_c 1000).Ok Tryz.prog 79 := rroot_all 1000
end Go.Proofs.YtdflndjlnkoliaaGreatDoor

namespace Go.Proofs.YtdflndjlnkoliaaGreatDoor
set_option linter.all false
open Go.RowKit
/-! the document's directories: trees, and what the log holds -/
theorem kvs_step (es : List (List Nws)) (i : Nat) (h : i < es.length) : kvs (es.take (i + 1)) = kvs (es.take i) ++ es[i].map kvN := by
  rw [List.take_succ_eq_append_getElem h, kvs_snoc]
def rpairs19_c : Ctr where
  D := H256 × List (List Nws) × Nat
  pre := fun (_, es, _) => RdOk es
  args := fun (s, es, e) => [rSt s es, .int .i64 (e : Int)]
  res := fun (_, es, e) _ => .fs 64 eKV (allL (kvs (es.take e)))
def rpairs19_H : Cfg := ⟨[(52, rkey14_c), (81, rcommit_c), (95, rput_c)], [(9, [2, 5, 7], [3, 8, 9], (.one 0 0 false (.one 1 0 false (.one 2 1 false (.one 4 0 false (.one 5 1 false (.one 6 0 false (.one 7 1 false (.one 3 2 true (.one 8 2 false (.one 9 2 false (.one 10 0 false .nil))))))))))), [])], [], [], 56, 0, [], [], []⟩
theorem rpairs19_ok : rpairs19_c.Ok Tryz.prog 51 := by
  refine fn_ok rpairs19_H 0 rfl _ Tryz.func51 rfl rfl ⟨rkey14_ok, rcommit_ok, rput_ok, trivial⟩ rfl rfl (by kernel_rfl) (fun _ => Nat.le_of_ble_eq_true rfl) ?_
  rintro ⟨s, es, e⟩ hp hr
  try dsimp only [rpairs19_c] at hp
  try simp only [rpairs19_c, Rng, RngL, inR, and_true, true_and] at hr
  have hp : RdOk es := hp
  have hkl : ∀ i, (kvs (es.take i)).length ≤ 3000 := fun i => by
    have h2 := flat_few (es.take i) 100 fun n hn => hp.few n (List.mem_of_mem_take hn)
    have h3 : (es.take i).length ≤ es.length := by simp; omega
    have := hp.len
    show ((es.take i).flatten.map kvN).length ≤ 3000
    rw [List.length_map]; omega
  repeat' (first | (with_reducible refine Unf.h ?_) | fail); all_goals try (conv => whnf); all_goals try (exfalso; omega)
  refine LoopS.autoN (I := Nat) (fun i => i ≤ es.length ∧ i ≤ e) (fun i => [(6, .int .i64 (i : Int)), (5, .fs 64 eKV (allL (kvs (es.take i))))]) (fun _ => []) 0 (fun i => es.length - i) 0 ⟨Nat.zero_le _, Nat.zero_le _⟩ ?_ ?_
  · have e0 : allL (kvs (es.take 0)) = [] := rfl
    repeat' (first | (with_reducible refine Unf.h ?_) | ((conv => whnf); first | (refine Side.mk ?_ ?_; focus (first | with_reducible rfl | assumption | (refine congrArg (SV.int _) ?_; omega))) | (with_reducible refine Unf.h ?_) | exact True.intro) | fail); all_goals try (conv => whnf); all_goals try (exfalso; omega)
  · rintro i ⟨hi, hie⟩
    have hi : i ≤ es.length := hi
    have hie : i ≤ e := hie
    have hkli := hkl i
    by_cases hil : i < es.length ∧ i < e
    · obtain ⟨hil, hil2⟩ := hil
      have hnm : (es[((i : Nat) : Int).toNat]'hil) ∈ es := List.getElem_mem _
      have hnl := hp.few (es[((i : Nat) : Int).toNat]'hil) hnm
      have es1 : kvs (es.take (i + 1)) = kvs (es.take i) ++ (es[((i : Nat) : Int).toNat]'hil).map kvN := kvs_step es i hil
      repeat' (first | (with_reducible refine Unf.h ?_) | ((conv => whnf); refine Fork.mk (fun h => ?_) (fun h => ?_)) | fail); all_goals try (conv => whnf); all_goals try (exfalso; omega)
      refine LoopS.autoN (I := Nat) (fun k => k ≤ (es[((i : Nat) : Int).toNat]'hil).length) (fun k => [(7, .int .i64 (k : Int)), (5, .fs 64 eKV (allL (kvs (es.take i) ++ ((es[((i : Nat) : Int).toNat]'hil).take k).map kvN)))]) (fun _ => []) 0 (fun k => (es[((i : Nat) : Int).toNat]'hil).length - k) 0 (Nat.zero_le _) ?_ ?_
      · have e0 : allL (kvs (es.take i) ++ ((es[((i : Nat) : Int).toNat]'hil).take 0).map kvN) = allL (kvs (es.take i)) := by simp
        repeat' (first | (with_reducible refine Unf.h ?_) | ((conv => whnf); first | (refine Side.mk ?_ ?_; focus (first | with_reducible rfl | (refine congrArg (SV.int _) ?_; omega) | (simp only [*, e0]; done))) | (with_reducible refine Unf.h ?_) | exact True.intro) | fail); all_goals try (conv => whnf); all_goals try (exfalso; omega)
      · intro k hk
        have hk : k ≤ (es[((i : Nat) : Int).toNat]'hil).length := hk
        by_cases hkl2 : k < (es[((i : Nat) : Int).toNat]'hil).length
        · obtain ⟨hpl, hpv⟩ := hp.lab (es[((i : Nat) : Int).toNat]'hil) hnm ((es[((i : Nat) : Int).toNat]'hil)[((k : Nat) : Int).toNat]'hkl2) (List.getElem_mem _)
          have ek : allL (kvs (es.take i) ++ ((es[((i : Nat) : Int).toNat]'hil).take (k + 1)).map kvN) = putL (keyL ((es[((i : Nat) : Int).toNat]'hil)[((k : Nat) : Int).toNat]'hkl2).1) (cmL ((es[((i : Nat) : Int).toNat]'hil)[((k : Nat) : Int).toNat]'hkl2).1 ((es[((i : Nat) : Int).toNat]'hil)[((k : Nat) : Int).toNat]'hkl2).2) (allL (kvs (es.take i) ++ ((es[((i : Nat) : Int).toNat]'hil).take k).map kvN)) := by
            rw [List.take_succ_eq_append_getElem hkl2, List.map_append, ← List.append_assoc]
            exact allL_snoc _ _
          have hll := allL_len _ (kvs (es.take i) ++ ((es[((i : Nat) : Int).toNat]'hil).take k).map kvN) rfl
          have hlk : (kvs (es.take i) ++ ((es[((i : Nat) : Int).toNat]'hil).take k).map kvN).length ≤ 4000 := by rw [List.length_append, List.length_map, List.length_take]; omega
          have h1 : rkey14_c.pre ((es[((i : Nat) : Int).toNat]'hil)[((k : Nat) : Int).toNat]'hkl2).1 := by show ((es[((i : Nat) : Int).toNat]'hil)[((k : Nat) : Int).toNat]'hkl2).1.length ≤ 1000000; omega
          have h2 : rcommit_c.pre (((es[((i : Nat) : Int).toNat]'hil)[((k : Nat) : Int).toNat]'hkl2).1, ((es[((i : Nat) : Int).toNat]'hil)[((k : Nat) : Int).toNat]'hkl2).2) := ⟨by show ((es[((i : Nat) : Int).toNat]'hil)[((k : Nat) : Int).toNat]'hkl2).1.length ≤ 1000000; omega, by show ((es[((i : Nat) : Int).toNat]'hil)[((k : Nat) : Int).toNat]'hkl2).2.val.length ≤ 1000000; omega⟩
          have h3 : rput_c.pre (allL (kvs (es.take i) ++ ((es[((i : Nat) : Int).toNat]'hil).take k).map kvN), keyL ((es[((i : Nat) : Int).toNat]'hil)[((k : Nat) : Int).toNat]'hkl2).1, cmL ((es[((i : Nat) : Int).toNat]'hil)[((k : Nat) : Int).toNat]'hkl2).1 ((es[((i : Nat) : Int).toNat]'hil)[((k : Nat) : Int).toNat]'hkl2).2) := by show (allL _).length ≤ 1000000; omega
          repeat' (first | (with_reducible refine Unf.h ?_) | ((conv => whnf); first | refine Fork.mk (fun h => ?_) (fun h => ?_) | (refine Idx.mk ?_ ?_; focus (omega))) | fail); all_goals try (conv => whnf); all_goals try (exfalso; omega)
          refine CallS.mk (c := rkey14_c) (((es[((i : Nat) : Int).toNat]'hil)[((k : Nat) : Int).toNat]'hkl2).1) ?_
          repeat' (first | (with_reducible refine Unf.h ?_) | ((conv => whnf); first | (refine Side.mk ?_ ?_; focus (first | with_reducible rfl | assumption)) | refine Got.mk (fun _ _ => ?_)) | fail); all_goals try (conv => whnf); all_goals try (exfalso; omega)
          refine CallS.mk (c := rcommit_c) ((((es[((i : Nat) : Int).toNat]'hil)[((k : Nat) : Int).toNat]'hkl2).1, ((es[((i : Nat) : Int).toNat]'hil)[((k : Nat) : Int).toNat]'hkl2).2)) ?_
          repeat' (first | (with_reducible refine Unf.h ?_) | ((conv => whnf); first | (refine Side.mk ?_ ?_; focus (first | with_reducible rfl | assumption)) | refine Got.mk (fun _ _ => ?_)) | fail); all_goals try (conv => whnf); all_goals try (exfalso; omega)
          refine CallS.mk (c := rput_c) ((allL (kvs (es.take i) ++ ((es[((i : Nat) : Int).toNat]'hil).take k).map kvN), keyL ((es[((i : Nat) : Int).toNat]'hil)[((k : Nat) : Int).toNat]'hkl2).1, cmL ((es[((i : Nat) : Int).toNat]'hil)[((k : Nat) : Int).toNat]'hkl2).1 ((es[((i : Nat) : Int).toNat]'hil)[((k : Nat) : Int).toNat]'hkl2).2)) ?_
          repeat' (first | (with_reducible first | refine Unf.h ?_ | refine loopK_n ?_) | ((conv => whnf); first | (refine Side.mk ?_ ?_; focus (first | with_reducible rfl | assumption | (intros; (try simp only [lenS, inR, cutS, loI, hiI] at *); omega))) | refine Got.mk (fun _ _ => ?_)) | fail); all_goals try (conv => whnf); all_goals try (exfalso; omega)
          refine ⟨k + 1, ⟨by omega, by omega⟩, ?_⟩
          rw [ek]
          repeat' (first | (with_reducible refine Unf.h ?_) | ((conv => whnf); first | (refine Side.mk ?_ ?_; focus (first | with_reducible rfl | (refine congrArg (SV.int _) ?_; omega))) | (with_reducible refine Unf.h ?_) | exact True.intro) | fail); all_goals try (conv => whnf); all_goals try (exfalso; omega)
        · have e0 : (es[((i : Nat) : Int).toNat]'hil).take k = (es[((i : Nat) : Int).toNat]'hil) := List.take_of_length_le (by omega)
          rw [e0, ← es1]
          repeat' (first | (with_reducible first | refine Unf.h ?_ | refine loopK_n ?_) | ((conv => whnf); first | refine Fork.mk (fun h => ?_) (fun h => ?_) | (refine Side.mk ?_ ?_; focus ((intros; (try simp only [lenS, inR, cutS, loI, hiI] at *); omega))) | (refine Idx.mk ?_ ?_; focus (omega))) | fail); all_goals try (conv => whnf); all_goals try (exfalso; omega)
          refine ⟨i + 1, ⟨by omega, by omega, by omega⟩, ?_⟩
          repeat' (first | (with_reducible refine Unf.h ?_) | ((conv => whnf); first | (refine Side.mk ?_ ?_; focus (first | with_reducible rfl | (refine congrArg (SV.int _) ?_; omega))) | (with_reducible refine Unf.h ?_) | exact True.intro) | fail); all_goals try (conv => whnf); all_goals try (exfalso; omega)
    · have e1 : es.take e = es.take i := by
        rcases Nat.lt_or_ge i e with h' | h'
        · rw [List.take_of_length_le (by omega), List.take_of_length_le (by omega)]
        · rw [show e = i by omega]
      repeat' (first | (with_reducible refine Unf.h ?_) | ((conv => whnf); first | refine Fork.mk (fun h => ?_) (fun h => ?_) | (refine Side.mk ?_ ?_; focus ((simp only [*, e1]; done))) | refine RetE.mk () trivial ?_ | refine retK_r ?_ | exact rfl) | fail); all_goals try (conv => whnf); all_goals try (exfalso; omega)
def rootD (es : List (List Nws)) (e : Nat) : H256 := hashO (treesF (kvs (es.take e)))
def rtree19_c : Ctr where
  D := H256 × List (List Nws) × Nat
  pre := fun (_, es, _) => RdOk es ∧ ∀ i, (kvs (es.take i)).length ≤ 900
  args := fun (s, es, e) => [rSt s es, .int .i64 (e : Int)]
  res := fun (_, es, e) _ => .agg [.arr8 (rootD es e)]
def rtree19_H : Cfg := ⟨[(51, rpairs19_c), (79, (rroot_c 1000))], [], [], [], 9, 0, [], [], []⟩
theorem rtree19_ok : rtree19_c.Ok Tryz.prog 35 := by
  refine fn_ok rtree19_H 0 rfl _ Tryz.func35 rfl rfl ⟨rpairs19_ok, rroot1000_ok, trivial⟩ rfl rfl (by kernel_rfl) (fun _ => Nat.le_of_ble_eq_true rfl) ?_
  rintro ⟨s, es, e⟩ hp hr
  try dsimp only [rtree19_c] at hp
  try simp only [rtree19_c, Rng, RngL, inR, and_true, true_and] at hr
  obtain ⟨hp1, hp2⟩ := hp
  have hpp : rpairs19_c.pre (s, es, e) := hp1
  have hat := all_trees (kvs (es.take e))
  have hd := (builtOk (kvs (es.take e))).depth
  have hw := built_wf (kvs (es.take e))
  have hkl := hp2 e
  have hpr : (rroot_c 1000).pre (treesF (kvs (es.take e))) := ⟨hw, by omega⟩
  repeat' (first | (with_reducible refine Unf.h ?_) | fail); all_goals try (conv => whnf); all_goals try (exfalso; omega)
  refine CallS.mk (c := rpairs19_c) ((s, es, e)) ?_
  repeat' (first | (with_reducible refine Unf.h ?_) | ((conv => whnf); first | (refine Side.mk ?_ ?_; focus (first | with_reducible rfl | assumption)) | refine Got.mk (fun _ _ => ?_)) | fail); all_goals try (conv => whnf); all_goals try (exfalso; omega)
  rw [hat]
  refine CallS.mk (c := rroot_c 1000) (treesF (kvs (es.take e))) ?_
  repeat' (first | (with_reducible refine Unf.h ?_) | ((conv => whnf); first | (refine Side.mk ?_ ?_; focus (first | with_reducible rfl | assumption | (simp only [*, rootD]; done))) | refine RetE.mk () trivial ?_ | refine Got.mk (fun _ _ => ?_) | refine retK_r ?_ | exact rfl) | fail); all_goals try (conv => whnf); all_goals try (exfalso; omega)
/-- what the log of the first epochs holds -/
def entsD (es : List (List Nws)) (n : Nat) : List H256 := (List.range n).map fun i : Nat => entH ((i : Int) + 1) (rootD es (i + 1))
theorem entsD_succ (es : List (List Nws)) (n : Nat) : entsD es (n + 1) = entsD es n ++ [entH ((n : Int) + 1) (rootD es (n + 1))] := by unfold entsD; rw [List.range_succ, List.map_append]; rfl
theorem entsD_len (es : List (List Nws)) (n : Nat) : (entsD es n).length = n := by simp [entsD]
def rents_c : Ctr where
  D := H256 × List (List Nws) × Nat
  pre := fun (_, es, n) => (RdOk es ∧ ∀ i, (kvs (es.take i)).length ≤ 900) ∧ n ≤ 1000
  args := fun (s, es, n) => [rSt s es, .int .i64 (n : Int)]
  res := fun (_, es, n) _ => .fs 32 (fun v : H256 => [.arr8 v]) (entsD es n)
def rents_H : Cfg := ⟨[(35, rtree19_c), (34, rentry17_c)], [], [], [], 21, 0, [], [], []⟩
theorem rents_ok : rents_c.Ok Tryz.prog 12 := by
  refine fn_ok rents_H 0 rfl _ Tryz.func12 rfl rfl ⟨rtree19_ok, rentry17_ok, trivial⟩ rfl rfl (by kernel_rfl) (fun _ => Nat.le_of_ble_eq_true rfl) ?_
  rintro ⟨s, es, n⟩ hp hr
  try dsimp only [rents_c] at hp
  try simp only [rents_c, Rng, RngL, inR, and_true, true_and] at hr
  obtain ⟨hp1, hp2⟩ := hp
  have hp2 : n ≤ 1000 := hp2
  repeat' (first | (with_reducible refine Unf.h ?_) | fail); all_goals try (conv => whnf); all_goals try (exfalso; omega)
  refine LoopS.autoN (I := Nat) (fun i => i ≤ n) (fun i => [(6, .int .i64 ((i : Int) + 1)), (5, .own 0)]) (fun i => [(0, .row 30 32 (fun v : H256 => [.arr8 v]) (entsD es i))]) 1 (fun i => n - i) 0 (Nat.zero_le _) ?_ ?_
  · have e0 : entsD es 0 = [] := rfl
    repeat' (first | (with_reducible refine Unf.h ?_) | ((conv => whnf); first | (refine Side.mk ?_ ?_; focus (first | with_reducible rfl | assumption | (refine congrArg (SV.int _) ?_; omega))) | (with_reducible refine Unf.h ?_) | exact True.intro) | fail); all_goals try (conv => whnf); all_goals try (exfalso; omega)
  · intro i hi
    have hi : i ≤ n := hi
    have hel := entsD_len es i
    rcases Nat.lt_or_ge i n with hin | hin
    · have hpt : rtree19_c.pre (s, es, i + 1) := hp1
      have es1 := entsD_succ es i
      repeat' (first | (with_reducible refine Unf.h ?_) | ((conv => whnf); refine Fork.mk (fun h => ?_) (fun h => ?_)) | fail); all_goals try (conv => whnf); all_goals try (exfalso; omega)
      refine CallS.mk (c := rtree19_c) ((s, es, i + 1)) ?_
      repeat' (first | (with_reducible refine Unf.h ?_) | ((conv => whnf); first | (refine Side.mk ?_ ?_; focus (first | with_reducible rfl | assumption | (refine congrArg (SV.int _) ?_; omega))) | refine Got.mk (fun _ _ => ?_)) | fail); all_goals try (conv => whnf); all_goals try (exfalso; omega)
      refine CallS.mk (c := rentry17_c) (((i : Int) + 1, rootD es (i + 1))) ?_
      repeat' (first | (with_reducible first | refine Unf.h ?_ | refine loopK_n ?_) | ((conv => whnf); first | (refine Side.mk ?_ ?_; focus (first | with_reducible rfl | exact True.intro | (intros; (try simp only [lenS, inR, cutS, loI, hiI] at *); omega))) | refine Got.mk (fun _ _ => ?_) | refine Ex.mk [_] rfl ?_) | fail); all_goals try (conv => whnf); all_goals try (exfalso; omega)
      refine ⟨i + 1, ⟨by omega, by omega⟩, ?_⟩
      rw [es1]
      repeat' (first | (with_reducible refine Unf.h ?_) | ((conv => whnf); first | (refine Side.mk ?_ ?_; focus (first | with_reducible rfl | (refine congrArg (SV.int _) ?_; omega))) | (with_reducible refine Unf.h ?_) | exact True.intro) | fail); all_goals try (conv => whnf); all_goals try (exfalso; omega)
    · obtain rfl : i = n := by omega
      repeat' (first | (with_reducible refine Unf.h ?_) | ((conv => whnf); first | refine Fork.mk (fun h => ?_) (fun h => ?_) | (refine Side.mk ?_ ?_; focus (with_reducible rfl)) | refine RetE.mk () trivial ?_ | refine retK_r ?_ | exact rfl) | fail); all_goals try (conv => whnf); all_goals try (exfalso; omega)
end Go.Proofs.YtdflndjlnkoliaaGreatDoor

namespace Go.Proofs.YtdflndjlnkoliaaGreatDoor
set_option linter.all false
open Go.RowKit
/-! the document's log: lists' roots, ranges, trails -/
def rlist_c (n : Nat) : Ctr where
  D := List H256
  pre := fun l => l.length < n ∧ l.length ≤ 1000000
  args := fun l => [.fs 32 eH l]
  res := fun l _ => .agg [.arr8 (rootL nodeH zeroR n l)]
def rlist_H (n : Nat): Cfg := ⟨[(117, refsum_c), (76, (rlist_c n)), (118, rnode15_c)], [(8, [], [3, 7, 8, 9], (.one 0 0 false (.one 1 0 false (.one 2 0 false (.one 4 0 false (.one 5 0 false (.one 6 0 false (.one 3 2 false (.one 7 2 false (.one 8 2 false (.one 9 2 false .nil)))))))))), [])], [], [], 31, 0, [], [], []⟩
theorem rlist_ok (n : Nat) (h : (rlist_c n).Ok Tryz.prog 76): (rlist_c (n + 1)).Ok Tryz.prog 76 := by
  refine fn_ok (rlist_H n) 0 rfl _ Tryz.func76 rfl rfl ⟨refsum_ok, h, rnode15_ok, trivial⟩ rfl rfl (by kernel_rfl) (fun _ => Nat.le_of_ble_eq_true rfl) ?_
  intro (l : List H256) hp hr
  try dsimp only [rlist_c] at hp
  try simp only [rlist_c, Rng, RngL, inR, and_true, true_and] at hr
  obtain ⟨hp1, hp2⟩ := hp
  have hp1 : l.length < n + 1 := hp1
  have hp2 : l.length ≤ 1000000 := hp2
  have hpr : refsum_c.pre [] := by show 0 ≤ 1000000000; omega
  rcases Nat.lt_or_ge l.length 2 with hl | hl
  · match l, hl with
    | [], _ =>
      have e : rootL nodeH zeroR (n + 1) [] = sha [] := rfl
      repeat' (first | (with_reducible refine Unf.h ?_) | ((conv => whnf); first | refine Fork.mk (fun h => ?_) (fun h => ?_) | (refine Side.mk ?_ ?_; focus ((intros; (try simp only [lenS, inR, cutS, loI, hiI] at *); omega))) | (refine Idx.mk ?_ ?_; focus (omega)) | refine RetE.mk () trivial ?_ | refine retK_r ?_ | exact rfl) | fail); all_goals try (conv => whnf); all_goals try (exfalso; omega)
      refine CallS.mk (c := refsum_c) ([]) ?_
      repeat' (first | (with_reducible refine Unf.h ?_) | ((conv => whnf); first | (refine Side.mk ?_ ?_; focus (first | with_reducible rfl | assumption | (simp only [*, e]; done))) | refine RetE.mk () trivial ?_ | refine Got.mk (fun _ _ => ?_) | refine retK_r ?_ | exact rfl) | fail); all_goals try (conv => whnf); all_goals try (exfalso; omega)
    | [x], _ =>
      have e : rootL nodeH zeroR (n + 1) [x] = x := rfl
      repeat' (first | (with_reducible refine Unf.h ?_) | ((conv => whnf); first | refine Fork.mk (fun h => ?_) (fun h => ?_) | (refine Side.mk ?_ ?_; focus ((simp [*, e]; done))) | (refine Idx.mk ?_ ?_; focus (omega)) | refine RetE.mk () trivial ?_ | refine retK_r ?_ | exact rfl) | fail); all_goals try (conv => whnf); all_goals try (exfalso; omega)
      exact absurd h (by simp)
  · obtain ⟨i, hk1, hk2, hk3⟩ := half_ok hl
    have hkp := Nat.pow_pos (n := i) (show 0 < 2 by decide)
    rw [← hk1] at hk2 hk3 hkp
    have hroot := rootL_two nodeH zeroR (f := n) hl
    obtain ⟨K, hK⟩ : ∃ K, halfK l.length l.length 1 = K := ⟨_, rfl⟩
    rw [hK] at hroot hk2 hk3 hkp
    have hpa : (rlist_c n).pre (l.take K) := ⟨by show (l.take K).length < n; rw [List.length_take]; omega, by show (l.take K).length ≤ 1000000; rw [List.length_take]; omega⟩
    have hpb : (rlist_c n).pre (l.drop K) := ⟨by show (l.drop K).length < n; rw [List.length_drop]; omega, by show (l.drop K).length ≤ 1000000; rw [List.length_drop]; omega⟩
    have ca : cutL l none (some (K : Int)) = l.take K := by simp [cutL]
    have cb : cutL l (some (K : Int)) none = l.drop K := by simp [cutL]
    repeat' (first | (with_reducible refine Unf.h ?_) | ((conv => whnf); refine Fork.mk (fun h => ?_) (fun h => ?_)) | fail); all_goals try (conv => whnf); all_goals try (exfalso; omega)
    refine LoopS.autoN (I := Nat × Nat) (fun (f, k) => halfK l.length f k = K ∧ 1 ≤ k ∧ k ≤ l.length ∧ l.length ≤ k + f) (fun (f, k) => [(3, .int .i64 (k : Int))]) (fun _ => [(0, .box 30 [.arr8 zeroH])]) 1 (fun (f, _) => f) (l.length, 1) ⟨hK, Nat.le_refl _, by omega, by omega⟩ ?_ ?_
    · repeat' (first | (with_reducible refine Unf.h ?_) | ((conv => whnf); first | (refine Side.mk ?_ ?_; focus (first | with_reducible rfl | (refine congrArg (SV.int _) ?_; omega))) | (with_reducible refine Unf.h ?_) | exact True.intro) | fail); all_goals try (conv => whnf); all_goals try (exfalso; omega)
    · rintro ⟨f, k⟩ ⟨g1, g2, g3, g4⟩
      have g1 : halfK l.length f k = K := g1
      have g2 : 1 ≤ k := g2
      have g3 : k ≤ l.length := g3
      have g4 : l.length ≤ k + f := g4
      by_cases hc : k < l.length - k
      · obtain ⟨f, rfl⟩ : ∃ f', f = f' + 1 := ⟨f - 1, by omega⟩
        have g5 : halfK l.length f (2 * k) = K := by rw [← g1]; exact (if_pos hc).symm
        repeat' (first | (with_reducible first | refine Unf.h ?_ | refine loopK_n ?_) | ((conv => whnf); first | refine Fork.mk (fun h => ?_) (fun h => ?_) | (refine Side.mk ?_ ?_; focus ((intros; (try simp only [lenS, inR, cutS, loI, hiI] at *); omega)))) | fail); all_goals try (conv => whnf); all_goals try (exfalso; omega)
        refine ⟨(f, 2 * k), ⟨by show f < f + 1; omega, g5, by omega, by omega, by omega⟩, ?_⟩
        repeat' (first | (with_reducible refine Unf.h ?_) | ((conv => whnf); first | (refine Side.mk ?_ ?_; focus (first | with_reducible rfl | (refine congrArg (SV.int _) ?_; omega))) | (with_reducible refine Unf.h ?_) | exact True.intro) | fail); all_goals try (conv => whnf); all_goals try (exfalso; omega)
      · have g5 : k = K := by
          rw [← g1]
          cases f with
          | zero => rfl
          | succ f => exact (if_neg hc).symm
        subst g5
        repeat' (first | (with_reducible refine Unf.h ?_) | ((conv => whnf); first | refine Fork.mk (fun h => ?_) (fun h => ?_) | (refine Side.mk ?_ ?_; focus ((intros; (try simp only [lenS, inR, cutS, loI, hiI] at *); omega)))) | fail); all_goals try (conv => whnf); all_goals try (exfalso; omega)
        rw [ca]
        refine CallS.mk (c := rlist_c n) (l.take k) ?_
        repeat' (first | (with_reducible refine Unf.h ?_) | ((conv => whnf); first | (refine Side.mk ?_ ?_; focus (first | with_reducible rfl | assumption)) | refine Got.mk (fun _ _ => ?_)) | fail); all_goals try (conv => whnf); all_goals try (exfalso; omega)
        rw [cb]
        refine CallS.mk (c := rlist_c n) (l.drop k) ?_
        repeat' (first | (with_reducible refine Unf.h ?_) | ((conv => whnf); first | (refine Side.mk ?_ ?_; focus (first | with_reducible rfl | assumption)) | refine Got.mk (fun _ _ => ?_)) | fail); all_goals try (conv => whnf); all_goals try (exfalso; omega)
        refine CallS.mk (c := rnode15_c) ((rootL nodeH zeroR n (l.take k), rootL nodeH zeroR n (l.drop k))) ?_
        repeat' (first | (with_reducible refine Unf.h ?_) | ((conv => whnf); first | (refine Side.mk ?_ ?_; focus (first | with_reducible rfl | exact True.intro | (simp only [*, hroot]; done))) | refine RetE.mk () trivial ?_ | refine Got.mk (fun _ _ => ?_) | refine retK_r ?_ | exact rfl) | fail); all_goals try (conv => whnf); all_goals try (exfalso; omega)
theorem rlist_all : ∀ n, (rlist_c n).Ok Tryz.prog 76
  | 0 => fun _ h => absurd h.1 (Nat.not_lt_zero _)
  | n + 1 => rlist_ok n (rlist_all n)
theorem rlist1000_ok : (rlist_c 1000).Ok Tryz.prog 76 := rlist_all 1000
theorem segR_cons (fr : Nat) {l : List H256} (h : 0 < l.length) : segR nodeH zeroR l.length fr l = rootL nodeH zeroR l.length (l.take (sizeS fr (fr + l.length))) :: segR nodeH zeroR (l.drop (sizeS fr (fr + l.length))).length (fr + sizeS fr (fr + l.length)) (l.drop (sizeS fr (fr + l.length))) := by
  cases l with
  | nil => cases h
  | cons x r =>
    obtain ⟨z1, _⟩ := size_pos (show fr < fr + (x :: r).length by simp)
    show rootL nodeH zeroR _ _ :: segR nodeH zeroR r.length _ _ = _
    rw [segR_fuel nodeH zeroR r.length ((x :: r).drop (sizeS fr (fr + (x :: r).length))).length _ _ (by have e1 : (x :: r).length = r.length + 1 := rfl; rw [List.length_drop]; omega) (Nat.le_refl _)]
theorem segZ_cons {fr to : Nat} (h : fr < to) : segZ (to - fr) fr to = sizeS fr to :: segZ (to - (fr + sizeS fr to)) (fr + sizeS fr to) to := by
  obtain ⟨z1, z2⟩ := size_pos h
  obtain ⟨f, hf⟩ : ∃ f, to - fr = f + 1 := ⟨to - fr - 1, by omega⟩
  rw [hf]
  show (if fr < to then _ else _) = _
  rw [if_pos h, segZ_fuel f (to - (fr + sizeS fr to)) _ _ (by omega) (by omega)]
def segsH (fr : Nat) (l : List H256) : List H256 := segR nodeH zeroR l.length fr l
def rof15_c : Ctr where
  D := Nat × List H256
  pre := fun (fr, l) => fr ≤ 10000 ∧ l.length ≤ 900
  args := fun (fr, l) => [.int .i64 (fr : Int), .fs 32 eH l]
  res := fun (fr, l) _ => .tup [.agg [.int .i64 (fr : Int), .int .i64 ((fr : Int) + l.length), .fs 32 eH (segsH fr l)], .int .i64 0]
def rof15_H : Cfg := ⟨[(75, rsegs15_c), (76, (rlist_c 1000))], [(8, [1, 6], [8, 9, 10, 12], (.one 0 0 false (.one 1 1 false (.one 2 0 false (.one 3 0 false (.one 4 0 false (.one 5 0 false (.one 6 1 false (.one 7 0 false (.one 8 2 true (.one 9 2 true (.one 10 2 false (.one 11 0 false (.one 12 2 false .nil))))))))))))), [])], [], [], 59, 0, [], [], []⟩
theorem rof15_ok : rof15_c.Ok Tryz.prog 33 := by
  refine fn_ok rof15_H 0 rfl _ Tryz.func33 rfl rfl ⟨rsegs15_ok, rlist1000_ok, trivial⟩ rfl rfl (by kernel_rfl) (fun _ => Nat.le_of_ble_eq_true rfl) ?_
  rintro ⟨fr, l⟩ hp hr
  try dsimp only [rof15_c] at hp
  try simp only [rof15_c, Rng, RngL, inR, and_true, true_and] at hr
  obtain ⟨hp1, hp2⟩ := hp
  have hp1 : fr ≤ 10000 := hp1
  have hp2 : l.length ≤ 900 := hp2
  have hps : rsegs15_c.pre (fr, fr + l.length) := ⟨by show fr ≤ fr + l.length; omega, by show fr + l.length ≤ 1000000; omega⟩
  have hzl := segZ_len (fr + l.length - fr) fr (fr + l.length)
  repeat' (first | (with_reducible refine Unf.h ?_) | ((conv => whnf); first | refine Fork.mk (fun h => ?_) (fun h => ?_) | (refine Side.mk ?_ ?_; focus ((intros; (try simp only [lenS, inR, cutS, loI, hiI] at *); omega)))) | fail); all_goals try (conv => whnf); all_goals try (exfalso; omega)
  refine CallS.mk (c := rsegs15_c) ((fr, fr + l.length)) ?_
  repeat' (first | (with_reducible refine Unf.h ?_) | ((conv => whnf); first | (refine Side.mk ?_ ?_; focus (first | with_reducible rfl | assumption | (refine congrArg (SV.int _) ?_; omega))) | refine Got.mk (fun _ _ => ?_)) | fail); all_goals try (conv => whnf); all_goals try (exfalso; omega)
  refine LoopS.mk (I := Nat × Nat × List H256 × List H256) (fun (i, a, m, acc) => a + m.length = fr + l.length ∧ i ≤ (segZ (fr + l.length - fr) fr (fr + l.length)).length ∧ (segZ (fr + l.length - fr) fr (fr + l.length)).drop i = segZ (fr + l.length - a) a (fr + l.length) ∧ acc.length ≤ i ∧ acc ++ segsH a m = segsH fr l ∧ a ≤ fr + l.length ∧ fr ≤ a) (fun (i, a, m, acc) => [(8, .int .i64 (i : Int)), (7, .fs 1 eN (segZ (fr + l.length - fr) fr (fr + l.length))), (6, .ptr 1 0), (4, .ptr 0 0), (0, .int .i64 (fr : Int)), (1, .fs 32 eH m)]) (fun (i, a, m, acc) => [(0, .box 92 [.int .i64 0, .int .i64 0, .nils]), (1, .box 92 [.int .i64 (fr : Int), .int .i64 ((fr : Int) + l.length), .own 2]), (2, .row 30 32 eH acc)]) 3 (fun (i, _, _, _) => (segZ (fr + l.length - fr) fr (fr + l.length)).length - i) (0, fr, l, []) ⟨rfl, Nat.zero_le _, rfl, Nat.zero_le _, rfl, by show fr ≤ fr + l.length; omega, Nat.le_refl _⟩ ?_ ?_
  · repeat' (first | (with_reducible refine Unf.h ?_) | ((conv => whnf); first | (refine Side.mk ?_ ?_; focus (first | with_reducible rfl | (refine congrArg (SV.int _) ?_; omega))) | (with_reducible refine Unf.h ?_) | exact True.intro) | fail); all_goals try (conv => whnf); all_goals try (exfalso; omega)
  · rintro ⟨i, a, m, acc⟩ ⟨g1, g2, g3, g4, g5, g6, g9⟩
    have g9 : fr ≤ a := g9
    have g1 : a + m.length = fr + l.length := g1
    have g4 : acc.length ≤ i := g4
    have g5 : acc ++ segsH a m = segsH fr l := g5
    have g2 : i ≤ (segZ (fr + l.length - fr) fr (fr + l.length)).length := g2
    have g3 : (segZ (fr + l.length - fr) fr (fr + l.length)).drop i = segZ (fr + l.length - a) a (fr + l.length) := g3
    by_cases hil : i < (segZ (fr + l.length - fr) fr (fr + l.length)).length
    · rw [List.drop_eq_getElem_cons hil] at g3
      have hat : a < fr + l.length := by
        rcases Nat.lt_or_ge a (fr + l.length) with h' | h'
        · exact h'
        · rw [show fr + l.length - a = 0 by omega] at g3
          cases g3
      obtain ⟨z1, z2⟩ := size_pos hat
      rw [segZ_cons hat] at g3
      obtain ⟨g7, g8⟩ := List.cons.inj g3
      have g7 : ((segZ (fr + l.length - fr) fr (fr + l.length))[((i : Nat) : Int).toNat]'hil) = sizeS a (fr + l.length) := g7
      rw [← g7] at z1 z2 g8
      have hm1 : (m.take ((segZ (fr + l.length - fr) fr (fr + l.length))[((i : Nat) : Int).toNat]'hil)).length = ((segZ (fr + l.length - fr) fr (fr + l.length))[((i : Nat) : Int).toNat]'hil) := by rw [List.length_take]; omega
      have hpl : (rlist_c 1000).pre (m.take ((segZ (fr + l.length - fr) fr (fr + l.length))[((i : Nat) : Int).toNat]'hil)) := ⟨by show (m.take ((segZ (fr + l.length - fr) fr (fr + l.length))[((i : Nat) : Int).toNat]'hil)).length < 1000; omega, by show (m.take ((segZ (fr + l.length - fr) fr (fr + l.length))[((i : Nat) : Int).toNat]'hil)).length ≤ 1000000; omega⟩
      have ca : cutL m none (some (((segZ (fr + l.length - fr) fr (fr + l.length))[((i : Nat) : Int).toNat]'hil) : Int)) = m.take ((segZ (fr + l.length - fr) fr (fr + l.length))[((i : Nat) : Int).toNat]'hil) := by simp [cutL]
      have cb : cutL m (some (((segZ (fr + l.length - fr) fr (fr + l.length))[((i : Nat) : Int).toNat]'hil) : Int)) none = m.drop ((segZ (fr + l.length - fr) fr (fr + l.length))[((i : Nat) : Int).toNat]'hil) := by simp [cutL]
      have es : segsH a m = rootL nodeH zeroR 1000 (m.take ((segZ (fr + l.length - fr) fr (fr + l.length))[((i : Nat) : Int).toNat]'hil)) :: segsH (a + ((segZ (fr + l.length - fr) fr (fr + l.length))[((i : Nat) : Int).toNat]'hil)) (m.drop ((segZ (fr + l.length - fr) fr (fr + l.length))[((i : Nat) : Int).toNat]'hil)) := by
        have h1 := segR_cons a (l := m) (by omega)
        rw [g1, ← g7] at h1
        rw [rootL_any nodeH zeroR 1000 m.length _ (by omega) (by rw [hm1]; omega)]
        exact h1
      repeat' (first | (with_reducible refine Unf.h ?_) | ((conv => whnf); first | refine Fork.mk (fun h => ?_) (fun h => ?_) | (refine Side.mk ?_ ?_; focus ((intros; (try simp only [lenS, inR, cutS, loI, hiI] at *); omega))) | (refine Idx.mk ?_ ?_; focus (omega))) | fail); all_goals try (conv => whnf); all_goals try (exfalso; omega)
      all_goals rw [ca]
      all_goals
        refine CallS.mk (c := rlist_c 1000) (m.take ((segZ (fr + l.length - fr) fr (fr + l.length))[((i : Nat) : Int).toNat]'hil)) ?_
        repeat' (first | (with_reducible first | refine Unf.h ?_ | refine loopK_n ?_) | ((conv => whnf); first | (refine Side.mk ?_ ?_; focus (first | with_reducible rfl | assumption | (intros; (try simp only [lenS, inR, cutS, loI, hiI] at *); omega))) | (refine Idx.mk ?_ ?_; focus (omega)) | refine Got.mk (fun _ _ => ?_) | refine Ex.mk [_] rfl ?_) | fail); all_goals try (conv => whnf); all_goals try (exfalso; omega)
      all_goals
        refine ⟨(i + 1, a + ((segZ (fr + l.length - fr) fr (fr + l.length))[((i : Nat) : Int).toNat]'hil), m.drop ((segZ (fr + l.length - fr) fr (fr + l.length))[((i : Nat) : Int).toNat]'hil), acc ++ [rootL nodeH zeroR 1000 (m.take ((segZ (fr + l.length - fr) fr (fr + l.length))[((i : Nat) : Int).toNat]'hil))]), ⟨by show (segZ (fr + l.length - fr) fr (fr + l.length)).length - (i + 1) < (segZ (fr + l.length - fr) fr (fr + l.length)).length - i; omega, by show a + ((segZ (fr + l.length - fr) fr (fr + l.length))[((i : Nat) : Int).toNat]'hil) + (m.drop ((segZ (fr + l.length - fr) fr (fr + l.length))[((i : Nat) : Int).toNat]'hil)).length = _; rw [List.length_drop]; omega, by show i + 1 ≤ _; omega, g8, by show (acc ++ [_]).length ≤ i + 1; simp only [List.length_append, List.length_singleton]; omega, by show (acc ++ [_]) ++ _ = _; rw [List.append_assoc, List.singleton_append, ← es]; exact g5, by omega, by omega⟩, ?_⟩
        repeat' (first | (with_reducible refine Unf.h ?_) | ((conv => whnf); first | (refine Side.mk ?_ ?_; focus (first | with_reducible rfl | (refine congrArg (SV.int _) ?_; omega))) | (with_reducible refine Unf.h ?_)) | fail); all_goals try (conv => whnf); all_goals try (exfalso; omega)
        refine Side.mk (congrArg (SV.fs _ _) cb) ?_
        repeat' (first | (with_reducible refine Unf.h ?_) | ((conv => whnf); first | (refine Side.mk ?_ ?_; focus (with_reducible rfl)) | exact True.intro) | fail); all_goals try (conv => whnf); all_goals try (exfalso; omega)
    · have hat : ¬ a < fr + l.length := fun h' => by
        rw [List.drop_eq_nil_of_le (by omega), segZ_cons h'] at g3
        cases g3
      have hm : m = [] := List.eq_nil_of_length_eq_zero (by omega)
      have es : acc = segsH fr l := by
        rw [← g5, hm]
        show acc = acc ++ []
        rw [List.append_nil]
      repeat' (first | (with_reducible refine Unf.h ?_) | ((conv => whnf); first | refine Fork.mk (fun h => ?_) (fun h => ?_) | (refine Side.mk ?_ ?_; focus (first | with_reducible rfl | (simp only [*]; done))) | refine RetE.mk () trivial ?_ | refine retK_r ?_ | exact rfl) | fail); all_goals try (conv => whnf); all_goals try (exfalso; omega)
end Go.Proofs.YtdflndjlnkoliaaGreatDoor

namespace Go.Proofs.YtdflndjlnkoliaaGreatDoor
set_option linter.all false
open Go.RowKit
/-! the document's trails -/
theorem fof_seg (fr : Nat) (l : List H256) : fofL fr l = segsH fr l := by
  unfold fofL segsH
  rw [putStk_segs nodeH zeroR l.length l [] fr (Nat.le_refl _) trivial]; rfl
def rsameH_c : Ctr where
  D := List H256
  pre := fun l => l.length ≤ 100000
  args := fun l => [.fs 32 eH l, .fs 32 eH l]
  res := fun _ _ => .bool true
def rsameH_H : Cfg := ⟨[], [(6, [3, 7], [], (.one 0 0 false (.one 1 0 false (.one 2 0 false (.one 3 1 false (.one 4 0 false (.one 5 0 false (.one 6 0 false (.one 7 1 false (.one 8 0 false .nil))))))))), [])], [], [], 26, 0, [], [], []⟩
theorem rsameH_ok : rsameH_c.Ok Tryz.prog 36 := by
  refine fn_ok rsameH_H 0 rfl _ Tryz.func36 rfl rfl trivial rfl rfl (by kernel_rfl) (fun _ => Nat.le_of_ble_eq_true rfl) ?_
  intro (l : List H256) hp hr
  try dsimp only [rsameH_c] at hp
  try simp only [rsameH_c, Rng, RngL, inR, and_true, true_and] at hr
  have hp : l.length ≤ 100000 := hp
  repeat' (first | (with_reducible refine Unf.h ?_) | ((conv => whnf); refine Fork.mkn (fun h => ?_) (fun h => ?_)) | fail); all_goals try (conv => whnf); all_goals try (exfalso; omega)
  refine LoopS.autoN (I := Nat) (fun i => i ≤ l.length) (fun i => [(5, .int .i64 (i : Int))]) (fun _ => []) 0 (fun i => l.length - i) 0 (Nat.zero_le _) ?_ ?_
  · repeat' (first | (with_reducible refine Unf.h ?_) | ((conv => whnf); first | (refine Side.mk ?_ ?_; focus (first | with_reducible rfl | (refine congrArg (SV.int _) ?_; omega))) | (with_reducible refine Unf.h ?_) | exact True.intro) | fail); all_goals try (conv => whnf); all_goals try (exfalso; omega)
  · intro i hi
    repeat' (first | (with_reducible first | refine Unf.h ?_ | refine loopK_n ?_) | ((conv => whnf); first | refine Fork.mkn (fun h => ?_) (fun h => ?_) | refine Fork.mk (fun h => ?_) (fun h => ?_) | (refine Side.mk ?_ ?_; focus (first | with_reducible rfl | (intros; (try simp only [lenS, inR, cutS, loI, hiI] at *); omega))) | (refine Idx.mk ?_ ?_; focus (omega)) | refine RetE.mk () trivial ?_ | refine retK_r ?_ | exact rfl) | fail); all_goals try (conv => whnf); all_goals try (exfalso; omega)
    all_goals first
      | exact absurd rfl (by assumption)
      | skip
    refine ⟨i + 1, ⟨by omega, by omega⟩, ?_⟩
    repeat' (first | (with_reducible refine Unf.h ?_) | ((conv => whnf); first | (refine Side.mk ?_ ?_; focus (first | with_reducible rfl | (refine congrArg (SV.int _) ?_; omega))) | (with_reducible refine Unf.h ?_) | exact True.intro) | fail); all_goals try (conv => whnf); all_goals try (exfalso; omega)
def rsame16_c : Ctr where
  D := List H256 × List H256
  pre := fun (a, b) => a.length ≤ 100000 ∧ b.length ≤ 100000
  args := fun (a, b) => [.agg [.fs 32 eH a, .fs 32 eH b], .agg [.fs 32 eH a, .fs 32 eH b]]
  res := fun _ _ => .bool true
def rsame16_H : Cfg := ⟨[(36, rsameH_c)], [], [], [], 17, 0, [], [], []⟩
theorem rsame16_ok : rsame16_c.Ok Tryz.prog 13 := by
  refine fn_ok rsame16_H 0 rfl _ Tryz.func13 rfl rfl ⟨rsameH_ok, trivial⟩ rfl rfl (by kernel_rfl) (fun _ => Nat.le_of_ble_eq_true rfl) ?_
  rintro ⟨a, b⟩ hp hr
  try dsimp only [rsame16_c] at hp
  try simp only [rsame16_c, Rng, RngL, inR, and_true, true_and] at hr
  obtain ⟨hp1, hp2⟩ := hp
  have h1 : rsameH_c.pre a := hp1
  have h2 : rsameH_c.pre b := hp2
  repeat' (first | (with_reducible refine Unf.h ?_) | fail); all_goals try (conv => whnf); all_goals try (exfalso; omega)
  refine CallS.mk (c := rsameH_c) (a) ?_
  repeat' (first | (with_reducible refine Unf.h ?_) | ((conv => whnf); first | (refine Side.mk ?_ ?_; focus (first | with_reducible rfl | assumption)) | refine Got.mk (fun _ _ => ?_)) | fail); all_goals try (conv => whnf); all_goals try (exfalso; omega)
  refine CallS.mk (c := rsameH_c) (b) ?_
  repeat' (first | (with_reducible refine Unf.h ?_) | ((conv => whnf); first | (refine Side.mk ?_ ?_; focus (first | with_reducible rfl | assumption)) | refine RetE.mk () trivial ?_ | refine Got.mk (fun _ _ => ?_) | refine retK_r ?_ | exact rfl) | fail); all_goals try (conv => whnf); all_goals try (exfalso; omega)
def rgro16_c : Ctr where
  D := List H256 × Nat
  pre := fun (l, m) => m ≤ l.length ∧ l.length ≤ 900
  args := fun (l, m) => [.fs 32 eH l, .int .i64 (m : Int)]
  res := fun (l, m) _ => .tup [.agg [.fs 32 eH (segsH 0 (l.take m)), .fs 32 eH (segsH m (l.drop m))], .int .i64 0]
def rgro16_H : Cfg := ⟨[(33, rof15_c)], [], [], [], 39, 0, [], [], []⟩
theorem rgro16_ok : rgro16_c.Ok Tryz.prog 11 := by
  refine fn_ok rgro16_H 0 rfl _ Tryz.func11 rfl rfl ⟨rof15_ok, trivial⟩ rfl rfl (by kernel_rfl) (fun _ => Nat.le_of_ble_eq_true rfl) ?_
  rintro ⟨l, m⟩ hp hr
  try dsimp only [rgro16_c] at hp
  try simp only [rgro16_c, Rng, RngL, inR, and_true, true_and] at hr
  obtain ⟨hp1, hp2⟩ := hp
  have hp1 : m ≤ l.length := hp1
  have hp2 : l.length ≤ 900 := hp2
  have h1 : rof15_c.pre (0, l.take m) := ⟨by show 0 ≤ 10000; omega, by show (l.take m).length ≤ 900; rw [List.length_take]; omega⟩
  have h2 : rof15_c.pre (m, l.drop m) := ⟨by show m ≤ 10000; omega, by show (l.drop m).length ≤ 900; rw [List.length_drop]; omega⟩
  have ca : cutL l none (some (m : Int)) = l.take m := by simp [cutL]
  have cb : cutL l (some (m : Int)) none = l.drop m := by simp [cutL]
  repeat' (first | (with_reducible refine Unf.h ?_) | ((conv => whnf); first | refine Fork.mk (fun h => ?_) (fun h => ?_) | (refine Side.mk ?_ ?_; focus ((intros; (try simp only [lenS, inR, cutS, loI, hiI] at *); omega)))) | fail); all_goals try (conv => whnf); all_goals try (exfalso; omega)
  rw [ca]
  refine CallS.mk (c := rof15_c) ((0, l.take m)) ?_
  repeat' (first | (with_reducible refine Unf.h ?_) | ((conv => whnf); first | (refine Side.mk ?_ ?_; focus (first | with_reducible rfl | assumption | (refine congrArg (SV.int _) ?_; omega) | (intros; (try simp only [lenS, inR, cutS, loI, hiI] at *); omega))) | refine Got.mk (fun _ _ => ?_)) | fail); all_goals try (conv => whnf); all_goals try (exfalso; omega)
  rw [cb]
  refine CallS.mk (c := rof15_c) ((m, l.drop m)) ?_
  repeat' (first | (with_reducible refine Unf.h ?_) | ((conv => whnf); first | (refine Side.mk ?_ ?_; focus (first | with_reducible rfl | assumption)) | refine RetE.mk () trivial ?_ | refine Got.mk (fun _ _ => ?_) | refine retK_r ?_ | exact rfl) | fail); all_goals try (conv => whnf); all_goals try (exfalso; omega)
def rent16_c : Ctr where
  D := List H256 × Nat
  pre := fun (l, m) => m < l.length ∧ l.length ≤ 900
  args := fun (l, m) => [.fs 32 eH l, .int .i64 (m : Int)]
  res := fun (l, m) _ => .tup [.agg [.fs 32 eH (segsH 0 (l.take m)), .fs 32 eH (segsH (m + 1) (l.drop (m + 1)))], .int .i64 0]
def rent16_H : Cfg := ⟨[(33, rof15_c)], [], [], [], 41, 0, [], [], []⟩
theorem rent16_ok : rent16_c.Ok Tryz.prog 14 := by
  refine fn_ok rent16_H 0 rfl _ Tryz.func14 rfl rfl ⟨rof15_ok, trivial⟩ rfl rfl (by kernel_rfl) (fun _ => Nat.le_of_ble_eq_true rfl) ?_
  rintro ⟨l, m⟩ hp hr
  try dsimp only [rent16_c] at hp
  try simp only [rent16_c, Rng, RngL, inR, and_true, true_and] at hr
  obtain ⟨hp1, hp2⟩ := hp
  have hp1 : m < l.length := hp1
  have hp2 : l.length ≤ 900 := hp2
  have h1 : rof15_c.pre (0, l.take m) := ⟨by show 0 ≤ 10000; omega, by show (l.take m).length ≤ 900; rw [List.length_take]; omega⟩
  have h2 : rof15_c.pre (m + 1, l.drop (m + 1)) := ⟨by show m + 1 ≤ 10000; omega, by show (l.drop (m + 1)).length ≤ 900; rw [List.length_drop]; omega⟩
  have ca : cutL l none (some (m : Int)) = l.take m := by simp [cutL]
  have cb : cutL l (some ((m : Int) + 1)) none = l.drop (m + 1) := by rw [cutL_eq]; simp [loI, hiI]
  repeat' (first | (with_reducible refine Unf.h ?_) | ((conv => whnf); first | refine Fork.mk (fun h => ?_) (fun h => ?_) | (refine Side.mk ?_ ?_; focus ((intros; (try simp only [lenS, inR, cutS, loI, hiI] at *); omega)))) | fail); all_goals try (conv => whnf); all_goals try (exfalso; omega)
  rw [ca]
  refine CallS.mk (c := rof15_c) ((0, l.take m)) ?_
  repeat' (first | (with_reducible refine Unf.h ?_) | ((conv => whnf); first | (refine Side.mk ?_ ?_; focus (first | with_reducible rfl | assumption | (refine congrArg (SV.int _) ?_; omega) | (intros; (try simp only [lenS, inR, cutS, loI, hiI] at *); omega))) | refine Got.mk (fun _ _ => ?_)) | fail); all_goals try (conv => whnf); all_goals try (exfalso; omega)
  rw [cb]
  refine CallS.mk (c := rof15_c) ((m + 1, l.drop (m + 1))) ?_
  repeat' (first | (with_reducible refine Unf.h ?_) | ((conv => whnf); first | (refine Side.mk ?_ ?_; focus (first | with_reducible rfl | assumption | (refine congrArg (SV.int _) ?_; omega))) | refine RetE.mk () trivial ?_ | refine Got.mk (fun _ _ => ?_) | refine retK_r ?_ | exact rfl) | fail); all_goals try (conv => whnf); all_goals try (exfalso; omega)
end Go.Proofs.YtdflndjlnkoliaaGreatDoor

namespace Go.Proofs.YtdflndjlnkoliaaGreatDoor
set_option linter.all false
open Go.RowKit
/-! a directory of epochs' updates, by both -/
def rupd_c : Ctr where
  D := List (Bs × Bs)
  pre := fun us => us.length ≤ 10000
  args := fun us => [.fs 2 eUp us]
  res := fun us _ => .fs 2 eUp us
def rupd_H : Cfg := ⟨[], [], [], [], 19, 0, [], [], []⟩
theorem rupd_ok : rupd_c.Ok Tryz.prog 18 := by
  refine fn_ok rupd_H 0 rfl _ Tryz.func18 rfl rfl trivial rfl rfl (by kernel_rfl) (fun _ => Nat.le_of_ble_eq_true rfl) ?_
  intro (us : List (Bs × Bs)) hp hr
  try dsimp only [rupd_c] at hp
  try simp only [rupd_c, Rng, RngL, inR, and_true, true_and] at hr
  have hp : us.length ≤ 10000 := hp
  repeat' (first | (with_reducible refine Unf.h ?_) | fail); all_goals try (conv => whnf); all_goals try (exfalso; omega)
  refine LoopS.autoN (I := Nat) (fun i => i ≤ us.length) (fun i => [(4, .int .i64 (i : Int)), (3, .own 0)]) (fun i => [(0, .row 79 2 eUp (us.take i))]) 1 (fun i => us.length - i) 0 (Nat.zero_le _) ?_ ?_
  · have e0 : us.take 0 = [] := rfl
    repeat' (first | (with_reducible refine Unf.h ?_) | ((conv => whnf); first | (refine Side.mk ?_ ?_; focus (first | with_reducible rfl | assumption | (refine congrArg (SV.int _) ?_; omega))) | (with_reducible refine Unf.h ?_) | exact True.intro) | fail); all_goals try (conv => whnf); all_goals try (exfalso; omega)
  · intro i hi
    have hi : i ≤ us.length := hi
    have htl : (us.take i).length ≤ us.length := by simp; omega
    by_cases hil : i < us.length
    · have ek : us.take (i + 1) = us.take i ++ [us[((i : Nat) : Int).toNat]'hil] := List.take_succ_eq_append_getElem hil
      repeat' (first | (with_reducible first | refine Unf.h ?_ | refine loopK_n ?_) | ((conv => whnf); first | refine Fork.mk (fun h => ?_) (fun h => ?_) | (refine Side.mk ?_ ?_; focus ((intros; (try simp only [lenS, inR, cutS, loI, hiI] at *); omega))) | (refine Idx.mk ?_ ?_; focus (omega)) | refine Ex.mk [_] rfl ?_) | fail); all_goals try (conv => whnf); all_goals try (exfalso; omega)
      refine ⟨i + 1, ⟨by omega, by omega⟩, ?_⟩
      rw [ek]
      repeat' (first | (with_reducible refine Unf.h ?_) | ((conv => whnf); first | (refine Side.mk ?_ ?_; focus (first | with_reducible rfl | (refine congrArg (SV.int _) ?_; omega))) | (with_reducible refine Unf.h ?_) | exact True.intro) | fail); all_goals try (conv => whnf); all_goals try (exfalso; omega)
    · have e0 : us.take i = us := List.take_of_length_le (by omega)
      rw [e0]
      repeat' (first | (with_reducible refine Unf.h ?_) | ((conv => whnf); first | refine Fork.mk (fun h => ?_) (fun h => ?_) | (refine Side.mk ?_ ?_; focus (with_reducible rfl)) | refine RetE.mk () trivial ?_ | refine retK_r ?_ | exact rfl) | fail); all_goals try (conv => whnf); all_goals try (exfalso; omega)
/-- what is sealed, one by one -/
def builtE (s : H256) (l : List (List (Bs × Bs))) : List (List Nws) := l.foldl (fun es us => (sealF s es us).1) []
theorem builtE_snoc (s : H256) (l : List (List (Bs × Bs))) (us : List (Bs × Bs)) : builtE s (l ++ [us]) = (sealF s (builtE s l) us).1 := by unfold builtE; rw [List.foldl_append]; rfl
theorem builtE_ok (s : H256) : ∀ (k : Nat) (l : List (List (Bs × Bs))), l.length = k → k ≤ 20 → StOk (builtE s l) ∧ (builtE s l).length ≤ k
  | 0, l, h, _ => by obtain rfl := List.eq_nil_of_length_eq_zero h; exact ⟨StOk.nil, Nat.le_refl _⟩
  | k + 1, l, h, hk => by
    have hne : l ≠ [] := fun e => by subst e; cases h
    obtain ⟨qs, p, rfl⟩ : ∃ qs p, l = qs ++ [p] := ⟨l.dropLast, l.getLast hne, (List.dropLast_concat_getLast hne).symm⟩
    obtain ⟨h1, h2⟩ := builtE_ok s k qs (by simpa using h) (by omega)
    rw [builtE_snoc]
    exact ⟨sealF_ok h1 (by omega), Nat.le_trans sealF_len (by omega)⟩
def rbuilt19_c : Ctr where
  D := H256 × List (List (Bs × Bs))
  pre := fun (_, l) => FewOk l 8
  args := fun (s, l) => [.agg [.arr8 s], .fs 1 eUe l]
  res := fun (s, l) _ => .tup [.ptr 0 0, rSt s (builtE s l)]
  out := fun (s, l) _ => stG s (builtF (kvs (builtE s l))).1 (slds (builtE s l)) (peo (builtE s l))
  mm := 6
def rbuilt19_H : Cfg := ⟨[(15, enew_c), (18, rupd_c), (17, eseal_c), (16, rseal_c)], [(1, [0, 2], [1, 4], (.one 0 1 false (.one 2 1 false (.one 3 0 false (.alt 1 true (.one 5 0 false (.one 4 2 true (.one 6 0 false .nil))) (.one 4 2 true (.one 1 2 true (.one 5 0 false (.one 6 0 false .nil)))))))), [])], [], [], 41, 0, [], [1], [15]⟩
set_option maxHeartbeats 2000000 in
theorem rbuilt19_ok : rbuilt19_c.Ok Tryz.prog 8 := by
  refine fn_ok rbuilt19_H 0 rfl _ Tryz.func8 rfl rfl ⟨enew_ok, rupd_ok, eseal_ok, rseal_ok, trivial⟩ rfl rfl (by kernel_rfl) (fun _ => Nat.le_of_ble_eq_true rfl) ?_
  rintro ⟨s, l⟩ hp hr
  try dsimp only [rbuilt19_c] at hp
  try simp only [rbuilt19_c, Rng, RngL, inR, and_true, true_and] at hr
  have hp : FewOk l 8 := hp
  have hl8 := hp.len
  have hpn : enew_c.pre s := trivial
  repeat' (first | (with_reducible refine Unf.h ?_) | fail); all_goals try (conv => whnf); all_goals try (exfalso; omega)
  refine CutS.mk (I := Unit) (fun _ => True) (fun _ => [(6, .ptr 0 0), (7, rSt s []), (1, .fs 1 eUe l)]) (fun _ => stG s [] [] []) 6 ?_ ?_
  · repeat' (first | (with_reducible refine Unf.h ?_) | ((conv => whnf); first | refine Both.mk ?_ ?_ | refine Both.mk ?_ ?_) | fail); all_goals try (conv => whnf); all_goals try (exfalso; omega)
    all_goals first
      | (refine ValS.mk (OrdK.nilA 14 [.arr8 s, .nils] [.arr8 s, .fs 1 eEp []] rfl ⟨.inl rfl, .inr ⟨rfl, _, _, _, rfl⟩, trivial⟩ ?_); repeat' (first | (with_reducible refine Unf.h ?_) | fail); all_goals try (conv => whnf); all_goals try (exfalso; omega))
      | skip
    all_goals
      refine CallS.mk (c := enew_c) s ?_
      repeat' (first | (with_reducible first | refine Unf.h ?_ | refine cutK_n ?_) | ((conv => whnf); first | (refine Side.mk ?_ ?_; focus (first | with_reducible rfl | exact True.intro)) | refine Got.mk (fun _ _ => ?_)) | fail); all_goals try (conv => whnf); all_goals try (exfalso; omega)
    all_goals first
      | (refine ValS.mk (OrdK.nilA 14 [.arr8 s, .nils] [.arr8 s, .fs 1 eEp []] rfl ⟨.inl rfl, .inr ⟨rfl, _, _, _, rfl⟩, trivial⟩ ?_); repeat' (first | (with_reducible first | refine Unf.h ?_ | refine cutK_n ?_) | fail); all_goals try (conv => whnf); all_goals try (exfalso; omega))
      | skip
    all_goals
      refine ⟨(), trivial, ?_⟩
      repeat' (first | (with_reducible refine Unf.h ?_) | ((conv => whnf); first | (refine Side.mk ?_ ?_; focus (with_reducible rfl)) | (with_reducible refine Unf.h ?_) | exact True.intro) | fail); all_goals try (conv => whnf); all_goals try (exfalso; omega)
  · intro _ _
    repeat' (first | (with_reducible refine Unf.h ?_) | fail); all_goals try (conv => whnf); all_goals try (exfalso; omega)
    refine LoopS.mk (I := Nat) (fun i => i ≤ l.length) (fun i => [(8, .int .i64 (i : Int)), (6, .ptr 0 0), (7, rSt s (builtE s (l.take i))), (1, .fs 1 eUe l)]) (fun i => stG s (builtF (kvs (builtE s (l.take i)))).1 (slds (builtE s (l.take i))) (peo (builtE s (l.take i)))) 6 (fun i => l.length - i) 0 (Nat.zero_le _) ?_ ?_
    · have f0 : builtE s (l.take 0) = [] := rfl
      rw [f0]
      have f1 : (builtF (kvs [])).1 = [] := rfl
      have f2 : slds [] = [] := rfl
      have f3 : peo [] = [] := rfl
      repeat' (first | (with_reducible refine Unf.h ?_) | ((conv => whnf); first | (refine Side.mk ?_ ?_; focus (first | with_reducible rfl | (refine congrArg (SV.int _) ?_; omega) | (simp only [*, f1, f2, f3]; done))) | (with_reducible refine Unf.h ?_) | exact True.intro) | fail); all_goals try (conv => whnf); all_goals try (exfalso; omega)
    · intro i hi
      have hi : i ≤ l.length := hi
      obtain ⟨hst, hsl⟩ := builtE_ok s _ (l.take i) rfl (by rw [List.length_take]; omega)
      rw [List.length_take] at hsl
      by_cases hil : i < l.length
      · have hfu := hp.few (l[((i : Nat) : Int).toNat]'hil) (List.getElem_mem _)
        have hlu := hp.lab (l[((i : Nat) : Int).toNat]'hil) (List.getElem_mem _)
        have ebs : builtE s (l.take (i + 1)) = (sealF s (builtE s (l.take i)) (l[((i : Nat) : Int).toNat]'hil)).1 := by
          rw [List.take_succ_eq_append_getElem hil, builtE_snoc]; rfl
        have hpu : rupd_c.pre (l[((i : Nat) : Int).toNat]'hil) := by show (l[((i : Nat) : Int).toNat]'hil).length ≤ 10000; omega
        have hlu2 : ∀ u ∈ (l[((i : Nat) : Int).toNat]'hil), u.1.length ≤ 10000 ∧ u.2.length ≤ 10000 := fun u hu => by have := hlu u hu; omega
        have hps : eseal_c.pre (s, builtE s (l.take i), (l[((i : Nat) : Int).toNat]'hil)) := ⟨hst, by omega, by omega, hlu2⟩
        have hpr : rseal_c.pre (s, builtE s (l.take i), (l[((i : Nat) : Int).toNat]'hil)) := ⟨hst, by omega, by omega, hlu2⟩
        repeat' (first | (with_reducible refine Unf.h ?_) | ((conv => whnf); first | refine Fork.mk (fun h => ?_) (fun h => ?_) | (refine Idx.mk ?_ ?_; focus (omega))) | fail); all_goals try (conv => whnf); all_goals try (exfalso; omega)
        refine CallS.mk (c := rupd_c) ((l[((i : Nat) : Int).toNat]'hil)) ?_
        repeat' (first | (with_reducible refine Unf.h ?_) | ((conv => whnf); first | (refine Side.mk ?_ ?_; focus (first | with_reducible rfl | assumption)) | refine Got.mk (fun _ _ => ?_)) | fail); all_goals try (conv => whnf); all_goals try (exfalso; omega)
        refine CallS.mk (c := eseal_c) ((s, builtE s (l.take i), (l[((i : Nat) : Int).toNat]'hil))) ?_
        repeat' (first | (with_reducible refine Unf.h ?_) | ((conv => whnf); first | (refine Side.mk ?_ ?_; focus (first | with_reducible rfl | assumption)) | (refine Idx.mk ?_ ?_; focus (omega)) | refine Got.mk (fun _ _ => ?_)) | fail); all_goals try (conv => whnf); all_goals try (exfalso; omega)
        refine CallS.mk (c := rseal_c) ((s, builtE s (l.take i), (l[((i : Nat) : Int).toNat]'hil))) ?_
        repeat' (first | (with_reducible first | refine Unf.h ?_ | refine loopK_n ?_) | ((conv => whnf); first | (refine Side.mk ?_ ?_; focus (first | with_reducible rfl | assumption | (intros; (try simp only [lenS, inR, cutS, loI, hiI] at *); omega))) | refine Got.mk (fun _ _ => ?_)) | fail); all_goals try (conv => whnf); all_goals try (exfalso; omega)
        refine ⟨i + 1, ⟨by omega, by omega⟩, ?_⟩
        rw [ebs]
        repeat' (first | (with_reducible refine Unf.h ?_) | ((conv => whnf); first | (refine Side.mk ?_ ?_; focus (first | with_reducible rfl | (refine congrArg (SV.int _) ?_; omega))) | (with_reducible refine Unf.h ?_) | exact True.intro) | fail); all_goals try (conv => whnf); all_goals try (exfalso; omega)
      · have e0 : l.take i = l := List.take_of_length_le (by omega)
        rw [e0]
        repeat' (first | (with_reducible refine Unf.h ?_) | ((conv => whnf); first | refine Fork.mk (fun h => ?_) (fun h => ?_) | (refine Side.mk ?_ ?_; focus (with_reducible rfl)) | refine RetE.mk () trivial ?_ | refine retK_r ?_ | exact rfl) | fail); all_goals try (conv => whnf); all_goals try (exfalso; omega)
end Go.Proofs.YtdflndjlnkoliaaGreatDoor

namespace Go.Proofs.YtdflndjlnkoliaaGreatDoor
set_option linter.all false
open Go.RowKit
/-! places and growths -/
theorem root_hash {l : Fo} {t : Int} : ∀ {o : Option PT}, treeAt l t o → rootF l t = hashO o
  | none, h => if_pos h
  | some T, h => by
    have h0 := (den_in h).1
    unfold rootF
    rw [if_neg (by omega)]
    exact den_hash h
theorem rootB_D (es : List (List Nws)) (i : Nat) : rootB (es.take i) = rootD es i := root_hash (builtOk (kvs (es.take i))).tree
theorem entries_D (es : List (List Nws)) : (slds es).map (·.entry) = entsD es es.length := by
  unfold slds entsD
  rw [List.map_map]
  refine List.map_congr_left fun i _ => ?_
  show entH ((i : Int) + 1) (rootB (es.take (i + 1))) = _
  rw [rootB_D]
theorem entsD_take (es : List (List Nws)) {n k : Nat} (h : n ≤ k) : (entsD es k).take n = entsD es n := by
  unfold entsD
  rw [← List.map_take, List.take_range, Nat.min_eq_left h]
def eplcV_c : Ctr where
  D := Dir × Int × Int × (List H256 × List H256) × Int
  pre := fun ((_, _, ss, _), e, n, R) => ss.length ≤ 40 ∧ placeF (ss.map (·.entry)) e n = R
  args := fun (_, e, n, _) => [.ptr 0 0, .int .i64 e, .int .i64 n]
  objs := fun ((s, l, ss, ps), _, _, _) => stG s l ss ps
  nn := 6
  res := fun (_, _, _, R) _ => .tup [.agg [.fs 32 eH R.1.1, .fs 32 eH R.1.2], .int .i64 R.2]
  out := fun ((s, l, ss, ps), _, _, _) _ => stG s l ss ps
theorem eplcV_ok : eplcV_c.Ok Tryz.prog 9 := by
  rintro ⟨⟨s, l, ss, ps⟩, e, n, R⟩ ⟨h1, h2⟩
  have h2 : placeF (ss.map (·.entry)) e n = R := h2
  subst h2
  exact eplc_ok ((s, l, ss, ps), e, n) h1
def egthV_c : Ctr where
  D := Dir × Int × Int × (List H256 × List H256) × Int
  pre := fun ((_, _, ss, _), e, n, R) => ss.length ≤ 40 ∧ growthF (ss.map (·.entry)) e n = R
  args := fun (_, e, n, _) => [.ptr 0 0, .int .i64 e, .int .i64 n]
  objs := fun ((s, l, ss, ps), _, _, _) => stG s l ss ps
  nn := 6
  res := fun (_, _, _, R) _ => .tup [.agg [.fs 32 eH R.1.1, .fs 32 eH R.1.2], .int .i64 R.2]
  out := fun ((s, l, ss, ps), _, _, _) _ => stG s l ss ps
theorem egthV_ok : egthV_c.Ok Tryz.prog 10 := by
  rintro ⟨⟨s, l, ss, ps⟩, e, n, R⟩ ⟨h1, h2⟩
  have h2 : growthF (ss.map (·.entry)) e n = R := h2
  subst h2
  exact egth_ok ((s, l, ss, ps), e, n) h1
theorem place_in (es : List (List Nws)) {j N : Nat} (h1 : j + 1 ≤ N) (h2 : N ≤ es.length) : placeF ((slds es).map (·.entry)) ((j + 1 : Nat) : Int) (N : Int) = ((segsH 0 ((entsD es N).take j), segsH (j + 1) ((entsD es N).drop (j + 1))), 0) := by
  have hl := entsD_len es es.length
  have hX := entsD_take es h2
  have hXl := entsD_len es N
  rw [entries_D]
  unfold placeF
  rw [if_pos ⟨by omega, by rw [hl]; omega, by omega⟩, show ((N : Nat) : Int).toNat = N from rfl, hX]
  unfold tentF
  rw [if_pos ⟨by omega, by rw [hXl]; omega⟩, show (((j + 1 : Nat) : Int) - 1).toNat = j by omega, fof_seg, fof_seg]
theorem growth_in (es : List (List Nws)) {j N : Nat} (h1 : j ≤ N) (h2 : N ≤ es.length) : growthF ((slds es).map (·.entry)) (j : Int) (N : Int) = ((segsH 0 ((entsD es N).take j), segsH j ((entsD es N).drop j)), 0) := by
  have hl := entsD_len es es.length
  have hX := entsD_take es h2
  have hXl := entsD_len es N
  rw [entries_D]
  unfold growthF
  rw [if_pos ⟨by omega, by rw [hl]; omega, by omega⟩, show ((N : Nat) : Int).toNat = N from rfl, hX]
  unfold tgroF
  rw [if_pos ⟨by omega, by rw [hXl]; omega⟩, show ((j : Nat) : Int).toNat = j from rfl, fof_seg, fof_seg]
theorem place_out (es : List (List Nws)) {m n : Int} (h : ¬ (1 ≤ m ∧ m ≤ n ∧ n ≤ es.length)) : placeF ((slds es).map (·.entry)) m n = (([], []), 4) := by
  have hl := entsD_len es es.length
  rw [entries_D]
  exact if_neg fun h' => h ⟨h'.1, h'.2.2, by have := h'.2.1; rw [hl] at this; exact this⟩
theorem growth_out (es : List (List Nws)) {m n : Int} (h : ¬ (0 ≤ m ∧ m ≤ n ∧ n ≤ es.length)) : growthF ((slds es).map (·.entry)) m n = (([], []), 4) := by
  have hl := entsD_len es es.length
  rw [entries_D]
  exact if_neg fun h' => h ⟨h'.1, h'.2.2, by have := h'.2.1; rw [hl] at this; exact this⟩
theorem kvs_few {es : List (List Nws)} (h : StOk es) (i : Nat) : (kvs (es.take i)).length ≤ 900 := by
  have h2 := flat_few (es.take i) 16 fun n hn => h.few n (List.mem_of_mem_take hn)
  have h3 : (es.take i).length ≤ es.length := by simp; omega
  have := h.len
  show ((es.take i).flatten.map kvN).length ≤ 900
  rw [List.length_map]; omega
theorem segsH_len (fr : Nat) (l : List H256) : (segsH fr l).length ≤ l.length := by
  rw [← fof_seg]
  unfold fofL
  rw [List.length_map, List.length_reverse]
  exact (stk_bd fr _ l rfl).1
def etrails_c : Ctr where
  D := List (List (Bs × Bs)) × Int × Int
  args := fun (l, m, n) => [.fs 1 eUe l, .int .i64 m, .int .i64 n]
  res := fun _ _ => .bool true
def etrails_H : Cfg := ⟨[(6, awk_c), (7, rfew_c), (8, rbuilt19_c), (9, eplcV_c), (10, egthV_c), (12, rents_c), (11, rgro16_c), (14, rent16_c), (13, rsame16_c)], [], [], [], 132, 0, [], [], []⟩
set_option maxHeartbeats 4000000 in
theorem etrails_ok : etrails_c.Ok Tryz.prog 3 := by
  refine fn_ok etrails_H 0 rfl _ Tryz.func3 rfl rfl ⟨awk_ok, rfew_ok, rbuilt19_ok, eplcV_ok, egthV_ok, rents_ok, rgro16_ok, rent16_ok, rsame16_ok, trivial⟩ rfl rfl (by kernel_rfl) (fun _ => Nat.le_of_ble_eq_true rfl) ?_
  rintro ⟨l, m, n⟩ hp hr
  try dsimp only [etrails_c] at hp
  try simp only [etrails_c, Rng, RngL, inR, and_true, true_and] at hr
  have hpf : rfew_c.pre (l, 8) := by show (8 : Int) ≤ 40; omega
  repeat' (first | (with_reducible refine Unf.h ?_) | ((conv => whnf); first | (refine Side.mk ?_ ?_; focus (exact True.intro)) | refine Got.mk (fun _ _ => ?_) | refine CallS.mk (c := awk_c) (()) ?_) | fail); all_goals try (conv => whnf); all_goals try (exfalso; omega)
  first | refine CallS.mk (c := rfew_c) ((l, 8)) ?_ | refine Or2.l (CallS.mk (c := rfew_c) ((l, 8)) ?_) | refine Or2.r (CallS.mk (c := rfew_c) ((l, 8)) ?_)
  repeat (first | (with_reducible refine Unf.h ?_) | ((conv => whnf); first | (refine Side.mk ?_ ?_; focus (first | with_reducible rfl | assumption | exact True.intro | rfl)) | (with_reducible refine Unf.h ?_)))
  conv => whnf
  refine Got.mk (fun e he => ?_)
  cases e with
  | false =>
    repeat' (first | (with_reducible refine Unf.h ?_) | ((conv => whnf); first | (refine Side.mk ?_ ?_; focus (first | with_reducible rfl | exact True.intro)) | refine RetE.mk () trivial ?_ | refine Got.mk (fun _ _ => ?_) | (with_reducible refine Unf.h ?_) | refine retK_r ?_ | exact rfl | refine CallS.mk (c := awk_c) (()) ?_) | fail); all_goals try (conv => whnf); all_goals try (exfalso; omega)
  | true =>
    have hF : FewOk l 8 := he rfl
    have hl8 := hF.len
    obtain ⟨hst, hsl⟩ := builtE_ok zeroH _ l rfl (by omega)
    repeat' (first | (with_reducible refine Unf.h ?_) | ((conv => whnf); (with_reducible refine Unf.h ?_)) | fail); all_goals try (conv => whnf); all_goals try (exfalso; omega)
    refine CallS.mk (c := rbuilt19_c) ((zeroH, l)) ?_
    repeat' (first | (with_reducible refine Unf.h ?_) | ((conv => whnf); first | (refine Side.mk ?_ ?_; focus (first | with_reducible rfl | assumption)) | refine Got.mk (fun _ _ => ?_)) | fail); all_goals try (conv => whnf); all_goals try (exfalso; omega)
    generalize builtE zeroH l = es at *
    have hsd := slds_len es
    have hs40 : (slds es).length ≤ 40 := by omega
    have hrd := hst.rd
    have hkf := kvs_few hst
    by_cases hG : 0 ≤ m ∧ m ≤ n ∧ n ≤ es.length
    · obtain ⟨hm0, hmn, hnk⟩ := hG
      obtain ⟨N, rfl⟩ : ∃ N : Nat, n = N := ⟨n.toNat, by omega⟩
      obtain ⟨j, rfl⟩ : ∃ j : Nat, m = j := ⟨m.toNat, by omega⟩
      have hjN : j ≤ N := by omega
      have hNk : N ≤ es.length := by omega
      have hXl := entsD_len es N
      have hpe : rents_c.pre (zeroH, es, N) := ⟨⟨hrd, hkf⟩, by show N ≤ 1000; omega⟩
      have hpg : rgro16_c.pre (entsD es N, j) := ⟨by show j ≤ (entsD es N).length; omega, by show (entsD es N).length ≤ 900; omega⟩
      have hs1 := segsH_len 0 ((entsD es N).take j)
      have hs2 := segsH_len j ((entsD es N).drop j)
      rw [List.length_take] at hs1
      rw [List.length_drop] at hs2
      have hps : rsame16_c.pre (segsH 0 ((entsD es N).take j), segsH j ((entsD es N).drop j)) := ⟨by show (segsH 0 ((entsD es N).take j)).length ≤ 100000; omega, by show (segsH j ((entsD es N).drop j)).length ≤ 100000; omega⟩
      have hgv : egthV_c.pre ((zeroH, (builtF (kvs es)).1, slds es, peo es), (j : Int), (N : Int), (segsH 0 ((entsD es N).take j), segsH j ((entsD es N).drop j)), 0) := ⟨hs40, growth_in es hjN hNk⟩
      rcases Nat.eq_zero_or_pos j with hj | hj
      · subst hj
        have hpv : eplcV_c.pre ((zeroH, (builtF (kvs es)).1, slds es, peo es), ((0 : Nat) : Int), (N : Int), ([], []), 4) := ⟨hs40, place_out es (by omega)⟩
        refine CallS.mk (c := eplcV_c) (((zeroH, (builtF (kvs es)).1, slds es, peo es), ((0 : Nat) : Int), (N : Int), ([], []), 4)) ?_
        repeat' (first | (with_reducible refine Unf.h ?_) | ((conv => whnf); first | (refine Side.mk ?_ ?_; focus (first | with_reducible rfl | assumption)) | refine Got.mk (fun _ _ => ?_)) | fail); all_goals try (conv => whnf); all_goals try (exfalso; omega)
        refine CallS.mk (c := egthV_c) (((zeroH, (builtF (kvs es)).1, slds es, peo es), ((0 : Nat) : Int), (N : Int), (segsH 0 ((entsD es N).take 0), segsH 0 ((entsD es N).drop 0)), 0)) ?_
        repeat' (first | (with_reducible refine Unf.h ?_) | ((conv => whnf); first | refine Fork.mkn (fun h => ?_) (fun h => ?_) | refine Fork.mk (fun h => ?_) (fun h => ?_) | (refine Side.mk ?_ ?_; focus (first | with_reducible rfl | assumption | exact dF (by omega))) | refine RetE.mk () trivial ?_ | refine Got.mk (fun _ _ => ?_) | refine retK_r ?_ | exact rfl) | fail); all_goals try (conv => whnf); all_goals try (exfalso; omega)
        all_goals try (exact absurd (decide_eq_decide.2 ⟨fun q => by first | omega | exact absurd q (by decide), fun q => by first | rfl | (exfalso; omega)⟩) h)
        refine CallS.mk (c := rents_c) ((zeroH, es, N)) ?_
        repeat' (first | (with_reducible refine Unf.h ?_) | ((conv => whnf); first | (refine Side.mk ?_ ?_; focus (first | with_reducible rfl | assumption)) | refine Got.mk (fun _ _ => ?_)) | fail); all_goals try (conv => whnf); all_goals try (exfalso; omega)
        refine CallS.mk (c := rgro16_c) ((entsD es N, 0)) ?_
        repeat' (first | (with_reducible refine Unf.h ?_) | ((conv => whnf); first | (refine Side.mk ?_ ?_; focus (first | with_reducible rfl | assumption)) | refine Got.mk (fun _ _ => ?_)) | fail); all_goals try (conv => whnf); all_goals try (exfalso; omega)
        refine CallS.mk (c := rsame16_c) ((segsH 0 ((entsD es N).take 0), segsH 0 ((entsD es N).drop 0))) ?_
        repeat' (first | (with_reducible refine Unf.h ?_) | ((conv => whnf); first | refine Fork.mk (fun h => ?_) (fun h => ?_) | (refine Side.mk ?_ ?_; focus (first | with_reducible rfl | assumption)) | refine Got.mk (fun _ _ => ?_)) | fail); all_goals try (conv => whnf); all_goals try (exfalso; omega)
        refine CallS.mk (c := rsame16_c) ((segsH 0 ((entsD es N).take 0), segsH 0 ((entsD es N).drop 0))) ?_
        repeat' (first | (with_reducible refine Unf.h ?_) | ((conv => whnf); first | (refine Side.mk ?_ ?_; focus (first | with_reducible rfl | assumption)) | refine RetE.mk () trivial ?_ | refine Got.mk (fun _ _ => ?_) | refine retK_r ?_ | exact rfl) | fail); all_goals try (conv => whnf); all_goals try (exfalso; omega)
      · obtain ⟨j, rfl⟩ : ∃ q, j = q + 1 := ⟨j - 1, by omega⟩
        have hpv : eplcV_c.pre ((zeroH, (builtF (kvs es)).1, slds es, peo es), ((j + 1 : Nat) : Int), (N : Int), (segsH 0 ((entsD es N).take j), segsH (j + 1) ((entsD es N).drop (j + 1))), 0) := ⟨hs40, place_in es hjN hNk⟩
        have hpe2 : rent16_c.pre (entsD es N, j) := ⟨by show j < (entsD es N).length; omega, by show (entsD es N).length ≤ 900; omega⟩
        refine CallS.mk (c := eplcV_c) (((zeroH, (builtF (kvs es)).1, slds es, peo es), ((j + 1 : Nat) : Int), (N : Int), (segsH 0 ((entsD es N).take j), segsH (j + 1) ((entsD es N).drop (j + 1))), 0)) ?_
        repeat' (first | (with_reducible refine Unf.h ?_) | ((conv => whnf); first | (refine Side.mk ?_ ?_; focus (first | with_reducible rfl | assumption)) | refine Got.mk (fun _ _ => ?_)) | fail); all_goals try (conv => whnf); all_goals try (exfalso; omega)
        refine CallS.mk (c := egthV_c) (((zeroH, (builtF (kvs es)).1, slds es, peo es), ((j + 1 : Nat) : Int), (N : Int), (segsH 0 ((entsD es N).take (j + 1)), segsH (j + 1) ((entsD es N).drop (j + 1))), 0)) ?_
        repeat' (first | (with_reducible refine Unf.h ?_) | ((conv => whnf); first | refine Fork.mkn (fun h => ?_) (fun h => ?_) | refine Fork.mk (fun h => ?_) (fun h => ?_) | (refine Side.mk ?_ ?_; focus (first | with_reducible rfl | assumption)) | refine RetE.mk () trivial ?_ | refine Got.mk (fun _ _ => ?_) | refine retK_r ?_) | fail); all_goals try (conv => whnf); all_goals try (exfalso; omega)
        all_goals try (exact absurd (decide_eq_decide.2 ⟨fun q => by first | omega | exact absurd q (by decide), fun q => by first | rfl | (exfalso; omega)⟩) h)
        refine CallS.mk (c := rents_c) ((zeroH, es, N)) ?_
        repeat' (first | (with_reducible refine Unf.h ?_) | ((conv => whnf); first | (refine Side.mk ?_ ?_; focus (first | with_reducible rfl | assumption)) | refine Got.mk (fun _ _ => ?_)) | fail); all_goals try (conv => whnf); all_goals try (exfalso; omega)
        refine CallS.mk (c := rgro16_c) ((entsD es N, j + 1)) ?_
        repeat' (first | (with_reducible refine Unf.h ?_) | ((conv => whnf); first | (refine Side.mk ?_ ?_; focus (first | with_reducible rfl | assumption)) | refine Got.mk (fun _ _ => ?_)) | fail); all_goals try (conv => whnf); all_goals try (exfalso; omega)
        refine CallS.mk (c := rsame16_c) ((segsH 0 ((entsD es N).take (j + 1)), segsH (j + 1) ((entsD es N).drop (j + 1)))) ?_
        repeat' (first | (with_reducible refine Unf.h ?_) | ((conv => whnf); first | refine Fork.mk (fun h => ?_) (fun h => ?_) | (refine Side.mk ?_ ?_; focus (first | with_reducible rfl | assumption)) | refine Got.mk (fun _ _ => ?_)) | fail); all_goals try (conv => whnf); all_goals try (exfalso; omega)
        refine CallS.mk (c := rents_c) ((zeroH, es, N)) ?_
        repeat' (first | (with_reducible refine Unf.h ?_) | ((conv => whnf); first | (refine Side.mk ?_ ?_; focus (first | with_reducible rfl | assumption | (intros; (try simp only [lenS, inR, cutS, loI, hiI] at *); omega))) | refine Got.mk (fun _ _ => ?_)) | fail); all_goals try (conv => whnf); all_goals try (exfalso; omega)
        refine CallS.mk (c := rent16_c) ((entsD es N, j)) ?_
        repeat' (first | (with_reducible refine Unf.h ?_) | ((conv => whnf); first | (refine Side.mk ?_ ?_; focus (first | with_reducible rfl | assumption | (refine congrArg (SV.int _) ?_; omega))) | refine Got.mk (fun _ _ => ?_)) | fail); all_goals try (conv => whnf); all_goals try (exfalso; omega)
        have hs3 := segsH_len 0 ((entsD es N).take j)
        rw [List.length_take] at hs3
        have hps2 : rsame16_c.pre (segsH 0 ((entsD es N).take j), segsH (j + 1) ((entsD es N).drop (j + 1))) := ⟨by show (segsH 0 ((entsD es N).take j)).length ≤ 100000; omega, by show (segsH (j + 1) ((entsD es N).drop (j + 1))).length ≤ 100000; omega⟩
        refine CallS.mk (c := rsame16_c) ((segsH 0 ((entsD es N).take j), segsH (j + 1) ((entsD es N).drop (j + 1)))) ?_
        repeat' (first | (with_reducible refine Unf.h ?_) | ((conv => whnf); first | (refine Side.mk ?_ ?_; focus (first | with_reducible rfl | assumption)) | refine RetE.mk () trivial ?_ | refine Got.mk (fun _ _ => ?_) | refine retK_r ?_ | exact rfl) | fail); all_goals try (conv => whnf); all_goals try (exfalso; omega)
    · have hpv : eplcV_c.pre ((zeroH, (builtF (kvs es)).1, slds es, peo es), m, n, ([], []), 4) := ⟨hs40, place_out es (by omega)⟩
      have hgv : egthV_c.pre ((zeroH, (builtF (kvs es)).1, slds es, peo es), m, n, ([], []), 4) := ⟨hs40, growth_out es hG⟩
      refine CallS.mk (c := eplcV_c) (((zeroH, (builtF (kvs es)).1, slds es, peo es), m, n, ([], []), 4)) ?_
      repeat' (first | (with_reducible refine Unf.h ?_) | ((conv => whnf); first | (refine Side.mk ?_ ?_; focus (first | with_reducible rfl | assumption)) | refine Got.mk (fun _ _ => ?_)) | fail); all_goals try (conv => whnf); all_goals try (exfalso; omega)
      refine CallS.mk (c := egthV_c) (((zeroH, (builtF (kvs es)).1, slds es, peo es), m, n, ([], []), 4)) ?_
      repeat' (first | (with_reducible refine Unf.h ?_) | ((conv => whnf); first | refine Fork.mkn (fun h => ?_) (fun h => ?_) | refine Fork.mk (fun h => ?_) (fun h => ?_) | (refine Side.mk ?_ ?_; focus (first | with_reducible rfl | assumption | exact dF (by omega))) | refine RetE.mk () trivial ?_ | refine Got.mk (fun _ _ => ?_) | refine retK_r ?_ | exact rfl) | fail); all_goals try (conv => whnf); all_goals try (exfalso; omega)
      all_goals try (exact absurd (decide_eq_decide.2 ⟨fun q => by first | omega | exact absurd q (by decide), fun q => by first | rfl | (exfalso; omega)⟩) h)
end Go.Proofs.YtdflndjlnkoliaaGreatDoor

/- MY OWN ENGINE: the variables that EpochTrails' row lists; what its arguments are. -/
namespace Go.Proofs.YtdflndjlnkoliaaGreatDoor
set_option linter.all false
open Go.RowKit Go.ChangeShapes Go.WideShapes Go.ChangeAt
theorem Tryz.own : ownKnob Tryz.prog.godebug = none := by kernel_rfl
theorem Tryz.laidOut : laidOutB Tryz.prog = true := by kernel_rfl
def laidL {H : Type} : List (String × DataW H) := [("rolodex/hash.begin", Rows.laid_rolodex_hash_begin), ("rolodex/hash.rounds", Rows.laid_rolodex_hash_rounds)]
theorem gBegin : Tryz.prog.globalNamed "rolodex/hash.begin" = some 0 := by kernel_rfl
theorem gRounds : Tryz.prog.globalNamed "rolodex/hash.rounds" = some 1 := by kernel_rfl
theorem tBegin : (Tryz.prog.globals[0]?).map (·.type) = some 256 := by kernel_rfl
theorem tRounds : (Tryz.prog.globals[1]?).map (·.type) = some 279 := by kernel_rfl
theorem dBegin : (Rows.laid_rolodex_hash_begin : DataW Unit) = .agg (gv0.toList.map fun b => .lit (.int .u32 (b.toNat : Int))) := by kernel_rfl
theorem dRounds : (Rows.laid_rolodex_hash_rounds : DataW Unit) = .agg (gv1.toList.map fun b => .lit (.int .u32 (b.toNat : Int))) := by kernel_rfl
theorem glob_arr32s {P : Program} [TabC P] {H : Type} {enc : TypeId × Value → H} {W : World} {spare : Nat → Bool} {held : Bool} {n : String} {g t e m f : Nat} {i j : TI} {cs : Array Value} {p : List MemPlace} {v : Vector (BitVec 32) m} (hg : P.globalNamed n = some g) (hv : W.var? P n = some cs) (ht : ty P t = some i) (hk : i.k = .ar m e) (hj : ty P e = some j) (hjk : j.k = .int .u32) (hj1 : j.size = 1) (hi : i.size = m)
    (hd : DataW.trod enc P W 0 spare held f t cs.toList = some (.agg (v.toList.map fun b => .lit (.int .u32 (b.toNat : Int))), p)) : (SV.fpt [.arr32 v]).hc W none0 sg0 [.pointer (some ⟨g, 0, none⟩)] ∧ ∃ C T fr, W.heap[g]? = some (.cells C T fr) ∧ C.size = szL [SV.arr32 v] := by
  refine ⟨glob_arr32 hg hv ht hk hj hjk hj1 hi hd, ?_⟩
  obtain ⟨u, hcs, hx⟩ := arr_cells (w := 32) ht hk hj hjk hj1 hi rfl rfl hd
  simp only [World.var?, hg, Option.bind_some] at hv
  split at hv
  · rename_i C T fr hh
    have e := Option.some.inj hv
    refine ⟨C, T, fr, hh, ?_⟩
    have hl := congrArg List.length hcs
    rw [e]
    simpa [szL, SV.sz] using hl
  · cases hv
theorem glob_of_laid {W : World} (h : laidMetH Tryz.prog laidL W) : Glob Tryz.prog W none0 := by
  rw [MakeChecks.laidMetH_plain _ _ _ (by kernel_rfl)] at h
  obtain ⟨ps, ⟨g0, t0, cs0, f0, p0, q0, hg0, ht0, hv0, hd0, ⟨g1, t1, cs1, f1, p1, q1, hg1, ht1, hv1, hd1, _, _⟩, _⟩, _, _⟩ := h
  obtain rfl := Option.some.inj (gBegin.symm.trans hg0)
  obtain rfl := Option.some.inj (gRounds.symm.trans hg1)
  obtain rfl := Option.some.inj (tBegin.symm.trans ht0)
  obtain rfl := Option.some.inj (tRounds.symm.trans ht1)
  rw [dBegin] at hd0
  rw [dRounds] at hd1
  intro g ps hm
  have hm' : (g, ps) = (0, [SV.arr32 gv0]) ∨ (g, ps) = (1, [SV.arr32 gv1]) := by
    have e : TabC.gl Tryz.prog = [(0, [SV.arr32 gv0]), (1, [SV.arr32 gv1])] := rfl
    rw [e] at hm
    simpa using hm
  rcases hm' with e | e
  · cases e
    exact glob_arr32s (i := ⟨.ar 8 228, 8, 32⟩) (j := ⟨.int .u32, 1, 4⟩) hg0 hv0 rfl rfl rfl rfl rfl rfl hd0
  · cases e
    exact glob_arr32s (i := ⟨.ar 64 228, 64, 256⟩) (j := ⟨.int .u32, 1, 4⟩) hg1 hv1 rfl rfl rfl rfl rfl rfl hd1
theorem door_met (os : Os) (args : Array Value) : laidMetH Tryz.prog laidL ((World.doorLaid Tryz.prog 400 os).forCall (fun _ _ => 0) ⟨#[], args, []⟩).memory :=
  laidMetH_of_parts3 (fuel := 8) (laidMet_of_run' 8 (by kernel_rfl) (by kernel_rfl)) (by kernel_rfl) (by kernel_rfl)
/-! what the arguments are -/
section
variable {H : Type} {enc : TypeId × Value → H} {W : World} {spare : Nat → Bool} {held : Bool}
theorem o_byte : Opens Tryz.prog enc W spare held 5 eB := o_uns (i := ⟨.int .u8, 1, 1⟩) (k := .u8) (w := 8) (mk := .u8) rfl rfl rfl rfl (fun _ _ => hc8)
theorem o_bytes : Opens Tryz.prog enc W spare held 46 (fun l : List (BitVec 8) => [.fs 1 eB l]) :=
  o_slice (i := ⟨.sl 5, 1, 24⟩) (j := ⟨.int .u8, 1, 1⟩) (f := eB) rfl rfl rfl rfl rfl o_byte (fun _ => rfl)
theorem o_up : Opens Tryz.prog enc W spare held 80 eUp :=
  (o_struct (i := ⟨.st [(0, 46), (1, 46)], 2, 48⟩) rfl rfl
    (o_field (off := 0) (off2 := 1) (j := ⟨.sl 5, 1, 24⟩) rfl o_bytes (fun _ => rfl) rfl
    (o_last (j := ⟨.sl 5, 1, 24⟩) rfl o_bytes (fun _ => rfl))) (fun _ => rfl) (by kernel_rfl)).map (fun p => ((p.1, p.2) : Bs × Bs)) (fun _ => rfl)
theorem o_ups : Opens Tryz.prog enc W spare held 50 (fun l : List (Bs × Bs) => [.fs 2 eUp l]) :=
  o_slice (i := ⟨.sl 80, 1, 24⟩) (j := ⟨.st [(0, 46), (1, 46)], 2, 48⟩) rfl rfl rfl rfl rfl o_up (fun _ => rfl)
theorem o_upds : Opens Tryz.prog enc W spare held 22 (fun l : List (List (Bs × Bs)) => [.fs 1 eUe l]) :=
  o_slice (i := ⟨.sl 50, 1, 24⟩) (j := ⟨.sl 80, 1, 24⟩) rfl rfl rfl rfl rfl o_ups (fun _ => rfl)
end
end Go.Proofs.YtdflndjlnkoliaaGreatDoor

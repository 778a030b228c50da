import Derived.Test.YtkcicejnkdobpaaDoorFn
import Derived.Test.YtkcicejnkdobpaaDoorTab
import Derived.Lib.Builder
import Derived.Lib.UnsafeStr
import Derived.Shelf.RegionOpenPlain
import Derived.Shelf.Strings.OnBuilder
import Derived.Shelf.Strings.SplitCore
import Derived.Shelf.Strings.Search3
import Derived.Shelf.Strings.Count
import Derived.Shelf.Small.Strs
import Derived.Shelf.Small.Wraps
import Derived.Shelf.Strings.Search2
import Derived.Lib.IndexBytes
import Derived.Lib.SplitLaws
namespace Go.Proofs.YtkcicejnkdobpaaDoor
set_option linter.all false
open Go.RowKit
/-! numbers as digits -/
abbrev B8 := List (BitVec 8)
def dg (n : Nat) : BitVec 8 := BitVec.ofNat 8 (48 + n % 10)
def digN (n : Nat) : B8 := if n < 10 then [dg n] else digN (n / 10) ++ [dg n]
termination_by n
decreasing_by omega
theorem digN_lt {n : Nat} (h : n < 10) : digN n = [dg n] := by unfold digN; rw [if_pos h]
theorem digN_ge {n : Nat} (h : ¬ n < 10) : digN n = digN (n / 10) ++ [dg n] := by rw [digN]; rw [if_neg h]
def decS (n : Int) : B8 := if n < 0 then 45#8 :: digN (-n).toNat else digN n.toNat
abbrev mayN (n : Int) : Prop := -1000000 ≤ n ∧ n ≤ 1000000
theorem digN_len : ∀ (k n : Nat), n < 10 ^ (k + 1) → (digN n).length ≤ k + 1
  | 0, n, h => by rw [digN_lt (by omega)]; simp
  | k + 1, n, h => by
    by_cases h10 : n < 10
    · rw [digN_lt h10]; simp
    · rw [digN_ge h10]
      have := digN_len k (n / 10) (by rw [Nat.pow_succ] at h; omega)
      simp; omega
theorem dg_of (n : Int) (h : 0 ≤ n) : BitVec.ofInt 8 (48 + n % 10) = dg n.toNat := by
  obtain ⟨m, rfl⟩ := Int.eq_ofNat_of_zero_le h
  unfold dg
  have e : (48 + (m : Int) % 10) = ((48 + m % 10 : Nat) : Int) := by omega
  rw [e]; rfl
/-- a state of the swaps -/
def swp (L : B8) (i : Nat) (r : B8) : Prop := r.length = L.length ∧ ∀ j, j < L.length → r[j]? = if j < i ∨ L.length - i ≤ j then L[L.length - 1 - j]? else L[j]?
theorem swp_zero (L : B8) : swp L 0 L := ⟨rfl, fun j hj => by rw [if_neg (by omega)]⟩
theorem swp_end {L : B8} {i : Nat} {r : B8} (h : swp L i r) (hi : L.length ≤ 2 * i + 1) (hil : i ≤ L.length) : r = L.reverse := by
  apply List.ext_getElem?
  intro j
  by_cases hj : j < L.length
  · rw [h.2 j hj, List.getElem?_reverse hj]
    split
    · rfl
    · have : L.length - 1 - j = j := by omega
      rw [this]
  · rw [List.getElem?_eq_none (by rw [h.1]; omega), List.getElem?_eq_none (by rw [List.length_reverse]; omega)]
theorem swp_step {L : B8} {i : Nat} {r : B8} (h : swp L i r) (hi : 2 * i + 1 < L.length) (h1 : i < r.length) (h2 : L.length - 1 - i < r.length) : swp L (i + 1) ((r.set i r[L.length - 1 - i]).set (L.length - 1 - i) r[i]) := by
  refine ⟨by rw [List.length_set, List.length_set]; exact h.1, fun j hj => ?_⟩
  have a1 := h.2 i (by omega)
  have a2 := h.2 (L.length - 1 - i) (by omega)
  rw [if_neg (by omega), List.getElem?_eq_getElem h1] at a1
  rw [if_neg (by omega), List.getElem?_eq_getElem h2] at a2
  by_cases e1 : j = L.length - 1 - i
  · subst e1
    rw [List.getElem?_set_self (by rw [List.length_set]; omega), if_pos (by omega), a1]
    congr 1; omega
  · rw [List.getElem?_set_ne (fun e => e1 e.symm)]
    by_cases e2 : j = i
    · subst e2
      rw [List.getElem?_set_self h1, if_pos (by omega), a2]
    · rw [List.getElem?_set_ne (fun e => e2 e.symm), h.2 j hj]
      by_cases e3 : j < i ∨ L.length - i ≤ j
      · rw [if_pos e3, if_pos (by omega)]
      · rw [if_neg e3, if_neg (by omega)]
def num_c : Ctr where
  D := Int
  pre := fun n => mayN n
  args := fun n => [.int .i64 n]
  res := fun n _ => .tup [.str (decS n), .bool true]
def numPos (m : Nat) (s : Option (Nat × B8)) : Prop := match s with
  | none => True
  | some (n, o) => n ≤ m ∧ o ≠ [] ∧ (0 < n → digN n ++ o.reverse = digN m) ∧ (n = 0 → o.reverse = digN m)
def num_H : Cfg := ⟨[], [(15, [7, 11], [13, 15], (.one 0 0 false (.one 1 0 false (.one 2 0 false (.one 3 0 false (.one 4 0 false (.one 5 0 false (.one 6 0 false (.one 7 1 false (.one 8 0 false (.one 9 0 false (.one 10 0 false (.one 11 1 false (.one 12 0 false (.one 13 2 false (.one 14 0 false (.one 15 2 false .nil)))))))))))))))), [])], [16], [], 61, 0, [], [], []⟩
theorem num_ok : num_c.Ok Tryd.prog 44 := by
  refine fn_ok num_H 0 rfl _ Tryd.func44 rfl rfl trivial rfl rfl (by kernel_rfl) (fun _ => Nat.le_of_ble_eq_true rfl) ?_
  intro (n : Int) hp hr
  try dsimp only [num_c] at hp
  try simp only [num_c, Rng, RngL, inR, and_true, true_and] at hr
  repeat' (first | (with_reducible refine Unf.h ?_) | ((conv => whnf); first | refine Fork.mk (fun h => ?_) (fun h => ?_) | (refine Side.mk ?_ ?_; focus (omega)) | refine RetE.mk () trivial ?_ | refine retK_r ?_ | exact rfl) | fail); all_goals try (conv => whnf)
  obtain ⟨m, hm⟩ : ∃ m : Nat, m = n.natAbs := ⟨_, rfl⟩
  obtain ⟨sg, hsg⟩ : ∃ sg : B8, sg = if n < 0 then [45#8] else [] := ⟨_, rfl⟩
  have hdec : sg ++ digN m = decS n := by
    unfold decS; rw [hsg]
    split
    · rw [show (-n).toNat = m by omega]; rfl
    · rw [show n.toNat = m by omega]; rfl
  have hsl : sg.length ≤ 1 := by rw [hsg]; split <;> simp
  have hml : (digN m).length ≤ 7 := digN_len 6 m (by omega)
  refine CutS.auto (I := Unit) (fun _ => True) (fun _ => [(0, .int .i64 m), (4, .str sg)]) (fun _ => []) 0 ?_ ?_
  · repeat' (first | (with_reducible first | refine Unf.h ?_ | refine cutK_n ?_) | ((conv => whnf); first | refine Fork.mk (fun h => ?_) (fun h => ?_) | (refine Side.mk ?_ ?_; focus ((intros; (try simp only [lenS, inR, cutS, loI, hiI] at *); omega)))) | fail); all_goals try (conv => whnf)
    · have e1 : [45#8] = sg := by rw [hsg, if_pos h]
      have e2 : -n = (m : Int) := by omega
      clear hsg hdec hm
      refine ⟨(), trivial, ?_⟩
      repeat' (first | (with_reducible refine Unf.h ?_) | ((conv => whnf); first | (refine Side.mk ?_ ?_; focus (first | with_reducible rfl | (refine congrArg (SV.int _) ?_; omega) | (simp [*, e1, e2]; done))) | (with_reducible refine Unf.h ?_) | exact True.intro) | fail); all_goals try (conv => whnf)
    · have e1 : [] = sg := by rw [hsg, if_neg h]
      have e2 : n = (m : Int) := by omega
      clear hsg hdec hm
      refine ⟨(), trivial, ?_⟩
      repeat' (first | (with_reducible refine Unf.h ?_) | ((conv => whnf); first | (refine Side.mk ?_ ?_; focus (first | with_reducible rfl | (refine congrArg (SV.int _) ?_; omega) | (simp only [*, e1, e2, List.map_cons, List.map_nil, eB]; done))) | (with_reducible refine Unf.h ?_) | exact True.intro) | fail); all_goals try (conv => whnf)
  · rintro ⟨⟩ -
    repeat' (first | (with_reducible refine Unf.h ?_) | fail); all_goals try (conv => whnf)
    refine LoopS.autoN (I := Option (Nat × B8)) (numPos m) (fun s => match s with | none => [(0, .int .i64 m), (6, .bool true), (5, .nils)] | some (k, _) => [(0, .int .i64 k), (6, .bool false), (5, .own 0)]) (fun s => match s with | none => [] | some (_, o) => [(0, .row 5 1 eB o)]) 1 (fun s => match s with | none => m + 1 | some (k, _) => k) none trivial ?_ ?_
    · repeat' (first | (with_reducible refine Unf.h ?_) | ((conv => whnf); first | (refine Side.mk ?_ ?_; focus (with_reducible rfl)) | (with_reducible refine Unf.h ?_) | exact True.intro) | fail); all_goals try (conv => whnf)
    · rintro (_ | ⟨k, o⟩) hs
      · have ed := dg_of (m : Int) (by omega)
        rw [Int.toNat_natCast] at ed
        repeat' (first | (with_reducible first | refine Unf.h ?_ | refine loopK_n ?_) | ((conv => whnf); (refine Side.mk ?_ ?_; focus (first | omega | (intros; (try simp only [lenS, inR, cutS, loI, hiI] at *); omega)))) | fail); all_goals try (conv => whnf)
        refine ⟨some (m / 10, [dg m]), ⟨?_, ?_⟩, ?_⟩
        · show m / 10 < m + 1; omega
        · refine ⟨by omega, by simp, fun h => ?_, fun h => ?_⟩
          · rw [digN_ge (n := m) (by omega)]; rfl
          · rw [digN_lt (n := m) (by omega)]; rfl
        have e2 : (m : Int) / 10 = ((m / 10 : Nat) : Int) := by omega
        repeat' (first | (with_reducible refine Unf.h ?_) | ((conv => whnf); first | (refine Side.mk ?_ ?_; focus (first | with_reducible rfl | (refine congrArg (SV.int _) ?_; omega))) | (with_reducible refine Unf.h ?_)) | fail); all_goals try (conv => whnf)
        refine Side.mk (by rw [ed]; rfl) ?_
        repeat' (first | (with_reducible refine Unf.h ?_) | ((conv => whnf); exact True.intro) | fail); all_goals try (conv => whnf)
      · obtain ⟨s1, s2, s3, s4⟩ := hs
        have ed := dg_of (k : Int) (by omega)
        rw [Int.toNat_natCast] at ed
        have hol : o.length ≤ 7 := by
          rcases Nat.eq_zero_or_pos k with hk | hk
          · have := congrArg List.length (s4 hk); rw [List.length_reverse] at this; omega
          · have := congrArg List.length (s3 hk); rw [List.length_append, List.length_reverse] at this; omega
        have hsd : (EF.of eB (o ++ [BitVec.ofInt 8 (48 + (k : Int) % 10)])).els.length ≤ 8 := by rw [EF.of_len, List.length_append]; simp; omega
        repeat' (first | (with_reducible first | refine Unf.h ?_ | refine loopK_n ?_) | ((conv => whnf); first | refine Fork.mk (fun h => ?_) (fun h => ?_) | (refine Side.mk ?_ ?_; focus (first | omega | (dsimp only; omega) | (intros; (try simp only [lenS, inR, cutS, loI, hiI] at *); omega))) | refine Ex.mk [_] rfl ?_) | fail); all_goals try (conv => whnf)
        · have hk : 0 < k := by omega
          refine ⟨some (k / 10, o ++ [dg k]), ⟨?_, ?_⟩, ?_⟩
          · show k / 10 < k; omega
          · have e3 := s3 hk
            refine ⟨by omega, by simp, fun h => ?_, fun h => ?_⟩
            · rw [← e3, digN_ge (n := k) (by omega)]; simp
            · rw [← e3, digN_lt (n := k) (by omega)]; simp
          have e2 : (k : Int) / 10 = ((k / 10 : Nat) : Int) := by omega
          repeat' (first | (with_reducible refine Unf.h ?_) | ((conv => whnf); first | (refine Side.mk ?_ ?_; focus (first | with_reducible rfl | (refine congrArg (SV.int _) ?_; omega) | (simp only [*, ed, e2]; done))) | (with_reducible refine Unf.h ?_) | exact True.intro) | fail); all_goals try (conv => whnf)
        · have hk : k = 0 := by omega
          have e4 := s4 hk
          have hop : 0 < o.length := List.length_pos_iff.2 s2
          refine LoopS.autoN (I := Nat × B8) (fun (i, r) => 2 * i ≤ o.length + 1 ∧ swp o i r) (fun (i, r) => [(7, .int .i64 i), (8, .int .i64 ((o.length : Int) - 1 - i)), (5, .own 0)]) (fun (_, r) => [(0, .row 5 1 eB r)]) 1 (fun (i, _) => o.length - i) (0, o) ⟨by omega, swp_zero o⟩ ?_ ?_
          · repeat' (first | (with_reducible refine Unf.h ?_) | ((conv => whnf); first | (refine Side.mk ?_ ?_; focus (first | with_reducible rfl | (refine congrArg (SV.int _) ?_; omega))) | (with_reducible refine Unf.h ?_) | exact True.intro) | fail); all_goals try (conv => whnf)
          · rintro ⟨i, r⟩ ⟨hi, hw⟩
            have hrl := hw.1
            repeat' (first | (with_reducible refine Unf.h ?_) | ((conv => whnf); first | refine Fork.mk (fun h => ?_) (fun h => ?_) | (refine Side.mk ?_ ?_; focus (omega)) | (refine Idx.mk ?_ ?_; focus (omega)) | refine RetE.mk () trivial ?_ | refine Ex.mk _ rfl ?_ | refine retK_r ?_) | fail); all_goals try (conv => whnf)
            · refine Side.mk ⟨by omega, by rw [List.length_set]; omega⟩ ?_
              have hz3 : ((o.length : Int) - 1 - i).toNat < (r.set (i : Int).toNat (r[((o.length : Int) - 1 - i).toNat]'(by omega))).length := by rw [List.length_set]; omega
              repeat' (first | (with_reducible first | refine Unf.h ?_ | refine loopK_n ?_) | ((conv => whnf); first | (refine Side.mk ?_ ?_; focus ((intros; (try simp only [lenS, inR, cutS, loI, hiI] at *); omega))) | (refine Idx.mk ?_ ?_; focus (omega)) | refine Ex.mk _ rfl ?_) | fail); all_goals try (conv => whnf)
              have ek : ((o.length : Int) - 1 - i).toNat = o.length - 1 - i := by omega
              have hst := swp_step hw (by omega) (by omega) (by omega)
              refine ⟨(i + 1, (r.set (i : Int).toNat (r[((o.length : Int) - 1 - i).toNat]'(by omega))).set ((o.length : Int) - 1 - i).toNat (r[(i : Int).toNat]'(by omega))), ⟨?_, ?_, ?_⟩, ?_⟩
              · show o.length - (i + 1) < o.length - i; omega
              · show 2 * (i + 1) ≤ o.length + 1; omega
              · simpa only [ek, Int.toNat_natCast] using hst
              clear hst
              repeat' (first | (with_reducible refine Unf.h ?_) | ((conv => whnf); first | (refine Side.mk ?_ ?_; focus (first | with_reducible rfl | (refine congrArg (SV.int _) ?_; omega))) | (with_reducible refine Unf.h ?_) | exact True.intro) | fail); all_goals try (conv => whnf)
            · have er : r = digN m := (swp_end hw (by omega) (by omega)).trans e4
              refine Side.mk (by rw [er, hdec]) ?_
              repeat' (first | (with_reducible refine Unf.h ?_) | ((conv => whnf); first | (refine Side.mk ?_ ?_; focus (with_reducible rfl)) | exact rfl) | fail); all_goals try (conv => whnf)
def numX_c : Ctr where
  D := Int
  pre := fun n => ¬ mayN n
  args := fun n => [.int .i64 n]
  res := fun n _ => .tup [.str [], .bool false]
def numX_H : Cfg := ⟨[], [(15, [7, 11], [13, 15], (.one 0 0 false (.one 1 0 false (.one 2 0 false (.one 3 0 false (.one 4 0 false (.one 5 0 false (.one 6 0 false (.one 7 1 false (.one 8 0 false (.one 9 0 false (.one 10 0 false (.one 11 1 false (.one 12 0 false (.one 13 2 false (.one 14 0 false (.one 15 2 false .nil)))))))))))))))), [])], [], [], 61, 0, [], [], []⟩
theorem numX_ok : numX_c.Ok Tryd.prog 44 := by
  refine fn_ok numX_H 0 rfl _ Tryd.func44 rfl rfl trivial rfl rfl (by kernel_rfl) (fun _ => Nat.le_of_ble_eq_true rfl) ?_
  intro (n : Int) hp hr
  try dsimp only [numX_c] at hp
  try simp only [numX_c, Rng, RngL, inR, and_true, true_and] at hr
  repeat' (first | (with_reducible refine Unf.h ?_) | ((conv => whnf); first | refine Fork.mk (fun h => ?_) (fun h => ?_) | (refine Side.mk ?_ ?_; focus (first | with_reducible rfl | omega | (simp only [*, List.map_cons, List.map_nil, eB]; done))) | refine RetE.mk () trivial ?_ | refine retK_r ?_ | exact rfl) | fail); all_goals try (conv => whnf)
  all_goals (exfalso; omega)
end Go.Proofs.YtkcicejnkdobpaaDoor

namespace Go.Proofs.YtkcicejnkdobpaaDoor
set_option linter.all false
open Go.RowKit
/-! strings.Builder -/
set_option maxRecDepth 100000 in
set_option maxHeartbeats 1000000 in
theorem cc_used (b : Nat) (w : World) (h0 : w.cell? ⟨b, 0, none⟩ = some (.pointer (some ⟨b, 0, none⟩))) :
    Calls Tryd.prog 27 #[.pointer (some ⟨b, 0, none⟩)] w fun e w' => e = .returned (.tuple #[]) ∧ w' = w := by
  go_enter Tryd.func27, Tryd.ntmps27
  go_wp2
  obtain ⟨j, d, hj, _⟩ := ty_spec (P := Tryd.prog) (t := 42) (i := ⟨.st [(0, 40), (1, 36)], 2, 32⟩) rfl
  rw [Go.Lib.run_neq_ptr_same w _ Tryd.underlying40 hj]
  go_wp2
  go_end0
  exact ⟨rfl, rfl⟩
set_option maxRecDepth 100000 in
set_option maxHeartbeats 1000000 in
theorem cc_fresh (b : Nat) (w : World) (h0 : w.cell? ⟨b, 0, none⟩ = some (.pointer none)) (hsh : w.shape? b = some (42, 2)) (hfz : w.frozen? ⟨b, 0, none⟩ = false) :
    Calls Tryd.prog 27 #[.pointer (some ⟨b, 0, none⟩)] w fun e w' => e = .returned (.tuple #[]) ∧ w' = w.setCell ⟨b, 0, none⟩ (.pointer (some ⟨b, 0, none⟩)) := by
  go_enter Tryd.func27, Tryd.ntmps27
  go_wp2
  obtain ⟨j, d, hj, _, hjs, _⟩ := ty_spec (P := Tryd.prog) (t := 42) (i := ⟨.st [(0, 40), (1, 36)], 2, 32⟩) rfl
  rw [Go.Lib.run_to_unsafe w ⟨b, 0, none⟩ Tryd.underlying40 Tryd.underlying82 hj (by rw [hjs]; decide) hsh (Nat.zero_lt_succ 1)]
  simp only [Result.andThen]
  rw [Oper.upon_value]
  go_wp2
  rw [run_callFunc_extern Tryd.func48 (by kernel_rfl) (by kernel_rfl) (by kernel_rfl) (e := Extern.AbiNoEscape.same) (by kernel_rfl)]
  rw [Go.Lib.run_noEscape]
  simp only [Result.andThen]
  rw [Oper.upon_value]
  go_wp2
  rw [Go.Lib.run_from_unsafe w ⟨b, 0, none⟩ Tryd.underlying82 Tryd.underlying40 hj hsh (by kernel_rfl)]
  simp only [Result.andThen]
  rw [Oper.upon_value]
  go_wp2
  go_end0
  exact ⟨rfl, rfl⟩
end Go.Proofs.YtkcicejnkdobpaaDoor

namespace Go.Proofs.YtkcicejnkdobpaaDoor
set_option linter.all false
open Go.RowKit
/-- a builder: nothing is in it yet -/
abbrev sb0 : SO := .box 42 [.nilp, .nils]
/-- a builder that is named k, its bytes lie in m -/
abbrev sb1 (k m : Nat) : SO := .box 42 [.ptr k 0, .own m]
abbrev sbR (l : B8) : SO := .row 5 1 eB l
def cc0_c : Ctr where
  D := Unit
  args := fun _ => [.ptr 0 0]
  objs := fun _ => [(0, sb0)]
  nn := 1
  res := fun _ _ => .tup []
  out := fun _ _ => [(0, .box 42 [.ptr 0 0, .nils])]
def cc1_c : Ctr where
  D := B8
  args := fun _ => [.ptr 0 0]
  objs := fun l => [(0, sb1 0 1), (1, sbR l)]
  nn := 2
  res := fun _ _ => .tup []
  out := fun l _ => [(0, sb1 0 1), (1, sbR l)]
  kp := true
theorem ptr0_hv {w : World} {A : Own} {σ : Sg} {k b : Nat} {v : Value} (h : SV.h1 w A σ (.ptr k 0) v) (hk : σ k = some (.pointer (some ⟨b, 0, none⟩))) : v = .pointer (some ⟨b, 0, none⟩) := by
  simp only [SV.h1, SV.hc, List.cons.injEq, and_true] at h
  obtain ⟨b', o', e1, e2⟩ := h
  rw [hk] at e1; cases e1
  simpa using e2
theorem cc0_ok : cc0_c.Ok Tryd.prog 27 := by
  rintro ⟨⟩ _ A0 w σ vs hA hobs hargs hdom hgl
  obtain ⟨p, m1, rfl, h1, h3⟩ := hargs
  simp only [hvs] at h3; subst h3
  obtain ⟨b, cs, hs, hh, hc⟩ := hobs.holds _ (List.mem_cons_self ..)
  obtain rfl := ptr0_hv (w := w) (A := Av A0 σ []) (σ := σ) h1 hs
  simp only [hL, SV.hc] at hc
  have hcs : cs = [.pointer none, .slice none 0 0] := by
    obtain ⟨c1, r1, rfl, rfl, c2, r2, rfl, rfl, rfl⟩ := hc
    rfl
  subst hcs
  have h0 : w.cell? ⟨b, 0, none⟩ = some (.pointer none) := by rw [cell_of_row w b 0 _ _ _ hh]; rfl
  refine (cc_fresh b w h0 (by simp [World.shape?, hh]) (frozen_of_row w b 0 _ _ hh)).mono ?_
  rintro e w' ⟨rfl, rfl⟩
  have hown : ∀ so : SO, (∃ ps, so = .box 42 ps) → ∀ c, so.own σ 0 c ↔ c = b := by
    rintro so ⟨ps, rfl⟩ c
    simp only [SO.own, hs, Option.some.injEq]
    constructor
    · rintro ⟨v, rfl, h⟩; simp only [blkO, Option.some.injEq] at h; exact h.symm
    · rintro rfl; exact ⟨_, rfl, rfl⟩
  have hm := Mod.setCell w ⟨b, 0, none⟩ (.pointer (some ⟨b, 0, none⟩))
  refine ⟨(), .tuple #[], σ, rfl, trivial, fun _ _ _ h => h, fun k hk => hdom k hk, ?_, hm.mono fun c hc => ⟨rfl, .inl ((hown _ ⟨_, rfl⟩ c).2 hc)⟩, ?_, fun c hc => .inl (hc.imp (fun h => (hown _ ⟨_, rfl⟩ c).2 ((hown _ ⟨_, rfl⟩ c).1 h)) id)⟩
  · simp [SV.hv, hvs, cc0_c]
  · refine hobs.set (p := (0, sb0)) (q := (0, .box 42 [.ptr 0 0, .nils])) (SetO.here) (hm.mono fun c hc => (hown _ ⟨_, rfl⟩ c).2 hc) ⟨b, [.pointer (some ⟨b, 0, none⟩), .slice none 0 0], hs, ?_, ?_⟩ (fun c hc => .inl ((hown _ ⟨_, rfl⟩ c).2 ((hown _ ⟨_, rfl⟩ c).1 hc))) hA
    · rw [heap_setCell_same w b 0 _ _ _ hh]; rfl
    · simp only [hL, SV.hc]
      exact ⟨[_], [_], rfl, ⟨b, 0, hs, rfl⟩, [_], [], rfl, rfl, rfl⟩
theorem cc1_ok : cc1_c.Ok Tryd.prog 27 := by
  rintro l _ A0 w σ vs hA hobs hargs hdom hgl
  obtain ⟨p, m1, rfl, h1, h3⟩ := hargs
  simp only [hvs] at h3; subst h3
  obtain ⟨b, cs, hs, hh, hc⟩ := hobs.holds _ (List.mem_cons_self ..)
  obtain rfl := ptr0_hv (w := w) (A := Av A0 σ []) (σ := σ) h1 hs
  simp only [hL] at hc
  have h0 : w.cell? ⟨b, 0, none⟩ = some (.pointer (some ⟨b, 0, none⟩)) := by
    obtain ⟨c1, r1, rfl, h1, _⟩ := hc
    simp only [SV.hc] at h1
    obtain ⟨b', o', e1, e2⟩ := h1
    rw [hs] at e1; cases e1
    subst e2
    rw [cell_of_row w b 0 _ _ _ hh]; simp
  refine (cc_used b w h0).mono ?_
  rintro e w' ⟨rfl, rfl⟩
  refine ⟨(), .tuple #[], σ, rfl, trivial, fun _ _ _ h => h, fun k hk => hdom k hk, ?_, Mod.refl _ _, hobs, fun c hc => .inl hc⟩
  simp [SV.hv, hvs, cc1_c]
end Go.Proofs.YtkcicejnkdobpaaDoor

namespace Go.Proofs.YtkcicejnkdobpaaDoor
set_option linter.all false
open Go.RowKit
def wb0_c : Ctr where
  D := BitVec 8
  args := fun b => [.ptr 0 0, .u8 b]
  objs := fun _ => [(0, sb0)]
  nn := 1
  res := fun _ _ => .val .nilIface
  out := fun b _ => [(0, sb1 0 1), (1, sbR [b])]
  mm := 1
def wb1_c : Ctr where
  D := B8 × BitVec 8
  pre := fun (l, _) => l.length < 140737488355328
  args := fun (_, b) => [.ptr 0 0, .u8 b]
  objs := fun (l, _) => [(0, sb1 0 1), (1, sbR l)]
  nn := 2
  res := fun _ _ => .val .nilIface
  out := fun (l, b) _ => [(0, sb1 0 2), (2, sbR (l ++ [b]))]
  mm := 1
def ws0_c : Ctr where
  D := B8
  pre := fun s => s.length ≤ 140737488355328
  args := fun s => [.ptr 0 0, .str s]
  objs := fun _ => [(0, sb0)]
  nn := 1
  res := fun s _ => .tup [.int .i64 s.length, .val .nilIface]
  out := fun s _ => [(0, sb1 0 1), (1, sbR s)]
  mm := 1
def ws1_c : Ctr where
  D := B8 × B8
  pre := fun (l, s) => l.length + s.length ≤ 140737488355328
  args := fun (_, s) => [.ptr 0 0, .str s]
  objs := fun (l, _) => [(0, sb1 0 1), (1, sbR l)]
  nn := 2
  res := fun (_, s) _ => .tup [.int .i64 s.length, .val .nilIface]
  out := fun (l, s) _ => [(0, sb1 0 2), (2, sbR (l ++ s))]
  mm := 1
def ln0_c : Ctr where
  D := Unit
  args := fun _ => [.ptr 0 0]
  objs := fun _ => [(0, sb0)]
  nn := 1
  res := fun _ _ => .int .i64 0
  out := fun _ _ => [(0, sb0)]
def ln1_c : Ctr where
  D := B8
  args := fun _ => [.ptr 0 0]
  objs := fun l => [(0, sb1 0 1), (1, sbR l)]
  nn := 2
  res := fun l _ => .int .i64 l.length
  out := fun l _ => [(0, sb1 0 1), (1, sbR l)]
def ws0_H : Cfg := ⟨[(27, cc0_c)], [], [], [], 19, 1, [], [], []⟩
theorem ws0_ok : ws0_c.Ok Tryd.prog 16 := by
  refine fn_ok ws0_H 1 rfl _ Tryd.func16 rfl rfl ⟨cc0_ok, trivial⟩ rfl rfl (by kernel_rfl) (fun _ => Nat.le_of_ble_eq_true rfl) ?_
  intro (s : B8) hp hr
  try dsimp only [ws0_c] at hp
  try simp only [ws0_c, Rng, RngL, inR, and_true, true_and] at hr
  repeat' (first | (with_reducible refine Unf.h ?_) | ((conv => whnf); first | (refine Side.mk ?_ ?_; focus (first | with_reducible rfl | exact True.intro | omega | (intros; (try simp only [lenS, inR, cutS, loI, hiI] at *); omega))) | refine RetE.mk () trivial ?_ | refine Got.mk (fun _ _ => ?_) | refine retK_r ?_ | exact rfl | refine CallS.mk (c := cc0_c) (()) ?_) | fail); all_goals try (conv => whnf)
def ws1_H : Cfg := ⟨[(27, cc1_c)], [], [], [], 19, 2, [], [], []⟩
theorem ws1_ok : ws1_c.Ok Tryd.prog 16 := by
  refine fn_ok ws1_H 2 rfl _ Tryd.func16 rfl rfl ⟨cc1_ok, trivial⟩ rfl rfl (by kernel_rfl) (fun _ => Nat.le_of_ble_eq_true rfl) ?_
  rintro ⟨l, s⟩ hp hr
  try dsimp only [ws1_c] at hp
  try simp only [ws1_c, Rng, RngL, inR, and_true, true_and] at hr
  repeat' (first | (with_reducible refine Unf.h ?_) | ((conv => whnf); first | (refine Side.mk ?_ ?_; focus (first | with_reducible rfl | exact True.intro | omega | (intros; (try simp only [lenS, inR, cutS, loI, hiI] at *); omega))) | refine RetE.mk () trivial ?_ | refine Got.mk (fun _ _ => ?_) | refine Ex.mk _ rfl ?_ | refine retK_r ?_ | exact rfl | refine CallS.mk (c := cc1_c) (l) ?_) | fail); all_goals try (conv => whnf)
def wb0_H : Cfg := ⟨[(27, cc0_c)], [], [], [], 17, 1, [], [], []⟩
theorem wb0_ok : wb0_c.Ok Tryd.prog 54 := by
  refine fn_ok wb0_H 1 rfl _ Tryd.func54 rfl rfl ⟨cc0_ok, trivial⟩ rfl rfl (by kernel_rfl) (fun _ => Nat.le_of_ble_eq_true rfl) ?_
  intro (b : BitVec 8) hp hr
  try dsimp only [wb0_c] at hp
  try simp only [wb0_c, Rng, RngL, inR, and_true, true_and] at hr
  repeat' (first | (with_reducible refine Unf.h ?_) | ((conv => whnf); first | (refine Side.mk ?_ ?_; focus (first | with_reducible rfl | exact True.intro | (intros; (try simp only [lenS, inR, cutS, loI, hiI] at *); omega) | (simp only [*, List.map_cons, List.map_nil, eB]; done) | (dsimp only [resS, wb0_c, cc0_c]; done))) | refine RetE.mk () trivial ?_ | refine Got.mk (fun _ _ => ?_) | refine retK_r ?_ | exact rfl | refine CallS.mk (c := cc0_c) (()) ?_) | fail); all_goals try (conv => whnf)
def wb1_H : Cfg := ⟨[(27, cc1_c)], [], [], [], 17, 2, [], [], []⟩
theorem wb1_ok : wb1_c.Ok Tryd.prog 54 := by
  refine fn_ok wb1_H 2 rfl _ Tryd.func54 rfl rfl ⟨cc1_ok, trivial⟩ rfl rfl (by kernel_rfl) (fun _ => Nat.le_of_ble_eq_true rfl) ?_
  rintro ⟨l, b⟩ hp hr
  try dsimp only [wb1_c] at hp
  try simp only [wb1_c, Rng, RngL, inR, and_true, true_and] at hr
  repeat' (first | (with_reducible refine Unf.h ?_) | ((conv => whnf); first | (refine Side.mk ?_ ?_; focus (first | with_reducible rfl | exact True.intro | (intros; (try simp only [lenS, inR, cutS, loI, hiI] at *); omega) | (dsimp only [resS, wb1_c, cc1_c]; done))) | refine RetE.mk () trivial ?_ | refine Got.mk (fun _ _ => ?_) | refine Ex.mk [_] rfl ?_ | refine retK_r ?_ | exact rfl | refine CallS.mk (c := cc1_c) (l) ?_) | fail); all_goals try (conv => whnf)
def ln0_H : Cfg := ⟨[], [], [], [], 8, 1, [], [], []⟩
theorem ln0_ok : ln0_c.Ok Tryd.prog 15 := by
  refine fn_ok ln0_H 1 rfl _ Tryd.func15 rfl rfl trivial rfl rfl (by kernel_rfl) (fun _ => Nat.le_of_ble_eq_true rfl) ?_
  rintro ⟨⟩ hp hr
  try dsimp only [ln0_c] at hp
  try simp only [ln0_c, Rng, RngL, inR, and_true, true_and] at hr
  repeat' (first | (with_reducible refine Unf.h ?_) | ((conv => whnf); first | (refine Side.mk ?_ ?_; focus (first | with_reducible rfl | (refine congrArg (SV.int _) ?_; omega))) | refine RetE.mk () trivial ?_ | refine retK_r ?_ | exact rfl) | fail); all_goals try (conv => whnf)
def ln1_H : Cfg := ⟨[], [], [], [], 8, 2, [], [], []⟩
theorem ln1_ok : ln1_c.Ok Tryd.prog 15 := by
  refine fn_ok ln1_H 2 rfl _ Tryd.func15 rfl rfl trivial rfl rfl (by kernel_rfl) (fun _ => Nat.le_of_ble_eq_true rfl) ?_
  intro (l : B8) hp hr
  try dsimp only [ln1_c] at hp
  try simp only [ln1_c, Rng, RngL, inR, and_true, true_and] at hr
  repeat' (first | (with_reducible refine Unf.h ?_) | ((conv => whnf); first | (refine Side.mk ?_ ?_; focus (first | with_reducible rfl | (refine congrArg (SV.int _) ?_; omega))) | refine RetE.mk () trivial ?_ | refine retK_r ?_ | exact rfl) | fail); all_goals try (conv => whnf)
end Go.Proofs.YtkcicejnkdobpaaDoor

namespace Go.Proofs.YtkcicejnkdobpaaDoor
set_option linter.all false
open Go.RowKit
def st0_c : Ctr where
  D := Unit
  args := fun _ => [.ptr 0 0]
  objs := fun _ => [(0, sb0)]
  nn := 1
  res := fun _ _ => .str []
  out := fun _ _ => [(0, sb0)]
  kp := true
/-- the builder is spent -/
def st1_c : Ctr where
  D := B8
  pre := fun l => l ≠ []
  args := fun _ => [.ptr 0 0]
  objs := fun l => [(0, sb1 0 1), (1, sbR l)]
  nn := 2
  res := fun l _ => .str l
  out := fun _ _ => []
set_option maxRecDepth 100000 in
set_option maxHeartbeats 2000000 in
theorem bs_nil (b : Nat) (p : Value) (w : World) (hb : w.heap[b]? = some (.cells #[p, .slice none 0 0] 42 (0, 0))) :
    Calls Tryd.prog 17 #[.pointer (some ⟨b, 0, none⟩)] w fun e w' => e = .returned (.string .empty) ∧ w' = w.drew := by
  have c1 : w.drew.cell? ⟨b, 1, none⟩ = some (.slice none 0 0) := by
    rw [cell_of_row w.drew b 1 _ _ _ hb]; rfl
  have hSD := Go.Lib.run_unsafeSliceData_nil (P := Tryd.prog) w.drew #[36] 65 0 0
  have hUS := Go.Lib.run_unsafeString_none (P := Tryd.prog) w.drew 65 3 9 none
  have mixed : (Tryd.prog).follows Departure.mixedOrders = true := rfl
  go_enter Tryd.func17, Tryd.ntmps17
  go_wp2
  go_region_o
  all_goals (go_wp2; go_ret; exact ⟨rfl, rfl⟩)
set_option maxRecDepth 100000 in
set_option maxHeartbeats 2000000 in
theorem bs_row (b g n cap : Nat) (p : Value) (s : ByteArray) (w : World) (hb : w.heap[b]? = some (.cells #[p, .slice (some ⟨g, 0, none⟩) n cap] 42 (0, 0))) (hc : cap ≠ 0)
    (hUS : (Builtin.unsafeString_ #[65, 3] 9 #[.pointer (some ⟨g, 0, none⟩), .int .i64 n]).run Tryd.prog w.drew = .ok (.string s) (w.drew.freeze ⟨g, 0, none⟩ n)) :
    Calls Tryd.prog 17 #[.pointer (some ⟨b, 0, none⟩)] w fun e w' => e = .returned (.string s) ∧ w' = w.drew.freeze ⟨g, 0, none⟩ n := by
  have c1 : w.drew.cell? ⟨b, 1, none⟩ = some (.slice (some ⟨g, 0, none⟩) n cap) := by
    rw [cell_of_row w.drew b 1 _ _ _ hb]; rfl
  have hSD := Go.Lib.run_unsafeSliceData_row (P := Tryd.prog) w.drew #[36] 65 ⟨g, 0, none⟩ n cap hc
  clear hc hb
  have mixed : (Tryd.prog).follows Departure.mixedOrders = true := rfl
  go_enter Tryd.func17, Tryd.ntmps17
  go_wp2
  go_region_o
  all_goals (go_wp2; go_ret; exact ⟨rfl, rfl⟩)
end Go.Proofs.YtkcicejnkdobpaaDoor

namespace Go.Proofs.YtkcicejnkdobpaaDoor
set_option linter.all false
open Go.RowKit
theorem obs_kept {σ : Sg} {A0 : Own} {objs : List Ob} {w w' : World} (h : Obs σ A0 objs w) (hm : Kept w w') : Obs σ A0 objs w' :=
  have hl : Later w (fun b => A0 b ∨ owns σ objs b) w' (fun b => A0 b ∨ owns σ objs b) := hm.later _ fun _ _ hb => hb
  ⟨fun r hr => (h.holds r hr).later hl fun b hb => hm.block b (h.lt b (owns_mem hr hb)).1 id, h.disj, fun b hb => ⟨Nat.lt_of_lt_of_le (h.lt b hb).1 hm.size, (h.lt b hb).2⟩⟩
theorem kept_drew (w : World) : Kept w w.drew := ⟨rfl, rfl, rfl, Nat.le_refl _, fun _ _ _ => rfl⟩
theorem Mod.freezes (w : World) (g n : Nat) : Mod (fun x => x = g) w (w.freeze ⟨g, 0, none⟩ n) := by
  unfold World.freeze
  split
  · exact Mod.refl _ _
  · exact ⟨rfl, rfl, rfl, by simp, fun k hk hm => by rw [Array.getElem?_modify]; rw [if_neg (fun e => hm e.symm)]⟩
theorem st0_ok : st0_c.Ok Tryd.prog 17 := by
  rintro ⟨⟩ _ A0 w σ vs hA hobs hargs hdom hgl
  obtain ⟨p, m1, rfl, h1, h3⟩ := hargs
  simp only [hvs] at h3; subst h3
  obtain ⟨b, cs, hs, hh, hc⟩ := hobs.holds _ (List.mem_cons_self ..)
  obtain rfl := ptr0_hv (w := w) (A := Av A0 σ []) (σ := σ) h1 hs
  simp only [hL, SV.hc] at hc
  have hcs : cs = [.pointer none, .slice none 0 0] := by
    obtain ⟨c1, r1, rfl, rfl, c2, r2, rfl, rfl, rfl⟩ := hc
    rfl
  subst hcs
  refine (bs_nil b _ w hh).mono ?_
  rintro e w' ⟨rfl, rfl⟩
  refine ⟨(), .string .empty, σ, rfl, trivial, fun _ _ _ h => h, fun k hk => hdom k hk, ?_, (kept_drew w).mono fun _ x => x.elim, obs_kept hobs (kept_drew w), fun c hc => .inl hc⟩
  exact hvS.2 rfl
theorem st1_ok : st1_c.Ok Tryd.prog 17 := by
  intro (l : B8) hne A0 w σ vs hA hobs hargs hdom hgl
  obtain ⟨p, m1, rfl, h1, h3⟩ := hargs
  simp only [hvs] at h3; subst h3
  obtain ⟨b, cs, hs, hh, hc⟩ := hobs.holds _ (List.mem_cons_self ..)
  obtain ⟨v, ds, r1, r2, r3, r4, r5⟩ := hobs.holds (1, sbR l) (List.mem_cons_of_mem _ (List.mem_cons_self ..))
  obtain rfl := ptr0_hv (w := w) (A := Av A0 σ []) (σ := σ) h1 hs
  have hne' : l ≠ [] := hne
  have hl0 : l.length ≠ 0 := fun h => hne' (List.eq_nil_of_length_eq_zero h)
  rw [List.length_map] at r5 r3
  obtain rfl := hE_bytes r4
  rcases r5.2 with ⟨_, hz⟩ | ⟨g, cap, cur, rfl, hbg, hg, hnc, hcm, hcs, htake⟩
  · exact absurd hz hl0
  obtain ⟨q, rfl⟩ : ∃ q, cs = [q, .slice (some ⟨g, 0, none⟩) l.length cap] := by
    simp only [hL, SV.hc] at hc
    obtain ⟨c1, rr, rfl, ⟨b', o', e1, rfl⟩, c2, rr2, rfl, e2, rfl⟩ := hc
    rw [r1] at e2
    obtain ⟨v', e3, e4⟩ := e2
    cases e3
    exact ⟨_, by rw [e4.2]; rfl⟩
  have hcap : cap ≠ 0 := by omega
  have hUS := Go.Lib.run_unsafeString_row (P := Tryd.prog) w.drew 65 3 9 5 (by kernel_rfl) (by kernel_rfl) g cur.size (by have hg' : w.drew.heap[g]? = some (.cells cur 5 (0, 0)) := hg; simp [World.shape?, hg']) (l.map UInt8.ofBitVec) (by simpa using hne') (by rw [List.length_map]; omega) (by rw [List.length_map]; simp only [maxLen] at hcm; omega) (fun j x hx => by
    rw [List.getElem?_map] at hx
    obtain ⟨y, hy, rfl⟩ := Option.map_eq_some_iff.1 hx
    exact r5.cells (g := g) rfl j (.int .u8 y.toNat) (by simp [hy]))
  rw [List.length_map] at hUS
  refine (bs_row b g l.length cap q (baOf l) w hh hcap hUS).mono ?_
  rintro e w' ⟨rfl, rfl⟩
  have hm := (Mod.drew (fun x => x = g) w).trans (Mod.freezes w.drew g l.length)
  refine ⟨(), .string (baOf l), σ, rfl, trivial, fun _ _ _ h => h, fun k hk => hdom k hk, hvS.2 rfl, hm.mono fun c hc => ⟨rfl, .inr (.inl ⟨_, r1, by rw [hc]; rfl⟩)⟩, ⟨fun o ho => (by cases ho), trivial, fun b hb => hb.elim⟩, fun c hc => hc.elim⟩
end Go.Proofs.YtkcicejnkdobpaaDoor

namespace Go.Proofs.YtkcicejnkdobpaaDoor
set_option linter.all false
open Go.RowKit
abbrev hexD : B8 := [48#8, 49#8, 50#8, 51#8, 52#8, 53#8, 54#8, 55#8, 56#8, 57#8, 97#8, 98#8, 99#8, 100#8, 101#8, 102#8]
def hx (n : Nat) : BitVec 8 := hexD.getD n 0#8
def hexB (b : BitVec 8) : B8 := [hx (b.toNat / 16), hx (b.toNat % 16)]
def hexs (l : B8) : B8 := l.flatMap hexB
def bytesS (l : B8) : B8 := if l = [] then [45#8] else hexs l
theorem hexs_len (l : B8) : (hexs l).length = 2 * l.length := by
  induction l with
  | nil => rfl
  | cons b r ih => unfold hexs at ih ⊢; rw [List.flatMap_cons, List.length_append, ih, List.length_cons]; simp [hexB]; omega
theorem hexs_snoc (l : B8) (i : Nat) (h : i < l.length) : hexs (l.take (i + 1)) = hexs (l.take i) ++ [hx (l[i].toNat / 16)] ++ [hx (l[i].toNat % 16)] := by
  unfold hexs
  rw [List.take_succ_eq_append_getElem h, List.flatMap_append]
  simp [hexB]
abbrev hexC : B8 := List.map (fun x : UInt8 => x.toBitVec) (ByteArray.mk #[48, 49, 50, 51, 52, 53, 54, 55, 56, 57, 97, 98, 99, 100, 101, 102]).data.toList
theorem hexC_len : hexC.length = 16 := rfl
theorem hexC_get {k n : Nat} (h : k < hexC.length) (e : k = n) : hexC[k]'h = hx n := by
  subst e
  have : hexC = hexD := rfl
  unfold hx
  rw [List.getD_eq_getElem?_getD, ← this, List.getElem?_eq_getElem h]; rfl
theorem hi_ix (x : BitVec 8) : (((x >>> (4#64).toNat).toNat : Nat) : Int).toNat = x.toNat / 16 := by
  rw [Int.toNat_natCast, BitVec.toNat_ushiftRight, Nat.shiftRight_eq_div_pow]; rfl
theorem lo_ix (x : BitVec 8) : (((x &&& 15#8).toNat : Nat) : Int).toNat = x.toNat % 16 := by
  rw [Int.toNat_natCast, BitVec.toNat_and]
  exact Nat.and_two_pow_sub_one_eq_mod x.toNat 4
theorem hi_ok (x : BitVec 8) : 0 ≤ (((x >>> (4#64).toNat).toNat : Nat) : Int) ∧ (((x >>> (4#64).toNat).toNat : Nat) : Int).toNat < hexC.length := ⟨by omega, by rw [hi_ix, hexC_len]; have := x.isLt; omega⟩
theorem lo_ok (x : BitVec 8) : 0 ≤ (((x &&& 15#8).toNat : Nat) : Int) ∧ (((x &&& 15#8).toNat : Nat) : Int).toNat < hexC.length := ⟨by omega, by rw [lo_ix, hexC_len]; omega⟩
theorem hexs_ne {l : B8} (h : l ≠ []) : hexs l ≠ [] := by
  intro e
  have := congrArg List.length e
  rw [hexs_len] at this
  exact h (List.eq_nil_of_length_eq_zero (by simp at this; omega))
def bytesOf_c : Ctr where
  D := B8
  pre := fun l => l.length ≤ 1000000
  args := fun l => [.fs 1 eB l]
  res := fun l _ => .str (bytesS l)
/-- the builder's state behind i bytes -/
def hexO (l : B8) : Nat → List Ob
  | 0 => [(0, sb0)]
  | i + 1 => [(0, sb1 0 1), (1, sbR (hexs (l.take (i + 1))))]
def bytesOf_H : Cfg := ⟨[(54, wb0_c), (54, wb1_c), (17, st0_c), (17, st1_c)], [], [], [], 25, 0, [], [], []⟩
theorem bytesOf_ok : bytesOf_c.Ok Tryd.prog 45 := by
  refine fn_ok bytesOf_H 0 rfl _ Tryd.func45 rfl rfl ⟨wb0_ok, wb1_ok, st0_ok, st1_ok, trivial⟩ rfl rfl (by kernel_rfl) (fun _ => Nat.le_of_ble_eq_true rfl) ?_
  intro (l : B8) hp hr
  try dsimp only [bytesOf_c] at hp
  try simp only [bytesOf_c, Rng, RngL, inR, and_true, true_and] at hr
  repeat' (first | (with_reducible refine Unf.h ?_) | ((conv => whnf); first | refine Fork.mk (fun h => ?_) (fun h => ?_) | refine RetE.mk () trivial ?_ | refine retK_r ?_) | fail); all_goals try (conv => whnf)
  · refine Side.mk (by show SV.str [45#8] = .str (bytesS l); unfold bytesS; rw [if_pos (List.eq_nil_of_length_eq_zero (by omega))]) ?_
    repeat' (first | (with_reducible refine Unf.h ?_) | ((conv => whnf); exact rfl) | fail); all_goals try (conv => whnf)
  · refine LoopS.autoN (I := Nat) (fun i => i ≤ l.length) (fun i => [(11, .int .i64 i)]) (fun i => hexO l i) 2 (fun i => l.length - i) 0 (Nat.zero_le _) ?_ ?_
    · repeat' (first | (with_reducible refine Unf.h ?_) | ((conv => whnf); first | (refine Side.mk ?_ ?_; focus (first | with_reducible rfl | (refine congrArg (SV.int _) ?_; omega))) | (with_reducible refine Unf.h ?_) | exact True.intro) | fail); all_goals try (conv => whnf)
    · rintro (_ | i) hi
      · repeat' (first | (with_reducible refine Unf.h ?_) | ((conv => whnf); first | refine Fork.mk (fun h => ?_) (fun h => ?_) | (refine Idx.mk ?_ ?_; focus (omega))) | fail); all_goals try (conv => whnf)
        · refine Idx.mk (hi_ok _) ?_
          repeat' (first | (with_reducible refine Unf.h ?_) | fail); all_goals try (conv => whnf)
          refine Or2.l (CallS.mk (c := wb0_c) (hx ((l[((0 : Nat) : Int).toNat]'(by omega)).toNat / 16)) ?_)
          repeat' (first | (with_reducible refine Unf.h ?_) | fail); all_goals try (conv => whnf)
          refine Side.mk (congrArg SV.u8 (hexC_get _ (hi_ix _))) ?_
          repeat' (first | (with_reducible refine Unf.h ?_) | ((conv => whnf); first | (refine Side.mk ?_ ?_; focus (first | with_reducible rfl | exact True.intro)) | refine Got.mk (fun _ _ => ?_)) | fail); all_goals try (conv => whnf)
          refine Idx.mk (lo_ok _) ?_
          repeat' (first | (with_reducible refine Unf.h ?_) | fail); all_goals try (conv => whnf)
          refine Or2.r (CallS.mk (c := wb1_c) (([hx ((l[((0 : Nat) : Int).toNat]'(by omega)).toNat / 16)], hx ((l[((0 : Nat) : Int).toNat]'(by omega)).toNat % 16))) ?_)
          repeat' (first | (with_reducible refine Unf.h ?_) | fail); all_goals try (conv => whnf)
          refine Side.mk (congrArg SV.u8 (hexC_get _ (lo_ix _))) ?_
          have e1 : [hx ((l[((0 : Nat) : Int).toNat]'(by omega)).toNat / 16)] ++ [hx ((l[((0 : Nat) : Int).toNat]'(by omega)).toNat % 16)] = hexs (l.take (0 + 1)) := (hexs_snoc l 0 (by omega)).symm
          repeat' (first | (with_reducible first | refine Unf.h ?_ | refine loopK_n ?_) | ((conv => whnf); first | (refine Side.mk ?_ ?_; focus (first | with_reducible rfl | (intros; (try simp only [lenS, inR, cutS, loI, hiI, e1] at *); omega) | (dsimp only [resS, bytesOf_c, wb1_c]; ((try simp only [lenS, inR, cutS, loI, hiI, e1]); omega)))) | refine Got.mk (fun _ _ => ?_)) | fail); all_goals try (conv => whnf)
          refine ⟨1, ⟨by show l.length - 1 < l.length - 0; omega, by show 1 ≤ l.length; omega⟩, ?_⟩
          repeat' (first | (with_reducible refine Unf.h ?_) | ((conv => whnf); first | (refine Side.mk ?_ ?_; focus (first | with_reducible rfl | (refine congrArg (SV.int _) ?_; omega) | (simp only [*]; done))) | (with_reducible refine Unf.h ?_) | exact True.intro) | fail); all_goals try (conv => whnf)
        · omega
      · have hn2 : (hexs (l.take (i + 1))).length ≤ 2000000 := by rw [hexs_len, List.length_take]; omega
        repeat' (first | (with_reducible refine Unf.h ?_) | ((conv => whnf); first | refine Fork.mk (fun h => ?_) (fun h => ?_) | (refine Idx.mk ?_ ?_; focus (omega))) | fail); all_goals try (conv => whnf)
        · refine Idx.mk (hi_ok _) ?_
          repeat' (first | (with_reducible refine Unf.h ?_) | fail); all_goals try (conv => whnf)
          refine Or2.r (CallS.mk (c := wb1_c) ((hexs (l.take (i + 1)), hx ((l[((i + 1 : Nat) : Int).toNat]'(by omega)).toNat / 16))) ?_)
          repeat' (first | (with_reducible refine Unf.h ?_) | fail); all_goals try (conv => whnf)
          refine Side.mk (congrArg SV.u8 (hexC_get _ (hi_ix _))) ?_
          repeat' (first | (with_reducible refine Unf.h ?_) | ((conv => whnf); first | (refine Side.mk ?_ ?_; focus (first | with_reducible rfl | (dsimp only [resS, bytesOf_c, wb1_c]; omega))) | refine Got.mk (fun _ _ => ?_)) | fail); all_goals try (conv => whnf)
          refine Idx.mk (lo_ok _) ?_
          repeat' (first | (with_reducible refine Unf.h ?_) | fail); all_goals try (conv => whnf)
          refine Or2.r (CallS.mk (c := wb1_c) ((hexs (l.take (i + 1)) ++ [hx ((l[((i + 1 : Nat) : Int).toNat]'(by omega)).toNat / 16)], hx ((l[((i + 1 : Nat) : Int).toNat]'(by omega)).toNat % 16))) ?_)
          repeat' (first | (with_reducible refine Unf.h ?_) | fail); all_goals try (conv => whnf)
          refine Side.mk (congrArg SV.u8 (hexC_get _ (lo_ix _))) ?_
          have hn3 : (hexs (l.take (i + 1)) ++ [hx ((l[((i + 1 : Nat) : Int).toNat]'(by omega)).toNat / 16)]).length < 140737488355328 := by rw [List.length_append, List.length_singleton]; omega
          have e1 : (hexs (l.take (i + 1)) ++ [hx ((l[((i + 1 : Nat) : Int).toNat]'(by omega)).toNat / 16)]) ++ [hx ((l[((i + 1 : Nat) : Int).toNat]'(by omega)).toNat % 16)] = hexs (l.take (i + 1 + 1)) := (hexs_snoc l (i + 1) (by omega)).symm
          repeat' (first | (with_reducible first | refine Unf.h ?_ | refine loopK_n ?_) | ((conv => whnf); first | (refine Side.mk ?_ ?_; focus (first | with_reducible rfl | assumption | (intros; (try simp only [lenS, inR, cutS, loI, hiI, e1] at *); omega))) | refine Got.mk (fun _ _ => ?_)) | fail); all_goals try (conv => whnf)
          refine ⟨i + 2, ⟨by show l.length - (i + 2) < l.length - (i + 1); omega, by show i + 2 ≤ l.length; omega⟩, ?_⟩
          repeat' (first | (with_reducible refine Unf.h ?_) | ((conv => whnf); first | (refine Side.mk ?_ ?_; focus (first | with_reducible rfl | (refine congrArg (SV.int _) ?_; omega) | (simp only [*]; done))) | (with_reducible refine Unf.h ?_) | exact True.intro) | fail); all_goals try (conv => whnf)
        · have h2 : (l.take (i + 1)).length = i + 1 := by rw [List.length_take]; omega
          refine Or2.r (CallS.mk (c := st1_c) (hexs (l.take (i + 1))) ?_)
          repeat' (first | (with_reducible refine Unf.h ?_) | ((conv => whnf); (refine Side.mk ?_ ?_; focus (with_reducible rfl))) | fail); all_goals try (conv => whnf)
          refine Side.mk (hexs_ne (show l.take (i + 1) ≠ [] from fun e => by rw [e] at h2; exact absurd h2 (by simp))) ?_
          repeat' (first | (with_reducible refine Unf.h ?_) | ((conv => whnf); first | refine RetE.mk () trivial ?_ | refine Got.mk (fun _ _ => ?_) | refine retK_r ?_) | fail); all_goals try (conv => whnf)
          have e2 : hexs (l.take (i + 1)) = bytesS l := by
            rw [List.take_of_length_le (by omega)]; unfold bytesS; rw [if_neg (show ¬ (l = []) from fun e => by rw [e] at h2; simp at h2)]
          repeat' (first | (with_reducible refine Unf.h ?_) | ((conv => whnf); first | (refine Side.mk ?_ ?_; focus ((dsimp only [resS, bytesOf_c]; (simp only [*, e2]; done)))) | exact rfl) | fail); all_goals try (conv => whnf)
end Go.Proofs.YtkcicejnkdobpaaDoor

/- the shelf's contracts laid at this seat (printed by tools/shelf.py) -/
namespace Go.Proofs.YtkcicejnkdobpaaDoor
set_option linter.all false
open Go.Shelf Go.RowKit
def lays156_ren : Go.Shelf.Ren := ⟨fun | 156 => 26 | 165 => 47 | 166 => 16 | 169 => 17 | 240 => 27 | 241 => 55 | 276 => 48 | 277 => 63 | n => n, fun | 31 => 34 | 9 => 9 | 3 => 3 | 4 => 4 | 0 => 0 | 20 => 20 | 72 => 42 | 76 => 48 | 70 => 40 | 37 => 36 | 75 => 47 | 127 => 65 | 164 => 82 | 5 => 5 | 80 => 50 | n => n, fun | n => n⟩
theorem lays156 : Go.Proofs.Lays.n156 Tryd.prog lays156_ren := {
  mixed := by kernel_rfl
  f156 := Tryd.func26.trans (congrArg some (by kernel_rfl))
  f165 := Tryd.func47.trans (congrArg some (by kernel_rfl))
  f166 := Tryd.func16.trans (congrArg some (by kernel_rfl))
  f169 := Tryd.func17.trans (congrArg some (by kernel_rfl))
  f240 := Tryd.func27.trans (congrArg some (by kernel_rfl))
  f241 := Tryd.func55.trans (congrArg some (by kernel_rfl))
  f276 := Tryd.func48.trans (congrArg some (by kernel_rfl))
  f277 := Tryd.func63.trans (congrArg some (by kernel_rfl))
  t0 := Tryd.underlying0
  a0 := Tryd.isAgg0
  z0 := Tryd.sizeOf0
  v0 := Tryd.zeroValue0
  t3 := Tryd.underlying3
  a3 := Tryd.isAgg3
  z3 := Tryd.sizeOf3
  v3 := Tryd.zeroValue3
  t4 := Tryd.underlying4
  a4 := Tryd.isAgg4
  z4 := Tryd.sizeOf4
  v4 := Tryd.zeroValue4
  t9 := Tryd.underlying9
  a9 := Tryd.isAgg9
  z9 := Tryd.sizeOf9
  v9 := Tryd.zeroValue9
  t20 := Tryd.underlying20
  a20 := Tryd.isAgg20
  z20 := Tryd.sizeOf20
  v20 := Tryd.zeroValue20
  t31 := Tryd.underlying34
  a31 := Tryd.isAgg34
  z31 := Tryd.sizeOf34
  v31 := Tryd.zeroValue34
  t37 := Tryd.underlying36
  a37 := Tryd.isAgg36
  z37 := Tryd.sizeOf36
  v37 := Tryd.zeroValue36
  t70 := Tryd.underlying40
  a70 := Tryd.isAgg40
  z70 := Tryd.sizeOf40
  v70 := Tryd.zeroValue40
  t72 := Tryd.underlying42
  a72 := Tryd.isAgg42
  z72 := Tryd.sizeOf42
  v72 := Tryd.zeroValue42
  t75 := Tryd.underlying47
  a75 := Tryd.isAgg47
  z75 := Tryd.sizeOf47
  v75 := Tryd.zeroValue47
  t76 := Tryd.underlying48
  a76 := Tryd.isAgg48
  z76 := Tryd.sizeOf48
  v76 := Tryd.zeroValue48
  t127 := Tryd.underlying65
  a127 := Tryd.isAgg65
  z127 := Tryd.sizeOf65
  v127 := Tryd.zeroValue65
  t164 := Tryd.underlying82
  a164 := Tryd.isAgg82
  z164 := Tryd.sizeOf82
  v164 := Tryd.zeroValue82 }

def lays138_ren : Go.Shelf.Ren := ⟨fun | 138 => 20 | 195 => 35 | 218 => 36 | 143 => 37 | 219 => 49 | 217 => 56 | 225 => 57 | 224 => 58 | 267 => 59 | 266 => 64 | 314 => 65 | n => n, fun | 9 => 9 | 3 => 3 | 4 => 4 | 5 => 5 | 0 => 0 | 46 => 93 | 146 => 99 | 51 => 98 | n => n, fun | 1 => 1 | n => n⟩
theorem lays138 : Go.Proofs.Lays.n138 Tryd.prog lays138_ren := {
  mixed := by kernel_rfl
  f138 := Tryd.func20.trans (congrArg some (by kernel_rfl))
  f143 := Tryd.func37.trans (congrArg some (by kernel_rfl))
  f195 := Tryd.func35.trans (congrArg some (by kernel_rfl))
  f217 := Tryd.func56.trans (congrArg some (by kernel_rfl))
  f218 := Tryd.func36.trans (congrArg some (by kernel_rfl))
  f219 := Tryd.func49.trans (congrArg some (by kernel_rfl))
  f224 := Tryd.func58.trans (congrArg some (by kernel_rfl))
  f225 := Tryd.func57.trans (congrArg some (by kernel_rfl))
  f266 := Tryd.func64.trans (congrArg some (by kernel_rfl))
  f267 := Tryd.func59.trans (congrArg some (by kernel_rfl))
  f314 := Tryd.func65.trans (congrArg some (by kernel_rfl))
  t0 := Tryd.underlying0
  a0 := Tryd.isAgg0
  z0 := Tryd.sizeOf0
  v0 := Tryd.zeroValue0
  t3 := Tryd.underlying3
  a3 := Tryd.isAgg3
  z3 := Tryd.sizeOf3
  v3 := Tryd.zeroValue3
  t4 := Tryd.underlying4
  a4 := Tryd.isAgg4
  z4 := Tryd.sizeOf4
  v4 := Tryd.zeroValue4
  t5 := Tryd.underlying5
  a5 := Tryd.isAgg5
  z5 := Tryd.sizeOf5
  v5 := Tryd.zeroValue5
  t9 := Tryd.underlying9
  a9 := Tryd.isAgg9
  z9 := Tryd.sizeOf9
  v9 := Tryd.zeroValue9
  t46 := Tryd.underlying93
  a46 := Tryd.isAgg93
  z46 := Tryd.sizeOf93
  v46 := Tryd.zeroValue93
  t51 := Tryd.underlying98
  a51 := Tryd.isAgg98
  z51 := Tryd.sizeOf98
  v51 := Tryd.zeroValue98
  t146 := Tryd.underlying99
  a146 := Tryd.isAgg99
  z146 := Tryd.sizeOf99
  v146 := Tryd.zeroValue99
  g1 := by kernel_rfl }

def lays143_ren : Go.Shelf.Ren := ⟨fun | 143 => 37 | 219 => 49 | 217 => 56 | 225 => 57 | 224 => 58 | 267 => 59 | 266 => 64 | 314 => 65 | n => n, fun | 9 => 9 | 3 => 3 | 4 => 4 | 5 => 5 | 46 => 93 | 146 => 99 | 51 => 98 | n => n, fun | 1 => 1 | n => n⟩
theorem lays143 : Go.Proofs.Lays.n143 Tryd.prog lays143_ren := {
  mixed := by kernel_rfl
  f143 := Tryd.func37.trans (congrArg some (by kernel_rfl))
  f217 := Tryd.func56.trans (congrArg some (by kernel_rfl))
  f219 := Tryd.func49.trans (congrArg some (by kernel_rfl))
  f224 := Tryd.func58.trans (congrArg some (by kernel_rfl))
  f225 := Tryd.func57.trans (congrArg some (by kernel_rfl))
  f266 := Tryd.func64.trans (congrArg some (by kernel_rfl))
  f267 := Tryd.func59.trans (congrArg some (by kernel_rfl))
  f314 := Tryd.func65.trans (congrArg some (by kernel_rfl))
  t3 := Tryd.underlying3
  a3 := Tryd.isAgg3
  z3 := Tryd.sizeOf3
  v3 := Tryd.zeroValue3
  t4 := Tryd.underlying4
  a4 := Tryd.isAgg4
  z4 := Tryd.sizeOf4
  v4 := Tryd.zeroValue4
  t5 := Tryd.underlying5
  a5 := Tryd.isAgg5
  z5 := Tryd.sizeOf5
  v5 := Tryd.zeroValue5
  t9 := Tryd.underlying9
  a9 := Tryd.isAgg9
  z9 := Tryd.sizeOf9
  v9 := Tryd.zeroValue9
  t46 := Tryd.underlying93
  a46 := Tryd.isAgg93
  z46 := Tryd.sizeOf93
  v46 := Tryd.zeroValue93
  t51 := Tryd.underlying98
  a51 := Tryd.isAgg98
  z51 := Tryd.sizeOf98
  v51 := Tryd.zeroValue98
  t146 := Tryd.underlying99
  a146 := Tryd.isAgg99
  z146 := Tryd.sizeOf99
  v146 := Tryd.zeroValue99
  g1 := by kernel_rfl }

def lays137_ren : Go.Shelf.Ren := ⟨fun | 137 => 62 | 217 => 56 | 266 => 64 | n => n, fun | 9 => 9 | 5 => 5 | 3 => 3 | n => n, fun | n => n⟩
theorem lays137 : Go.Proofs.Lays.n137 Tryd.prog lays137_ren := {
  mixed := by kernel_rfl
  f137 := Tryd.func62.trans (congrArg some (by kernel_rfl))
  f217 := Tryd.func56.trans (congrArg some (by kernel_rfl))
  f266 := Tryd.func64.trans (congrArg some (by kernel_rfl))
  t3 := Tryd.underlying3
  a3 := Tryd.isAgg3
  z3 := Tryd.sizeOf3
  v3 := Tryd.zeroValue3
  t5 := Tryd.underlying5
  a5 := Tryd.isAgg5
  z5 := Tryd.sizeOf5
  v5 := Tryd.zeroValue5
  t9 := Tryd.underlying9
  a9 := Tryd.isAgg9
  z9 := Tryd.sizeOf9
  v9 := Tryd.zeroValue9 }

def lays103_ren : Go.Shelf.Ren := ⟨fun | 103 => 61 | 210 => 67 | 206 => 69 | n => n, fun | 9 => 9 | 4 => 4 | 24 => 43 | 3 => 3 | n => n, fun | n => n⟩
theorem lays103 : Go.Proofs.Lays.n103 Tryd.prog lays103_ren := {
  mixed := by kernel_rfl
  f103 := Tryd.func61.trans (congrArg some (by kernel_rfl))
  f206 := Tryd.func69.trans (congrArg some (by kernel_rfl))
  f210 := Tryd.func67.trans (congrArg some (by kernel_rfl))
  t3 := Tryd.underlying3
  a3 := Tryd.isAgg3
  z3 := Tryd.sizeOf3
  v3 := Tryd.zeroValue3
  t4 := Tryd.underlying4
  a4 := Tryd.isAgg4
  z4 := Tryd.sizeOf4
  v4 := Tryd.zeroValue4
  t9 := Tryd.underlying9
  a9 := Tryd.isAgg9
  z9 := Tryd.sizeOf9
  v9 := Tryd.zeroValue9
  t24 := Tryd.underlying43
  a24 := Tryd.isAgg43
  z24 := Tryd.sizeOf43
  v24 := Tryd.zeroValue43 }

def lays221_ren : Go.Shelf.Ren := ⟨fun | 221 => 50 | 268 => 60 | 138 => 20 | 143 => 37 | 195 => 35 | 197 => 66 | 218 => 36 | 219 => 49 | 260 => 68 | 217 => 56 | 225 => 57 | 224 => 58 | 267 => 59 | 266 => 64 | 314 => 65 | n => n, fun | 9 => 9 | 3 => 3 | 31 => 34 | 4 => 4 | 0 => 0 | 105 => 101 | 21 => 21 | 5 => 5 | 46 => 93 | 119 => 104 | 139 => 107 | 138 => 106 | 146 => 99 | 51 => 98 | n => n, fun | 1 => 1 | 3 => 2 | 4 => 3 | n => n⟩
theorem lays221 : Go.Proofs.Lays.n221 Tryd.prog lays221_ren := {
  mixed := by kernel_rfl
  f138 := Tryd.func20.trans (congrArg some (by kernel_rfl))
  f143 := Tryd.func37.trans (congrArg some (by kernel_rfl))
  f195 := Tryd.func35.trans (congrArg some (by kernel_rfl))
  f197 := Tryd.func66.trans (congrArg some (by kernel_rfl))
  f217 := Tryd.func56.trans (congrArg some (by kernel_rfl))
  f218 := Tryd.func36.trans (congrArg some (by kernel_rfl))
  f219 := Tryd.func49.trans (congrArg some (by kernel_rfl))
  f221 := Tryd.func50.trans (congrArg some (by kernel_rfl))
  f224 := Tryd.func58.trans (congrArg some (by kernel_rfl))
  f225 := Tryd.func57.trans (congrArg some (by kernel_rfl))
  f260 := Tryd.func68.trans (congrArg some (by kernel_rfl))
  f266 := Tryd.func64.trans (congrArg some (by kernel_rfl))
  f267 := Tryd.func59.trans (congrArg some (by kernel_rfl))
  f268 := Tryd.func60.trans (congrArg some (by kernel_rfl))
  f314 := Tryd.func65.trans (congrArg some (by kernel_rfl))
  t0 := Tryd.underlying0
  a0 := Tryd.isAgg0
  z0 := Tryd.sizeOf0
  v0 := Tryd.zeroValue0
  t3 := Tryd.underlying3
  a3 := Tryd.isAgg3
  z3 := Tryd.sizeOf3
  v3 := Tryd.zeroValue3
  t4 := Tryd.underlying4
  a4 := Tryd.isAgg4
  z4 := Tryd.sizeOf4
  v4 := Tryd.zeroValue4
  t5 := Tryd.underlying5
  a5 := Tryd.isAgg5
  z5 := Tryd.sizeOf5
  v5 := Tryd.zeroValue5
  t9 := Tryd.underlying9
  a9 := Tryd.isAgg9
  z9 := Tryd.sizeOf9
  v9 := Tryd.zeroValue9
  t21 := Tryd.underlying21
  a21 := Tryd.isAgg21
  z21 := Tryd.sizeOf21
  v21 := Tryd.zeroValue21
  t31 := Tryd.underlying34
  a31 := Tryd.isAgg34
  z31 := Tryd.sizeOf34
  v31 := Tryd.zeroValue34
  t46 := Tryd.underlying93
  a46 := Tryd.isAgg93
  z46 := Tryd.sizeOf93
  v46 := Tryd.zeroValue93
  t51 := Tryd.underlying98
  a51 := Tryd.isAgg98
  z51 := Tryd.sizeOf98
  v51 := Tryd.zeroValue98
  t105 := Tryd.underlying101
  a105 := Tryd.isAgg101
  z105 := Tryd.sizeOf101
  v105 := Tryd.zeroValue101
  t119 := Tryd.underlying104
  a119 := Tryd.isAgg104
  z119 := Tryd.sizeOf104
  t138 := Tryd.underlying106
  a138 := Tryd.isAgg106
  z138 := Tryd.sizeOf106
  v138 := Tryd.zeroValue106
  t139 := Tryd.underlying107
  a139 := Tryd.isAgg107
  z139 := Tryd.sizeOf107
  v139 := Tryd.zeroValue107
  t146 := Tryd.underlying99
  a146 := Tryd.isAgg99
  z146 := Tryd.sizeOf99
  v146 := Tryd.zeroValue99
  g1 := by kernel_rfl
  g3 := by kernel_rfl
  g4 := by kernel_rfl }

theorem laysB : Builder.Extra Tryd.prog lays156_ren := {
  sizeBuilder := by kernel_rfl
  liesBuilder := by kernel_rfl
  t5 := Tryd.underlying5
  a5 := Tryd.isAgg5
  z5 := Tryd.sizeOf5
  v5 := Tryd.zeroValue5
  infoByte := by kernel_rfl
  cellsByte := by kernel_rfl
  sizeByte := by kernel_rfl
  neB5 := by decide }
end Go.Proofs.YtkcicejnkdobpaaDoor

namespace Go.Proofs.YtkcicejnkdobpaaDoor
set_option linter.all false
open Go.RowKit
/-! strings.Join -/
def joinS (sep : B8) : List B8 → B8
  | [] => []
  | x :: r => x ++ (r.map (sep ++ ·)).flatten
abbrev eStr (s : B8) : List SV := [.str s]
abbrev u8s (s : B8) : List UInt8 := s.map UInt8.ofBitVec
theorem joinS_lib (sep : B8) (ls : List B8) : Lib.join (ls.map u8s) (u8s sep) = u8s (joinS sep ls) := by
  cases ls with
  | nil => rfl
  | cons x r =>
    rw [List.map_cons, Lib.join_cons]
    simp only [joinS, Lib.joinTail, u8s, List.map_append, List.map_flatten, List.map_map]
    congr 3
    funext a
    simp
theorem hE_strs {w : World} {A : Own} : ∀ {l : List B8} {cs : List Value}, hE w A sg0 (l.map eStr) cs → cs = l.map (fun s => .string (baOf s))
  | [], cs, h => by simp only [List.map_nil, hE] at h; subst h; rfl
  | b :: r, cs, h => by
    simp only [List.map_cons, hE] at h
    obtain ⟨c, rest, rfl, h1, h2⟩ := h
    rw [hL.single] at h1
    simp only [SV.hc] at h1
    subst h1
    rw [hE_strs h2]; rfl
theorem baOf_data (s : B8) : (baOf s).data.toList = u8s s := rfl
theorem kept_below {w w' : World} (h : Below w.heap.size w w') : Kept w w' := ⟨h.os, h.tape, h.output, h.size, fun k hk _ => h.block k hk⟩
def join_c : Ctr where
  D := List B8 × B8
  pre := fun (ls, sep) => ls.length ≤ 1000000 ∧ (joinS sep ls).length ≤ 140737488355328
  args := fun (ls, sep) => [.own 0, .str sep]
  objs := fun (ls, _) => [(0, .row 9 1 eStr ls)]
  nn := 1
  res := fun (ls, sep) _ => .str (joinS sep ls)
  out := fun (ls, _) _ => [(0, .row 9 1 eStr ls)]
  kp := true
theorem join_ok : join_c.Ok Tryd.prog 26 := by
  rintro ⟨ls, sep⟩ ⟨hp1, hp2⟩ A0 w σ vs hA hobs hargs hdom hgl
  obtain ⟨p, m1, rfl, h1, q, m2, rfl, h2, h3⟩ := hargs
  simp only [hvs] at h3; subst h3
  obtain ⟨v, cs, r1, r2, r3, r4, r5⟩ := hobs.holds _ (List.mem_cons_self ..)
  obtain rfl : p = v := by
    simp only [SV.h1, SV.hc, List.cons.injEq, and_true] at h1
    obtain ⟨u, e1, _, e2⟩ := h1
    dsimp only at r1
    rw [r1] at e1; cases e1
    exact e2
  obtain rfl : q = .string (baOf sep) := by simpa [SV.h1, SV.hc] using h2
  obtain rfl := hE_strs r4
  rw [List.length_map] at r5
  have key : Calls Tryd.prog 26 #[p, .string (baOf sep)] w fun e w' => e = .returned (.string (baOf (joinS sep ls))) ∧ Kept w w' := by
    rcases r5.2 with ⟨rfl, hz⟩ | ⟨g, cap, cur, rfl, hbg, hg, hnc, hcm, hcs, htake⟩
    · obtain rfl := List.eq_nil_of_length_eq_zero hz
      exact (Any.strings_Join_none lays156 laysB none 0 (baOf sep) w).mono fun e w' ⟨he, hw⟩ => ⟨he, hw ▸ Mod.refl _ _⟩
    · have hj := Any.strings_Join lays156 laysB g 0 cap (ls.map baOf) (baOf sep) w (fun j x hx => by
        rw [List.getElem?_map] at hx
        obtain ⟨y, hy, rfl⟩ := Option.map_eq_some_iff.1 hx
        have hc := r5.cells (g := g) rfl j (.string (baOf y)) (by simp [hy])
        rw [Nat.zero_add]
        rcases Nat.eq_zero_or_pos j with rfl | hj0
        · simpa [Addr.add] using hc
        · rw [show (⟨g, j, none⟩ : Addr) = (⟨g, 0, none⟩ : Addr).add j by unfold Addr.add; split <;> simp_all]; exact hc) (Array.getElem?_eq_some_iff.1 hg).1 (by rw [List.length_map]; exact Nat.le_trans hp1 (by decide)) (by rw [List.length_map]; exact hnc) (by
          have e := joinS_lib sep ls
          rw [List.map_map]
          show (Lib.join (ls.map u8s) (u8s sep)).length ≤ _
          rw [e, List.length_map]; exact hp2)
      rw [List.length_map, List.map_map] at hj
      refine hj.mono fun e w' ⟨he, hw⟩ => ⟨?_, kept_below hw⟩
      rw [he]
      show Ending.returned (Value.string ⟨(Lib.join (ls.map u8s) (u8s sep)).toArray⟩) = _
      rw [joinS_lib]; rfl
  refine key.mono ?_
  rintro e w' ⟨rfl, hk⟩
  refine ⟨(), .string (baOf (joinS sep ls)), σ, rfl, trivial, fun _ _ _ h => h, fun k hk => hdom k hk, hvS.2 rfl, hk.mono fun _ x => x.elim, obs_kept hobs hk, fun c hc => .inl hc⟩
end Go.Proofs.YtkcicejnkdobpaaDoor

namespace Go.Proofs.YtkcicejnkdobpaaDoor
set_option linter.all false
open Go.RowKit
/-! script.listOf, script.word -/
structure Op where
  kind : Int
  n : Int
  m : Int
  k : Int
  label : B8
  value : B8
  list : List Int
abbrev eOp (o : Op) : List SV := [.int .i64 o.kind, .int .i64 o.n, .int .i64 o.m, .int .i64 o.k, .fs 1 eB o.label, .fs 1 eB o.value, .fs 1 eI o.list]
def numR (n : Int) : B8 := if mayN n then decS n else []
def numM_c : Ctr where
  D := Int
  args := fun n => [.int .i64 n]
  res := fun n _ => .tup [.str (numR n), .dec (mayN n) inferInstance]
theorem numM_ok : numM_c.Ok Tryd.prog 44 := by
  intro (n : Int) _ A0 w σ vs hA hobs hargs hdom hgl
  by_cases h : mayN n
  · refine (num_ok n h A0 w σ vs hA hobs hargs hdom hgl).mono ?_
    rintro e w' ⟨e', v, σ', h1, h2, h3, h4, ⟨l, rfl, v1, m1, rfl, g1, v2, m2, rfl, g2, g3⟩, h6⟩
    refine ⟨(), _, σ', h1, trivial, h3, h4, ⟨_, rfl, _, _, rfl, ?_, _, _, rfl, ?_, g3⟩, h6⟩
    · rw [show numR n = decS n from if_pos h]; exact g1
    · simpa [SV.h1, SV.hc, h] using g2
  · refine (numX_ok n h A0 w σ vs hA hobs hargs hdom hgl).mono ?_
    rintro e w' ⟨e', v, σ', h1, h2, h3, h4, ⟨l, rfl, v1, m1, rfl, g1, v2, m2, rfl, g2, g3⟩, h6⟩
    refine ⟨(), _, σ', h1, trivial, h3, h4, ⟨_, rfl, _, _, rfl, ?_, _, _, rfl, ?_, g3⟩, h6⟩
    · rw [show numR n = [] from if_neg h]; exact g1
    · simpa [SV.h1, SV.hc, h] using g2
theorem decS_len {n : Int} (h : mayN n) : (decS n).length ≤ 8 := by
  unfold decS
  have h1 := digN_len 6 (-n).toNat (by have := h.1; omega)
  have h2 := digN_len 6 n.toNat (by have := h.2; omega)
  split <;> simp <;> omega
theorem numR_len (n : Int) : (numR n).length ≤ 8 := by
  unfold numR; split
  · exact decS_len (by assumption)
  · simp
theorem joinT_len {sep : B8} {k : Nat} : ∀ {r : List B8}, (∀ s ∈ r, s.length ≤ k) → ((r.map (sep ++ ·)).flatten).length ≤ r.length * (k + sep.length)
  | [], _ => by simp
  | x :: r, h => by
    have h1 := h x (List.mem_cons_self ..)
    have h2 := joinT_len (sep := sep) (k := k) (r := r) (fun s hs => h s (List.mem_cons_of_mem _ hs))
    rw [List.map_cons, List.flatten_cons, List.length_append, List.length_append, List.length_cons, Nat.add_mul, Nat.one_mul]
    omega
theorem joinS_len {sep : B8} {k : Nat} {ls : List B8} (h : ∀ s ∈ ls, s.length ≤ k) : (joinS sep ls).length ≤ ls.length * (k + sep.length) := by
  cases ls with
  | nil => simp [joinS]
  | cons x r =>
    have h1 := h x (List.mem_cons_self ..)
    have h2 := joinT_len (sep := sep) (k := k) (r := r) (fun s hs => h s (List.mem_cons_of_mem _ hs))
    simp only [joinS]
    rw [List.length_append, List.length_cons, Nat.add_mul, Nat.one_mul]
    omega
abbrev mayL (l : List Int) : Prop := ∀ n ∈ l, mayN n
def listS (l : List Int) : B8 := if l = [] then [45#8] else joinS [44#8] (l.map numR)
def listR (l : List Int) : B8 := if mayL l then listS l else []
theorem listS_len {l : List Int} : (listS l).length ≤ l.length * 9 + 1 := by
  unfold listS
  split
  · simp
  · have := joinS_len (sep := [44#8]) (k := 8) (ls := l.map numR) (fun s hs => by
      obtain ⟨n, hn, rfl⟩ := List.mem_map.1 hs
      exact numR_len n)
    rw [List.length_map] at this
    simp only [List.length_singleton] at this
    omega
def lof_c : Ctr where
  D := List Int
  pre := fun l => l.length ≤ 100000
  args := fun l => [.fs 1 eI l]
  res := fun l _ => .tup [.str (listR l), .dec (mayL l) inferInstance]
theorem mayL_succ {l : List Int} {i : Nat} (h : i < l.length) (h1 : mayL (l.take i)) (h2 : mayN l[i]) : mayL (l.take (i + 1)) := by
  intro n hn
  rw [List.take_succ_eq_append_getElem h] at hn
  rcases List.mem_append.1 hn with hn | hn
  · exact h1 n hn
  · rw [List.mem_singleton.1 hn]; exact h2
theorem mapT_succ {α β : Type} (f : α → β) {l : List α} {i : Nat} (h : i < l.length) : (l.take i).map f ++ [f l[i]] = (l.take (i + 1)).map f := by
  rw [List.take_succ_eq_append_getElem h, List.map_append]; rfl
theorem mayL_nil : mayL [] := fun n h => absurd h (List.not_mem_nil)
theorem mayL_not {l : List Int} {i : Nat} (h : i < l.length) (h2 : ¬ mayN l[i]) : ¬ mayL l := fun hm => h2 (hm _ (List.getElem_mem h))
theorem listR_no {l : List Int} (h : ¬ mayL l) : listR l = [] := if_neg h
theorem listR_yes {l : List Int} (h : mayL l) (hne : 0 < l.length) : joinS [44#8] (l.map numR) = listR l := by
  rw [listR, if_pos h, listS, if_neg (fun e => by rw [e] at hne; exact absurd hne (by simp))]
def lof_H : Cfg := ⟨[(44, numM_c), (26, join_c)], [], [], [], 32, 0, [], [], []⟩
theorem lof_ok : lof_c.Ok Tryd.prog 46 := by
  refine fn_ok lof_H 0 rfl _ Tryd.func46 rfl rfl ⟨numM_ok, join_ok, trivial⟩ rfl rfl (by kernel_rfl) (fun _ => Nat.le_of_ble_eq_true rfl) ?_
  intro (l : List Int) hp hr
  try dsimp only [lof_c] at hp
  try simp only [lof_c, Rng, RngL, inR, and_true, true_and] at hr
  repeat' (first | (with_reducible refine Unf.h ?_) | ((conv => whnf); first | refine Fork.mk (fun h => ?_) (fun h => ?_) | refine RetE.mk () trivial ?_ | refine retK_r ?_) | fail); all_goals try (conv => whnf)
  · obtain rfl : l = [] := List.eq_nil_of_length_eq_zero (by omega)
    refine Side.mk (by show SV.str [45#8] = .str (listR []); rw [listR, if_pos mayL_nil, listS, if_pos rfl]) ?_
    repeat' (first | (with_reducible refine Unf.h ?_) | fail); all_goals try (conv => whnf)
    refine Side.mk ⟨fun _ => mayL_nil, fun _ => rfl⟩ ?_
    repeat' (first | (with_reducible refine Unf.h ?_) | ((conv => whnf); exact rfl) | fail); all_goals try (conv => whnf)
  · refine LoopS.autoN (I := Nat) (fun i => i ≤ l.length ∧ mayL (l.take i)) (fun i => match i with | 0 => [(14, .int .i64 0), (4, .nils)] | i + 1 => [(14, .int .i64 ((i + 1 : Nat) : Int)), (4, .own 0)]) (fun i => match i with | 0 => [] | i + 1 => [(0, .row 9 1 eStr ((l.take (i + 1)).map numR))]) 1 (fun i => l.length - i) 0 ⟨Nat.zero_le _, mayL_nil⟩ ?_ ?_
    · repeat' (first | (with_reducible refine Unf.h ?_) | ((conv => whnf); first | (refine Side.mk ?_ ?_; focus (with_reducible rfl)) | (with_reducible refine Unf.h ?_) | exact True.intro) | fail); all_goals try (conv => whnf)
    · rintro (_ | i) ⟨hi, hm⟩
      · repeat' (first | (with_reducible refine Unf.h ?_) | ((conv => whnf); first | refine Fork.mk (fun h => ?_) (fun h => ?_) | (refine Idx.mk ?_ ?_; focus (omega))) | fail); all_goals try (conv => whnf)
        · have h0 : 0 < l.length := by omega
          refine CallS.mk (c := numM_c) ((l[Int.toNat 0]'h0)) ?_
          repeat' (first | (with_reducible first | refine Unf.h ?_ | refine loopK_n ?_) | ((conv => whnf); first | refine Fork.mkn (fun h => ?_) (fun h => ?_) | (refine Side.mk ?_ ?_; focus (first | with_reducible rfl | exact True.intro | (intros; (try simp only [lenS, inR, cutS, loI, hiI] at *); omega))) | refine RetE.mk () trivial ?_ | refine Got.mk (fun _ _ => ?_) | refine retK_r ?_) | fail); all_goals try (conv => whnf)
          · have hno := mayL_not (i := 0) h0 (by assumption)
            have e := listR_no hno
            repeat' (first | (with_reducible refine Unf.h ?_) | ((conv => whnf); first | (refine Side.mk ?_ ?_; focus (first | (simp only [*, e, List.map_cons, List.map_nil, eB]; done) | (simp [*, e]; done))) | exact rfl) | fail); all_goals try (conv => whnf)
          · refine ⟨1, ⟨by omega, by omega, mayL_succ (i := 0) h0 hm h⟩, ?_⟩
            have e : [numR (l[Int.toNat 0]'h0)] = (l.take (0 + 1)).map numR := mapT_succ numR (i := 0) h0
            have e2 : [[SV.str (numR (l[Int.toNat 0]'h0))]] = ((l.take (0 + 1)).map numR).map eStr := by rw [← e]; rfl
            repeat' (first | (with_reducible refine Unf.h ?_) | ((conv => whnf); first | (refine Side.mk ?_ ?_; focus (first | with_reducible rfl | assumption | (simp [*, e2]; done))) | (with_reducible refine Unf.h ?_) | exact True.intro) | fail); all_goals try (conv => whnf)
        · exfalso; omega
      · repeat' (first | (with_reducible refine Unf.h ?_) | ((conv => whnf); first | refine Fork.mk (fun h => ?_) (fun h => ?_) | (refine Idx.mk ?_ ?_; focus (omega))) | fail); all_goals try (conv => whnf)
        · have h0 : i + 1 < l.length := by omega
          refine CallS.mk (c := numM_c) ((l[((i + 1 : Nat) : Int).toNat]'h0)) ?_
          repeat' (first | (with_reducible first | refine Unf.h ?_ | refine loopK_n ?_) | ((conv => whnf); first | refine Fork.mkn (fun h => ?_) (fun h => ?_) | (refine Side.mk ?_ ?_; focus (first | with_reducible rfl | exact True.intro | (intros; (try simp only [lenS, inR, cutS, loI, hiI] at *); omega))) | refine RetE.mk () trivial ?_ | refine Got.mk (fun _ _ => ?_) | refine Ex.mk [_] rfl ?_ | refine retK_r ?_) | fail); all_goals try (conv => whnf)
          · have hno := mayL_not (i := i + 1) h0 (by assumption)
            have e := listR_no hno
            repeat' (first | (with_reducible refine Unf.h ?_) | ((conv => whnf); first | (refine Side.mk ?_ ?_; focus (first | (simp only [*, e, List.map_cons, List.map_nil, eB]; done) | (simp [*, e]; done))) | exact rfl) | fail); all_goals try (conv => whnf)
          · refine ⟨i + 2, ⟨by omega, by omega, mayL_succ (i := i + 1) h0 hm h⟩, ?_⟩
            have e : (l.take (i + 1)).map numR ++ [numR (l[((i + 1 : Nat) : Int).toNat]'h0)] = (l.take (i + 1 + 1)).map numR := mapT_succ numR (i := i + 1) h0
            repeat' (first | (with_reducible refine Unf.h ?_) | ((conv => whnf); first | (refine Side.mk ?_ ?_; focus (first | with_reducible rfl | (refine congrArg (SV.int _) ?_; omega) | (simp only [*, e]; done))) | (with_reducible refine Unf.h ?_) | exact True.intro) | fail); all_goals try (conv => whnf)
        · have hl : i + 1 = l.length := by omega
          have ht : l.take (i + 1) = l := by rw [hl]; exact List.take_length
          rw [ht] at hm
          have e := listR_yes hm (by omega)
          have h3 := joinS_len (sep := [44#8]) (k := 8) (ls := l.map numR) (fun s hs => by
            obtain ⟨n, hn, rfl⟩ := List.mem_map.1 hs
            exact numR_len n)
          rw [List.length_map] at h3
          have hpj : join_c.pre (l.map numR, [44#8]) := ⟨by rw [List.length_map]; omega, by simp only [List.length_singleton] at h3; omega⟩
          refine CallS.mk (c := join_c) (((l.take (i + 1)).map numR, [44#8])) ?_
          repeat' (first | (with_reducible refine Unf.h ?_) | ((conv => whnf); first | (refine Side.mk ?_ ?_; focus (first | with_reducible rfl | (intros; (try simp only [lenS, inR, cutS, loI, hiI, ht, e] at *); omega) | (refine ⟨fun h => ?_, fun h => ?_⟩ <;> first | rfl | (cases h; done) | omega | (exfalso; omega) | (simp only [Bool.false_eq_true] at h; done)) | (simp [*, ht, e]; done))) | refine RetE.mk () trivial ?_ | refine Got.mk (fun _ _ => ?_) | refine retK_r ?_ | exact rfl) | fail); all_goals try (conv => whnf)
end Go.Proofs.YtkcicejnkdobpaaDoor

namespace Go.Proofs.YtkcicejnkdobpaaDoor
set_option linter.all false
open Go.RowKit
/-! script.word, script.line -/
def wordR (o : Op) (f : BitVec 8) : B8 := if f = 110#8 then numR o.n else if f = 109#8 then numR o.m else if f = 107#8 then numR o.k else if f = 108#8 then bytesS o.label else if f = 118#8 then bytesS o.value else listR o.list
def wordP (o : Op) (f : BitVec 8) : Prop := if f = 110#8 then mayN o.n else if f = 109#8 then mayN o.m else if f = 107#8 then mayN o.k else if f = 108#8 then True else if f = 118#8 then True else mayL o.list
instance wordPd (o : Op) (f : BitVec 8) : Decidable (wordP o f) := by unfold wordP; infer_instance
structure OpZ (o : Op) : Prop where
  a : o.label.length ≤ 30000
  b : o.value.length ≤ 30000
  c : o.list.length ≤ 30000
def word_c : Ctr where
  D := Op × BitVec 8
  pre := fun (o, _) => OpZ o
  args := fun (o, f) => [.agg (eOp o), .u8 f]
  res := fun (o, f) _ => .tup [.str (wordR o f), .dec (wordP o f) inferInstance]
def word_H : Cfg := ⟨[(44, numM_c), (45, bytesOf_c), (46, lof_c)], [], [], [], 43, 0, [], [], []⟩
theorem word_ok : word_c.Ok Tryd.prog 25 := by
  refine fn_ok word_H 0 rfl _ Tryd.func25 rfl rfl ⟨numM_ok, bytesOf_ok, lof_ok, trivial⟩ rfl rfl (by kernel_rfl) (fun _ => Nat.le_of_ble_eq_true rfl) ?_
  rintro ⟨o, f⟩ hp hr
  try dsimp only [word_c] at hp
  try simp only [word_c, Rng, RngL, inR, and_true, true_and] at hr
  obtain ⟨ha, hb, hc⟩ := hp
  have p1 : bytesOf_c.pre o.label := show o.label.length ≤ 1000000 by omega
  have p2 : bytesOf_c.pre o.value := show o.value.length ≤ 1000000 by omega
  have p3 : lof_c.pre o.list := show o.list.length ≤ 100000 by omega
  repeat' (first | (with_reducible refine Unf.h ?_) | ((conv => whnf); refine Fork.mk (fun h => ?_) (fun h => ?_)) | fail); all_goals try (conv => whnf)
  · refine CallS.mk (c := numM_c) o.n ?_
    repeat' (first | (with_reducible refine Unf.h ?_) | ((conv => whnf); first | (refine Side.mk ?_ ?_; focus (first | with_reducible rfl | exact True.intro | (simp [*, wordR, wordP]; done))) | refine RetE.mk () trivial ?_ | refine Got.mk (fun _ _ => ?_) | refine retK_r ?_ | exact rfl) | fail); all_goals try (conv => whnf)
  · refine CallS.mk (c := numM_c) o.m ?_
    repeat' (first | (with_reducible refine Unf.h ?_) | ((conv => whnf); first | (refine Side.mk ?_ ?_; focus (first | with_reducible rfl | exact True.intro | (simp [*, wordR, wordP]; done))) | refine RetE.mk () trivial ?_ | refine Got.mk (fun _ _ => ?_) | refine retK_r ?_ | exact rfl) | fail); all_goals try (conv => whnf)
  · refine CallS.mk (c := numM_c) o.k ?_
    repeat' (first | (with_reducible refine Unf.h ?_) | ((conv => whnf); first | (refine Side.mk ?_ ?_; focus (first | with_reducible rfl | exact True.intro | (simp [*, wordR, wordP]; done))) | refine RetE.mk () trivial ?_ | refine Got.mk (fun _ _ => ?_) | refine retK_r ?_ | exact rfl) | fail); all_goals try (conv => whnf)
  · refine CallS.mk (c := bytesOf_c) o.label ?_
    repeat' (first | (with_reducible refine Unf.h ?_) | ((conv => whnf); first | (refine Side.mk ?_ ?_; focus (first | with_reducible rfl | assumption | (simp [*, wordR, wordP]; done))) | refine RetE.mk () trivial ?_ | refine Got.mk (fun _ _ => ?_) | refine retK_r ?_ | exact rfl) | fail); all_goals try (conv => whnf)
  · refine CallS.mk (c := bytesOf_c) o.value ?_
    repeat' (first | (with_reducible refine Unf.h ?_) | ((conv => whnf); first | (refine Side.mk ?_ ?_; focus (first | with_reducible rfl | assumption | (simp [*, wordR, wordP]; done))) | refine RetE.mk () trivial ?_ | refine Got.mk (fun _ _ => ?_) | refine retK_r ?_ | exact rfl) | fail); all_goals try (conv => whnf)
  · refine CallS.mk (c := lof_c) o.list ?_
    repeat' (first | (with_reducible refine Unf.h ?_) | ((conv => whnf); first | (refine Side.mk ?_ ?_; focus (first | with_reducible rfl | assumption | (simp [*, wordR, wordP]; done))) | refine RetE.mk () trivial ?_ | refine Got.mk (fun _ _ => ?_) | refine retK_r ?_ | exact rfl) | fail); all_goals try (conv => whnf)
theorem bytesS_len (l : B8) : (bytesS l).length ≤ 2 * l.length + 1 := by
  unfold bytesS; split
  · simp
  · rw [hexs_len]; omega
theorem wordR_len {o : Op} (h : OpZ o) (f : BitVec 8) : (wordR o f).length ≤ 270001 := by
  have h1 := numR_len o.n
  have h2 := numR_len o.m
  have h3 := numR_len o.k
  have h4 := bytesS_len o.label
  have h5 := bytesS_len o.value
  have h6 := listS_len (l := o.list)
  obtain ⟨ha, hb, hc⟩ := h
  unfold wordR listR
  split; omega
  split; omega
  split; omega
  split; omega
  split; omega
  split
  · omega
  · simp
def formOf (k : Int) : B8 × B8 := gv0.getD k.toNat ([], [])
def lineP (o : Op) : Prop := (1 ≤ o.kind ∧ o.kind < 16) ∧ ∀ f ∈ (formOf o.kind).2, wordP o f
instance linePd (o : Op) : Decidable (lineP o) := by unfold lineP; infer_instance
def lineS (o : Op) : B8 := joinS [32#8] ((formOf o.kind).1 :: (formOf o.kind).2.map (wordR o)) ++ [10#8]
def lineR (o : Op) : B8 := if lineP o then lineS o else []
theorem gv0_len : gv0.length = 16 := rfl
theorem form_get {k : Int} {n : Nat} (h : n < gv0.length) (e : n = k.toNat) : gv0[n]'h = formOf k := by
  subst e; unfold formOf; rw [List.getD_eq_getElem?_getD, List.getElem?_eq_getElem h]; rfl
theorem form_len (k : Int) : (formOf k).1.length ≤ 7 ∧ (formOf k).2.length ≤ 4 := by
  unfold formOf
  rw [List.getD_eq_getElem?_getD]
  cases h : gv0[k.toNat]? with
  | none => exact ⟨by decide, by decide⟩
  | some p =>
    have hm := List.mem_of_getElem? h
    have key : ∀ p ∈ gv0, p.1.length ≤ 7 ∧ p.2.length ≤ 4 := by decide
    exact key p hm
theorem frcL2 {x y : B8} {K : List SV → Prop} (h : K [.str x, .str y]) : frcL [.str x, .str y] K := h
def line_c : Ctr where
  D := Op
  pre := OpZ
  args := fun o => [.agg (eOp o)]
  res := fun o _ => .tup [.str (lineR o), .dec (lineP o) inferInstance]
def line_H : Cfg := ⟨[(25, word_c), (26, join_c)], [(8, [0, 2], [5], (.one 0 1 false (.one 1 0 false (.one 2 1 false (.one 3 0 false (.one 4 0 false (.one 5 2 false (.one 6 0 false (.one 7 0 false (.one 8 0 false (.one 9 0 false (.one 10 0 false .nil))))))))))), [])], [], [], 49, 0, [], [], []⟩
theorem line_ok : line_c.Ok Tryd.prog 14 := by
  refine fn_ok line_H 0 rfl _ Tryd.func14 rfl rfl ⟨word_ok, join_ok, trivial⟩ rfl rfl (by kernel_rfl) (fun _ => Nat.le_of_ble_eq_true rfl) ?_
  intro (o : Op) hp hr
  try dsimp only [line_c] at hp
  try simp only [line_c, Rng, RngL, inR, and_true, true_and] at hr
  have hp' := hp
  obtain ⟨ha, hb, hc⟩ := hp
  have hno : ¬ lineP o → lineR o = [] := fun h => if_neg h
  repeat' (first | (with_reducible refine Unf.h ?_) | ((conv => whnf); first | refine Fork.mk (fun h => ?_) (fun h => ?_) | refine RetE.mk () trivial ?_ | refine retK_r ?_) | fail); all_goals try (conv => whnf)
  · have h1 : ¬ lineP o := fun h => by have := h.1.1; omega
    have e := hno h1
    repeat' (first | (with_reducible refine Unf.h ?_) | ((conv => whnf); first | (refine Side.mk ?_ ?_; focus (first | (simp only [*, e, List.map_cons, List.map_nil, eB]; done) | (simp [*, e]; done))) | exact rfl) | fail); all_goals try (conv => whnf)
  · have h1 : ¬ lineP o := fun h => by have := h.1.2; omega
    have e := hno h1
    repeat' (first | (with_reducible refine Unf.h ?_) | ((conv => whnf); first | (refine Side.mk ?_ ?_; focus (first | (simp only [*, e, List.map_cons, List.map_nil, eB]; done) | (simp [*, e]; done))) | exact rfl) | fail); all_goals try (conv => whnf)
  · have hk : 1 ≤ o.kind ∧ o.kind < 16 := by omega
    refine Idx.mk ⟨by omega, by rw [gv0_len]; omega, by omega⟩ ?_
    rw [form_get _ rfl]
    have hfl := form_len o.kind
    have hlp : lineP o ↔ ∀ f ∈ (formOf o.kind).2, wordP o f := ⟨fun h => h.2, fun h => ⟨hk, h⟩⟩
    have hls : lineS o = joinS [32#8] ((formOf o.kind).1 :: (formOf o.kind).2.map (wordR o)) ++ [10#8] := rfl
    generalize formOf o.kind = q at hfl hlp hls ⊢
    refine frcL2 (x := q.1) (y := q.2) ?_
    refine Side.mk rfl ?_
    repeat' (first | (with_reducible refine Unf.h ?_) | ((conv => whnf); (refine Side.mk ?_ ?_; focus (omega))) | fail); all_goals try (conv => whnf)
    refine LoopS.autoN (I := Nat) (fun i => i ≤ q.2.length ∧ ∀ f ∈ q.2.take i, wordP o f) (fun i => [(27, .int .i64 i), (5, .own 2)]) (fun i => [(0, .box 39 (eOp o)), (1, .box 61 [.str q.1, .str q.2]), (2, .row 9 1 eStr (q.1 :: (q.2.take i).map (wordR o)))]) 3 (fun i => q.2.length - i) 0 ⟨Nat.zero_le _, fun f h => absurd h (List.not_mem_nil)⟩ ?_ ?_
    · repeat' (first | (with_reducible refine Unf.h ?_) | ((conv => whnf); first | (refine Side.mk ?_ ?_; focus (first | with_reducible rfl | (refine congrArg (SV.int _) ?_; omega) | (simp [*]; done))) | (with_reducible refine Unf.h ?_) | exact True.intro) | fail); all_goals try (conv => whnf)
    · rintro i ⟨hi, hm⟩
      repeat' (first | (with_reducible refine Unf.h ?_) | ((conv => whnf); first | refine Fork.mk (fun h => ?_) (fun h => ?_) | (refine Idx.mk ?_ ?_; focus (omega))) | fail); all_goals try (conv => whnf)
      · have h0 : i < q.2.length := by omega
        have hpw : word_c.pre (o, q.2[((i : Nat) : Int).toNat]'h0) := hp'
        refine CallS.mk (c := word_c) ((o, q.2[((i : Nat) : Int).toNat]'h0)) ?_
        repeat' (first | (with_reducible first | refine Unf.h ?_ | refine loopK_n ?_) | ((conv => whnf); first | refine Fork.mkn (fun h => ?_) (fun h => ?_) | (refine Side.mk ?_ ?_; focus (first | with_reducible rfl | assumption | (intros; (try simp only [lenS, inR, cutS, loI, hiI] at *); omega))) | refine RetE.mk () trivial ?_ | refine Got.mk (fun _ _ => ?_) | refine Ex.mk [_] rfl ?_ | refine retK_r ?_) | fail); all_goals try (conv => whnf)
        · have h1 : ¬ lineP o := fun hl => h (hlp.1 hl _ (List.getElem_mem _))
          have e := hno h1
          repeat' (first | (with_reducible refine Unf.h ?_) | ((conv => whnf); (refine Side.mk ?_ ?_; focus ((simp only [*, e, List.map_cons, List.map_nil, eB]; done)))) | fail); all_goals try (conv => whnf)
          refine Side.mk ⟨fun h => absurd h (by decide), fun h => absurd h h1⟩ ?_
          repeat' (first | (with_reducible refine Unf.h ?_) | ((conv => whnf); exact rfl) | fail); all_goals try (conv => whnf)
        · refine ⟨i + 1, ⟨by omega, by omega, ?_⟩, ?_⟩
          · intro f hf
            rw [List.take_succ_eq_append_getElem h0] at hf
            rcases List.mem_append.1 hf with hf | hf
            · exact hm f hf
            · rw [List.mem_singleton.1 hf]; exact h
          have e : (q.1 :: (q.2.take i).map (wordR o)) ++ [wordR o (q.2[((i : Nat) : Int).toNat]'h0)] = q.1 :: (q.2.take (i + 1)).map (wordR o) := by
            rw [List.cons_append]; exact congrArg _ (mapT_succ (wordR o) h0)
          repeat' (first | (with_reducible refine Unf.h ?_) | ((conv => whnf); first | (refine Side.mk ?_ ?_; focus (first | with_reducible rfl | (refine congrArg (SV.int _) ?_; omega) | (simp only [*, e]; done))) | (with_reducible refine Unf.h ?_) | exact True.intro) | fail); all_goals try (conv => whnf)
      · have ht : q.2.take i = q.2 := List.take_of_length_le (by omega)
        rw [ht] at hm
        have hl : lineP o := hlp.2 hm
        have e : lineR o = joinS [32#8] (q.1 :: q.2.map (wordR o)) ++ [10#8] := by rw [lineR, if_pos hl, hls]
        have hpj : join_c.pre (q.1 :: q.2.map (wordR o), [32#8]) := by
          have h3 := joinS_len (sep := [32#8]) (k := 270001) (ls := q.1 :: q.2.map (wordR o)) (fun s hs => by
            rcases List.mem_cons.1 hs with rfl | hs
            · omega
            · obtain ⟨f, hf, rfl⟩ := List.mem_map.1 hs
              exact wordR_len hp' f)
          rw [List.length_cons, List.length_map, List.length_singleton] at h3
          refine ⟨by rw [List.length_cons, List.length_map]; omega, ?_⟩
          have : (q.2.length + 1) * (270001 + 1) ≤ 5 * 270002 := Nat.mul_le_mul (by omega) (Nat.le_refl _)
          omega
        refine CallS.mk (c := join_c) ((q.1 :: (q.2.take i).map (wordR o), [32#8])) ?_
        repeat' (first | (with_reducible refine Unf.h ?_) | ((conv => whnf); first | (refine Side.mk ?_ ?_; focus (first | with_reducible rfl | (intros; (try simp only [lenS, inR, cutS, loI, hiI, ht, e] at *); omega) | (simp [*, ht, e]; done))) | refine Got.mk (fun _ _ => ?_)) | fail); all_goals try (conv => whnf)
        refine Side.mk ?_ ?_
        · have h4 := hpj.2
          show (joinS [32#8] (q.1 :: (q.2.take i).map (wordR o))).length + 1 < 9223372036854775808
          rw [ht]; omega
        repeat' (first | (with_reducible refine Unf.h ?_) | ((conv => whnf); first | (refine Side.mk ?_ ?_; focus (first | (refine ⟨fun h => ?_, fun h => ?_⟩ <;> first | rfl | (cases h; done) | omega | (exfalso; omega) | (simp only [Bool.false_eq_true] at h; done)) | (simp [*, ht, e]; done))) | refine RetE.mk () trivial ?_ | refine retK_r ?_ | exact rfl) | fail); all_goals try (conv => whnf)
end Go.Proofs.YtkcicejnkdobpaaDoor

/- plain laws: splitting at a byte, digits read back (no program in sight) -/
namespace Go.Proofs.YtkcicejnkdobpaaDoor
set_option linter.all false
section
variable {α β : Type} [DecidableEq α] [DecidableEq β]
def cutAt (c : α) : List α → List α × List α
  | [] => ([], [])
  | b :: r => if b = c then ([], r) else (b :: (cutAt c r).1, (cutAt c r).2)
def splitC (c : α) : List α → List (List α)
  | [] => [[]]
  | b :: r => if b = c then [] :: splitC c r else
    match splitC c r with
    | [] => [[b]]
    | x :: q => (b :: x) :: q
theorem splitC_ne (c : α) (l : List α) : splitC c l ≠ [] := by
  cases l with
  | nil => simp [splitC]
  | cons b r =>
    unfold splitC
    split
    · simp
    · split <;> simp
theorem cutAt_fst (c : α) (l : List α) : c ∉ (cutAt c l).1 := by
  induction l with
  | nil => simp [cutAt]
  | cons b r ih =>
    unfold cutAt
    split
    · simp
    · rename_i h
      simp only [List.mem_cons, not_or]
      exact ⟨fun e => h e.symm, ih⟩
theorem cutAt_in {c : α} {l : List α} (h : c ∈ l) : l = (cutAt c l).1 ++ c :: (cutAt c l).2 := by
  induction l with
  | nil => simp at h
  | cons b r ih =>
    unfold cutAt
    split
    · rename_i e; simp [e]
    · rename_i e
      rcases List.mem_cons.1 h with h | h
      · exact absurd h.symm e
      · simp only [List.cons_append, List.cons.injEq, true_and]; exact ih h
theorem cutAt_out {c : α} {l : List α} (h : c ∉ l) : cutAt c l = (l, []) := by
  induction l with
  | nil => rfl
  | cons b r ih =>
    simp only [List.mem_cons, not_or] at h
    unfold cutAt
    rw [if_neg (fun e => h.1 e.symm), ih h.2]
theorem cutAt_app {c : α} {x y : List α} (h : c ∉ x) : cutAt c (x ++ c :: y) = (x, y) := by
  induction x with
  | nil => simp [cutAt]
  | cons b r ih =>
    simp only [List.mem_cons, not_or] at h
    rw [List.cons_append, cutAt, if_neg (fun e => h.1 e.symm), ih h.2]
theorem splitC_out {c : α} {l : List α} (h : c ∉ l) : splitC c l = [l] := by
  induction l with
  | nil => rfl
  | cons b r ih =>
    simp only [List.mem_cons, not_or] at h
    unfold splitC
    rw [if_neg (fun e => h.1 e.symm), ih h.2]
theorem splitC_app {c : α} {x y : List α} (h : c ∉ x) : splitC c (x ++ c :: y) = x :: splitC c y := by
  induction x with
  | nil => simp [splitC]
  | cons b r ih =>
    simp only [List.mem_cons, not_or] at h
    rw [List.cons_append, splitC, if_neg (fun e => h.1 e.symm), ih h.2]
theorem splitC_in {c : α} {l : List α} (h : c ∈ l) : splitC c l = (cutAt c l).1 :: splitC c (cutAt c l).2 := by
  conv => lhs; rw [cutAt_in h]
  exact splitC_app (cutAt_fst c l)
theorem cutAt_len (c : α) (l : List α) : (cutAt c l).1.length + (cutAt c l).2.length ≤ l.length := by
  induction l with
  | nil => simp [cutAt]
  | cons b r ih =>
    unfold cutAt
    split
    · simp
    · simp only [List.length_cons]; omega
theorem splitC_len (c : α) (l : List α) : (splitC c l).length = l.count c + 1 := by
  induction l with
  | nil => rfl
  | cons b r ih =>
    unfold splitC
    split
    · rename_i e; subst e; simp [ih]
    · rename_i e
      rw [List.count_cons_of_ne (fun x => e x)]
      split
      · rename_i h; exact absurd h (splitC_ne c r)
      · rename_i x q h; rw [h] at ih; simpa using ih
theorem splitC_mem {c : α} : ∀ {l : List α} {x : List α}, x ∈ splitC c l → c ∉ x ∧ x.length ≤ l.length
  | [], x, h => by
    simp only [splitC, List.mem_singleton] at h; subst h; simp
  | b :: r, x, h => by
    unfold splitC at h
    split at h
    · rcases List.mem_cons.1 h with rfl | h
      · simp
      · have := splitC_mem h
        exact ⟨this.1, by simp; omega⟩
    · rename_i e
      split at h
      · rename_i h0; exact absurd h0 (splitC_ne c r)
      · rename_i y q h0
        rcases List.mem_cons.1 h with rfl | h
        · have := splitC_mem (c := c) (l := r) (x := y) (by rw [h0]; simp)
          exact ⟨by simp only [List.mem_cons, not_or]; exact ⟨fun e' => e e'.symm, this.1⟩, by simp; omega⟩
        · have := splitC_mem (c := c) (l := r) (x := x) (by rw [h0]; simp [h])
          exact ⟨this.1, by simp; omega⟩
theorem splitC_map {f : α → β} (hf : ∀ a b, f a = f b → a = b) (c : α) (l : List α) : splitC (f c) (l.map f) = (splitC c l).map (·.map f) := by
  induction l with
  | nil => rfl
  | cons b r ih =>
    rw [List.map_cons, splitC, splitC, ih]
    by_cases h : b = c
    · subst h; simp
    · rw [if_neg (fun e => h (hf _ _ e)), if_neg h]
      cases splitC c r with
      | nil => rfl
      | cons x q => rfl
end
/-- what was joined is split -/
theorem splitC_join {c : BitVec 8} {x : B8} {r : List B8} (h : ∀ y ∈ x :: r, c ∉ y) : splitC c (joinS [c] (x :: r)) = x :: r := by
  induction r generalizing x with
  | nil => simp only [joinS, List.map_nil, List.flatten_nil, List.append_nil]; exact splitC_out (h x (List.mem_cons_self ..))
  | cons y r ih =>
    have e : joinS [c] (x :: y :: r) = x ++ c :: joinS [c] (y :: r) := by simp [joinS]
    rw [e, splitC_app (h x (List.mem_cons_self ..)), ih (fun z hz => h z (List.mem_cons_of_mem _ hz))]
theorem join_splitC (c : BitVec 8) (l : B8) : joinS [c] (splitC c l) = l := by
  induction l with
  | nil => rfl
  | cons b r ih =>
    unfold splitC
    split
    · rename_i e; subst e
      cases h : splitC b r with
      | nil => exact absurd h (splitC_ne b r)
      | cons x q => rw [h] at ih; simp only [joinS] at ih ⊢; simp; exact ih
    · cases h : splitC c r with
      | nil => exact absurd h (splitC_ne c r)
      | cons x q => rw [h] at ih; simp only [joinS] at ih ⊢; simp; exact ih
theorem splitC_inj {c : BitVec 8} {a b : B8} (h : splitC c a = splitC c b) : a = b := by
  rw [← join_splitC c a, ← join_splitC c b, h]
/-! ## numbers -/
abbrev isD (b : BitVec 8) : Prop := 48 ≤ b.toNat ∧ b.toNat ≤ 57
def valD (l : B8) : Nat := l.foldl (fun n b => 10 * n + (b.toNat - 48)) 0
theorem valD_snoc (l : B8) (b : BitVec 8) : valD (l ++ [b]) = 10 * valD l + (b.toNat - 48) := by simp [valD]
theorem dg_toNat (n : Nat) : (dg n).toNat = 48 + n % 10 := by
  unfold dg; rw [BitVec.toNat_ofNat]; omega
theorem dg_isD (n : Nat) : isD (dg n) := by unfold isD; rw [dg_toNat]; omega
theorem digN_isD : ∀ (n : Nat), ∀ b ∈ digN n, isD b := by
  intro n
  induction n using Nat.strongRecOn with
  | ind n ih =>
    intro b hb
    by_cases h : n < 10
    · rw [digN_lt h] at hb; rw [List.mem_singleton.1 hb]; exact dg_isD n
    · rw [digN_ge h] at hb
      rcases List.mem_append.1 hb with hb | hb
      · exact ih (n / 10) (by omega) b hb
      · rw [List.mem_singleton.1 hb]; exact dg_isD n
theorem valD_digN : ∀ (n : Nat), valD (digN n) = n := by
  intro n
  induction n using Nat.strongRecOn with
  | ind n ih =>
    by_cases h : n < 10
    · rw [digN_lt h]; simp [valD, dg_toNat]; omega
    · rw [digN_ge h, valD_snoc, ih (n / 10) (by omega), dg_toNat]; omega
theorem digN_nz (n : Nat) : 0 < (digN n).length := by
  by_cases h10 : n < 10
  · rw [digN_lt h10]; simp
  · rw [digN_ge h10]; simp
theorem digN_head : ∀ (n : Nat) {b : BitVec 8} {r : B8}, digN n = b :: r → b = 48#8 → n = 0 ∧ r = [] := by
  intro n
  induction n using Nat.strongRecOn with
  | ind n ih =>
    intro b r h hb
    by_cases h10 : n < 10
    · rw [digN_lt h10] at h
      simp only [List.cons.injEq] at h
      have := dg_toNat n
      rw [h.1, hb] at this
      have e : (48#8).toNat = 48 := rfl
      rw [e] at this
      exact ⟨by omega, h.2.symm⟩
    · rw [digN_ge h10] at h
      cases hq : digN (n / 10) with
      | nil => have := digN_nz (n / 10); rw [hq] at this; exact absurd this (by simp)
      | cons y q =>
        rw [hq, List.cons_append] at h
        simp only [List.cons.injEq] at h
        have := ih (n / 10) (by omega) hq (h.1.trans hb)
        omega
/-- digits without a zero ahead are a number's -/
theorem digN_valD : ∀ (l : B8), (∀ b ∈ l, isD b) → l ≠ [] → (∀ b r, l = b :: r → b = 48#8 → r = []) → digN (valD l) = l := by
  intro l
  generalize hn : l.length = n
  induction n generalizing l with
  | zero => intro _ h; exact absurd (List.eq_nil_of_length_eq_zero hn) h
  | succ n ih =>
    intro hd hne hz
    obtain ⟨q, b, rfl⟩ : ∃ q b, l = q ++ [b] := ⟨l.dropLast, l.getLast hne, (List.dropLast_concat_getLast hne).symm⟩
    have hb := hd b (by simp)
    have hdb : dg (b.toNat - 48) = b := by
      apply BitVec.eq_of_toNat_eq; rw [dg_toNat]; obtain ⟨h1, h2⟩ := hb; omega
    rw [valD_snoc]
    cases q with
    | nil =>
      have : valD [] = 0 := rfl
      rw [this, digN_lt (by obtain ⟨h1, h2⟩ := hb; omega)]
      simp [hdb]
    | cons y q =>
      have hq := ih (y :: q) (by simpa using hn) (fun b hb => hd b (List.mem_append_left _ hb)) (by simp) (fun b r e eb => by
        obtain ⟨rfl, rfl⟩ := List.cons.inj e
        exact absurd (hz y (q ++ [b]) rfl eb) (by simp))
      have hv : 0 < valD (y :: q) := by
        rcases Nat.eq_zero_or_pos (valD (y :: q)) with h | h
        · rw [h] at hq
          rw [digN_lt (by omega)] at hq
          simp only [List.cons.injEq] at hq
          have e48 : y = 48#8 := by rw [← hq.1]; rfl
          exact absurd (hz y (q ++ [b]) rfl e48) (by simp)
        · exact h
      obtain ⟨h1, h2⟩ := hb
      rw [digN_ge (by omega), show (10 * valD (y :: q) + (b.toNat - 48)) / 10 = valD (y :: q) by omega, hq]
      congr 2
      apply BitVec.eq_of_toNat_eq; rw [dg_toNat]; omega
end Go.Proofs.YtkcicejnkdobpaaDoor

/- one more of the shelf's contracts laid at this seat (printed by tools/shelf.py) -/
namespace Go.Proofs.YtkcicejnkdobpaaDoor
set_option linter.all false
open Go.Shelf Go.RowKit
def lays219_ren : Go.Shelf.Ren := ⟨fun | 219 => 49 | 217 => 56 | 225 => 57 | 224 => 58 | 267 => 59 | 266 => 64 | 314 => 65 | n => n, fun | 9 => 9 | 3 => 3 | 4 => 4 | 5 => 5 | 46 => 93 | 146 => 99 | 51 => 98 | n => n, fun | 1 => 1 | n => n⟩
theorem lays219 : Go.Proofs.Lays.n219 Tryd.prog lays219_ren := {
  mixed := by kernel_rfl
  f217 := Tryd.func56.trans (congrArg some (by kernel_rfl))
  f219 := Tryd.func49.trans (congrArg some (by kernel_rfl))
  f224 := Tryd.func58.trans (congrArg some (by kernel_rfl))
  f225 := Tryd.func57.trans (congrArg some (by kernel_rfl))
  f266 := Tryd.func64.trans (congrArg some (by kernel_rfl))
  f267 := Tryd.func59.trans (congrArg some (by kernel_rfl))
  f314 := Tryd.func65.trans (congrArg some (by kernel_rfl))
  t3 := Tryd.underlying3
  a3 := Tryd.isAgg3
  z3 := Tryd.sizeOf3
  v3 := Tryd.zeroValue3
  t4 := Tryd.underlying4
  a4 := Tryd.isAgg4
  z4 := Tryd.sizeOf4
  v4 := Tryd.zeroValue4
  t5 := Tryd.underlying5
  a5 := Tryd.isAgg5
  z5 := Tryd.sizeOf5
  v5 := Tryd.zeroValue5
  t9 := Tryd.underlying9
  a9 := Tryd.isAgg9
  z9 := Tryd.sizeOf9
  v9 := Tryd.zeroValue9
  t46 := Tryd.underlying93
  a46 := Tryd.isAgg93
  z46 := Tryd.sizeOf93
  v46 := Tryd.zeroValue93
  t51 := Tryd.underlying98
  a51 := Tryd.isAgg98
  z51 := Tryd.sizeOf98
  v51 := Tryd.zeroValue98
  t146 := Tryd.underlying99
  a146 := Tryd.isAgg99
  z146 := Tryd.sizeOf99
  v146 := Tryd.zeroValue99
  g1 := by kernel_rfl }

end Go.Proofs.YtkcicejnkdobpaaDoor

namespace Go.Proofs.YtkcicejnkdobpaaDoor
set_option linter.all false
open Go.RowKit
/-! the library's functions on strings, at one byte -/
abbrev uB (c : BitVec 8) : UInt8 := UInt8.ofBitVec c
theorem uB_inj {a b : BitVec 8} (h : uB a = uB b) : a = b := congrArg UInt8.toBitVec h
theorem u8s_mem {c : BitVec 8} {s : B8} : uB c ∈ u8s s ↔ c ∈ s :=
  ⟨fun h => by obtain ⟨x, hx, e⟩ := List.mem_map.1 h; rw [← uB_inj e]; exact hx, fun h => List.mem_map.2 ⟨c, h, rfl⟩⟩
theorem u8s_count (c : BitVec 8) (s : B8) : (u8s s).count (uB c) = s.count c := by
  induction s with
  | nil => rfl
  | cons b r ih =>
    show (uB b :: u8s r).count (uB c) = _
    rw [List.count_cons, List.count_cons, ih]
    by_cases h : b = c
    · subst h; simp
    · have h2 : ¬ uB b = uB c := fun e => h (uB_inj e)
      simp [h, h2]
theorem ixL {u : UInt8} : ∀ (s : List UInt8), Lib.indexByte s u = if u ∈ s then ((cutAt u s).1.length : Int) else -1
  | [] => rfl
  | b :: r => by
    have ih := ixL (u := u) r
    unfold Lib.indexByte cutAt
    by_cases h : b = u
    · subst h; simp
    · have h' : ¬ u = b := fun e => h e.symm
      simp only [beq_iff_eq, h, if_false, List.mem_cons, h', false_or]
      rw [ih]
      by_cases hm : u ∈ r
      · simp only [if_pos hm]
        rw [if_neg (by omega)]
        simp
      · simp only [if_neg hm]; rfl
theorem cut_take (u : UInt8) (s : List UInt8) (h : u ∈ s) : s.take (cutAt u s).1.length = (cutAt u s).1 ∧ s.drop ((cutAt u s).1.length + 1) = (cutAt u s).2 := by
  have e := cutAt_in h
  have key : ∀ (x y : List UInt8), (x ++ u :: y).take x.length = x ∧ (x ++ u :: y).drop (x.length + 1) = y := fun x y => by simp
  have k := key (cutAt u s).1 (cutAt u s).2
  rw [← e] at k
  exact k
theorem splitK_C {u : UInt8} : ∀ (k : Nat) (s : List UInt8), s.count u ≤ k → Lib.splitK [u] 0 k s = splitC u s
  | 0, s, h => by
    have : u ∉ s := List.count_eq_zero.1 (by omega)
    rw [splitC_out this]; rfl
  | k + 1, s, h => by
    unfold Lib.splitK
    rw [Lib.index_one, ixL]
    by_cases hm : u ∈ s
    · rw [if_pos hm, if_neg (by simp only [beq_iff_eq]; omega), splitC_in hm]
      have h1 := cut_take u s hm
      have h2 : (((cutAt u s).1.length : Nat) : Int).toNat = (cutAt u s).1.length := by omega
      rw [h2, Nat.add_zero, List.length_singleton, h1.1, h1.2, splitK_C k]
      have h3 := congrArg (List.count u) (cutAt_in hm)
      rw [List.count_append, List.count_cons_self] at h3
      omega
    · rw [if_neg hm, splitC_out hm]; rfl
def ixC (c : BitVec 8) (s : B8) : Int := if c ∈ s then ((cutAt c s).1.length : Int) else -1
theorem cutAt_u8 (c : BitVec 8) (s : B8) : (cutAt (uB c) (u8s s)).1 = u8s (cutAt c s).1 ∧ (cutAt (uB c) (u8s s)).2 = u8s (cutAt c s).2 := by
  induction s with
  | nil => exact ⟨rfl, rfl⟩
  | cons b r ih =>
    have e : cutAt (uB c) (u8s (b :: r)) = if uB b = uB c then ([], u8s r) else (uB b :: (cutAt (uB c) (u8s r)).1, (cutAt (uB c) (u8s r)).2) := rfl
    have e2 : cutAt c (b :: r) = if b = c then ([], r) else (b :: (cutAt c r).1, (cutAt c r).2) := rfl
    rw [e, e2]
    by_cases h : b = c
    · rw [if_pos (congrArg uB h), if_pos h]; exact ⟨rfl, rfl⟩
    · rw [if_neg (fun e => h (uB_inj e)), if_neg h]
      exact ⟨by rw [ih.1]; rfl, ih.2⟩
theorem ixC_lib (c : BitVec 8) (s : B8) : Lib.indexByte (u8s s) (uB c) = ixC c s := by
  rw [ixL, ixC, (cutAt_u8 c s).1]
  by_cases h : c ∈ s
  · rw [if_pos h, if_pos (u8s_mem.2 h)]; simp
  · rw [if_neg h, if_neg (fun e => h (u8s_mem.1 e))]
/-- two strings come in, nothing is written -/
theorem two_str {σ : Sg} {A : Own} {w : World} {s t : B8} {vs : List Value} (h : hvs w A σ [.str s, .str t] vs) : vs = [.string (baOf s), .string (baOf t)] := by
  obtain ⟨p, m1, rfl, h1, q, m2, rfl, h2, h3⟩ := h
  simp only [hvs] at h3; subst h3
  obtain rfl : p = .string (baOf s) := by simpa [SV.h1, SV.hc] using h1
  obtain rfl : q = .string (baOf t) := by simpa [SV.h1, SV.hc] using h2
  rfl
theorem inR_le {n : Nat} (h : n ≤ 1000000) : inR (n : Int) := by unfold inR; omega
theorem int_hv {σ : Sg} {A : Own} {w : World} {n : Int} (h : inR n) : (SV.int .i64 n).hv w A σ (.int .i64 n) := by
  simp only [SV.hv, SV.h1, SV.hc, true_and]; exact fun _ => h
def count_c : Ctr where
  D := B8 × BitVec 8
  pre := fun (s, _) => s.length ≤ 1000000
  args := fun (s, c) => [.str s, .str [c]]
  res := fun (s, c) _ => .int .i64 (s.count c : Int)
theorem count_ok : count_c.Ok Tryd.prog 20 := by
  rintro ⟨s, c⟩ hp A0 w σ vs hA hobs hargs hdom hgl
  obtain rfl := two_str hargs
  refine (Any.strings_Count_one lays138 (baOf s) (uB c) w).mono ?_
  rintro e w' ⟨rfl, rfl⟩
  refine ⟨(), _, σ, rfl, trivial, fun _ _ _ h => h, fun k hk => hdom k hk, ?_, Mod.refl _ _, hobs, fun c hc => .inl hc⟩
  have e : Lib.countByte (baOf s).data.toList (uB c) = s.count c := u8s_count c s
  rw [e]
  exact int_hv (inR_le (Nat.le_trans (List.count_le_length (a := c) (l := s)) hp))
theorem ixC_inR {c : BitVec 8} {s : B8} (h : s.length ≤ 1000000) : inR (ixC c s) := by
  have := cutAt_len c s
  unfold ixC
  split
  · exact inR_le (by omega)
  · unfold inR; omega
def ixl_c : Ctr where
  D := B8 × BitVec 8
  pre := fun (s, _) => s.length ≤ 1000000
  args := fun (s, c) => [.str s, .str [c]]
  res := fun (s, c) _ => .int .i64 (ixC c s)
theorem ixl_ok : ixl_c.Ok Tryd.prog 49 := by
  rintro ⟨s, c⟩ hp A0 w σ vs hA hobs hargs hdom hgl
  obtain rfl := two_str hargs
  refine (Any.stringslite_Index_one lays219 (baOf s) (uB c) w).mono ?_
  rintro e w' ⟨rfl, rfl⟩
  refine ⟨(), _, σ, rfl, trivial, fun _ _ _ h => h, fun k hk => hdom k hk, ?_, Mod.refl _ _, hobs, fun c hc => .inl hc⟩
  have e : Lib.indexByte (baOf s).data.toList (uB c) = ixC c s := ixC_lib c s
  rw [e]
  exact int_hv (ixC_inR hp)
def ixb_c : Ctr where
  D := B8 × BitVec 8
  pre := fun (s, _) => s.length ≤ 1000000
  args := fun (s, c) => [.str s, .u8 c]
  res := fun (s, c) _ => .int .i64 (ixC c s)
theorem ixb_ok : ixb_c.Ok Tryd.prog 62 := by
  rintro ⟨s, c⟩ hp A0 w σ vs hA hobs hargs hdom hgl
  obtain ⟨p, m1, rfl, h1, q, m2, rfl, h2, h3⟩ := hargs
  simp only [hvs] at h3; subst h3
  obtain rfl : p = .string (baOf s) := by simpa [SV.h1, SV.hc] using h1
  obtain rfl : q = .int .u8 (c.toNat : Int) := by simpa [SV.h1, SV.hc] using h2
  refine (Any.strings_IndexByte lays137 (baOf s) (c.toNat : Int) w).mono ?_
  rintro e w' ⟨rfl, rfl⟩
  refine ⟨(), _, σ, rfl, trivial, fun _ _ _ h => h, fun k hk => hdom k hk, ?_, Mod.refl _ _, hobs, fun c hc => .inl hc⟩
  have eu : ((c.toNat : Int).toNat).toUInt8 = uB c := by
    rw [Int.toNat_natCast]
    apply congrArg UInt8.ofBitVec (a₁ := (c.toNat.toUInt8).toBitVec) (a₂ := c)
    simp
  have e : Lib.indexByte (baOf s).data.toList ((c.toNat : Int).toNat).toUInt8 = ixC c s := by rw [eu]; exact ixC_lib c s
  rw [e]
  exact int_hv (ixC_inR hp)
def cutp_c : Ctr where
  D := B8 × BitVec 8
  args := fun (s, c) => [.str s, .str [c]]
  res := fun (s, c) _ => .tup [.str (if s.head? = some c then s.tail else s), .dec (s.head? = some c) inferInstance]
theorem cutp_ok : cutp_c.Ok Tryd.prog 61 := by
  rintro ⟨s, c⟩ hp A0 w σ vs hA hobs hargs hdom hgl
  obtain rfl := two_str hargs
  refine (Any.strings_CutPrefix lays103 (baOf s) (baOf [c]) w).mono ?_
  rintro e w' ⟨rfl, rfl⟩
  refine ⟨(), _, σ, rfl, trivial, fun _ _ _ h => h, fun k hk => hdom k hk, ?_, Mod.refl _ _, hobs, fun c hc => .inl hc⟩
  have e1 : Lib.hasPrefix (u8s s) [uB c] = decide (s.head? = some c) := by
    cases s with
    | nil => rfl
    | cons b r =>
      by_cases h : b = c
      · subst h; simp [Lib.hasPrefix]
      · have h2 : ¬ uB c = uB b := fun e => h (uB_inj e).symm
        have h3 : (uB c == uB b) = false := by simpa using h2
        have h4 : ¬ (b :: r).head? = some c := by simpa using h
        rw [decide_eq_false h4]
        show (uB c == uB b && _) = false
        rw [h3]; rfl
  have e2 : (⟨(Lib.trimPrefix (u8s s) [uB c]).toArray⟩ : ByteArray) = baOf (if s.head? = some c then s.tail else s) := by
    unfold Lib.trimPrefix
    rw [e1]
    by_cases h : s.head? = some c
    · rw [if_pos h, if_pos (by simpa using h)]
      show _ = (⟨(u8s s.tail).toArray⟩ : ByteArray)
      simp [u8s]
    · rw [if_neg h, if_neg (by simpa using h)]; rfl
  show (SV.tup _).hv _ _ _ _
  refine ⟨_, rfl, _, _, rfl, ?_, _, _, rfl, ?_, rfl⟩
  · simp only [SV.h1, SV.hc]
    exact congrArg (fun x => [Value.string x]) e2
  · simp only [SV.h1, SV.hc]
    exact congrArg (fun x => [Value.bool x]) e1
/-- the pieces, as foreign strings -/
def gs_c : Ctr where
  D := B8 × BitVec 8
  pre := fun (s, _) => s.length ≤ 1000000
  args := fun (s, c) => [.str s, .str [c], .int .i64 0, .int .i64 (-1)]
  res := fun (s, c) _ => .fs 1 eStr (splitC c s)
theorem ba1 {c : BitVec 8} : (⟨#[uB c]⟩ : ByteArray).data.toList = [uB c] := rfl
theorem indexB_one (x : ByteArray) (c : BitVec 8) : Lib.indexB x ⟨#[uB c]⟩ = Lib.indexByte x.data.toList (uB c) := Lib.index_one _ _
theorem countB_one (s : B8) (c : BitVec 8) : Lib.countB (baOf s) ⟨#[uB c]⟩ = s.count c := by
  show Lib.count (u8s s) [uB c] = _
  rw [Lib.count_one]; exact u8s_count c s
theorem splitB_C (s : B8) (c : BitVec 8) : Lib.splitB ⟨#[uB c]⟩ 0 (s.count c) (baOf s) = (splitC c s).map baOf := by
  have h := Lib.splitB_data ⟨#[uB c]⟩ 0 (s.count c) (baOf s)
  rw [ba1, baOf_data, splitK_C _ _ (by rw [u8s_count]; exact Nat.le_refl _)] at h
  have h2 : splitC (uB c) (u8s s) = (splitC c s).map u8s := splitC_map (f := uB) (fun a b e => uB_inj e) c s
  rw [h2] at h
  have h3 : ∀ {l : List ByteArray} {m : List B8}, l.map (·.data.toList) = m.map u8s → l = m.map baOf := by
    intro l
    induction l with
    | nil => intro m h; cases m with
      | nil => rfl
      | cons _ _ => simp at h
    | cons x r ih => intro m h; cases m with
      | nil => simp at h
      | cons y q =>
        simp only [List.map_cons, List.cons.injEq] at h ⊢
        refine ⟨?_, ih h.2⟩
        apply ByteArray.ext; apply Array.ext'; exact h.1
  exact h3 h
theorem gs_ok : gs_c.Ok Tryd.prog 50 := by
  rintro ⟨s, c⟩ hp A0 w σ vs hA hobs hargs hdom hgl
  obtain ⟨p, m1, rfl, h1, q, m2, rfl, h2, p3, m3, rfl, h3, p4, m4, rfl, h4, h5⟩ := hargs
  simp only [hvs] at h5; subst h5
  obtain rfl : p = .string (baOf s) := by simpa [SV.h1, SV.hc] using h1
  obtain rfl : q = .string (baOf [c]) := by simpa [SV.h1, SV.hc] using h2
  obtain rfl : p3 = .int .i64 0 := by obtain ⟨e, -⟩ := h3; cases e; rfl
  obtain rfl : p4 = .int .i64 (-1) := by obtain ⟨e, -⟩ := h4; cases e; rfl
  have hs1 : (⟨#[uB c]⟩ : ByteArray).size = 1 := rfl
  have hsz : (baOf s).size = s.length := by show (u8s s).toArray.size = _; simp
  have hp' : s.length ≤ 1000000 := hp
  have hcl := List.count_le_length (a := c) (l := s)
  have hc0 := Any.strings_genSplit_core lays221 (by kernel_rfl) (baOf s) ⟨#[uB c]⟩ 0 (-1) (s.count c + 1) w (by rw [hsz]; omega) (by rw [hs1]; omega) (by omega)
    (fun x cs hx => (Any.strings_Index_one lays143 x (uB c) _).mono fun e w' ⟨he, hw⟩ => ⟨by rw [he, indexB_one], hw⟩)
    ((Any.strings_Count_one lays138 (baOf s) (uB c) w).mono fun e w' ⟨he, hw⟩ => ⟨by
      rw [he, countB_one]
      have e : Lib.countByte (baOf s).data.toList (uB c) = s.count c := u8s_count c s
      rw [e], hw⟩) (by decide) (by decide) (by rw [if_pos (by decide), countB_one, hsz]; omega)
  rw [Nat.add_sub_cancel, splitB_C, List.length_map, splitC_len] at hc0
  have hfull : Lib.cellsOf ((splitC c s).map baOf) (s.count c + 1) = (((splitC c s).map baOf).map Value.string).toArray := by
    have := Lib.cellsOf_full ((splitC c s).map baOf)
    rw [List.length_map, splitC_len] at this
    exact this
  rw [hfull] at hc0
  refine hc0.mono ?_
  rintro e w' ⟨rfl, rfl⟩
  have hk : Kept w (w.alloc (.cells (((splitC c s).map baOf).map Value.string).toArray 9)) := Mod.alloc _ w _
  refine ⟨(), _, σ, rfl, trivial, fun _ _ _ h => h, fun k hk => hdom k hk, ?_, hk.mono fun _ x => x.elim, obs_kept hobs hk, fun c hc => .inl hc⟩
  show (SV.fs 1 eStr (splitC c s)).h1 (w.alloc (.cells (((splitC c s).map baOf).map Value.string).toArray 9)) (Av A0 σ []) σ _
  simp only [SV.h1, SV.hc]
  refine ⟨some ⟨w.heap.size, 0, none⟩, s.count c + 1, by rw [splitC_len], by rw [splitC_len]; omega, by unfold maxLen; omega, fun h => (by cases h), fun i hi => rfl, fun ad had => .inr ?_⟩
  cases had
  refine ⟨rfl, fun hx => ?_, _, _, _, heap_alloc_new w _, fun i hi => ?_⟩
  · rcases hx with hx | hx
    · exact absurd (hA _ hx) (Nat.lt_irrefl _)
    · exact hx.elim
  · have e : ((((((splitC c s).map baOf).map Value.string).toArray).toList.drop (0 + i * 1)).take 1) = [.string (baOf (splitC c s)[i])] := by
      rw [Nat.zero_add, Nat.mul_one]
      simp only [List.map_map]
      rw [List.drop_eq_getElem_cons (by simpa using hi)]
      simp
    rw [e]
    exact ⟨[_], [], rfl, by simp only [SV.hc], rfl⟩
end Go.Proofs.YtkcicejnkdobpaaDoor

namespace Go.Proofs.YtkcicejnkdobpaaDoor
set_option linter.all false
open Go.RowKit
/-! script.Write -/
def accF (t s : B8) : B8 := if t.length ≤ 20000 then t ++ s else t
def accW (l : List Op) : B8 := l.foldl (fun t o => accF t (lineR o)) []
abbrev allP (l : List Op) : Prop := ∀ o ∈ l, lineP o
def writeR (l : List Op) : B8 × Int := if allP l then (if 400 < l.length ∨ 20000 < (accW l).length then ([], 3) else (accW l, 0)) else ([], 1)
theorem accW_succ {l : List Op} {i : Nat} (h : i < l.length) : accW (l.take (i + 1)) = accF (accW (l.take i)) (lineR l[i]) := by
  unfold accW; rw [List.take_succ_eq_append_getElem h, List.foldl_append]; rfl
theorem lineS_len {o : Op} (h : OpZ o) : (lineS o).length ≤ 1350011 := by
  have hf := form_len o.kind
  have h3 := joinS_len (sep := [32#8]) (k := 270001) (ls := (formOf o.kind).1 :: (formOf o.kind).2.map (wordR o)) (fun s hs => by
    rcases List.mem_cons.1 hs with rfl | hs
    · omega
    · obtain ⟨f, _, rfl⟩ := List.mem_map.1 hs
      exact wordR_len h f)
  rw [List.length_cons, List.length_map, List.length_singleton] at h3
  have : ((formOf o.kind).2.length + 1) * (270001 + 1) ≤ 5 * 270002 := Nat.mul_le_mul (by omega) (Nat.le_refl _)
  unfold lineS
  rw [List.length_append, List.length_singleton]
  omega
theorem lineS_ne (o : Op) : 0 < (lineS o).length := by unfold lineS; simp
theorem accW_len : ∀ {l : List Op}, (∀ o ∈ l, OpZ o) → (accW l).length ≤ 1370011 := by
  intro l h
  have key : ∀ (l : List Op) (t : B8), (∀ o ∈ l, OpZ o) → t.length ≤ 1370011 → (l.foldl (fun t o => accF t (lineR o)) t).length ≤ 1370011 := by
    intro l
    induction l with
    | nil => intro t _ h; exact h
    | cons o r ih =>
      intro t hz h
      refine ih _ (fun o ho => hz o (List.mem_cons_of_mem _ ho)) ?_
      have := lineS_len (hz o (List.mem_cons_self ..))
      show (accF t (lineR o)).length ≤ 1370011
      unfold accF lineR
      split
      · split
        · rw [List.length_append]; omega
        · rw [List.length_append]; simp; omega
      · exact h
  exact key l [] h (by simp)
theorem allP_succ {l : List Op} {i : Nat} (h : i < l.length) (h1 : allP (l.take i)) (h2 : lineP l[i]) : allP (l.take (i + 1)) := by
  intro n hn
  rw [List.take_succ_eq_append_getElem h] at hn
  rcases List.mem_append.1 hn with hn | hn
  · exact h1 n hn
  · rw [List.mem_singleton.1 hn]; exact h2
theorem accW_ne {l : List Op} {i : Nat} (h : i < l.length) (h2 : lineP l[i]) : 0 < (accW (l.take (i + 1))).length := by
  rw [accW_succ h]
  have := lineS_ne l[i]
  unfold accF
  rw [show lineR l[i] = lineS l[i] from if_pos h2]
  split
  · rw [List.length_append]; omega
  · omega
theorem writeR_long {l : List Op} (h : allP l) (h2 : 400 < l.length ∨ 20000 < (accW l).length) : writeR l = ([], 3) := by
  rw [writeR, if_pos h, if_pos h2]
theorem writeR_ok {l : List Op} (h : allP l) (h2 : ¬ (400 < l.length ∨ 20000 < (accW l).length)) : writeR l = (accW l, 0) := by
  rw [writeR, if_pos h, if_neg h2]
theorem allP_not {l : List Op} {i : Nat} (h : i < l.length) (h2 : ¬ lineP l[i]) : ¬ allP l := fun hm => h2 (hm _ (List.getElem_mem h))
theorem allP_nil : allP [] := fun n h => absurd h (List.not_mem_nil)
/-- the builder's state behind i steps -/
def wrO (l : List Op) : Nat → List Ob
  | 0 => [(0, sb0)]
  | i + 1 => [(0, sb1 0 1), (1, sbR (accW (l.take (i + 1))))]
def wr_c : Ctr where
  D := List Op
  pre := fun l => l.length ≤ 1000 ∧ ∀ o ∈ l, OpZ o
  args := fun l => [.fs 7 eOp l]
  res := fun l _ => .tup [.str (writeR l).1, .int .i64 (writeR l).2]
def wr_H : Cfg := ⟨[(14, line_c), (16, ws0_c), (16, ws1_c), (15, ln0_c), (15, ln1_c), (17, st0_c), (17, st1_c)], [], [], [], 35, 0, [], [], []⟩
theorem wr_ok : wr_c.Ok Tryd.prog 9 := by
  refine fn_ok wr_H 0 rfl _ Tryd.func9 rfl rfl ⟨line_ok, ws0_ok, ws1_ok, ln0_ok, ln1_ok, st0_ok, st1_ok, trivial⟩ rfl rfl (by kernel_rfl) (fun _ => Nat.le_of_ble_eq_true rfl) ?_
  intro (l : List Op) hp hr
  try dsimp only [wr_c] at hp
  try simp only [wr_c, Rng, RngL, inR, and_true, true_and] at hr
  obtain ⟨hl, hz⟩ := hp
  have hno : ¬ allP l → writeR l = ([], 1) := fun h => if_neg h
  repeat' (first | (with_reducible refine Unf.h ?_) | fail); all_goals try (conv => whnf)
  refine LoopS.autoN (I := Nat) (fun i => i ≤ l.length ∧ allP (l.take i)) (fun i => [(11, .int .i64 i)]) (fun i => wrO l i) 2 (fun i => l.length - i) 0 ⟨Nat.zero_le _, allP_nil⟩ ?_ ?_
  · repeat' (first | (with_reducible refine Unf.h ?_) | ((conv => whnf); first | (refine Side.mk ?_ ?_; focus (first | with_reducible rfl | (refine congrArg (SV.int _) ?_; omega))) | (with_reducible refine Unf.h ?_) | exact True.intro) | fail); all_goals try (conv => whnf)
  · rintro (_ | i) ⟨hi, hm⟩
    · repeat' (first | (with_reducible refine Unf.h ?_) | ((conv => whnf); first | refine Fork.mk (fun h => ?_) (fun h => ?_) | (refine Side.mk ?_ ?_; focus (omega)) | (refine Idx.mk ?_ ?_; focus (omega)) | refine RetE.mk () trivial ?_ | refine retK_r ?_ | exact rfl) | fail); all_goals try (conv => whnf)
      · have h0 : 0 < l.length := by omega
        have hz0 : line_c.pre (l[((0 : Nat) : Int).toNat]'h0) := hz _ (List.getElem_mem _)
        have hz1 := lineS_len (hz (l[((0 : Nat) : Int).toNat]'h0) (List.getElem_mem _))
        refine CallS.mk (c := line_c) ((l[((0 : Nat) : Int).toNat]'h0)) ?_
        repeat' (first | (with_reducible refine Unf.h ?_) | ((conv => whnf); first | refine Fork.mkn (fun h => ?_) (fun h => ?_) | (refine Side.mk ?_ ?_; focus (first | with_reducible rfl | assumption)) | refine RetE.mk () trivial ?_ | refine Got.mk (fun _ _ => ?_) | refine retK_r ?_) | fail); all_goals try (conv => whnf)
        · have h1 := allP_not (i := 0) h0 h
          have e := hno h1
          repeat' (first | (with_reducible refine Unf.h ?_) | ((conv => whnf); first | (refine Side.mk ?_ ?_; focus (first | (simp only [*, e]; done) | (simp only [*, e, List.map_cons, List.map_nil, eB]; done))) | exact rfl) | fail); all_goals try (conv => whnf)
        · refine Or2.l (CallS.mk (c := ln0_c) (()) ?_)
          repeat' (first | (with_reducible first | refine Unf.h ?_ | refine loopK_n ?_) | ((conv => whnf); first | refine Fork.mk (fun h => ?_) (fun h => ?_) | (refine Side.mk ?_ ?_; focus (first | with_reducible rfl | exact True.intro | omega)) | refine Got.mk (fun _ _ => ?_)) | fail); all_goals try (conv => whnf)
          · have hy : lineP (l[((0 : Nat) : Int).toNat]'h0) := by assumption
            have e : lineR (l[((0 : Nat) : Int).toNat]'h0) = accW (l.take (0 + 1)) := (accW_succ (i := 0) h0).symm
            have e1 : lineR (l[((0 : Nat) : Int).toNat]'h0) = lineS (l[((0 : Nat) : Int).toNat]'h0) := if_pos hy
            have hpw : ws0_c.pre (lineR (l[((0 : Nat) : Int).toNat]'h0)) := show _ ≤ _ by rw [e1]; omega
            refine Or2.l (CallS.mk (c := ws0_c) ((lineR (l[((0 : Nat) : Int).toNat]'h0))) ?_)
            repeat' (first | (with_reducible first | refine Unf.h ?_ | refine loopK_n ?_) | ((conv => whnf); first | (refine Side.mk ?_ ?_; focus (first | with_reducible rfl | assumption | (intros; (try simp only [lenS, inR, cutS, loI, hiI] at *); omega))) | refine Got.mk (fun _ _ => ?_)) | fail); all_goals try (conv => whnf)
            refine ⟨1, ⟨by omega, by omega, allP_succ (i := 0) h0 hm hy⟩, ?_⟩
            repeat' (first | (with_reducible refine Unf.h ?_) | ((conv => whnf); first | (refine Side.mk ?_ ?_; focus (first | with_reducible rfl | (refine congrArg (SV.int _) ?_; omega) | (simp only [*, e]; done))) | (with_reducible refine Unf.h ?_) | exact True.intro) | fail); all_goals try (conv => whnf)
          · exact absurd (by decide) h
      · have hl0 : l = [] := List.eq_nil_of_length_eq_zero (by omega)
        subst hl0
        refine Or2.l (CallS.mk (c := ln0_c) (()) ?_)
        have e : writeR [] = ([], 0) := by rw [writeR_ok allP_nil (by simp [accW])]; rfl
        repeat' (first | (with_reducible refine Unf.h ?_) | ((conv => whnf); first | refine Fork.mk (fun h => ?_) (fun h => ?_) | (refine Side.mk ?_ ?_; focus (first | with_reducible rfl | exact True.intro | omega | (simp only [*, e]; done))) | refine RetE.mk () trivial ?_ | refine Got.mk (fun _ _ => ?_) | refine retK_r ?_ | exact rfl | refine Or2.l (CallS.mk (c := st0_c) (()) ?_)) | fail); all_goals try (conv => whnf)
    · have hin : i < l.length := by omega
      have hzt : ∀ o ∈ l.take (i + 1), OpZ o := fun o ho => hz o (List.mem_of_mem_take ho)
      have hal := accW_len hzt
      have han := accW_ne hin (hm _ (by rw [List.take_succ_eq_append_getElem hin]; exact List.mem_append.2 (.inr (List.mem_singleton.2 rfl))))
      repeat' (first | (with_reducible refine Unf.h ?_) | ((conv => whnf); first | refine Fork.mk (fun h => ?_) (fun h => ?_) | (refine Idx.mk ?_ ?_; focus (omega)) | refine RetE.mk () trivial ?_ | refine retK_r ?_) | fail); all_goals try (conv => whnf)
      · have h0 : i + 1 < l.length := by omega
        have hz0 : line_c.pre (l[((i + 1 : Nat) : Int).toNat]'h0) := hz _ (List.getElem_mem _)
        have hz1 := lineS_len (hz (l[((i + 1 : Nat) : Int).toNat]'h0) (List.getElem_mem _))
        refine CallS.mk (c := line_c) ((l[((i + 1 : Nat) : Int).toNat]'h0)) ?_
        repeat' (first | (with_reducible refine Unf.h ?_) | ((conv => whnf); first | refine Fork.mkn (fun h => ?_) (fun h => ?_) | (refine Side.mk ?_ ?_; focus (first | with_reducible rfl | assumption)) | refine RetE.mk () trivial ?_ | refine Got.mk (fun _ _ => ?_) | refine retK_r ?_) | fail); all_goals try (conv => whnf)
        · have h1 := allP_not (i := i + 1) h0 h
          have e := hno h1
          repeat' (first | (with_reducible refine Unf.h ?_) | ((conv => whnf); first | (refine Side.mk ?_ ?_; focus (first | (simp only [*, e]; done) | (simp only [*, e, List.map_cons, List.map_nil, eB]; done))) | exact rfl) | fail); all_goals try (conv => whnf)
        · have hy : lineP (l[((i + 1 : Nat) : Int).toNat]'h0) := by assumption
          have e1 : lineR (l[((i + 1 : Nat) : Int).toNat]'h0) = lineS (l[((i + 1 : Nat) : Int).toNat]'h0) := if_pos hy
          have e0 : accW (l.take (i + 1 + 1)) = accF (accW (l.take (i + 1))) (lineR (l[((i + 1 : Nat) : Int).toNat]'h0)) := accW_succ (i := i + 1) h0
          refine Or2.r (CallS.mk (c := ln1_c) ((accW (l.take (i + 1)))) ?_)
          repeat' (first | (with_reducible first | refine Unf.h ?_ | refine loopK_n ?_) | ((conv => whnf); first | refine Fork.mk (fun h => ?_) (fun h => ?_) | (refine Side.mk ?_ ?_; focus (first | with_reducible rfl | exact True.intro | (intros; (try simp only [lenS, inR, cutS, loI, hiI] at *); omega))) | refine Got.mk (fun _ _ => ?_)) | fail); all_goals try (conv => whnf)
          · have e : accW (l.take (i + 1)) ++ lineR (l[((i + 1 : Nat) : Int).toNat]'h0) = accW (l.take (i + 1 + 1)) := by rw [e0, accF, if_pos (by omega)]
            have hpw : ws1_c.pre (accW (l.take (i + 1)), lineR (l[((i + 1 : Nat) : Int).toNat]'h0)) := show _ + _ ≤ _ by rw [e1]; omega
            clear e0 e1
            refine Or2.r (CallS.mk (c := ws1_c) ((accW (l.take (i + 1)), lineR (l[((i + 1 : Nat) : Int).toNat]'h0))) ?_)
            repeat' (first | (with_reducible first | refine Unf.h ?_ | refine loopK_n ?_) | ((conv => whnf); first | (refine Side.mk ?_ ?_; focus (first | with_reducible rfl | assumption | (intros; (try simp only [lenS, inR, cutS, loI, hiI] at *); omega))) | refine Got.mk (fun _ _ => ?_)) | fail); all_goals try (conv => whnf)
            refine ⟨i + 2, ⟨by omega, by omega, allP_succ (i := i + 1) h0 hm hy⟩, ?_⟩
            repeat' (first | (with_reducible refine Unf.h ?_) | ((conv => whnf); first | (refine Side.mk ?_ ?_; focus (first | with_reducible rfl | (refine congrArg (SV.int _) ?_; omega) | (simp only [*, e]; done))) | (with_reducible refine Unf.h ?_) | exact True.intro) | fail); all_goals try (conv => whnf)
          · have e : accW (l.take (i + 1)) = accW (l.take (i + 1 + 1)) := by rw [e0, accF, if_neg (by omega)]
            clear e0 e1
            refine ⟨i + 2, ⟨by omega, by omega, allP_succ (i := i + 1) h0 hm hy⟩, ?_⟩
            repeat' (first | (with_reducible refine Unf.h ?_) | ((conv => whnf); first | (refine Side.mk ?_ ?_; focus (first | with_reducible rfl | (refine congrArg (SV.int _) ?_; omega) | (simp only [*, e]; done))) | (with_reducible refine Unf.h ?_) | exact True.intro) | fail); all_goals try (conv => whnf)
      · have ht : l.take (i + 1) = l := List.take_of_length_le (by omega)
        rw [ht] at hm
        have e := writeR_long hm (.inl (by omega))
        repeat' (first | (with_reducible refine Unf.h ?_) | ((conv => whnf); first | (refine Side.mk ?_ ?_; focus (first | (simp only [*, e]; done) | (simp only [*, e, List.map_cons, List.map_nil, eB]; done))) | exact rfl) | fail); all_goals try (conv => whnf)
      · have ht : l.take (i + 1) = l := List.take_of_length_le (by omega)
        rw [ht] at hm hal han
        refine Or2.r (CallS.mk (c := ln1_c) ((accW (l.take (i + 1)))) ?_)
        repeat' (first | (with_reducible refine Unf.h ?_) | ((conv => whnf); first | refine Fork.mk (fun h => ?_) (fun h => ?_) | (refine Side.mk ?_ ?_; focus (first | with_reducible rfl | exact True.intro)) | refine RetE.mk () trivial ?_ | refine Got.mk (fun _ _ => ?_) | refine retK_r ?_) | fail); all_goals try (conv => whnf)
        · rw [ht] at h
          have e := writeR_long hm (.inr (by omega))
          repeat' (first | (with_reducible refine Unf.h ?_) | ((conv => whnf); first | (refine Side.mk ?_ ?_; focus (first | (simp only [*, e]; done) | (simp only [*, e, List.map_cons, List.map_nil, eB]; done))) | exact rfl) | fail); all_goals try (conv => whnf)
        · rw [ht] at h
          have e := writeR_ok hm (fun h => by omega)
          have hps : st1_c.pre (accW l) := fun e => by rw [e] at han; simp at han
          refine Or2.r (CallS.mk (c := st1_c) ((accW (l.take (i + 1)))) ?_)
          repeat' (first | (with_reducible refine Unf.h ?_) | ((conv => whnf); first | (refine Side.mk ?_ ?_; focus (first | with_reducible rfl | (intros; (try simp only [lenS, inR, cutS, loI, hiI, ht, e] at *); omega) | (simp only [*, ht, e]; done))) | refine RetE.mk () trivial ?_ | refine Got.mk (fun _ _ => ?_) | refine retK_r ?_ | exact rfl) | fail); all_goals try (conv => whnf)
end Go.Proofs.YtkcicejnkdobpaaDoor

namespace Go.Proofs.YtkcicejnkdobpaaDoor
set_option linter.all false
open Go.RowKit
/-! the document's script: decimal, hex, list -/
def decN_c : Ctr where
  D := Nat
  pre := fun m => m ≤ 1000000
  args := fun m => [.int .i64 m]
  res := fun m _ => .str (digN m)
abbrev decI (m : Nat) (s : Nat × Nat × B8) : Prop := s.2.2.length = s.1 + 1 ∧ s.2.1 ≤ m ∧ (0 < s.2.1 → digN s.2.1 ++ s.2.2 = digN m) ∧ (s.2.1 = 0 → s.2.2 = digN m)
abbrev decC : B8 := List.map (fun x : UInt8 => x.toBitVec) (ByteArray.mk #[48, 49, 50, 51, 52, 53, 54, 55, 56, 57]).data.toList
theorem cut_one {α : Type} (l : List α) (n : Nat) (h : n < l.length) : cutL l (some (n : Int)) (some ((n : Int) + 1)) = [l[n]] := by
  have e : ((n : Int) + 1).toNat = n + 1 := by omega
  simp only [cutL, Int.toNat_natCast, e]
  rw [List.take_succ_eq_append_getElem h, List.drop_append, List.drop_eq_nil_of_le (by rw [List.length_take]; omega), List.length_take, List.nil_append, show n - min n l.length = 0 by omega]
  rfl
theorem cut_dec (m : Nat) : cutL decC (some ((m : Int) % 10)) (some ((m : Int) % 10 + 1)) = [dg m] := by
  have e : (m : Int) % 10 = ((m % 10 : Nat) : Int) := by omega
  have h : m % 10 < decC.length := show m % 10 < 10 by omega
  rw [e, cut_one decC (m % 10) h]
  have key : ∀ k (h : k < decC.length), decC[k] = BitVec.ofNat 8 (48 + k) := by decide
  rw [key _ h]; rfl
def decN_H : Cfg := ⟨[], [], [], [], 38, 0, [], [], []⟩
theorem decN_ok : decN_c.Ok Tryd.prog 31 := by
  refine fn_ok decN_H 0 rfl _ Tryd.func31 rfl rfl trivial rfl rfl (by kernel_rfl) (fun _ => Nat.le_of_ble_eq_true rfl) ?_
  intro (m : Nat) hp hr
  try dsimp only [decN_c] at hp
  try simp only [decN_c, Rng, RngL, inR, and_true, true_and] at hr
  have hml : (digN m).length ≤ 7 := digN_len 6 m (by omega)
  repeat' (first | (with_reducible refine Unf.h ?_) | ((conv => whnf); first | refine Fork.mk (fun h => ?_) (fun h => ?_) | (refine Side.mk ?_ ?_; focus (first | omega | (intros; (try simp only [lenS, inR, cutS, loI, hiI] at *); omega)))) | fail); all_goals try (conv => whnf)
  · exfalso; omega
  refine LoopS.autoN (I := Nat × Nat × B8) (decI m) (fun s => [(0, .int .i64 s.2.1), (4, .int .i64 s.1), (3, .str s.2.2)]) (fun _ => []) 0 (fun s => 10 - s.1) (0, m / 10, [dg m]) ?_ ?_ ?_
  · refine ⟨rfl, by show m / 10 ≤ m; omega, fun h => ?_, fun h => ?_⟩
    · have h' : 0 < m / 10 := h
      rw [digN_ge (n := m) (by omega)]
    · have h' : m / 10 = 0 := h
      rw [digN_lt (n := m) (by omega)]
  · have e1 := cut_dec m
    have e2 : (m : Int) / 10 = ((m / 10 : Nat) : Int) := by omega
    repeat' (first | (with_reducible refine Unf.h ?_) | ((conv => whnf); first | (refine Side.mk ?_ ?_; focus (first | with_reducible rfl | (refine congrArg (SV.int _) ?_; omega) | (simp only [*, e1, e2]; done))) | (with_reducible refine Unf.h ?_) | exact True.intro) | fail); all_goals try (conv => whnf)
  · rintro ⟨k, n, s⟩ ⟨h1, h2, h3, h4⟩
    dsimp only at h1 h2 h3 h4 ⊢
    have e1 := cut_dec n
    have e2 : (n : Int) / 10 = ((n / 10 : Nat) : Int) := by omega
    repeat' (first | (with_reducible refine Unf.h ?_) | ((conv => whnf); first | refine Fork.mk (fun h => ?_) (fun h => ?_) | (refine Side.mk ?_ ?_; focus (first | omega | (intros; (try simp only [lenS, inR, cutS, loI, hiI] at *); omega))) | refine RetE.mk () trivial ?_ | refine retK_r ?_) | fail); all_goals try (conv => whnf)
    · rename_i c1 c2
      have hn : 0 < n := by omega
      have h5 := h3 hn
      have h6 : (digN n).length + s.length ≤ 7 := by rw [← List.length_append, h5]; exact hml
      have h7 : 0 < (digN n).length := by
        by_cases h10 : n < 10
        · rw [digN_lt h10]; simp
        · rw [digN_ge h10]; simp
      refine Side.mk (by rw [e1, List.length_singleton]; omega) ?_
      repeat' (first | (with_reducible first | refine Unf.h ?_ | refine loopK_n ?_) | ((conv => whnf); (refine Side.mk ?_ ?_; focus (first | omega | (intros; (try simp only [lenS, inR, cutS, loI, hiI] at *); omega)))) | fail); all_goals try (conv => whnf)
      refine ⟨(k + 1, n / 10, [dg n] ++ s), ⟨by dsimp only; omega, by dsimp only; rw [List.length_append, List.length_singleton]; omega, by dsimp only; omega, fun h => ?_, fun h => ?_⟩, ?_⟩
      · have h' : 0 < n / 10 := h
        rw [← h5, digN_ge (n := n) (by omega), List.append_assoc]
      · have h' : n / 10 = 0 := h
        rw [← h5, digN_lt (n := n) (by omega)]
      repeat' (first | (with_reducible refine Unf.h ?_) | ((conv => whnf); first | (refine Side.mk ?_ ?_; focus (first | with_reducible rfl | (refine congrArg (SV.int _) ?_; omega) | (simp only [*, e1, e2]; done))) | (with_reducible refine Unf.h ?_) | exact True.intro) | fail); all_goals try (conv => whnf)
    · have e : s = digN m := h4 (by omega)
      refine Side.mk (by rw [e]; rfl) ?_
      repeat' (first | (with_reducible refine Unf.h ?_) | ((conv => whnf); exact rfl) | fail); all_goals try (conv => whnf)
    · have hn : n = 0 := by
        rcases Nat.eq_zero_or_pos n with h | h
        · exact h
        · have h5 := h3 h
          have h6 : (digN n).length + s.length ≤ 7 := by rw [← List.length_append, h5]; exact hml
          omega
      have e : s = digN m := h4 hn
      refine Side.mk (by rw [e]; rfl) ?_
      repeat' (first | (with_reducible refine Unf.h ?_) | ((conv => whnf); exact rfl) | fail); all_goals try (conv => whnf)
def decM_c : Ctr where
  D := Nat
  pre := fun m => 0 < m ∧ m ≤ 1000000
  args := fun m => [.int .i64 (-(m : Int))]
  res := fun m _ => .str (45#8 :: digN m)
def decM_H : Cfg := ⟨[(31, decN_c)], [], [], [], 38, 0, [], [], []⟩
theorem decM_ok : decM_c.Ok Tryd.prog 31 := by
  refine fn_ok decM_H 0 rfl _ Tryd.func31 rfl rfl ⟨decN_ok, trivial⟩ rfl rfl (by kernel_rfl) (fun _ => Nat.le_of_ble_eq_true rfl) ?_
  intro (m : Nat) hp hr
  try dsimp only [decM_c] at hp
  try simp only [decM_c, Rng, RngL, inR, and_true, true_and] at hr
  obtain ⟨hp1, hp2⟩ := hp
  have e1 : -(-(m : Int)) = (m : Int) := Int.neg_neg _
  have hl := digN_len 6 m (by omega)
  have hpc : decN_c.pre m := hp2
  repeat' (first | (with_reducible refine Unf.h ?_) | ((conv => whnf); first | refine Fork.mk (fun h => ?_) (fun h => ?_) | (refine Side.mk ?_ ?_; focus (first | omega | (intros; (try simp only [lenS, inR, cutS, loI, hiI] at *); omega)))) | fail); all_goals try (conv => whnf)
  · refine CallS.mk (c := decN_c) m ?_
    repeat' (first | (with_reducible refine Unf.h ?_) | ((conv => whnf); first | (refine Side.mk ?_ ?_; focus (first | assumption | (refine congrArg (SV.int _) ?_; omega) | (intros; (try simp only [lenS, inR, cutS, loI, hiI, e1] at *); omega) | (dsimp only [resS, decM_c]; (simp [*, e1]; done)))) | refine RetE.mk () trivial ?_ | refine Got.mk (fun _ _ => ?_) | refine retK_r ?_ | exact rfl) | fail); all_goals try (conv => whnf)
  all_goals (exfalso; omega)
def dec_c : Ctr where
  D := Int
  pre := fun n => mayN n
  args := fun n => [.int .i64 n]
  res := fun n _ => .str (decS n)
theorem dec_ok : dec_c.Ok Tryd.prog 31 := by
  intro (n : Int) (hp : mayN n) A0 w σ vs hA hobs hargs hdom hgl
  by_cases hn : n < 0
  · obtain ⟨m, rfl⟩ : ∃ m : Nat, n = -(m : Int) := ⟨(-n).toNat, by omega⟩
    have e : decS (-(m : Int)) = 45#8 :: digN m := by
      unfold decS; rw [if_pos hn, Int.neg_neg]; rfl
    refine (decM_ok m ⟨by omega, by omega⟩ A0 w σ vs hA hobs hargs hdom hgl).mono ?_
    rintro e' w' ⟨e'', v, σ', h1, h2, h3, h4, h5, h6⟩
    refine ⟨(), _, σ', h1, trivial, h3, h4, ?_, h6⟩
    show (SV.str (decS (-(m : Int)))).hv _ _ _ _
    rw [e]; exact h5
  · obtain ⟨m, rfl⟩ := Int.eq_ofNat_of_zero_le (show 0 ≤ n by omega)
    have e : decS (m : Int) = digN m := by
      unfold decS; rw [if_neg hn]; rfl
    refine (decN_ok m (show m ≤ 1000000 by omega) A0 w σ vs hA hobs hargs hdom hgl).mono ?_
    rintro e' w' ⟨e'', v, σ', h1, h2, h3, h4, h5, h6⟩
    refine ⟨(), _, σ', h1, trivial, h3, h4, ?_, h6⟩
    show (SV.str (decS (m : Int))).hv _ _ _ _
    rw [e]; exact h5
def hex_c : Ctr where
  D := B8
  pre := fun l => l.length ≤ 1000000
  args := fun l => [.fs 1 eB l]
  res := fun l _ => .str (bytesS l)
theorem cut_hex (n : Nat) (h : n < 16) : cutL hexC (some (n : Int)) (some ((n : Int) + 1)) = [hx n] := by
  rw [cut_one hexC n (by rw [hexC_len]; exact h), hexC_get _ rfl]
def hex_H : Cfg := ⟨[], [(5, [3, 9], [], (.one 0 0 false (.one 1 0 false (.one 2 0 false (.one 3 1 false (.one 4 0 false (.one 5 0 false (.one 6 0 false (.one 7 0 false (.one 8 0 false (.one 9 1 false (.one 10 0 false (.one 11 0 false (.one 12 0 false (.one 13 0 false .nil)))))))))))))), []), (6, [], [], (.one 0 0 false (.one 1 0 false (.one 2 0 false (.one 3 0 false (.one 4 0 false (.one 5 0 false (.one 6 0 false (.one 7 0 false (.one 8 0 false (.one 9 0 false (.one 10 0 false (.one 11 0 false .nil)))))))))))), [])], [], [], 39, 0, [], [], []⟩
theorem hex_ok : hex_c.Ok Tryd.prog 33 := by
  refine fn_ok hex_H 0 rfl _ Tryd.func33 rfl rfl trivial rfl rfl (by kernel_rfl) (fun _ => Nat.le_of_ble_eq_true rfl) ?_
  intro (l : B8) hp hr
  try dsimp only [hex_c] at hp
  try simp only [hex_c, Rng, RngL, inR, and_true, true_and] at hr
  repeat' (first | (with_reducible refine Unf.h ?_) | fail); all_goals try (conv => whnf)
  have e0 : hexs (l.take 0) = [] := rfl
  refine LoopS.autoN (I := Nat) (fun i => i ≤ l.length) (fun i => [(4, .int .i64 i), (3, .str (hexs (l.take i)))]) (fun _ => []) 0 (fun i => l.length - i) 0 (Nat.zero_le _) ?_ ?_
  · repeat' (first | (with_reducible refine Unf.h ?_) | ((conv => whnf); first | (refine Side.mk ?_ ?_; focus (first | with_reducible rfl | (refine congrArg (SV.int _) ?_; omega) | (simp only [*, e0, List.map_cons, List.map_nil, eB]; done))) | (with_reducible refine Unf.h ?_) | exact True.intro) | fail); all_goals try (conv => whnf)
  · intro i hi
    have hln : (hexs (l.take i)).length ≤ 2000000 := by rw [hexs_len, List.length_take]; omega
    repeat' (first | (with_reducible refine Unf.h ?_) | ((conv => whnf); first | refine Fork.mk (fun h => ?_) (fun h => ?_) | (refine Side.mk ?_ ?_; focus (first | (intros; (try simp only [lenS, inR, cutS, loI, hiI] at *); omega) | (simp [*]; done))) | (refine Idx.mk ?_ ?_; focus (omega)) | refine RetE.mk () trivial ?_ | refine retK_r ?_) | fail); all_goals try (conv => whnf)
    · have hil : i < l.length := by omega
      have q1 : ((l[((i : Nat) : Int).toNat]'hil) / 16#8).toNat = (l[i]'hil).toNat / 16 := by rw [BitVec.toNat_udiv]; rfl
      have q2 : ((l[((i : Nat) : Int).toNat]'hil) % 16#8).toNat = (l[i]'hil).toNat % 16 := by rw [BitVec.toNat_umod]; rfl
      have hlt : (l[i]'hil).toNat / 16 < 16 := by have := (l[i]'hil).isLt; omega
      have hlt2 : (l[i]'hil).toNat % 16 < 16 := by omega
      rw [q1]
      refine Side.mk (show 0 ≤ (((l[i]'hil).toNat / 16 : Nat) : Int) ∧ (((l[i]'hil).toNat / 16 : Nat) : Int) ≤ (((l[i]'hil).toNat / 16 : Nat) : Int) + 1 ∧ (((l[i]'hil).toNat / 16 : Nat) : Int) + 1 ≤ ((hexC.length : Nat) : Int) from ⟨by omega, by omega, by rw [hexC_len]; omega⟩) ?_
      have c1 : cutL hexC (some (((l[i]'hil).toNat / 16 : Nat) : Int)) (some ((((l[i]'hil).toNat / 16 : Nat) : Int) + 1)) = [hx ((l[i]'hil).toNat / 16)] := cut_hex _ hlt
      have c2 : cutL hexC (some (((l[i]'hil).toNat % 16 : Nat) : Int)) (some ((((l[i]'hil).toNat % 16 : Nat) : Int) + 1)) = [hx ((l[i]'hil).toNat % 16)] := cut_hex _ hlt2
      have c3 : hexs (l.take i) ++ ([hx ((l[i]'hil).toNat / 16)] ++ [hx ((l[i]'hil).toNat % 16)]) = hexs (l.take (i + 1)) := by rw [hexs_snoc l i hil, List.append_assoc]
      repeat' (first | (with_reducible refine Unf.h ?_) | ((conv => whnf); (refine Side.mk ?_ ?_; focus ((intros; (try simp only [lenS, inR, cutS, loI, hiI] at *); omega)))) | fail); all_goals try (conv => whnf)
      rw [q2]
      refine Side.mk (by show (cutL hexC _ _).length + (cutL hexC _ _).length < 9223372036854775808; rw [c1, c2]; show 1 + 1 < 9223372036854775808; omega) ?_
      repeat' (first | (with_reducible refine Unf.h ?_) | fail); all_goals try (conv => whnf)
      refine Side.mk (by show (hexs (l.take i)).length + (cutL hexC _ _ ++ cutL hexC _ _).length < 9223372036854775808; rw [c1, c2]; show _ + 2 < 9223372036854775808; omega) ?_
      repeat' (first | (with_reducible first | refine Unf.h ?_ | refine loopK_n ?_) | ((conv => whnf); (refine Side.mk ?_ ?_; focus ((intros; (try simp only [lenS, inR, cutS, loI, hiI] at *); omega)))) | fail); all_goals try (conv => whnf)
      refine ⟨i + 1, ⟨by omega, by omega⟩, ?_⟩
      have c4 : hexs (l.take i) ++ (cutL hexC (some (((l[i]'hil).toNat / 16 : Nat) : Int)) (some ((((l[i]'hil).toNat / 16 : Nat) : Int) + 1)) ++ cutL hexC (some (((l[i]'hil).toNat % 16 : Nat) : Int)) (some ((((l[i]'hil).toNat % 16 : Nat) : Int) + 1))) = hexs (l.take (i + 1)) := by rw [c1, c2, c3]
      clear c1 c2 c3 q1 q2
      repeat' (first | (with_reducible refine Unf.h ?_) | ((conv => whnf); first | (refine Side.mk ?_ ?_; focus (first | with_reducible rfl | (refine congrArg (SV.int _) ?_; omega) | (simp only [*, c4]; done))) | (with_reducible refine Unf.h ?_) | exact True.intro) | fail); all_goals try (conv => whnf)
    · have ht : l.take i = l := List.take_of_length_le (by omega)
      rw [ht] at h
      have hb : bytesS l = [45#8] := by
        by_cases hl : l = []
        · exact if_pos hl
        · exact absurd h (hexs_ne hl)
      refine Side.mk (by show SV.str [45#8] = .str (bytesS l); rw [hb]) ?_
      repeat' (first | (with_reducible refine Unf.h ?_) | ((conv => whnf); exact rfl) | fail); all_goals try (conv => whnf)
    · have ht : l.take i = l := List.take_of_length_le (by omega)
      rw [ht] at h ⊢
      have hb : bytesS l = hexs l := if_neg (fun e => by subst e; exact h rfl)
      refine Side.mk (by show SV.str (hexs l) = .str (bytesS l); rw [hb]) ?_
      repeat' (first | (with_reducible refine Unf.h ?_) | ((conv => whnf); exact rfl) | fail); all_goals try (conv => whnf)
end Go.Proofs.YtkcicejnkdobpaaDoor

namespace Go.Proofs.YtkcicejnkdobpaaDoor
set_option linter.all false
open Go.RowKit
/-! the document's script: list, Numbers, Bytes, may, Name -/
def numF (o : Op) (f : BitVec 8) : Int := if f = 110#8 then o.n else if f = 109#8 then o.m else o.k
def bytF (o : Op) (f : BitVec 8) : B8 := if f = 108#8 then o.label else o.value
def numsO (o : Op) : List Int := ((formOf o.kind).2.filter fun f => f == 110#8 || f == 109#8 || f == 107#8).map (numF o)
def bytsO (o : Op) : List B8 := ((formOf o.kind).2.filter fun f => f == 108#8 || f == 118#8).map (bytF o)
abbrev eBs (l : B8) : List SV := [.fs 1 eB l]
def may_c : Ctr where
  D := Int
  args := fun n => [.int .i64 n]
  res := fun n _ => .dec (mayN n) inferInstance
def may_H : Cfg := ⟨[], [], [], [], 9, 0, [], [], []⟩
theorem may_ok : may_c.Ok Tryd.prog 29 := by
  refine fn_ok may_H 0 rfl _ Tryd.func29 rfl rfl trivial rfl rfl (by kernel_rfl) (fun _ => Nat.le_of_ble_eq_true rfl) ?_
  intro (n : Int) hp hr
  try dsimp only [may_c] at hp
  try simp only [may_c, Rng, RngL, inR, and_true, true_and] at hr
  repeat' (first | (with_reducible refine Unf.h ?_) | ((conv => whnf); first | refine Fork.mk (fun h => ?_) (fun h => ?_) | (refine Side.mk ?_ ?_; focus (first | omega | (refine ⟨fun h => ?_, fun h => ?_⟩ <;> first | rfl | (cases h; done) | omega | (exfalso; omega) | (simp only [Bool.false_eq_true] at h; done)))) | refine RetE.mk () trivial ?_ | refine retK_r ?_ | exact rfl) | fail); all_goals try (conv => whnf)
def nums_c : Ctr where
  D := Op
  pre := fun o => 1 ≤ o.kind ∧ o.kind < 16
  args := fun o => [.agg (eOp o)]
  res := fun o _ => .fs 1 eI (numsO o)
def nums_H : Cfg := ⟨[], [], [], [], 46, 0, [], [], []⟩
theorem nums_ok : nums_c.Ok Tryd.prog 28 := by
  refine fn_ok nums_H 0 rfl _ Tryd.func28 rfl rfl trivial rfl rfl (by kernel_rfl) (fun _ => Nat.le_of_ble_eq_true rfl) ?_
  intro (o : Op) hp hr
  try dsimp only [nums_c] at hp
  try simp only [nums_c, Rng, RngL, inR, and_true, true_and] at hr
  clear hr
  obtain ⟨hp1, hp2⟩ := hp
  repeat' (first | (with_reducible refine Unf.h ?_) | ((conv => whnf); first | refine Fork.mk (fun h => ?_) (fun h => ?_) | (refine Side.mk ?_ ?_; focus (omega)) | refine RetE.mk () trivial ?_ | refine retK_r ?_ | exact rfl) | fail); all_goals try (conv => whnf)
  all_goals try (refine Side.mk (by unfold numsO; rw [h]; rfl) ?_)
  all_goals try (repeat' (first | ((conv => whnf); first | (with_reducible refine Unf.h ?_) | exact rfl) | fail); all_goals try (conv => whnf))
  all_goals (
    have h1 : numsO o = [] := by
      have : o.kind = 1 ∨ o.kind = 6 := by omega
      rcases this with h | h <;> (unfold numsO; rw [h]; rfl)
    repeat' (first | (with_reducible refine Unf.h ?_) | ((conv => whnf); first | (refine Side.mk ?_ ?_; focus (assumption)) | exact rfl) | fail); all_goals try (conv => whnf))
def byts_c : Ctr where
  D := Op
  pre := fun o => 1 ≤ o.kind ∧ o.kind < 16
  args := fun o => [.agg (eOp o)]
  res := fun o _ => .fs 1 eBs (bytsO o)
def byts_H : Cfg := ⟨[], [], [], [], 23, 0, [], [], []⟩
theorem byts_ok : byts_c.Ok Tryd.prog 32 := by
  refine fn_ok byts_H 0 rfl _ Tryd.func32 rfl rfl trivial rfl rfl (by kernel_rfl) (fun _ => Nat.le_of_ble_eq_true rfl) ?_
  intro (o : Op) hp hr
  try dsimp only [byts_c] at hp
  try simp only [byts_c, Rng, RngL, inR, and_true, true_and] at hr
  clear hr
  obtain ⟨hp1, hp2⟩ := hp
  repeat' (first | (with_reducible refine Unf.h ?_) | ((conv => whnf); first | refine Fork.mk (fun h => ?_) (fun h => ?_) | (refine Side.mk ?_ ?_; focus (omega)) | refine RetE.mk () trivial ?_ | refine retK_r ?_ | exact rfl) | fail); all_goals try (conv => whnf)
  all_goals try (refine Side.mk (by unfold bytsO; rw [h]; rfl) ?_)
  all_goals try (repeat' (first | ((conv => whnf); first | (with_reducible refine Unf.h ?_) | exact rfl) | fail); all_goals try (conv => whnf))
  all_goals (
    have h1 : bytsO o = [] := by
      have : o.kind = 1 ∨ o.kind = 2 ∨ o.kind = 4 ∨ o.kind = 6 ∨ o.kind = 7 ∨ o.kind = 8 ∨ o.kind = 9 ∨ o.kind = 10 ∨ o.kind = 13 ∨ o.kind = 14 ∨ o.kind = 15 := by omega
      rcases this with h | h | h | h | h | h | h | h | h | h | h <;> (unfold bytsO; rw [h]; rfl)
    repeat' (first | (with_reducible refine Unf.h ?_) | ((conv => whnf); first | (refine Side.mk ?_ ?_; focus (assumption)) | exact rfl) | fail); all_goals try (conv => whnf))
def name_c : Ctr where
  D := Int
  pre := fun k => 1 ≤ k ∧ k < 16
  args := fun k => [.int .i64 k]
  res := fun k _ => .str (formOf k).1
def name_H : Cfg := ⟨[], [], [], [], 6, 0, [], [], []⟩
theorem name_ok : name_c.Ok Tryd.prog 30 := by
  refine fn_ok name_H 0 rfl _ Tryd.func30 rfl rfl trivial rfl rfl (by kernel_rfl) (fun _ => Nat.le_of_ble_eq_true rfl) ?_
  intro (k : Int) hp hr
  try dsimp only [name_c] at hp
  try simp only [name_c, Rng, RngL, inR, and_true, true_and] at hr
  obtain ⟨h1, h2⟩ := hp
  have hk : k = 1 ∨ k = 2 ∨ k = 3 ∨ k = 4 ∨ k = 5 ∨ k = 6 ∨ k = 7 ∨ k = 8 ∨ k = 9 ∨ k = 10 ∨ k = 11 ∨ k = 12 ∨ k = 13 ∨ k = 14 ∨ k = 15 := by omega
  rcases hk with rfl | rfl | rfl | rfl | rfl | rfl | rfl | rfl | rfl | rfl | rfl | rfl | rfl | rfl | rfl
  all_goals (repeat' (first | (with_reducible refine Unf.h ?_) | ((conv => whnf); first | refine RetE.mk () trivial ?_ | refine retK_r ?_) | fail); all_goals try (conv => whnf))
  all_goals (refine Side.mk rfl ?_)
  all_goals (repeat' (first | (with_reducible refine Unf.h ?_) | ((conv => whnf); exact rfl) | fail); all_goals try (conv => whnf))
end Go.Proofs.YtkcicejnkdobpaaDoor

namespace Go.Proofs.YtkcicejnkdobpaaDoor
set_option linter.all false
open Go.RowKit
/-! the document's script: list, Good, Line -/
/-- a constant string, as the engine has it -/
abbrev cS (x : Array UInt8) : B8 := List.map (fun x : UInt8 => x.toBitVec) (ByteArray.mk x).data.toList
theorem joinS_snoc {sep y : B8} {xs : List B8} (h : xs ≠ []) : joinS sep (xs ++ [y]) = joinS sep xs ++ sep ++ y := by
  cases xs with
  | nil => exact absurd rfl h
  | cons x r => simp [joinS]
theorem digN_ne (n : Nat) : 0 < (digN n).length := by
  by_cases h10 : n < 10
  · rw [digN_lt h10]; simp
  · rw [digN_ge h10]; simp
theorem decS_ne (n : Int) : 0 < (decS n).length := by
  unfold decS; split
  · simp
  · exact digN_ne _
theorem joinS_ne {sep : B8} {xs : List B8} (h : xs ≠ []) (hx : ∀ x ∈ xs, 0 < x.length) : 0 < (joinS sep xs).length := by
  cases xs with
  | nil => exact absurd rfl h
  | cons x r =>
    have := hx x (List.mem_cons_self ..)
    simp only [joinS]
    rw [List.length_append]; omega
def dlist_c : Ctr where
  D := List Int
  pre := fun l => l.length ≤ 100000 ∧ mayL l
  args := fun l => [.fs 1 eI l]
  res := fun l _ => .str (listS l)
def dlist_H : Cfg := ⟨[(31, dec_c)], [], [], [], 25, 0, [], [], []⟩
theorem dlist_ok : dlist_c.Ok Tryd.prog 34 := by
  refine fn_ok dlist_H 0 rfl _ Tryd.func34 rfl rfl ⟨dec_ok, trivial⟩ rfl rfl (by kernel_rfl) (fun _ => Nat.le_of_ble_eq_true rfl) ?_
  intro (l : List Int) hp hr
  try dsimp only [dlist_c] at hp
  try simp only [dlist_c, Rng, RngL, inR, and_true, true_and] at hr
  obtain ⟨hp1, hp2⟩ := hp
  have e0 : joinS [44#8] ((l.take 0).map numR) = [] := rfl
  have hjl : ∀ i, (joinS [44#8] ((l.take i).map numR)).length ≤ 1000000 := fun i => by
    have := joinS_len (sep := [44#8]) (k := 8) (ls := (l.take i).map numR) (fun s hs => by
      obtain ⟨n, hn, rfl⟩ := List.mem_map.1 hs
      exact numR_len n)
    rw [List.length_map, List.length_take] at this
    simp only [List.length_singleton] at this
    omega
  repeat' (first | (with_reducible refine Unf.h ?_) | fail); all_goals try (conv => whnf)
  refine LoopS.autoN (I := Nat) (fun i => i ≤ l.length) (fun i => [(4, .int .i64 i), (3, .str (joinS [44#8] ((l.take i).map numR)))]) (fun _ => []) 0 (fun i => l.length - i) 0 (Nat.zero_le _) ?_ ?_
  · repeat' (first | (with_reducible refine Unf.h ?_) | ((conv => whnf); first | (refine Side.mk ?_ ?_; focus (first | with_reducible rfl | (refine congrArg (SV.int _) ?_; omega) | (simp only [*, e0, List.map_cons, List.map_nil, eB]; done))) | (with_reducible refine Unf.h ?_) | exact True.intro) | fail); all_goals try (conv => whnf)
  · intro i hi
    have hji := hjl i
    repeat' (first | (with_reducible refine Unf.h ?_) | ((conv => whnf); first | refine Fork.mk (fun h => ?_) (fun h => ?_) | (refine Side.mk ?_ ?_; focus ((intros; (try simp only [lenS, inR, cutS, loI, hiI] at *); omega))) | (refine Idx.mk ?_ ?_; focus (omega)) | refine RetE.mk () trivial ?_ | refine retK_r ?_) | fail); all_goals try (conv => whnf)
    · have hil : i < l.length := by omega
      have hm : dec_c.pre (l[((i : Nat) : Int).toNat]'hil) := hp2 _ (List.getElem_mem _)
      have hd : (decS (l[((i : Nat) : Int).toNat]'hil)).length ≤ 8 := decS_len hm
      have e : joinS [44#8] ((l.take i).map numR) ++ cS #[44] ++ decS (l[((i : Nat) : Int).toNat]'hil) = joinS [44#8] ((l.take (i + 1)).map numR) := by
        show joinS [44#8] ((l.take i).map numR) ++ [44#8] ++ decS (l[((i : Nat) : Int).toNat]'hil) = _
        rw [← mapT_succ numR hil, joinS_snoc (fun e => by have := congrArg List.length e; rw [List.length_map, List.length_take, List.length_nil] at this; omega), show numR l[i] = decS (l[((i : Nat) : Int).toNat]'hil) from if_pos hm]
      refine CallS.mk (c := dec_c) (l[((i : Nat) : Int).toNat]'hil) ?_
      repeat' (first | (with_reducible first | refine Unf.h ?_ | refine loopK_n ?_) | ((conv => whnf); first | (refine Side.mk ?_ ?_; focus (first | with_reducible rfl | assumption | (intros; (try simp only [lenS, inR, cutS, loI, hiI] at *); omega))) | refine Got.mk (fun _ _ => ?_)) | fail); all_goals try (conv => whnf)
      refine ⟨i + 1, ⟨by omega, by omega⟩, ?_⟩
      repeat' (first | (with_reducible refine Unf.h ?_) | ((conv => whnf); first | (refine Side.mk ?_ ?_; focus (first | with_reducible rfl | (refine congrArg (SV.int _) ?_; omega) | (simp only [*, e]; done))) | (with_reducible refine Unf.h ?_) | exact True.intro) | fail); all_goals try (conv => whnf)
    · have hil : i < l.length := by omega
      have hm : dec_c.pre (l[((i : Nat) : Int).toNat]'hil) := hp2 _ (List.getElem_mem _)
      have hd : (decS (l[((i : Nat) : Int).toNat]'hil)).length ≤ 8 := decS_len hm
      have e : joinS [44#8] ((l.take i).map numR) ++ decS (l[((i : Nat) : Int).toNat]'hil) = joinS [44#8] ((l.take (i + 1)).map numR) := by
        obtain rfl : i = 0 := by omega
        rw [← mapT_succ numR hil, show numR l[0] = decS (l[((0 : Nat) : Int).toNat]'hil) from if_pos hm]; simp [joinS]
      refine CallS.mk (c := dec_c) (l[((i : Nat) : Int).toNat]'hil) ?_
      repeat' (first | (with_reducible first | refine Unf.h ?_ | refine loopK_n ?_) | ((conv => whnf); first | (refine Side.mk ?_ ?_; focus (first | with_reducible rfl | assumption | omega | (intros; (try simp only [lenS, inR, cutS, loI, hiI] at *); omega))) | refine Got.mk (fun _ _ => ?_)) | fail); all_goals try (conv => whnf)
      refine ⟨i + 1, ⟨by omega, by omega⟩, ?_⟩
      repeat' (first | (with_reducible refine Unf.h ?_) | ((conv => whnf); first | (refine Side.mk ?_ ?_; focus (first | with_reducible rfl | (refine congrArg (SV.int _) ?_; omega) | (simp only [*, e]; done))) | (with_reducible refine Unf.h ?_) | exact True.intro) | fail); all_goals try (conv => whnf)
    · have ht : l.take i = l := List.take_of_length_le (by omega)
      rw [ht] at h
      have hb : listS l = [45#8] := by
        by_cases hl : l = []
        · exact if_pos hl
        · have := joinS_ne (sep := [44#8]) (xs := l.map numR) (fun e => hl (List.map_eq_nil_iff.1 e)) (fun x hx => by
            obtain ⟨n, hn, rfl⟩ := List.mem_map.1 hx
            rw [show numR n = decS n from if_pos (hp2 n hn)]; exact decS_ne n)
          rw [h] at this; exact absurd this (by decide)
      refine Side.mk (by show SV.str [45#8] = .str (listS l); rw [hb]) ?_
      repeat' (first | (with_reducible refine Unf.h ?_) | ((conv => whnf); exact rfl) | fail); all_goals try (conv => whnf)
    · have ht : l.take i = l := List.take_of_length_le (by omega)
      rw [ht] at h ⊢
      have hb : listS l = joinS [44#8] (l.map numR) := if_neg (fun e => by subst e; exact h rfl)
      refine Side.mk (by show SV.str (joinS [44#8] (l.map numR)) = .str (listS l); rw [hb]) ?_
      repeat' (first | (with_reducible refine Unf.h ?_) | ((conv => whnf); exact rfl) | fail); all_goals try (conv => whnf)
end Go.Proofs.YtkcicejnkdobpaaDoor

namespace Go.Proofs.YtkcicejnkdobpaaDoor
set_option linter.all false
open Go.RowKit
/-! the document's script: Good, Line -/
theorem kinds15 {k : Int} (h : 1 ≤ k ∧ k < 16) : k = 1 ∨ k = 2 ∨ k = 3 ∨ k = 4 ∨ k = 5 ∨ k = 6 ∨ k = 7 ∨ k = 8 ∨ k = 9 ∨ k = 10 ∨ k = 11 ∨ k = 12 ∨ k = 13 ∨ k = 14 ∨ k = 15 := by omega
theorem lineP_iff {o : Op} (hk : 1 ≤ o.kind ∧ o.kind < 16) : lineP o ↔ mayL (numsO o) ∧ (o.kind = 14 → mayL o.list) := by
  unfold lineP numsO
  rcases kinds15 hk with h | h | h | h | h | h | h | h | h | h | h | h | h | h | h <;> rw [h] <;> simp [formOf, gv0, wordP, numF, mayL, List.getD, and_assoc]
theorem flatT_succ {α β : Type} (f : α → List β) {l : List α} {i : Nat} (h : i < l.length) : (l.take i).flatMap f ++ f l[i] = (l.take (i + 1)).flatMap f := by
  rw [List.take_succ_eq_append_getElem h, List.flatMap_append]; simp
abbrev sp (x : B8) : B8 := cS #[32] ++ x
def lineD (o : Op) : B8 := (formOf o.kind).1 ++ (numsO o).flatMap (fun n => sp (decS n)) ++ (bytsO o).flatMap (fun l => sp (bytesS l)) ++ (if o.kind = 14 then sp (listS o.list) else []) ++ cS #[10]
theorem lineD_eq {o : Op} (h : lineP o) : lineD o = lineS o := by
  have hk := h.1
  have hw := h.2
  unfold lineD lineS numsO bytsO
  rcases kinds15 hk with h | h | h | h | h | h | h | h | h | h | h | h | h | h | h <;> rw [h] at hw ⊢ <;> simp [formOf, gv0, wordP, numF, bytF, wordR, List.getD, joinS, numR, listR] at hw ⊢
  all_goals try (repeat rw [if_pos (by first | exact hw | exact hw.1 | exact hw.2 | exact hw.2.1 | exact hw.2.2)])
  all_goals try rfl
theorem mayL_take {l : List Int} {i : Nat} (h : i < l.length) (h1 : mayL (l.take i)) (h2 : mayN l[i]) : mayL (l.take (i + 1)) := mayL_succ h h1 h2
theorem numsO_len (o : Op) : (numsO o).length ≤ 4 := by
  unfold numsO; rw [List.length_map]
  exact Nat.le_trans (List.length_filter_le _ _) (form_len o.kind).2
theorem bytsO_len (o : Op) : (bytsO o).length ≤ 4 := by
  unfold bytsO; rw [List.length_map]
  exact Nat.le_trans (List.length_filter_le _ _) (form_len o.kind).2
theorem bytsO_mem {o : Op} (h : OpZ o) : ∀ l ∈ bytsO o, l.length ≤ 30000 := by
  intro l hl
  obtain ⟨f, _, rfl⟩ := List.mem_map.1 hl
  unfold bytF; split
  · have := h.a; omega
  · exact h.b
def good_c : Ctr where
  D := Op
  pre := OpZ
  args := fun o => [.agg (eOp o)]
  res := fun o _ => .dec (lineP o) inferInstance
def good_H : Cfg := ⟨[(28, nums_c), (29, may_c)], [], [], [], 47, 0, [], [], []⟩
theorem good_ok : good_c.Ok Tryd.prog 18 := by
  refine fn_ok good_H 0 rfl _ Tryd.func18 rfl rfl ⟨nums_ok, may_ok, trivial⟩ rfl rfl (by kernel_rfl) (fun _ => Nat.le_of_ble_eq_true rfl) ?_
  intro (o : Op) hp hr
  try dsimp only [good_c] at hp
  try simp only [good_c, Rng, RngL, inR, and_true, true_and] at hr
  have hp' := hp
  obtain ⟨ha, hb, hc⟩ := hp
  clear hr
  repeat' (first | (with_reducible refine Unf.h ?_) | ((conv => whnf); first | refine Fork.mk (fun h => ?_) (fun h => ?_) | refine RetE.mk () trivial ?_ | refine retK_r ?_) | fail); all_goals try (conv => whnf)
  · have h1 : ¬ lineP o := fun hl => by have := hl.1.1; omega
    refine Side.mk ⟨fun h => absurd h (by decide), fun h => absurd h h1⟩ ?_
    repeat' (first | (with_reducible refine Unf.h ?_) | ((conv => whnf); exact rfl) | fail); all_goals try (conv => whnf)
  · have h1 : ¬ lineP o := fun hl => by have := hl.1.2; omega
    refine Side.mk ⟨fun h => absurd h (by decide), fun h => absurd h h1⟩ ?_
    repeat' (first | (with_reducible refine Unf.h ?_) | ((conv => whnf); exact rfl) | fail); all_goals try (conv => whnf)
  · have hk : 1 ≤ o.kind ∧ o.kind < 16 := by omega
    have hn : nums_c.pre o := hk
    have hln := numsO_len o
    have hiff := lineP_iff hk
    refine CallS.mk (c := nums_c) o ?_
    repeat' (first | (with_reducible refine Unf.h ?_) | ((conv => whnf); first | (refine Side.mk ?_ ?_; focus (first | with_reducible rfl | assumption)) | refine Got.mk (fun _ _ => ?_)) | fail); all_goals try (conv => whnf)
    refine LoopS.autoN (I := Nat) (fun i => i ≤ (numsO o).length ∧ mayL ((numsO o).take i)) (fun i => [(4, .int .i64 i)]) (fun _ => [(0, .box 39 (eOp o))]) 1 (fun i => (numsO o).length - i) 0 ⟨Nat.zero_le _, mayL_nil⟩ ?_ ?_
    · repeat' (first | (with_reducible refine Unf.h ?_) | ((conv => whnf); first | (refine Side.mk ?_ ?_; focus (first | with_reducible rfl | (refine congrArg (SV.int _) ?_; omega))) | (with_reducible refine Unf.h ?_) | exact True.intro) | fail); all_goals try (conv => whnf)
    · rintro i ⟨hi, hm⟩
      repeat' (first | (with_reducible refine Unf.h ?_) | ((conv => whnf); first | refine Fork.mk (fun h => ?_) (fun h => ?_) | (refine Idx.mk ?_ ?_; focus (omega))) | fail); all_goals try (conv => whnf)
      · have hil : i < (numsO o).length := by omega
        refine CallS.mk (c := may_c) ((numsO o)[((i : Nat) : Int).toNat]'hil) ?_
        repeat' (first | (with_reducible first | refine Unf.h ?_ | refine loopK_n ?_) | ((conv => whnf); first | refine Fork.mkn (fun h => ?_) (fun h => ?_) | (refine Side.mk ?_ ?_; focus (first | with_reducible rfl | exact True.intro | (intros; (try simp only [lenS, inR, cutS, loI, hiI] at *); omega))) | refine RetE.mk () trivial ?_ | refine Got.mk (fun _ _ => ?_) | refine retK_r ?_) | fail); all_goals try (conv => whnf)
        · have h1 : ¬ lineP o := fun hl => mayL_not hil h (hiff.1 hl).1
          refine Side.mk ⟨fun h => absurd h (by decide), fun h => absurd h h1⟩ ?_
          repeat' (first | (with_reducible refine Unf.h ?_) | ((conv => whnf); exact rfl) | fail); all_goals try (conv => whnf)
        · refine ⟨i + 1, ⟨by omega, by omega, mayL_succ hil hm h⟩, ?_⟩
          repeat' (first | (with_reducible refine Unf.h ?_) | ((conv => whnf); first | (refine Side.mk ?_ ?_; focus (first | with_reducible rfl | (refine congrArg (SV.int _) ?_; omega))) | (with_reducible refine Unf.h ?_) | exact True.intro) | fail); all_goals try (conv => whnf)
      · have ht : (numsO o).take i = numsO o := List.take_of_length_le (by omega)
        rw [ht] at hm
        refine LoopS.autoN (I := Nat) (fun j => j ≤ o.list.length ∧ (o.kind = 14 → mayL (o.list.take j))) (fun j => [(5, .int .i64 j)]) (fun _ => [(0, .box 39 (eOp o))]) 1 (fun j => o.list.length - j) 0 ⟨Nat.zero_le _, fun _ => mayL_nil⟩ ?_ ?_
        · repeat' (first | (with_reducible refine Unf.h ?_) | ((conv => whnf); first | (refine Side.mk ?_ ?_; focus (first | with_reducible rfl | (refine congrArg (SV.int _) ?_; omega))) | (with_reducible refine Unf.h ?_) | exact True.intro) | fail); all_goals try (conv => whnf)
        · rintro j ⟨hj, hmj⟩
          repeat' (first | (with_reducible refine Unf.h ?_) | ((conv => whnf); first | refine Fork.mk (fun h => ?_) (fun h => ?_) | (refine Idx.mk ?_ ?_; focus (omega)) | refine RetE.mk () trivial ?_ | refine retK_r ?_) | fail); all_goals try (conv => whnf)
          · have h14 : o.kind = 14 := by assumption
            have hjl : j < o.list.length := by omega
            refine CallS.mk (c := may_c) (o.list[((j : Nat) : Int).toNat]'hjl) ?_
            repeat' (first | (with_reducible first | refine Unf.h ?_ | refine loopK_n ?_) | ((conv => whnf); first | refine Fork.mkn (fun h => ?_) (fun h => ?_) | (refine Side.mk ?_ ?_; focus (first | with_reducible rfl | exact True.intro | (intros; (try simp only [lenS, inR, cutS, loI, hiI] at *); omega))) | refine RetE.mk () trivial ?_ | refine Got.mk (fun _ _ => ?_) | refine retK_r ?_) | fail); all_goals try (conv => whnf)
            · have h1 : ¬ lineP o := fun hl => mayL_not hjl h ((hiff.1 hl).2 h14)
              refine Side.mk ⟨fun h => absurd h (by decide), fun h => absurd h h1⟩ ?_
              repeat' (first | (with_reducible refine Unf.h ?_) | ((conv => whnf); exact rfl) | fail); all_goals try (conv => whnf)
            · refine ⟨j + 1, ⟨by omega, by omega, fun h14 => mayL_succ hjl (hmj h14) h⟩, ?_⟩
              repeat' (first | (with_reducible refine Unf.h ?_) | ((conv => whnf); first | (refine Side.mk ?_ ?_; focus (first | with_reducible rfl | (refine congrArg (SV.int _) ?_; omega))) | (with_reducible refine Unf.h ?_) | exact True.intro) | fail); all_goals try (conv => whnf)
          · have h1 : lineP o := hiff.2 ⟨hm, fun h14 => by have := hmj h14; rw [List.take_of_length_le (by omega)] at this; exact this⟩
            refine Side.mk ⟨fun _ => h1, fun _ => rfl⟩ ?_
            repeat' (first | (with_reducible refine Unf.h ?_) | ((conv => whnf); exact rfl) | fail); all_goals try (conv => whnf)
          · have h1 : lineP o := hiff.2 ⟨hm, fun h14 => absurd h14 (by assumption)⟩
            refine Side.mk ⟨fun _ => h1, fun _ => rfl⟩ ?_
            repeat' (first | (with_reducible refine Unf.h ?_) | ((conv => whnf); exact rfl) | fail); all_goals try (conv => whnf)
end Go.Proofs.YtkcicejnkdobpaaDoor

namespace Go.Proofs.YtkcicejnkdobpaaDoor
set_option linter.all false
open Go.RowKit
/-! the document's Line, Write -/
theorem flatT_len {α β : Type} (f : α → List β) (l : List α) (i : Nat) : ((l.take i).flatMap f).length ≤ (l.flatMap f).length := by
  conv => rhs; rw [← List.take_append_drop i l, List.flatMap_append, List.length_append]
  omega
def dline_c : Ctr where
  D := Op
  pre := fun o => OpZ o ∧ lineP o
  args := fun o => [.agg (eOp o)]
  res := fun o _ => .str (lineS o)
def dline_H : Cfg := ⟨[(30, name_c), (28, nums_c), (32, byts_c), (31, dec_c), (33, hex_c), (34, dlist_c)], [], [], [], 54, 0, [], [], []⟩
theorem dline_ok : dline_c.Ok Tryd.prog 19 := by
  refine fn_ok dline_H 0 rfl _ Tryd.func19 rfl rfl ⟨name_ok, nums_ok, byts_ok, dec_ok, hex_ok, dlist_ok, trivial⟩ rfl rfl (by kernel_rfl) (fun _ => Nat.le_of_ble_eq_true rfl) ?_
  intro (o : Op) hp hr
  try dsimp only [dline_c] at hp
  try simp only [dline_c, Rng, RngL, inR, and_true, true_and] at hr
  obtain ⟨hp', hlP⟩ := hp
  have hk := hlP.1
  have hlen := lineS_len hp'
  rw [← lineD_eq hlP] at hlen
  have heq := lineD_eq hlP
  have hfn := (lineP_iff hk).1 hlP
  obtain ⟨ha, hb, hc⟩ := hp'
  clear hr
  have hln := numsO_len o
  have hlb := bytsO_len o
  have hnn : nums_c.pre o := hk
  have hnb : byts_c.pre o := hk
  have hnm : name_c.pre o.kind := hk
  generalize hnm' : (formOf o.kind).1 = nm at hk hlen
  rw [lineD, hnm'] at hlen
  have hL1 : ∀ i, (((numsO o).take i).flatMap (fun n => sp (decS n))).length ≤ ((numsO o).flatMap (fun n => sp (decS n))).length := fun i => flatT_len _ _ _
  have hL2 : ∀ i, (((bytsO o).take i).flatMap (fun l => sp (bytesS l))).length ≤ ((bytsO o).flatMap (fun l => sp (bytesS l))).length := fun i => flatT_len _ _ _
  simp only [List.length_append] at hlen
  repeat' (first | (with_reducible refine Unf.h ?_) | fail); all_goals try (conv => whnf)
  refine CallS.mk (c := name_c) o.kind ?_
  repeat' (first | (with_reducible refine Unf.h ?_) | ((conv => whnf); first | (refine Side.mk ?_ ?_; focus (first | with_reducible rfl | assumption)) | refine Got.mk (fun _ _ => ?_) | refine CallS.mk (c := nums_c) (o) ?_) | fail); all_goals try (conv => whnf)
  refine LoopS.autoN (I := Nat) (fun i => i ≤ (numsO o).length) (fun i => [(5, .int .i64 i), (3, .str ((formOf o.kind).1 ++ ((numsO o).take i).flatMap (fun n => sp (decS n))))]) (fun _ => [(0, .box 39 (eOp o))]) 1 (fun i => (numsO o).length - i) 0 (Nat.zero_le _) ?_ ?_
  · have e : (formOf o.kind).1 = (formOf o.kind).1 ++ ((numsO o).take 0).flatMap (fun n => sp (decS n)) := (List.append_nil _).symm
    repeat' (first | (with_reducible refine Unf.h ?_) | ((conv => whnf); first | (refine Side.mk ?_ ?_; focus (first | with_reducible rfl | (refine congrArg (SV.int _) ?_; omega) | (simp [*]; done))) | (with_reducible refine Unf.h ?_) | exact True.intro) | fail); all_goals try (conv => whnf)
  · intro i hi
    have hli := hL1 i
    repeat' (first | (with_reducible refine Unf.h ?_) | ((conv => whnf); first | refine Fork.mk (fun h => ?_) (fun h => ?_) | (refine Idx.mk ?_ ?_; focus (omega))) | fail); all_goals try (conv => whnf)
    · have hil : i < (numsO o).length := by omega
      have hd : dec_c.pre ((numsO o)[((i : Nat) : Int).toNat]'hil) := hfn.1 _ (List.getElem_mem _)
      have hdl : (decS ((numsO o)[((i : Nat) : Int).toNat]'hil)).length ≤ 8 := decS_len hd
      have hs1 : (cS #[32]).length + (decS ((numsO o)[((i : Nat) : Int).toNat]'hil)).length < 9223372036854775808 := by show 1 + _ < _; omega
      have hs2 : ((formOf o.kind).1 ++ ((numsO o).take i).flatMap (fun n => sp (decS n))).length + (cS #[32] ++ decS ((numsO o)[((i : Nat) : Int).toNat]'hil)).length < 9223372036854775808 := by
        rw [hnm', List.length_append, List.length_append]; show _ + (1 + _) < _; omega
      refine CallS.mk (c := dec_c) ((numsO o)[((i : Nat) : Int).toNat]'hil) ?_
      repeat' (first | (with_reducible first | refine Unf.h ?_ | refine loopK_n ?_) | ((conv => whnf); first | (refine Side.mk ?_ ?_; focus (first | with_reducible rfl | assumption | (intros; (try simp only [lenS, inR, cutS, loI, hiI] at *); omega))) | refine Got.mk (fun _ _ => ?_)) | fail); all_goals try (conv => whnf)
      refine ⟨i + 1, ⟨by omega, by omega⟩, ?_⟩
      have e : (formOf o.kind).1 ++ ((numsO o).take i).flatMap (fun n => sp (decS n)) ++ (cS #[32] ++ decS ((numsO o)[((i : Nat) : Int).toNat]'hil)) = (formOf o.kind).1 ++ ((numsO o).take (i + 1)).flatMap (fun n => sp (decS n)) := by rw [List.append_assoc]; exact congrArg _ (flatT_succ (fun n => sp (decS n)) hil)
      repeat' (first | (with_reducible refine Unf.h ?_) | ((conv => whnf); first | (refine Side.mk ?_ ?_; focus ((refine congrArg (SV.int _) ?_; omega))) | (with_reducible refine Unf.h ?_)) | fail); all_goals try (conv => whnf)
      refine Side.mk (congrArg SV.str e) ?_
      repeat' (first | (with_reducible refine Unf.h ?_) | ((conv => whnf); first | (refine Side.mk ?_ ?_; focus (with_reducible rfl)) | exact True.intro) | fail); all_goals try (conv => whnf)
    · have ht : (numsO o).take i = numsO o := List.take_of_length_le (by omega)
      refine CallS.mk (c := byts_c) o ?_
      repeat' (first | (with_reducible refine Unf.h ?_) | ((conv => whnf); first | (refine Side.mk ?_ ?_; focus (first | with_reducible rfl | assumption)) | refine Got.mk (fun _ _ => ?_)) | fail); all_goals try (conv => whnf)
      rw [ht]
      obtain ⟨pre, hpre⟩ : ∃ pre, pre = (formOf o.kind).1 ++ (numsO o).flatMap (fun n => sp (decS n)) := ⟨_, rfl⟩
      have hprel : pre.length = nm.length + ((numsO o).flatMap (fun n => sp (decS n))).length := by rw [hpre, hnm', List.length_append]
      rw [← hpre]
      refine LoopS.autoN (I := Nat) (fun i => i ≤ (bytsO o).length) (fun i => [(7, .int .i64 i), (3, .str (pre ++ ((bytsO o).take i).flatMap (fun l => sp (bytesS l))))]) (fun _ => [(0, .box 39 (eOp o))]) 1 (fun i => (bytsO o).length - i) 0 (Nat.zero_le _) ?_ ?_
      · have e : pre = pre ++ ((bytsO o).take 0).flatMap (fun l => sp (bytesS l)) := (List.append_nil _).symm
        repeat' (first | (with_reducible refine Unf.h ?_) | ((conv => whnf); first | (refine Side.mk ?_ ?_; focus (first | with_reducible rfl | (refine congrArg (SV.int _) ?_; omega) | (simp [*]; done))) | (with_reducible refine Unf.h ?_) | exact True.intro) | fail); all_goals try (conv => whnf)
      · intro j hj
        have hlj := hL2 j
        repeat' (first | (with_reducible refine Unf.h ?_) | ((conv => whnf); first | refine Fork.mk (fun h => ?_) (fun h => ?_) | (refine Side.mk ?_ ?_; focus ((intros; (try simp only [lenS, inR, cutS, loI, hiI] at *); omega))) | (refine Idx.mk ?_ ?_; focus (omega)) | refine RetE.mk () trivial ?_ | refine retK_r ?_) | fail); all_goals try (conv => whnf)
        · have hjl : j < (bytsO o).length := by omega
          have hbm := bytsO_mem ⟨ha, hb, hc⟩ _ (List.getElem_mem hjl)
          have hbl := bytesS_len ((bytsO o)[j]'hjl)
          have hpx : hex_c.pre ((bytsO o)[((j : Nat) : Int).toNat]'hjl) := show List.length ((bytsO o)[j]'hjl) ≤ 1000000 by omega
          have hs1 : (cS #[32]).length + (bytesS ((bytsO o)[((j : Nat) : Int).toNat]'hjl)).length < 9223372036854775808 := by show 1 + (bytesS (bytsO o)[j]).length < _; omega
          have hs2 : (pre ++ ((bytsO o).take j).flatMap (fun n => sp (bytesS n))).length + (cS #[32] ++ bytesS ((bytsO o)[((j : Nat) : Int).toNat]'hjl)).length < 9223372036854775808 := by
            rw [List.length_append, List.length_append, hprel]; show _ + (1 + (bytesS (bytsO o)[j]).length) < _; omega
          refine CallS.mk (c := hex_c) ((bytsO o)[((j : Nat) : Int).toNat]'hjl) ?_
          repeat' (first | (with_reducible first | refine Unf.h ?_ | refine loopK_n ?_) | ((conv => whnf); first | (refine Side.mk ?_ ?_; focus (first | with_reducible rfl | assumption | (intros; (try simp only [lenS, inR, cutS, loI, hiI] at *); omega))) | refine Got.mk (fun _ _ => ?_)) | fail); all_goals try (conv => whnf)
          refine ⟨j + 1, ⟨by omega, by omega⟩, ?_⟩
          have e : pre ++ ((bytsO o).take j).flatMap (fun l => sp (bytesS l)) ++ (cS #[32] ++ bytesS ((bytsO o)[((j : Nat) : Int).toNat]'hjl)) = pre ++ ((bytsO o).take (j + 1)).flatMap (fun l => sp (bytesS l)) := by rw [List.append_assoc]; exact congrArg _ (flatT_succ (fun n => sp (bytesS n)) hjl)
          repeat' (first | (with_reducible refine Unf.h ?_) | ((conv => whnf); first | (refine Side.mk ?_ ?_; focus ((refine congrArg (SV.int _) ?_; omega))) | (with_reducible refine Unf.h ?_)) | fail); all_goals try (conv => whnf)
          refine Side.mk (congrArg SV.str e) ?_
          repeat' (first | (with_reducible refine Unf.h ?_) | ((conv => whnf); first | (refine Side.mk ?_ ?_; focus (with_reducible rfl)) | exact True.intro) | fail); all_goals try (conv => whnf)
        · have ht2 : (bytsO o).take j = bytsO o := List.take_of_length_le (by omega)
          rw [ht2]
          have h14 : o.kind = 14 := by assumption
          have hpl : dlist_c.pre o.list := ⟨by omega, hfn.2 h14⟩
          have hll := listS_len (l := o.list)
          have hs1 : (cS #[32]).length + (listS o.list).length < 9223372036854775808 := by show 1 + _ < _; omega
          have hs2 : (pre ++ (bytsO o).flatMap (fun n => sp (bytesS n))).length + (cS #[32] ++ listS o.list).length < 9223372036854775808 := by
            rw [List.length_append, List.length_append, hprel]; show _ + (1 + _) < _; omega
          have hs3 : (pre ++ (bytsO o).flatMap (fun n => sp (bytesS n)) ++ (cS #[32] ++ listS o.list)).length + (cS #[10]).length < 9223372036854775808 := by
            rw [List.length_append, List.length_append, List.length_append, hprel]; show _ + (1 + _) + 1 < _; omega
          refine CallS.mk (c := dlist_c) o.list ?_
          repeat' (first | (with_reducible refine Unf.h ?_) | ((conv => whnf); first | (refine Side.mk ?_ ?_; focus (first | with_reducible rfl | assumption)) | refine RetE.mk () trivial ?_ | refine Got.mk (fun _ _ => ?_) | refine retK_r ?_) | fail); all_goals try (conv => whnf)
          refine Side.mk ?_ ?_
          · show SV.str _ = SV.str (lineS o)
            rw [← heq, lineD, if_pos h14, hpre]
          repeat' (first | (with_reducible refine Unf.h ?_) | ((conv => whnf); exact rfl) | fail); all_goals try (conv => whnf)
        · have ht2 : (bytsO o).take j = bytsO o := List.take_of_length_le (by omega)
          rw [ht2]
          have h14 : ¬ o.kind = 14 := by assumption
          have hs3 : (pre ++ (bytsO o).flatMap (fun n => sp (bytesS n))).length + (cS #[10]).length < 9223372036854775808 := by
            rw [List.length_append, hprel]; show _ + 1 < _; omega
          all_goals try (conv => whnf)
          refine Side.mk ?_ ?_
          · show SV.str _ = SV.str (lineS o)
            rw [← heq, lineD, if_neg h14, hpre, List.append_nil]
          repeat' (first | (with_reducible refine Unf.h ?_) | ((conv => whnf); exact rfl) | fail); all_goals try (conv => whnf)
end Go.Proofs.YtkcicejnkdobpaaDoor

namespace Go.Proofs.YtkcicejnkdobpaaDoor
set_option linter.all false
open Go.RowKit
/-! the document's Write; Few; awake; ScriptWrites -/
theorem foldl_stop : ∀ (r : List Op) (t : B8), 20000 < t.length → r.foldl (fun t o => accF t (lineR o)) t = t
  | [], t, _ => rfl
  | o :: r, t, h => by
    have e : accF t (lineR o) = t := if_neg (by omega)
    show r.foldl _ (accF t (lineR o)) = t
    rw [e]; exact foldl_stop r t h
theorem accW_stop {l : List Op} {j : Nat} (h : 20000 < (accW (l.take j)).length) : accW l = accW (l.take j) := by
  have e : accW l = (l.drop j).foldl (fun t o => accF t (lineR o)) (accW (l.take j)) := by
    unfold accW; rw [← List.foldl_append, List.take_append_drop]
  rw [e]; exact foldl_stop _ _ h
theorem accW_go {l : List Op} {j : Nat} (h : j < l.length) (h1 : (accW (l.take j)).length ≤ 20000) (h2 : lineP l[j]) : accW (l.take j) ++ lineS l[j] = accW (l.take (j + 1)) := by
  rw [accW_succ h, accF, if_pos h1, show lineR l[j] = lineS l[j] from if_pos h2]
def dwr_c : Ctr where
  D := List Op
  pre := fun l => l.length ≤ 1000 ∧ ∀ o ∈ l, OpZ o
  args := fun l => [.fs 7 eOp l]
  res := fun l _ => .tup [.str (writeR l).1, .int .i64 (writeR l).2]
def dwr_H : Cfg := ⟨[(18, good_c), (19, dline_c)], [], [], [], 46, 0, [], [], []⟩
theorem dwr_ok : dwr_c.Ok Tryd.prog 10 := by
  refine fn_ok dwr_H 0 rfl _ Tryd.func10 rfl rfl ⟨good_ok, dline_ok, trivial⟩ rfl rfl (by kernel_rfl) (fun _ => Nat.le_of_ble_eq_true rfl) ?_
  intro (l : List Op) hp hr
  try dsimp only [dwr_c] at hp
  try simp only [dwr_c, Rng, RngL, inR, and_true, true_and] at hr
  obtain ⟨hl, hz⟩ := hp
  have hno : ¬ allP l → writeR l = ([], 1) := fun h => if_neg h
  repeat' (first | (with_reducible refine Unf.h ?_) | fail); all_goals try (conv => whnf)
  refine LoopS.autoN (I := Nat) (fun i => i ≤ l.length ∧ allP (l.take i)) (fun i => [(5, .int .i64 i)]) (fun i => []) 0 (fun i => l.length - i) 0 ⟨Nat.zero_le _, allP_nil⟩ ?_ ?_
  · repeat' (first | (with_reducible refine Unf.h ?_) | ((conv => whnf); first | (refine Side.mk ?_ ?_; focus (first | with_reducible rfl | (refine congrArg (SV.int _) ?_; omega))) | (with_reducible refine Unf.h ?_) | exact True.intro) | fail); all_goals try (conv => whnf)
  · rintro i ⟨hi, hm⟩
    repeat' (first | (with_reducible refine Unf.h ?_) | ((conv => whnf); first | refine Fork.mk (fun h => ?_) (fun h => ?_) | (refine Idx.mk ?_ ?_; focus (omega))) | fail); all_goals try (conv => whnf)
    · have h0 : i < l.length := by omega
      have hz0 : good_c.pre (l[((i : Nat) : Int).toNat]'h0) := hz _ (List.getElem_mem _)
      refine CallS.mk (c := good_c) (l[((i : Nat) : Int).toNat]'h0) ?_
      repeat' (first | (with_reducible first | refine Unf.h ?_ | refine loopK_n ?_) | ((conv => whnf); first | refine Fork.mkn (fun h => ?_) (fun h => ?_) | (refine Side.mk ?_ ?_; focus (first | with_reducible rfl | assumption | (intros; (try simp only [lenS, inR, cutS, loI, hiI] at *); omega))) | refine RetE.mk () trivial ?_ | refine Got.mk (fun _ _ => ?_) | refine retK_r ?_) | fail); all_goals try (conv => whnf)
      · have h1 := allP_not h0 h
        have e := hno h1
        repeat' (first | (with_reducible refine Unf.h ?_) | ((conv => whnf); first | (refine Side.mk ?_ ?_; focus (first | (simp only [*, e]; done) | (simp only [*, e, List.map_cons, List.map_nil, eB]; done))) | exact rfl) | fail); all_goals try (conv => whnf)
      · refine ⟨i + 1, ⟨by omega, by omega, allP_succ h0 hm h⟩, ?_⟩
        repeat' (first | (with_reducible refine Unf.h ?_) | ((conv => whnf); first | (refine Side.mk ?_ ?_; focus (first | with_reducible rfl | (refine congrArg (SV.int _) ?_; omega))) | (with_reducible refine Unf.h ?_) | exact True.intro) | fail); all_goals try (conv => whnf)
    · have ht : l.take i = l := List.take_of_length_le (by omega)
      rw [ht] at hm
      refine LoopS.autoN (I := Nat) (fun j => j ≤ l.length) (fun j => [(6, .int .i64 j), (4, .str (accW (l.take j)))]) (fun _ => []) 0 (fun j => l.length - j) 0 (Nat.zero_le _) ?_ ?_
      · have e : accW (l.take 0) = [] := rfl
        repeat' (first | (with_reducible refine Unf.h ?_) | ((conv => whnf); first | (refine Side.mk ?_ ?_; focus (first | with_reducible rfl | (refine congrArg (SV.int _) ?_; omega) | (simp only [*, e, List.map_cons, List.map_nil, eB]; done))) | (with_reducible refine Unf.h ?_) | exact True.intro) | fail); all_goals try (conv => whnf)
      · intro j hj
        have hzt : ∀ o ∈ l.take j, OpZ o := fun o ho => hz o (List.mem_of_mem_take ho)
        have hal := accW_len hzt
        repeat' (first | (with_reducible refine Unf.h ?_) | ((conv => whnf); first | refine Fork.mk (fun h => ?_) (fun h => ?_) | (refine Side.mk ?_ ?_; focus (omega)) | (refine Idx.mk ?_ ?_; focus (omega)) | refine RetE.mk () trivial ?_ | refine retK_r ?_ | exact rfl) | fail); all_goals try (conv => whnf)
        · have h0 : j < l.length := by omega
          have hz1 := hz _ (List.getElem_mem h0)
          have hlP := hm _ (List.getElem_mem h0)
          have hz0 : dline_c.pre (l[((j : Nat) : Int).toNat]'h0) := ⟨hz1, hlP⟩
          have hz2 := lineS_len hz1
          have e : accW (l.take j) ++ lineS (l[((j : Nat) : Int).toNat]'h0) = accW (l.take (j + 1)) := accW_go h0 (by omega) hlP
          have hs : (accW (l.take j)).length + (lineS (l[((j : Nat) : Int).toNat]'h0)).length < 9223372036854775808 := by
            have : (lineS (l[((j : Nat) : Int).toNat]'h0)).length ≤ 1350011 := hz2
            omega
          refine CallS.mk (c := dline_c) (l[((j : Nat) : Int).toNat]'h0) ?_
          repeat' (first | (with_reducible first | refine Unf.h ?_ | refine loopK_n ?_) | ((conv => whnf); first | (refine Side.mk ?_ ?_; focus (first | with_reducible rfl | assumption | (intros; (try simp only [lenS, inR, cutS, loI, hiI] at *); omega))) | refine Got.mk (fun _ _ => ?_)) | fail); all_goals try (conv => whnf)
          refine ⟨j + 1, ⟨by omega, by omega⟩, ?_⟩
          repeat' (first | (with_reducible refine Unf.h ?_) | ((conv => whnf); first | (refine Side.mk ?_ ?_; focus (first | with_reducible rfl | (refine congrArg (SV.int _) ?_; omega) | (simp only [*, e]; done))) | (with_reducible refine Unf.h ?_) | exact True.intro) | fail); all_goals try (conv => whnf)
        · have e := writeR_long hm (.inl (by omega))
          repeat' (first | (with_reducible refine Unf.h ?_) | ((conv => whnf); first | (refine Side.mk ?_ ?_; focus (first | (simp only [*, e]; done) | (simp only [*, e, List.map_cons, List.map_nil, eB]; done))) | exact rfl) | fail); all_goals try (conv => whnf)
        · have hj2 : 20000 < (accW (l.take j)).length := by omega
          have e := writeR_long hm (.inr (by rw [accW_stop hj2]; exact hj2))
          clear hj2
          repeat' (first | (with_reducible refine Unf.h ?_) | ((conv => whnf); first | (refine Side.mk ?_ ?_; focus (first | (simp only [*, e]; done) | (simp only [*, e, List.map_cons, List.map_nil, eB]; done))) | exact rfl) | fail); all_goals try (conv => whnf)
        · have e := writeR_long hm (.inl (by omega))
          repeat' (first | (with_reducible refine Unf.h ?_) | ((conv => whnf); first | (refine Side.mk ?_ ?_; focus (first | (simp only [*, e]; done) | (simp only [*, e, List.map_cons, List.map_nil, eB]; done))) | exact rfl) | fail); all_goals try (conv => whnf)
        · have ht2 : l.take j = l := List.take_of_length_le (by omega)
          rw [ht2] at h
          have e := writeR_long hm (.inr (by omega))
          repeat' (first | (with_reducible refine Unf.h ?_) | ((conv => whnf); first | (refine Side.mk ?_ ?_; focus (first | (simp only [*, e]; done) | (simp only [*, e, List.map_cons, List.map_nil, eB]; done))) | exact rfl) | fail); all_goals try (conv => whnf)
        · have ht2 : l.take j = l := List.take_of_length_le (by omega)
          rw [ht2] at h ⊢
          have e := writeR_ok hm (fun h => by omega)
          repeat' (first | (with_reducible refine Unf.h ?_) | ((conv => whnf); first | (refine Side.mk ?_ ?_; focus ((simp only [*, e]; done))) | exact rfl) | fail); all_goals try (conv => whnf)
def sfew_c : Ctr where
  D := List Op × Int
  pre := fun (_, n) => n ≤ 500
  args := fun (l, n) => [.fs 7 eOp l, .int .i64 n]
  E := Bool
  post := fun (l, n) r => r = true → (∀ o ∈ l, OpZ o) ∧ (l.length : Int) ≤ n
  res := fun _ r => .bool r
def sfew_H : Cfg := ⟨[], [], [], [], 45, 0, [], [], []⟩
theorem sfew_ok : sfew_c.Ok Tryd.prog 8 := by
  refine fn_ok sfew_H 0 rfl _ Tryd.func8 rfl rfl trivial rfl rfl (by kernel_rfl) (fun _ => Nat.le_of_ble_eq_true rfl) ?_
  rintro ⟨l, n⟩ hp hr
  try dsimp only [sfew_c] at hp
  try simp only [sfew_c, Rng, RngL, inR, and_true, true_and] at hr
  repeat' (first | (with_reducible refine Unf.h ?_) | fail); all_goals try (conv => whnf)
  refine LoopS.autoN (I := Nat) (fun i => i ≤ l.length ∧ i ≤ 500 ∧ ∀ o ∈ l.take i, OpZ o) (fun i => [(5, .int .i64 i)]) (fun _ => []) 0 (fun i => l.length - i) 0 ⟨Nat.zero_le _, Nat.zero_le _, fun o h => absurd h List.not_mem_nil⟩ ?_ ?_
  · repeat' (first | (with_reducible refine Unf.h ?_) | ((conv => whnf); first | (refine Side.mk ?_ ?_; focus (first | with_reducible rfl | (refine congrArg (SV.int _) ?_; omega))) | (with_reducible refine Unf.h ?_) | exact True.intro) | fail); all_goals try (conv => whnf)
  · rintro i ⟨hi, hi5, hm⟩
    repeat' (first | (with_reducible first | refine Unf.h ?_ | refine loopK_n ?_) | ((conv => whnf); first | refine Fork.mk (fun h => ?_) (fun h => ?_) | (refine Side.mk ?_ ?_; focus ((intros; (try simp only [lenS, inR, cutS, loI, hiI] at *); omega))) | (refine Idx.mk ?_ ?_; focus (omega)) | refine retK_r ?_) | fail); all_goals try (conv => whnf)
    · exact RetE.mk false (fun h => absurd h (by decide)) (by repeat' (first | (with_reducible refine Unf.h ?_) | ((conv => whnf); first | (refine Side.mk ?_ ?_; focus (with_reducible rfl)) | exact rfl) | fail); all_goals try (conv => whnf))
    · exact RetE.mk false (fun h => absurd h (by decide)) (by repeat' (first | (with_reducible refine Unf.h ?_) | ((conv => whnf); first | (refine Side.mk ?_ ?_; focus (with_reducible rfl)) | exact rfl) | fail); all_goals try (conv => whnf))
    · exact RetE.mk false (fun h => absurd h (by decide)) (by repeat' (first | (with_reducible refine Unf.h ?_) | ((conv => whnf); first | (refine Side.mk ?_ ?_; focus (with_reducible rfl)) | exact rfl) | fail); all_goals try (conv => whnf))
    · rename_i c1 c2 c3 c4
      have h0 : i < l.length := by omega
      simp only [Int.toNat_natCast] at h c3 c4
      refine ⟨i + 1, ⟨by omega, by omega, by omega, fun o ho => ?_⟩, ?_⟩
      · rw [List.take_succ_eq_append_getElem h0] at ho
        rcases List.mem_append.1 ho with ho | ho
        · exact hm o ho
        · rw [List.mem_singleton.1 ho]; exact ⟨by omega, by omega, by omega⟩
      repeat' (first | (with_reducible refine Unf.h ?_) | ((conv => whnf); first | (refine Side.mk ?_ ?_; focus (first | with_reducible rfl | (refine congrArg (SV.int _) ?_; omega))) | (with_reducible refine Unf.h ?_) | exact True.intro) | fail); all_goals try (conv => whnf)
    · refine RetE.mk (decide ((l.length : Int) ≤ n)) (fun h => by have := of_decide_eq_true h; have hp' : n ≤ 500 := hp; exfalso; omega) ?_
      repeat' (first | (with_reducible refine Unf.h ?_) | ((conv => whnf); first | (refine Side.mk ?_ ?_; focus (with_reducible rfl)) | exact rfl) | fail); all_goals try (conv => whnf)
    · refine RetE.mk (decide ((l.length : Int) ≤ n)) (fun h => ⟨fun o ho => hm o (by rw [List.take_of_length_le (by omega)]; exact ho), of_decide_eq_true h⟩) ?_
      repeat' (first | (with_reducible refine Unf.h ?_) | ((conv => whnf); first | (refine Side.mk ?_ ?_; focus (with_reducible rfl)) | exact rfl) | fail); all_goals try (conv => whnf)
def op0 : Op := ⟨5, 0, 1, 0, [97#8, 108#8], [], []⟩
abbrev awS : B8 := cS #[97, 115, 107, 32, 48, 32, 49, 32, 48, 32, 54, 49, 54, 99, 10]
theorem dig0 : digN 0 = [48#8] := digN_lt (by omega)
theorem dig1 : digN 1 = [49#8] := digN_lt (by omega)
theorem num0 : numR 0 = [48#8] := by rw [numR, if_pos (by decide), decS, if_neg (by decide)]; exact dig0
theorem num1 : numR 1 = [49#8] := by rw [numR, if_pos (by decide), decS, if_neg (by decide)]; exact dig1
theorem op0P : lineP op0 := by decide
theorem op0S : lineS op0 = awS := by
  have e : lineS op0 = joinS [32#8] [[97#8, 115#8, 107#8], numR 0, numR 1, numR 0, bytesS [97#8, 108#8]] ++ [10#8] := rfl
  rw [e, num0, num1]; decide
theorem op0W : writeR [op0] = (awS, 0) := by
  have h : allP [op0] := fun o ho => by rw [List.mem_singleton.1 ho]; exact op0P
  have e : accW [op0] = awS := by
    show accF [] (lineR op0) = _
    rw [show lineR op0 = lineS op0 from if_pos op0P, op0S]; rfl
  rw [writeR_ok h (by rw [e]; decide), e]
def aw_c : Ctr where
  D := Unit
  args := fun _ => []
  res := fun _ _ => .bool true
def aw_H : Cfg := ⟨[(9, wr_c)], [], [], [], 17, 0, [], [], []⟩
theorem aw_ok : aw_c.Ok Tryd.prog 7 := by
  refine fn_ok aw_H 0 rfl _ Tryd.func7 rfl rfl ⟨wr_ok, trivial⟩ rfl rfl (by kernel_rfl) (fun _ => Nat.le_of_ble_eq_true rfl) ?_
  rintro ⟨⟩ hp hr
  try dsimp only [aw_c] at hp
  try simp only [aw_c, Rng, RngL, inR, and_true, true_and] at hr
  have hpw : wr_c.pre [op0] := ⟨by decide, fun o ho => by rw [List.mem_singleton.1 ho]; exact ⟨by decide, by decide, by decide⟩⟩
  repeat' (first | (with_reducible refine Unf.h ?_) | ((conv => whnf); first | (refine Side.mk ?_ ?_; focus ((intros; (try simp only [lenS, inR, cutS, loI, hiI] at *); omega))) | refine Ex.mk [_, _] rfl ?_) | fail); all_goals try (conv => whnf)
  refine CallS.mk (c := wr_c) [op0] ?_
  repeat' (first | (with_reducible refine Unf.h ?_) | fail); all_goals try (conv => whnf)
  refine Side.mk (by simp [wkLL, wkL, wk1, op0]) ?_
  repeat' (first | (with_reducible refine Unf.h ?_) | ((conv => whnf); first | refine Fork.mk (fun h => ?_) (fun h => ?_) | (refine Side.mk ?_ ?_; focus (assumption)) | refine RetE.mk () trivial ?_ | refine Got.mk (fun _ _ => ?_) | (with_reducible refine Unf.h ?_) | refine retK_r ?_) | fail); all_goals try (conv => whnf)
  · refine Side.mk (by rw [op0W]; exact decide_eq_true rfl) ?_
    repeat' (first | (with_reducible refine Unf.h ?_) | ((conv => whnf); exact rfl) | fail); all_goals try (conv => whnf)
  · exact absurd (by rw [op0W]) h
def sw_c : Ctr where
  D := List Op
  args := fun l => [.fs 7 eOp l]
  res := fun _ _ => .bool true
def sw_H : Cfg := ⟨[(7, aw_c), (8, sfew_c), (9, wr_c), (10, dwr_c)], [], [], [], 33, 0, [], [], []⟩
theorem sw_ok : sw_c.Ok Tryd.prog 3 := by
  refine fn_ok sw_H 0 rfl _ Tryd.func3 rfl rfl ⟨aw_ok, sfew_ok, wr_ok, dwr_ok, trivial⟩ rfl rfl (by kernel_rfl) (fun _ => Nat.le_of_ble_eq_true rfl) ?_
  intro (l : List Op) hp hr
  try dsimp only [sw_c] at hp
  try simp only [sw_c, Rng, RngL, inR, and_true, true_and] at hr
  have hpf : sfew_c.pre (l, 410) := show (410 : Int) ≤ 500 by decide
  repeat' (first | (with_reducible refine Unf.h ?_) | ((conv => whnf); first | (refine Side.mk ?_ ?_; focus (first | with_reducible rfl | exact True.intro | assumption)) | refine Got.mk (fun _ _ => ?_) | refine CallS.mk (c := aw_c) (()) ?_ | refine CallS.mk (c := sfew_c) ((l, 410)) ?_) | fail); all_goals try (conv => whnf)
  rename_i e he
  cases e with
  | false =>
    repeat' (first | (with_reducible refine Unf.h ?_) | ((conv => whnf); first | (refine Side.mk ?_ ?_; focus (first | with_reducible rfl | exact True.intro)) | refine RetE.mk () trivial ?_ | refine Got.mk (fun _ _ => ?_) | (with_reducible refine Unf.h ?_) | refine retK_r ?_ | exact rfl | refine CallS.mk (c := aw_c) (()) ?_) | fail); all_goals try (conv => whnf)
  | true =>
    obtain ⟨hz, hn⟩ := (show (∀ o ∈ l, OpZ o) ∧ (l.length : Int) ≤ 410 from he rfl)
    have hpw : wr_c.pre l := ⟨by omega, hz⟩
    have hpd : dwr_c.pre l := hpw
    repeat' (first | (with_reducible refine Unf.h ?_) | ((conv => whnf); first | refine Fork.mk (fun h => ?_) (fun h => ?_) | (refine Side.mk ?_ ?_; focus (first | with_reducible rfl | assumption | (simp [*]; done))) | refine RetE.mk () trivial ?_ | refine Got.mk (fun _ _ => ?_) | (with_reducible refine Unf.h ?_) | refine retK_r ?_ | exact rfl | refine CallS.mk (c := wr_c) (l) ?_) | fail); all_goals try (conv => whnf)
    exact absurd rfl h
end Go.Proofs.YtkcicejnkdobpaaDoor

/- plain laws: lines of a script, and what none is (no program in sight) -/
namespace Go.Proofs.YtkcicejnkdobpaaDoor
set_option linter.all false
theorem decS_mem {n : Int} {b : BitVec 8} (h : b ∈ decS n) : b = 45#8 ∨ isD b := by
  unfold decS at h
  split at h
  · rcases List.mem_cons.1 h with h | h
    · exact .inl h
    · exact .inr (digN_isD _ _ h)
  · exact .inr (digN_isD _ _ h)
theorem hx_mem (n : Nat) (h : n < 16) : hx n ∈ hexD := by
  unfold hx; rw [List.getD_eq_getElem?_getD, List.getElem?_eq_getElem (show n < hexD.length from h)]
  exact List.getElem_mem _
theorem hexs_mem {l : B8} {b : BitVec 8} (h : b ∈ hexs l) : b ∈ hexD := by
  unfold hexs at h
  obtain ⟨x, _, hb⟩ := List.mem_flatMap.1 h
  have := x.isLt
  simp only [hexB, List.mem_cons, List.not_mem_nil, or_false] at hb
  rcases hb with rfl | rfl
  · exact hx_mem _ (by omega)
  · exact hx_mem _ (by omega)
theorem bytesS_mem {l : B8} {b : BitVec 8} (h : b ∈ bytesS l) : b = 45#8 ∨ b ∈ hexD := by
  unfold bytesS at h
  split at h
  · exact .inl (List.mem_singleton.1 h)
  · exact .inr (hexs_mem h)
theorem joinT_mem {sep : B8} {b : BitVec 8} : ∀ {r : List B8}, b ∈ (r.map (sep ++ ·)).flatten → b ∈ sep ∨ ∃ x ∈ r, b ∈ x
  | [], h => by simp at h
  | x :: r, h => by
    rw [List.map_cons, List.flatten_cons] at h
    rcases List.mem_append.1 h with h | h
    · rcases List.mem_append.1 h with h | h
      · exact .inl h
      · exact .inr ⟨x, by simp, h⟩
    · rcases joinT_mem h with h | ⟨y, hy, h⟩
      · exact .inl h
      · exact .inr ⟨y, by simp [hy], h⟩
theorem joinS_mem {sep : B8} {ls : List B8} {b : BitVec 8} (h : b ∈ joinS sep ls) : b ∈ sep ∨ ∃ x ∈ ls, b ∈ x := by
  cases ls with
  | nil => simp [joinS] at h
  | cons x r =>
    simp only [joinS] at h
    rcases List.mem_append.1 h with h | h
    · exact .inr ⟨x, by simp, h⟩
    · rcases joinT_mem h with h | ⟨y, hy, h⟩
      · exact .inl h
      · exact .inr ⟨y, by simp [hy], h⟩
theorem numR_mem {n : Int} {b : BitVec 8} (h : b ∈ numR n) : b = 45#8 ∨ isD b := by
  unfold numR at h
  split at h
  · exact decS_mem h
  · simp at h
theorem listS_mem {l : List Int} {b : BitVec 8} (h : b ∈ listS l) : b = 44#8 ∨ b = 45#8 ∨ isD b := by
  unfold listS at h
  split at h
  · exact .inr (.inl (List.mem_singleton.1 h))
  · rcases joinS_mem h with h | ⟨x, hx, h⟩
    · exact .inl (List.mem_singleton.1 h)
    · obtain ⟨n, _, rfl⟩ := List.mem_map.1 hx
      exact .inr (numR_mem h)
theorem hexD_D {b : BitVec 8} (h : b ∈ hexD) : isD b ∨ (97 ≤ b.toNat ∧ b.toNat ≤ 102) := by
  have key : ∀ b ∈ hexD, isD b ∨ (97 ≤ b.toNat ∧ b.toNat ≤ 102) := by decide
  exact key b h
/-- the letters of a word -/
abbrev wordL (b : BitVec 8) : Prop := b = 44#8 ∨ b = 45#8 ∨ isD b ∨ (97 ≤ b.toNat ∧ b.toNat ≤ 102)
theorem wordR_mem {o : Op} {f b : BitVec 8} (h : b ∈ wordR o f) : wordL b := by
  unfold wordR at h
  split at h
  · exact (numR_mem h).elim (fun h => .inr (.inl h)) (fun h => .inr (.inr (.inl h)))
  split at h
  · exact (numR_mem h).elim (fun h => .inr (.inl h)) (fun h => .inr (.inr (.inl h)))
  split at h
  · exact (numR_mem h).elim (fun h => .inr (.inl h)) (fun h => .inr (.inr (.inl h)))
  split at h
  · exact (bytesS_mem h).elim (fun h => .inr (.inl h)) (fun h => .inr (.inr (hexD_D h)))
  split at h
  · exact (bytesS_mem h).elim (fun h => .inr (.inl h)) (fun h => .inr (.inr (hexD_D h)))
  · unfold listR at h
    split at h
    · rcases listS_mem h with h | h | h
      · exact .inl h
      · exact .inr (.inl h)
      · exact .inr (.inr (.inl h))
    · simp at h
theorem wordL_ne {b : BitVec 8} (h : wordL b) : b ≠ 32#8 ∧ b ≠ 10#8 := by
  rcases h with rfl | rfl | ⟨h1, h2⟩ | ⟨h1, h2⟩
  · decide
  · decide
  · constructor <;> (rintro rfl; revert h1; decide)
  · constructor <;> (rintro rfl; revert h1; decide)
theorem form_mem {k : Int} (hk : 1 ≤ k ∧ k < 16) : ∀ b ∈ (formOf k).1, b ≠ 32#8 ∧ b ≠ 10#8 := by
  rcases kinds15 hk with rfl | rfl | rfl | rfl | rfl | rfl | rfl | rfl | rfl | rfl | rfl | rfl | rfl | rfl | rfl <;> decide
def wordsO (o : Op) : List B8 := (formOf o.kind).1 :: (formOf o.kind).2.map (wordR o)
/-- a line without its end -/
def lineB (o : Op) : B8 := joinS [32#8] (wordsO o)
theorem lineS_eq (o : Op) : lineS o = lineB o ++ [10#8] := rfl
theorem wordsO_ne {o : Op} (hk : 1 ≤ o.kind ∧ o.kind < 16) : ∀ w ∈ wordsO o, ∀ b ∈ w, b ≠ 32#8 ∧ b ≠ 10#8 := by
  intro w hw b hb
  rcases List.mem_cons.1 hw with rfl | hw
  · exact form_mem hk b hb
  · obtain ⟨f, _, rfl⟩ := List.mem_map.1 hw
    exact wordL_ne (wordR_mem hb)
theorem lineB_split {o : Op} (hk : 1 ≤ o.kind ∧ o.kind < 16) : splitC 32#8 (lineB o) = wordsO o :=
  splitC_join fun w hw hb => (wordsO_ne hk w hw _ hb).1 rfl
theorem lineB_nl {o : Op} (hk : 1 ≤ o.kind ∧ o.kind < 16) : 10#8 ∉ lineB o := by
  intro h
  rcases joinS_mem h with h | ⟨w, hw, h⟩
  · exact absurd (List.mem_singleton.1 h) (by decide)
  · exact (wordsO_ne hk w hw _ h).2 rfl
theorem lineB_iff {o : Op} (hk : 1 ≤ o.kind ∧ o.kind < 16) (s : B8) : lineB o = s ↔ splitC 32#8 s = wordsO o :=
  ⟨fun e => by rw [← e, lineB_split hk], fun e => by rw [← join_splitC 32#8 s, e]; rfl⟩
/-! ## one text, one value -/
theorem digN_inj {a b : Nat} (h : digN a = digN b) : a = b := by rw [← valD_digN a, ← valD_digN b, h]
theorem decS_inj {a b : Int} (h : decS a = decS b) : a = b := by
  have hd : ∀ (n : Nat) (r : B8), digN n ≠ 45#8 :: r := fun n r e => by
    have := digN_isD n 45#8 (by rw [e]; simp)
    exact absurd this (by decide)
  unfold decS at h
  split at h
  · split at h
    · have := digN_inj (List.cons.inj h).2; omega
    · exact absurd h.symm (hd _ _)
  · split at h
    · exact absurd h (hd _ _)
    · have := digN_inj h; omega
theorem hexB_inj {a b : BitVec 8} (h : hexB a = hexB b) : a = b := by
  have key : ∀ i < 16, ∀ j < 16, hx i = hx j → i = j := by decide
  have ha := a.isLt; have hb := b.isLt
  simp only [hexB, List.cons.injEq, and_true] at h
  have h1 := key _ (by omega) _ (by omega) h.1
  have h2 := key _ (by omega) _ (by omega) h.2
  apply BitVec.eq_of_toNat_eq; omega
theorem hexs_inj : ∀ {a b : B8}, hexs a = hexs b → a = b
  | [], [], _ => rfl
  | [], y :: s, h => by simp [hexs, hexB] at h
  | x :: r, [], h => by simp [hexs, hexB] at h
  | x :: r, y :: s, h => by
    simp only [hexs, List.flatMap_cons] at h
    have h1 := List.append_inj h rfl
    rw [hexB_inj h1.1, hexs_inj h1.2]
theorem bytesS_inj {a b : B8} (h : bytesS a = bytesS b) : a = b := by
  have no : ∀ l : B8, [45#8] ≠ hexs l := fun l e => by
    have := congrArg List.length e; rw [hexs_len] at this; simp at this; omega
  unfold bytesS at h
  split at h <;> split at h
  · rename_i h1 h2; rw [h1, h2]
  · exact absurd h (no b)
  · exact absurd h.symm (no a)
  · exact hexs_inj h
theorem numR_may {n : Int} (h : mayN n) : numR n = decS n := if_pos h
theorem decS_c {n : Int} (c : BitVec 8) (hc : c ≠ 45#8) (hd : ¬ isD c) : c ∉ decS n := fun h => (decS_mem h).elim hc hd
theorem mapnum {l : List Int} (h : mayL l) : l.map numR = l.map decS := List.map_congr_left fun n hn => numR_may (h n hn)
theorem decS_dash (n : Int) : decS n ≠ [45#8] := by
  intro h
  unfold decS at h
  split at h
  · have h1 := (List.cons.inj h).2
    have := digN_nz (-n).toNat; rw [h1] at this; exact absurd this (by simp)
  · have := digN_isD n.toNat 45#8 (by rw [h]; simp)
    exact absurd this (by decide)
theorem listS_split {l : List Int} (h : mayL l) (hne : l ≠ []) : splitC 44#8 (listS l) = l.map decS := by
  unfold listS
  rw [if_neg hne, mapnum h]
  cases l with
  | nil => exact absurd rfl hne
  | cons x r =>
    rw [List.map_cons]
    exact splitC_join fun y hy => by
      rw [← List.map_cons] at hy
      obtain ⟨n, _, rfl⟩ := List.mem_map.1 hy
      exact decS_c _ (by decide) (by decide)
theorem listS_dash {l : List Int} (h : mayL l) : listS l = [45#8] ↔ l = [] := by
  constructor
  · intro e
    cases l with
    | nil => rfl
    | cons x r =>
      exfalso
      have h1 := listS_split h (by simp)
      rw [e] at h1
      have h2 : splitC 44#8 [45#8] = [[45#8]] := by decide
      rw [h2, List.map_cons] at h1
      exact decS_dash x (List.cons.inj h1).1.symm
  · rintro rfl; rfl
theorem map_inj {α β : Type} {f : α → β} (hf : ∀ a b, f a = f b → a = b) : ∀ {l m : List α}, l.map f = m.map f → l = m
  | [], [], _ => rfl
  | [], _ :: _, h => by simp at h
  | _ :: _, [], h => by simp at h
  | a :: r, b :: s, h => by
    simp only [List.map_cons, List.cons.injEq] at h
    rw [hf _ _ h.1, map_inj hf h.2]
theorem listS_inj {a b : List Int} (ha : mayL a) (hb : mayL b) (h : listS a = listS b) : a = b := by
  by_cases h1 : a = []
  · subst h1
    exact ((listS_dash hb).1 (h.symm.trans rfl)).symm
  · by_cases h2 : b = []
    · subst h2; exact (listS_dash ha).1 h
    · have := listS_split ha h1
      rw [h, listS_split hb h2] at this
      exact (map_inj (fun _ _ => decS_inj) this).symm
def bareOn (fs : B8) (o : Op) : Op := { kind := o.kind, n := if 110#8 ∈ fs then o.n else 0, m := if 109#8 ∈ fs then o.m else 0, k := if 107#8 ∈ fs then o.k else 0, label := if 108#8 ∈ fs then o.label else [], value := if 118#8 ∈ fs then o.value else [], list := if 116#8 ∈ fs then o.list else [] }
def bareO (o : Op) : Op := bareOn (formOf o.kind).2 o
/-- the signs of fields -/
abbrev fSign (f : BitVec 8) : Prop := f = 110#8 ∨ f = 109#8 ∨ f = 107#8 ∨ f = 108#8 ∨ f = 118#8 ∨ f = 116#8
theorem form_sign (k : Int) : ∀ f ∈ (formOf k).2, fSign f := by
  unfold formOf
  rw [List.getD_eq_getElem?_getD]
  cases h : gv0[k.toNat]? with
  | none => intro f hf; simp at hf
  | some p =>
    have hm := List.mem_of_getElem? h
    have key : ∀ p ∈ gv0, ∀ f ∈ p.2, fSign f := by decide
    exact key p hm
theorem form_nodup (k : Int) : (formOf k).2.Nodup := by
  unfold formOf
  rw [List.getD_eq_getElem?_getD]
  cases h : gv0[k.toNat]? with
  | none => exact List.nodup_nil
  | some p =>
    have hm := List.mem_of_getElem? h
    have key : ∀ p ∈ gv0, p.2.Nodup := by decide
    exact key p hm
theorem wordR_110 (o : Op) : wordR o 110#8 = numR o.n := rfl
theorem wordR_109 (o : Op) : wordR o 109#8 = numR o.m := rfl
theorem wordR_107 (o : Op) : wordR o 107#8 = numR o.k := rfl
theorem wordR_108 (o : Op) : wordR o 108#8 = bytesS o.label := rfl
theorem wordR_118 (o : Op) : wordR o 118#8 = bytesS o.value := rfl
theorem wordR_116 (o : Op) : wordR o 116#8 = listR o.list := rfl
/-- two that agree at a sign -/
def agree (f : BitVec 8) (a b : Op) : Prop := (f = 110#8 → a.n = b.n) ∧ (f = 109#8 → a.m = b.m) ∧ (f = 107#8 → a.k = b.k) ∧ (f = 108#8 → a.label = b.label) ∧ (f = 118#8 → a.value = b.value) ∧ (f = 116#8 → a.list = b.list)
theorem agree_word {f : BitVec 8} {a b : Op} (hf : fSign f) (h : agree f a b) : wordR a f = wordR b f ∧ (wordP a f ↔ wordP b f) := by
  obtain ⟨h1, h2, h3, h4, h5, h6⟩ := h
  rcases hf with rfl | rfl | rfl | rfl | rfl | rfl
  · simp [wordR, wordP, h1 rfl]
  · simp [wordR, wordP, h2 rfl]
  · simp [wordR, wordP, h3 rfl]
  · simp [wordR, wordP, h4 rfl]
  · simp [wordR, wordP, h5 rfl]
  · simp [wordR, wordP, h6 rfl]
theorem word_agree {f : BitVec 8} {a b : Op} (hf : fSign f) (ha : wordP a f) (hb : wordP b f) (h : wordR a f = wordR b f) : agree f a b := by
  rcases hf with rfl | rfl | rfl | rfl | rfl | rfl <;> simp [wordR, wordP] at h ha hb
  · rw [numR_may ha, numR_may hb] at h
    exact ⟨fun _ => decS_inj h, fun e => absurd e (by decide), fun e => absurd e (by decide), fun e => absurd e (by decide), fun e => absurd e (by decide), fun e => absurd e (by decide)⟩
  · rw [numR_may ha, numR_may hb] at h
    exact ⟨fun e => absurd e (by decide), fun _ => decS_inj h, fun e => absurd e (by decide), fun e => absurd e (by decide), fun e => absurd e (by decide), fun e => absurd e (by decide)⟩
  · rw [numR_may ha, numR_may hb] at h
    exact ⟨fun e => absurd e (by decide), fun e => absurd e (by decide), fun _ => decS_inj h, fun e => absurd e (by decide), fun e => absurd e (by decide), fun e => absurd e (by decide)⟩
  · exact ⟨fun e => absurd e (by decide), fun e => absurd e (by decide), fun e => absurd e (by decide), fun _ => bytesS_inj h, fun e => absurd e (by decide), fun e => absurd e (by decide)⟩
  · exact ⟨fun e => absurd e (by decide), fun e => absurd e (by decide), fun e => absurd e (by decide), fun e => absurd e (by decide), fun _ => bytesS_inj h, fun e => absurd e (by decide)⟩
  · rw [listR, if_pos ha, listR, if_pos hb] at h
    exact ⟨fun e => absurd e (by decide), fun e => absurd e (by decide), fun e => absurd e (by decide), fun e => absurd e (by decide), fun e => absurd e (by decide), fun _ => listS_inj ha hb h⟩
theorem bareOn_agree {fs : B8} {a : Op} {f : BitVec 8} (h : f ∈ fs) : agree f (bareOn fs a) a := by
  refine ⟨?_, ?_, ?_, ?_, ?_, ?_⟩ <;> (rintro rfl; simp [bareOn, h])
theorem bareOn_eq {fs : B8} {a b : Op} (hk : a.kind = b.kind) (h : ∀ f ∈ fs, agree f a b) : bareOn fs a = bareOn fs b := by
  have e : ∀ {α : Type} (c : BitVec 8) (x y z : α), (c ∈ fs → x = y) → (if c ∈ fs then x else z) = if c ∈ fs then y else z := fun c x y z hxy => by
    split
    · rename_i hc; exact hxy hc
    · rfl
  unfold bareOn
  rw [hk, e 110#8 a.n b.n 0 (fun hc => (h _ hc).1 rfl), e 109#8 a.m b.m 0 (fun hc => (h _ hc).2.1 rfl), e 107#8 a.k b.k 0 (fun hc => (h _ hc).2.2.1 rfl), e 108#8 a.label b.label [] (fun hc => (h _ hc).2.2.2.1 rfl), e 118#8 a.value b.value [] (fun hc => (h _ hc).2.2.2.2.1 rfl), e 116#8 a.list b.list [] (fun hc => (h _ hc).2.2.2.2.2 rfl)]
theorem bareO_words (o : Op) : wordsO (bareO o) = wordsO o := by
  unfold wordsO
  show (formOf o.kind).1 :: (formOf o.kind).2.map (wordR (bareO o)) = _
  congr 1
  exact List.map_congr_left fun f hf => (agree_word (form_sign _ f hf) (bareOn_agree hf)).1
theorem bareO_lineP (o : Op) : lineP (bareO o) ↔ lineP o := by
  unfold lineP
  show _ ∧ (∀ f ∈ (formOf o.kind).2, wordP (bareO o) f) ↔ _
  exact and_congr Iff.rfl ⟨fun h f hf => (agree_word (form_sign _ f hf) (bareOn_agree hf)).2.1 (h f hf), fun h f hf => (agree_word (form_sign _ f hf) (bareOn_agree hf)).2.2 (h f hf)⟩
theorem names_inj {a b : Int} (ha : 1 ≤ a ∧ a < 16) (hb : 1 ≤ b ∧ b < 16) (h : (formOf a).1 = (formOf b).1) : a = b := by
  have key : ∀ i < 16, ∀ j < 16, (gv0.getD i ([], [])).1 = (gv0.getD j ([], [])).1 → i = j := by decide
  have := key a.toNat (by omega) b.toNat (by omega) h
  omega
theorem lineB_inj {a b : Op} (ha : lineP a) (hb : lineP b) (h : lineB a = lineB b) : bareO a = bareO b := by
  have hw : wordsO a = wordsO b := by rw [← lineB_split ha.1, ← lineB_split hb.1, h]
  unfold wordsO at hw
  obtain ⟨h1, h2⟩ := List.cons.inj hw
  have hk := names_inj ha.1 hb.1 h1
  unfold bareO
  rw [← hk] at h2 ⊢
  refine bareOn_eq hk fun f hf => word_agree (form_sign _ f hf) (ha.2 f hf) (hb.2 f (by rw [← hk]; exact hf)) ?_
  have key : ∀ {l : B8} {p q : BitVec 8 → B8}, l.map p = l.map q → ∀ f ∈ l, p f = q f := by
    intro l p q
    induction l with
    | nil => intro _ f hf; simp at hf
    | cons x r ih =>
      intro e f hf
      simp only [List.map_cons, List.cons.injEq] at e
      rcases List.mem_cons.1 hf with rfl | hf
      · exact e.1
      · exact ih e.2 f hf
  exact key h2 f hf
/-! ## texts of many lines -/
def conc (l : List Op) : B8 := l.flatMap lineS
theorem conc_cons (o : Op) (l : List Op) : conc (o :: l) = lineS o ++ conc l := rfl
theorem conc_app (a b : List Op) : conc (a ++ b) = conc a ++ conc b := List.flatMap_append
theorem conc_snoc (l : List Op) (o : Op) : conc (l ++ [o]) = conc l ++ lineS o := by rw [conc_app]; simp [conc]
theorem line_cut {a b : Op} {x y : B8} (ha : lineP a) (hb : lineP b) (h : lineS a ++ x = lineS b ++ y) : lineB a = lineB b ∧ x = y := by
  rw [lineS_eq, lineS_eq, List.append_assoc, List.append_assoc] at h
  have h1 := cutAt_app (y := x) (lineB_nl ha.1)
  have h2 := cutAt_app (y := y) (lineB_nl hb.1)
  have e : cutAt 10#8 (lineB a ++ 10#8 :: x) = cutAt 10#8 (lineB b ++ 10#8 :: y) := congrArg _ h
  rw [h1, h2] at e
  exact ⟨congrArg Prod.fst e, congrArg Prod.snd e⟩
/-- no line stands ahead -/
def noLine (r : B8) : Prop := ∀ q x, lineP q → r ≠ lineS q ++ x
theorem noLine_nil : noLine [] := fun q x _ h => by
  have := congrArg List.length h; rw [List.length_append] at this; have := lineS_ne q; simp at *; omega
theorem conc_cut : ∀ {a b : List Op} {x y : B8}, allP a → allP b → noLine x → noLine y → conc a ++ x = conc b ++ y → a.map lineB = b.map lineB ∧ x = y
  | [], [], x, y, _, _, _, _, h => ⟨rfl, h⟩
  | [], o :: b, x, y, _, hb, hx, _, h => by
    rw [conc_cons, List.append_assoc] at h
    exact absurd h (hx o _ (hb o (by simp)))
  | o :: a, [], x, y, ha, _, _, hy, h => by
    rw [conc_cons, List.append_assoc] at h
    exact absurd h.symm (hy o _ (ha o (by simp)))
  | o :: a, q :: b, x, y, ha, hb, hx, hy, h => by
    rw [conc_cons, conc_cons, List.append_assoc, List.append_assoc] at h
    have h1 := line_cut (ha o (by simp)) (hb q (by simp)) h
    have h2 := conc_cut (fun o ho => ha o (by simp [ho])) (fun o ho => hb o (by simp [ho])) hx hy h1.2
    exact ⟨by simp [h1.1, h2.1], h2.2⟩
theorem conc_bare {a b : List Op} (ha : allP a) (hb : allP b) (h : a.map lineB = b.map lineB) : a.map bareO = b.map bareO := by
  induction a generalizing b with
  | nil => cases b with
    | nil => rfl
    | cons _ _ => simp at h
  | cons o a ih => cases b with
    | nil => simp at h
    | cons q b =>
      simp only [List.map_cons, List.cons.injEq] at h ⊢
      exact ⟨lineB_inj (ha o (by simp)) (hb q (by simp)) h.1, ih (fun o ho => ha o (by simp [ho])) (fun o ho => hb o (by simp [ho])) h.2⟩
theorem conc_count {l : List Op} (h : allP l) : (conc l).count 10#8 = l.length := by
  induction l with
  | nil => rfl
  | cons o r ih =>
    rw [conc_cons, List.count_append, ih (fun o ho => h o (by simp [ho])), lineS_eq, List.count_append, List.count_eq_zero.2 (lineB_nl (h o (by simp)).1), List.length_cons]
    have : List.count 10#8 [10#8] = 1 := by decide
    omega
theorem accF_conc : ∀ {l : List Op} {t : B8}, allP l → (l.foldl (fun t o => accF t (lineR o)) t).length ≤ 20000 → l.foldl (fun t o => accF t (lineR o)) t = t ++ conc l
  | [], t, _, _ => by simp [conc]
  | o :: r, t, h, hl => by
    have h1 := h o (by simp)
    have h2 : allP r := fun o ho => h o (by simp [ho])
    simp only [List.foldl_cons] at hl ⊢
    by_cases ht : t.length ≤ 20000
    · have e : accF t (lineR o) = t ++ lineS o := by rw [accF, if_pos ht, lineR, if_pos h1]
      rw [e] at hl ⊢
      rw [accF_conc h2 hl, conc_cons, List.append_assoc]
    · have stop : ∀ (r : List Op) (t : B8), 20000 < t.length → r.foldl (fun t o => accF t (lineR o)) t = t := by
        intro r
        induction r with
        | nil => intro t _; rfl
        | cons o r ih =>
          intro t h
          have e : accF t (lineR o) = t := if_neg (by omega)
          simp only [List.foldl_cons]; rw [e]; exact ih t h
      have e : accF t (lineR o) = t := if_neg ht
      rw [e, stop r t (by omega)] at hl
      omega
theorem accW_conc {l : List Op} (h : allP l) (hl : (accW l).length ≤ 20000) : accW l = conc l := by
  have := accF_conc h hl; simpa [accW] using this
theorem conc_accW {l : List Op} (h : allP l) (hl : (conc l).length ≤ 20000) : accW l = conc l := by
  have key : ∀ (l : List Op) (t : B8), allP l → t.length + (conc l).length ≤ 20000 → l.foldl (fun t o => accF t (lineR o)) t = t ++ conc l := by
    intro l
    induction l with
    | nil => intro t _ _; simp [conc]
    | cons o r ih =>
      intro t h hl
      rw [conc_cons, List.length_append] at hl
      have e : accF t (lineR o) = t ++ lineS o := by rw [accF, if_pos (by omega), lineR, if_pos (h o (by simp))]
      simp only [List.foldl_cons]
      rw [e, ih _ (fun o ho => h o (by simp [ho])) (by rw [List.length_append]; omega), conc_cons, List.append_assoc]
  have := key l [] h (by simpa using hl); simpa [accW] using this
/-! ## sizes -/
theorem joinT_ge {sep : B8} : ∀ {r : List B8} {x : B8}, x ∈ r → x.length ≤ ((r.map (sep ++ ·)).flatten).length
  | y :: r, x, h => by
    rw [List.map_cons, List.flatten_cons, List.length_append, List.length_append]
    rcases List.mem_cons.1 h with rfl | h
    · omega
    · have := joinT_ge (sep := sep) h; omega
theorem joinS_ge {sep : B8} {ls : List B8} {x : B8} (h : x ∈ ls) : x.length ≤ (joinS sep ls).length := by
  cases ls with
  | nil => simp at h
  | cons y r =>
    simp only [joinS]
    rw [List.length_append]
    rcases List.mem_cons.1 h with rfl | h
    · omega
    · have := joinT_ge (sep := sep) h; omega
theorem joinT_num {sep : B8} : ∀ {r : List B8}, (∀ x ∈ r, 0 < x.length) → r.length ≤ ((r.map (sep ++ ·)).flatten).length
  | [], _ => by simp
  | y :: r, h => by
    rw [List.map_cons, List.flatten_cons, List.length_append, List.length_append, List.length_cons]
    have h1 := h y (by simp)
    have h2 := joinT_num (sep := sep) (r := r) (fun x hx => h x (by simp [hx]))
    omega
theorem decS_pos (n : Int) : 0 < (decS n).length := by
  unfold decS; split
  · simp
  · exact digN_nz _
theorem listS_ge {l : List Int} (h : mayL l) : l.length ≤ (listS l).length := by
  unfold listS
  split
  · rename_i e; simp [e]
  · rw [mapnum h]
    cases l with
    | nil => simp
    | cons x r =>
      simp only [List.map_cons, joinS]
      rw [List.length_append, List.length_cons]
      have h1 := decS_pos x
      have h2 := joinT_num (sep := [44#8]) (r := r.map decS) (fun y hy => by
        obtain ⟨n, _, rfl⟩ := List.mem_map.1 hy; exact decS_pos n)
      rw [List.length_map] at h2
      omega
theorem bytesS_ge (l : B8) : l.length ≤ (bytesS l).length := by
  unfold bytesS; split
  · rename_i e; simp [e]
  · rw [hexs_len]; omega
theorem word_ge {o : Op} {f : BitVec 8} (hf : f ∈ (formOf o.kind).2) : (wordR o f).length ≤ (lineB o).length := joinS_ge (List.mem_cons_of_mem _ (List.mem_map.2 ⟨f, hf, rfl⟩))
theorem bare_OpZ {o : Op} (h : lineP o) (hb : bareO o = o) (hl : (lineB o).length ≤ 30000) : OpZ o := by
  rw [← hb]
  refine ⟨?_, ?_, ?_⟩
  · show (if 108#8 ∈ (formOf o.kind).2 then o.label else []).length ≤ 30000
    split
    · rename_i hm
      have h1 := word_ge hm
      rw [wordR_108] at h1
      have := bytesS_ge o.label; omega
    · simp
  · show (if 118#8 ∈ (formOf o.kind).2 then o.value else []).length ≤ 30000
    split
    · rename_i hm
      have h1 := word_ge hm
      rw [wordR_118] at h1
      have := bytesS_ge o.value; omega
    · simp
  · show (if 116#8 ∈ (formOf o.kind).2 then o.list else []).length ≤ 30000
    split
    · rename_i hm
      have h1 := word_ge hm
      have h2 : mayL o.list := by simpa [wordP] using h.2 _ hm
      rw [wordR_116, listR, if_pos h2] at h1
      have := listS_ge h2; omega
    · simp
theorem conc_ge {l : List Op} {o : Op} (h : o ∈ l) : (lineB o).length ≤ (conc l).length := by
  induction l with
  | nil => simp at h
  | cons q r ih =>
    rw [conc_cons, List.length_append, lineS_eq, List.length_append]
    rcases List.mem_cons.1 h with rfl | h
    · omega
    · have := ih h; omega
/-! ## lines that no step has -/
theorem words_of {q : Op} {s : B8} {ws : List B8} (hq : lineP q) (h : lineB q = s) (hs : splitC 32#8 s = ws) : (formOf q.kind).1 :: (formOf q.kind).2.map (wordR q) = ws := by
  rw [← hs, ← h, lineB_split hq.1]; rfl
theorem decS_val {n : Int} {l : B8} (h : decS n = l) (h0 : l.head? ≠ some 45#8) : n = valD l := by
  unfold decS at h
  split at h
  · rw [← h] at h0; exact absurd rfl h0
  · rw [← h, valD_digN]; omega
theorem dec_01 (n : Int) : decS n ≠ [48#8, 49#8] := by
  intro h
  have e := decS_val h (by decide)
  have : valD [48#8, 49#8] = 1 := by decide
  rw [this] at e; subst e
  have : decS ((1 : Nat) : Int) = [49#8] := by unfold decS; rw [if_neg (by decide)]; exact digN_lt (by omega)
  rw [this] at h; exact absurd h (by decide)
theorem dec_neg0 (n : Int) : decS n ≠ [45#8, 48#8] := by
  intro h
  unfold decS at h
  split at h
  · have h1 := (List.cons.inj h).2
    have h2 := valD_digN (-n).toNat
    rw [h1] at h2
    have : valD [48#8] = 0 := by decide
    omega
  · have := digN_isD n.toNat 45#8 (by rw [h]; simp)
    exact absurd this (by decide)
theorem dec_big {n : Int} (hn : mayN n) : decS n ≠ [49#8, 48#8, 48#8, 48#8, 48#8, 48#8, 49#8] := by
  intro h
  have e := decS_val h (by decide)
  have : valD [49#8, 48#8, 48#8, 48#8, 48#8, 48#8, 49#8] = 1000001 := by decide
  rw [this] at e; omega
theorem byt_6 (l : B8) : bytesS l ≠ [54#8] := by
  intro h
  unfold bytesS at h
  split at h
  · exact absurd h (by decide)
  · have := congrArg List.length h; rw [hexs_len] at this; simp at this; omega
theorem byt_nil (l : B8) : bytesS l ≠ [] := by
  intro h
  unfold bytesS at h
  split at h
  · exact absurd h (by decide)
  · rename_i hl
    have := congrArg List.length h; rw [hexs_len] at this
    exact hl (List.eq_nil_of_length_eq_zero (by simp at this; omega))
theorem byt_6A (l : B8) : bytesS l ≠ [54#8, 65#8] := by
  intro h
  have := bytesS_mem (l := l) (b := 65#8) (by rw [h]; simp)
  exact absurd this (by decide)
theorem list_12 {l : List Int} (hl : mayL l) : listS l ≠ [49#8, 44#8, 44#8, 50#8] := by
  intro h
  have hne : l ≠ [] := by rintro rfl; exact absurd h (by decide)
  have h1 := listS_split hl hne
  rw [h] at h1
  have h2 : splitC 44#8 [49#8, 44#8, 44#8, 50#8] = [[49#8], [], [50#8]] := by decide
  rw [h2] at h1
  have h3 : ([] : B8) ∈ l.map decS := by rw [← h1]; simp
  obtain ⟨n, _, hn⟩ := List.mem_map.1 h3
  have := decS_pos n; rw [hn] at this; exact absurd this (by decide)
def badL : List B8 := [[],
  [116#8, 105#8, 99#8, 107#8, 32#8],
  [32#8, 116#8, 105#8, 99#8, 107#8],
  [84#8, 105#8, 99#8, 107#8],
  [115#8, 107#8, 101#8, 119#8, 32#8, 49#8],
  [115#8, 107#8, 101#8, 119#8, 32#8, 49#8, 32#8, 48#8, 49#8],
  [115#8, 107#8, 101#8, 119#8, 32#8, 49#8, 32#8, 45#8, 48#8],
  [115#8, 107#8, 101#8, 119#8, 32#8, 49#8, 32#8, 49#8, 48#8, 48#8, 48#8, 48#8, 48#8, 49#8],
  [117#8, 112#8, 100#8, 97#8, 116#8, 101#8, 32#8, 48#8, 32#8, 54#8, 32#8, 45#8],
  [117#8, 112#8, 100#8, 97#8, 116#8, 101#8, 32#8, 48#8, 32#8, 32#8, 45#8],
  [115#8, 101#8, 110#8, 100#8, 32#8, 48#8, 32#8, 54#8, 65#8],
  [114#8, 101#8, 115#8, 116#8, 97#8, 114#8, 116#8, 32#8, 48#8, 32#8, 49#8, 44#8, 44#8, 50#8],
  [114#8, 101#8, 115#8, 116#8, 97#8, 114#8, 116#8, 32#8, 48#8],
  [102#8, 117#8, 115#8, 101#8, 32#8, 48#8, 32#8, 49#8, 32#8, 49#8]]
theorem bad_0 {q : Op} (hq : lineP q) : lineB q ≠ [] := by
  intro h
  have hw := words_of hq h (ws := [[]]) (by decide)
  have hP := hq.2
  rcases kinds15 hq.1 with e | e | e | e | e | e | e | e | e | e | e | e | e | e | e <;> rw [e] at hw hP <;> simp [formOf, gv0, List.getD] at hw
theorem bad_1 {q : Op} (hq : lineP q) : lineB q ≠ [116#8, 105#8, 99#8, 107#8, 32#8] := by
  intro h
  have hw := words_of hq h (ws := [[116#8, 105#8, 99#8, 107#8], []]) (by decide)
  have hP := hq.2
  rcases kinds15 hq.1 with e | e | e | e | e | e | e | e | e | e | e | e | e | e | e <;> rw [e] at hw hP <;> simp [formOf, gv0, List.getD] at hw
theorem bad_2 {q : Op} (hq : lineP q) : lineB q ≠ [32#8, 116#8, 105#8, 99#8, 107#8] := by
  intro h
  have hw := words_of hq h (ws := [[], [116#8, 105#8, 99#8, 107#8]]) (by decide)
  have hP := hq.2
  rcases kinds15 hq.1 with e | e | e | e | e | e | e | e | e | e | e | e | e | e | e <;> rw [e] at hw hP <;> simp [formOf, gv0, List.getD] at hw
theorem bad_3 {q : Op} (hq : lineP q) : lineB q ≠ [84#8, 105#8, 99#8, 107#8] := by
  intro h
  have hw := words_of hq h (ws := [[84#8, 105#8, 99#8, 107#8]]) (by decide)
  have hP := hq.2
  rcases kinds15 hq.1 with e | e | e | e | e | e | e | e | e | e | e | e | e | e | e <;> rw [e] at hw hP <;> simp [formOf, gv0, List.getD] at hw
theorem bad_4 {q : Op} (hq : lineP q) : lineB q ≠ [115#8, 107#8, 101#8, 119#8, 32#8, 49#8] := by
  intro h
  have hw := words_of hq h (ws := [[115#8, 107#8, 101#8, 119#8], [49#8]]) (by decide)
  have hP := hq.2
  rcases kinds15 hq.1 with e | e | e | e | e | e | e | e | e | e | e | e | e | e | e <;> rw [e] at hw hP <;> simp [formOf, gv0, List.getD] at hw
theorem bad_5 {q : Op} (hq : lineP q) : lineB q ≠ [115#8, 107#8, 101#8, 119#8, 32#8, 49#8, 32#8, 48#8, 49#8] := by
  intro h
  have hw := words_of hq h (ws := [[115#8, 107#8, 101#8, 119#8], [49#8], [48#8, 49#8]]) (by decide)
  have hP := hq.2
  rcases kinds15 hq.1 with e | e | e | e | e | e | e | e | e | e | e | e | e | e | e <;> rw [e] at hw hP <;> simp [formOf, gv0, List.getD] at hw
  exact dec_01 _ (by rw [← numR_may (hP 109#8 (by decide))]; exact hw.2)
theorem bad_6 {q : Op} (hq : lineP q) : lineB q ≠ [115#8, 107#8, 101#8, 119#8, 32#8, 49#8, 32#8, 45#8, 48#8] := by
  intro h
  have hw := words_of hq h (ws := [[115#8, 107#8, 101#8, 119#8], [49#8], [45#8, 48#8]]) (by decide)
  have hP := hq.2
  rcases kinds15 hq.1 with e | e | e | e | e | e | e | e | e | e | e | e | e | e | e <;> rw [e] at hw hP <;> simp [formOf, gv0, List.getD] at hw
  exact dec_neg0 _ (by rw [← numR_may (hP 109#8 (by decide))]; exact hw.2)
theorem bad_7 {q : Op} (hq : lineP q) : lineB q ≠ [115#8, 107#8, 101#8, 119#8, 32#8, 49#8, 32#8, 49#8, 48#8, 48#8, 48#8, 48#8, 48#8, 49#8] := by
  intro h
  have hw := words_of hq h (ws := [[115#8, 107#8, 101#8, 119#8], [49#8], [49#8, 48#8, 48#8, 48#8, 48#8, 48#8, 49#8]]) (by decide)
  have hP := hq.2
  rcases kinds15 hq.1 with e | e | e | e | e | e | e | e | e | e | e | e | e | e | e <;> rw [e] at hw hP <;> simp [formOf, gv0, List.getD] at hw
  exact dec_big (hP 109#8 (by decide)) (by rw [← numR_may (hP 109#8 (by decide))]; exact hw.2)
theorem bad_8 {q : Op} (hq : lineP q) : lineB q ≠ [117#8, 112#8, 100#8, 97#8, 116#8, 101#8, 32#8, 48#8, 32#8, 54#8, 32#8, 45#8] := by
  intro h
  have hw := words_of hq h (ws := [[117#8, 112#8, 100#8, 97#8, 116#8, 101#8], [48#8], [54#8], [45#8]]) (by decide)
  have hP := hq.2
  rcases kinds15 hq.1 with e | e | e | e | e | e | e | e | e | e | e | e | e | e | e <;> rw [e] at hw hP <;> simp [formOf, gv0, List.getD] at hw
  exact byt_6 _ hw.2.1
theorem bad_9 {q : Op} (hq : lineP q) : lineB q ≠ [117#8, 112#8, 100#8, 97#8, 116#8, 101#8, 32#8, 48#8, 32#8, 32#8, 45#8] := by
  intro h
  have hw := words_of hq h (ws := [[117#8, 112#8, 100#8, 97#8, 116#8, 101#8], [48#8], [], [45#8]]) (by decide)
  have hP := hq.2
  rcases kinds15 hq.1 with e | e | e | e | e | e | e | e | e | e | e | e | e | e | e <;> rw [e] at hw hP <;> simp [formOf, gv0, List.getD] at hw
  exact byt_nil _ hw.2.1
theorem bad_10 {q : Op} (hq : lineP q) : lineB q ≠ [115#8, 101#8, 110#8, 100#8, 32#8, 48#8, 32#8, 54#8, 65#8] := by
  intro h
  have hw := words_of hq h (ws := [[115#8, 101#8, 110#8, 100#8], [48#8], [54#8, 65#8]]) (by decide)
  have hP := hq.2
  rcases kinds15 hq.1 with e | e | e | e | e | e | e | e | e | e | e | e | e | e | e <;> rw [e] at hw hP <;> simp [formOf, gv0, List.getD] at hw
  exact byt_6A _ hw.2
theorem bad_11 {q : Op} (hq : lineP q) : lineB q ≠ [114#8, 101#8, 115#8, 116#8, 97#8, 114#8, 116#8, 32#8, 48#8, 32#8, 49#8, 44#8, 44#8, 50#8] := by
  intro h
  have hw := words_of hq h (ws := [[114#8, 101#8, 115#8, 116#8, 97#8, 114#8, 116#8], [48#8], [49#8, 44#8, 44#8, 50#8]]) (by decide)
  have hP := hq.2
  rcases kinds15 hq.1 with e | e | e | e | e | e | e | e | e | e | e | e | e | e | e <;> rw [e] at hw hP <;> simp [formOf, gv0, List.getD] at hw
  exact list_12 (hP 116#8 (by decide)) (by have h2 := hw.2; rw [wordR_116, listR, if_pos (show mayL q.list from hP 116#8 (by decide))] at h2; exact h2)
theorem bad_12 {q : Op} (hq : lineP q) : lineB q ≠ [114#8, 101#8, 115#8, 116#8, 97#8, 114#8, 116#8, 32#8, 48#8] := by
  intro h
  have hw := words_of hq h (ws := [[114#8, 101#8, 115#8, 116#8, 97#8, 114#8, 116#8], [48#8]]) (by decide)
  have hP := hq.2
  rcases kinds15 hq.1 with e | e | e | e | e | e | e | e | e | e | e | e | e | e | e <;> rw [e] at hw hP <;> simp [formOf, gv0, List.getD] at hw
theorem bad_13 {q : Op} (hq : lineP q) : lineB q ≠ [102#8, 117#8, 115#8, 101#8, 32#8, 48#8, 32#8, 49#8, 32#8, 49#8] := by
  intro h
  have hw := words_of hq h (ws := [[102#8, 117#8, 115#8, 101#8], [48#8], [49#8], [49#8]]) (by decide)
  have hP := hq.2
  rcases kinds15 hq.1 with e | e | e | e | e | e | e | e | e | e | e | e | e | e | e <;> rw [e] at hw hP <;> simp [formOf, gv0, List.getD] at hw
theorem bad_all {q : Op} (hq : lineP q) : ∀ x ∈ badL, lineB q ≠ x := by
  intro x hx
  simp only [badL, List.mem_cons, List.not_mem_nil, or_false] at hx
  rcases hx with rfl | rfl | rfl | rfl | rfl | rfl | rfl | rfl | rfl | rfl | rfl | rfl | rfl | rfl
  · exact bad_0 hq
  · exact bad_1 hq
  · exact bad_2 hq
  · exact bad_3 hq
  · exact bad_4 hq
  · exact bad_5 hq
  · exact bad_6 hq
  · exact bad_7 hq
  · exact bad_8 hq
  · exact bad_9 hq
  · exact bad_10 hq
  · exact bad_11 hq
  · exact bad_12 hq
  · exact bad_13 hq
theorem bad_nl : ∀ x ∈ badL, 10#8 ∉ x := by decide
theorem bad_noLine {x b : B8} (hx : x ∈ badL) : noLine (x ++ 10#8 :: b) := by
  intro q y hq h
  rw [lineS_eq, List.append_assoc] at h
  have h1 := cutAt_app (y := b) (bad_nl x hx)
  have h2 := cutAt_app (y := y) (lineB_nl hq.1)
  rw [h] at h1
  have e : (lineB q, y) = (x, b) := h2.symm.trans h1
  exact bad_all hq x hx (congrArg Prod.fst e)
theorem noend_noLine {x : B8} (h : 10#8 ∉ x) : noLine x := by
  intro q y hq e
  apply h; rw [e, lineS_eq]; simp
end Go.Proofs.YtkcicejnkdobpaaDoor

namespace Go.Proofs.YtkcicejnkdobpaaDoor
set_option linter.all false
open Go.RowKit
/-! strings.Cut, strings.Split, and what takes fields -/
def slcut_c : Ctr where
  D := B8 × BitVec 8
  pre := fun (s, _) => s.length ≤ 1000000
  args := fun (s, c) => [.str s, .str [c]]
  res := fun (s, c) _ => .tup [.str (cutAt c s).1, .str (cutAt c s).2, .dec (c ∈ s) inferInstance]
theorem cut_pos (c : BitVec 8) (s : B8) (h : c ∈ s) : cutL s none (some ((cutAt c s).1.length : Int)) = (cutAt c s).1 ∧ cutL s (some (((cutAt c s).1.length : Int) + 1)) none = (cutAt c s).2 := by
  have e := cutAt_in h
  have key : ∀ (x y : B8), (x ++ c :: y).take x.length = x ∧ (x ++ c :: y).drop (x.length + 1) = y := fun x y => by simp
  have k := key (cutAt c s).1 (cutAt c s).2
  rw [← e] at k
  have e2 : (((cutAt c s).1.length : Int) + 1).toNat = (cutAt c s).1.length + 1 := by omega
  simp only [cutL, Int.toNat_natCast, e2]
  exact k
def slcut_H : Cfg := ⟨[(49, ixl_c)], [(3, [], [], (.one 0 0 false (.one 1 0 false (.one 2 0 false (.one 3 0 false (.one 4 0 false (.one 5 0 false (.one 6 0 false (.one 7 0 false (.one 8 0 false (.one 9 0 false (.one 10 0 false (.one 11 0 false .nil)))))))))))), [])], [], [], 23, 0, [], [], []⟩
theorem slcut_ok : slcut_c.Ok Tryd.prog 38 := by
  refine fn_ok slcut_H 0 rfl _ Tryd.func38 rfl rfl ⟨ixl_ok, trivial⟩ rfl rfl (by kernel_rfl) (fun _ => Nat.le_of_ble_eq_true rfl) ?_
  rintro ⟨s, c⟩ hp hr
  try dsimp only [slcut_c] at hp
  try simp only [slcut_c, Rng, RngL, inR, and_true, true_and] at hr
  have hpx : ixl_c.pre (s, c) := hp
  by_cases h : c ∈ s
  · have e : ixC c s = ((cutAt c s).1.length : Int) := if_pos h
    have hl := congrArg List.length (cutAt_in h)
    rw [List.length_append, List.length_cons] at hl
    obtain ⟨e1, e2⟩ := cut_pos c s h
    repeat' (first | (with_reducible refine Unf.h ?_) | ((conv => whnf); first | refine Fork.mk (fun h => ?_) (fun h => ?_) | (refine Side.mk ?_ ?_; focus (first | with_reducible rfl | assumption | omega | (intros; (try simp only [lenS, inR, cutS, loI, hiI, e, e1, e2] at *); omega) | (refine ⟨fun h => ?_, fun h => ?_⟩ <;> first | rfl | (cases h; done) | omega | (exfalso; omega) | (simp only [Bool.false_eq_true] at h; done)) | (simp only [*, e, e1, e2]; done) | (simp [*, e, e1, e2]; done))) | refine RetE.mk () trivial ?_ | refine Got.mk (fun _ _ => ?_) | refine retK_r ?_ | exact rfl | refine CallS.mk (c := ixl_c) ((s, c)) ?_) | fail); all_goals try (conv => whnf)
  · have e : ixC c s = -1 := if_neg h
    have e1 := cutAt_out h
    repeat' (first | (with_reducible refine Unf.h ?_) | ((conv => whnf); first | refine Fork.mk (fun h => ?_) (fun h => ?_) | (refine Side.mk ?_ ?_; focus (first | with_reducible rfl | assumption | omega | (simp only [*, e, e1]; done) | (simp only [*, e, e1, List.map_cons, List.map_nil, eB]; done) | (simp [*, e, e1]; done))) | refine RetE.mk () trivial ?_ | refine Got.mk (fun _ _ => ?_) | refine retK_r ?_ | exact rfl | refine CallS.mk (c := ixl_c) ((s, c)) ?_) | fail); all_goals try (conv => whnf)
def cut_c : Ctr where
  D := B8 × BitVec 8
  pre := fun (s, _) => s.length ≤ 1000000
  args := fun (s, c) => [.str s, .str [c]]
  res := fun (s, c) _ => .tup [.str (cutAt c s).1, .str (cutAt c s).2, .dec (c ∈ s) inferInstance]
def cut_H : Cfg := ⟨[(38, slcut_c)], [], [], [], 13, 0, [], [], []⟩
theorem cut_ok : cut_c.Ok Tryd.prog 21 := by
  refine fn_ok cut_H 0 rfl _ Tryd.func21 rfl rfl ⟨slcut_ok, trivial⟩ rfl rfl (by kernel_rfl) (fun _ => Nat.le_of_ble_eq_true rfl) ?_
  rintro ⟨s, c⟩ hp hr
  try dsimp only [cut_c] at hp
  try simp only [cut_c, Rng, RngL, inR, and_true, true_and] at hr
  have hpx : slcut_c.pre (s, c) := hp
  repeat' (first | (with_reducible refine Unf.h ?_) | ((conv => whnf); first | (refine Side.mk ?_ ?_; focus (first | with_reducible rfl | assumption)) | refine RetE.mk () trivial ?_ | refine Got.mk (fun _ _ => ?_) | refine retK_r ?_ | exact rfl | refine CallS.mk (c := slcut_c) ((s, c)) ?_) | fail); all_goals try (conv => whnf)
def split_c : Ctr where
  D := B8 × BitVec 8
  pre := fun (s, _) => s.length ≤ 1000000
  args := fun (s, c) => [.str s, .str [c]]
  res := fun (s, c) _ => .fs 1 eStr (splitC c s)
def split_H : Cfg := ⟨[(50, gs_c)], [], [], [], 8, 0, [], [], []⟩
theorem split_ok : split_c.Ok Tryd.prog 39 := by
  refine fn_ok split_H 0 rfl _ Tryd.func39 rfl rfl ⟨gs_ok, trivial⟩ rfl rfl (by kernel_rfl) (fun _ => Nat.le_of_ble_eq_true rfl) ?_
  rintro ⟨s, c⟩ hp hr
  try dsimp only [split_c] at hp
  try simp only [split_c, Rng, RngL, inR, and_true, true_and] at hr
  have hpx : gs_c.pre (s, c) := hp
  repeat' (first | (with_reducible refine Unf.h ?_) | ((conv => whnf); first | (refine Side.mk ?_ ?_; focus (first | with_reducible rfl | assumption)) | refine RetE.mk () trivial ?_ | refine Got.mk (fun _ _ => ?_) | refine retK_r ?_ | exact rfl | refine CallS.mk (c := gs_c) ((s, c)) ?_) | fail); all_goals try (conv => whnf)
def cutY_c : Ctr where
  D := B8
  args := fun d => [.str (45#8 :: d), .str [45#8]]
  res := fun d _ => .tup [.str d, .bool true]
def cutN_c : Ctr where
  D := B8
  pre := fun d => ¬ d.head? = some 45#8
  args := fun d => [.str d, .str [45#8]]
  res := fun d _ => .tup [.str d, .bool false]
theorem cutY_ok : cutY_c.Ok Tryd.prog 61 := by
  intro (d : B8) _ A0 w σ vs hA hobs hargs hdom hgl
  refine (cutp_ok (45#8 :: d, 45#8) trivial A0 w σ vs hA hobs hargs hdom hgl).mono ?_
  rintro e w' ⟨e', v, σ', h1, h2, h3, h4, h5, h6⟩
  refine ⟨(), v, σ', h1, trivial, h3, h4, ?_, h6⟩
  simpa [cutp_c, cutY_c, SV.hv, hvs, SV.h1, SV.hc] using h5
theorem cutN_ok : cutN_c.Ok Tryd.prog 61 := by
  intro (d : B8) (hp : ¬ d.head? = some 45#8) A0 w σ vs hA hobs hargs hdom hgl
  refine (cutp_ok (d, 45#8) trivial A0 w σ vs hA hobs hargs hdom hgl).mono ?_
  rintro e w' ⟨e', v, σ', h1, h2, h3, h4, h5, h6⟩
  refine ⟨(), v, σ', h1, trivial, h3, h4, ?_, h6⟩
  simpa [cutp_c, cutN_c, SV.hv, hvs, SV.h1, SV.hc, hp] using h5
abbrev tnPost (s : B8) (r : Int × Bool) : Prop := (r.2 = true → mayN r.1 ∧ decS r.1 = s) ∧ (r.2 = false → ∀ n, mayN n → decS n ≠ s)
def tn_c : Ctr where
  D := B8
  pre := fun s => s.length ≤ 1000000
  args := fun s => [.str s]
  E := Int × Bool
  post := fun s r => tnPost s r
  res := fun _ r => .tup [.int .i64 r.1, .bool r.2]
theorem valD_lt {l : B8} (h : ∀ b ∈ l, isD b) (hl : l.length ≤ 7) : valD l ≤ 9999999 := by
  have key : ∀ (k : Nat) (l : B8), (∀ b ∈ l, isD b) → l.length = k → valD l < 10 ^ k := by
    intro k
    induction k with
    | zero => intro l _ h; rw [List.eq_nil_of_length_eq_zero h]; decide
    | succ k ih =>
      intro l hd hl
      have hne : l ≠ [] := by rintro rfl; simp at hl
      obtain ⟨q, b, rfl⟩ : ∃ q b, l = q ++ [b] := ⟨l.dropLast, l.getLast hne, (List.dropLast_concat_getLast hne).symm⟩
      have h1 := ih q (fun b hb => hd b (List.mem_append_left _ hb)) (by simpa using hl)
      obtain ⟨h2, h3⟩ := hd b (by simp)
      rw [valD_snoc, Nat.pow_succ]; omega
  have h1 := key l.length l h rfl
  have h2 : 10 ^ l.length ≤ 10 ^ 7 := Nat.pow_le_pow_right (by omega) hl
  omega
theorem valD_take {l : B8} {i : Nat} (h : i < l.length) : valD (l.take (i + 1)) = 10 * valD (l.take i) + (l[i].toNat - 48) := by
  rw [List.take_succ_eq_append_getElem h, valD_snoc]
theorem isD_take {l : B8} {i : Nat} (h : i < l.length) (h1 : ∀ b ∈ l.take i, isD b) (h2 : isD l[i]) : ∀ b ∈ l.take (i + 1), isD b := by
  intro b hb
  rw [List.take_succ_eq_append_getElem h] at hb
  rcases List.mem_append.1 hb with hb | hb
  · exact h1 b hb
  · rw [List.mem_singleton.1 hb]; exact h2
theorem sub48 {b : BitVec 8} (h : isD b) : (b - 48#8).toNat = b.toNat - 48 := by
  obtain ⟨h1, h2⟩ := h
  rw [BitVec.toNat_sub]
  have : (48#8).toNat = 48 := rfl
  rw [this]; omega
theorem no_nil {d : B8} (h : d.length = 0) (m : Nat) : digN m ≠ d := fun e => by have := digN_nz m; rw [e] at this; omega
theorem no_long {d : B8} (h : 7 < d.length) (m : Nat) (hm : m ≤ 1000000) : digN m ≠ d := fun e => by have := digN_len 6 m (by omega); rw [e] at this; omega
theorem no_zero {d : B8} (h0 : 0 < d.length) (h : d[0] = 48#8) (h1 : 1 < d.length) (m : Nat) : digN m ≠ d := fun e => by
  cases d with
  | nil => simp at h0
  | cons b r => have := digN_head m e h; rw [this.2] at h1; simp at h1
theorem no_zeroY {d : B8} (h0 : 0 < d.length) (h : d[0] = 48#8) (m : Nat) (hm : 0 < m) : digN m ≠ d := fun e => by
  cases d with
  | nil => simp at h0
  | cons b r => have := digN_head m e h; omega
theorem no_sign {d : B8} {i : Nat} (hi : i < d.length) (h : ¬ isD d[i]) (m : Nat) : digN m ≠ d := fun e => by
  subst e; exact h (digN_isD m _ (List.getElem_mem hi))
theorem dg_val {d : B8} (hd : ∀ b ∈ d, isD b) (h0 : 0 < d.length) (hz : d[0] = 48#8 → d.length ≤ 1) : digN (valD d) = d :=
  digN_valD d hd (fun e => by rw [e] at h0; simp at h0) fun b r e eb => by
    subst e
    have := hz eb
    cases r with
    | nil => rfl
    | cons _ _ => simp at this
def tnN_c : Ctr where
  D := B8
  pre := fun d => d.length ≤ 1000000 ∧ ¬ d.head? = some 45#8
  args := fun d => [.str d]
  E := Int × Bool
  post := fun d r => tnPost d r
  res := fun _ r => .tup [.int .i64 r.1, .bool r.2]
theorem tnN_no {d : B8} (hh : ¬ d.head? = some 45#8) (h : ∀ m, m ≤ 1000000 → digN m ≠ d) : tnN_c.post d (0, false) := by
  refine ⟨fun h => absurd h (by decide), fun _ n hn e => ?_⟩
  unfold decS at e
  split at e
  · rw [← e] at hh; exact hh rfl
  · exact h n.toNat (by omega) e
theorem tnN_end {d : B8} (hh : ¬ d.head? = some 45#8) (h : digN (valD d) = d) : tnN_c.post d ((valD d : Int), decide (mayN ((valD d : Int)))) := by
  have e : decS ((valD d : Int)) = d := by
    unfold decS
    rw [if_neg (by omega), Int.toNat_natCast, h]
  refine ⟨fun hm => ⟨of_decide_eq_true hm, e⟩, fun hm n hn en => ?_⟩
  have := of_decide_eq_false hm
  rw [← e] at en
  rw [decS_inj en] at hn
  exact this hn
set_option maxHeartbeats 1000000 in
def tnN_H : Cfg := ⟨[(61, cutN_c)], [], [], [], 68, 0, [], [], []⟩
theorem tnN_ok : tnN_c.Ok Tryd.prog 51 := by
  refine fn_ok tnN_H 0 rfl _ Tryd.func51 rfl rfl ⟨cutN_ok, trivial⟩ rfl rfl (by kernel_rfl) (fun _ => Nat.le_of_ble_eq_true rfl) ?_
  intro (d : B8) hp hr
  try dsimp only [tnN_c] at hp
  try simp only [tnN_c, Rng, RngL, inR, and_true, true_and] at hr
  obtain ⟨hdl, hh⟩ := hp
  have hpc : cutN_c.pre d := hh
  have hno := fun h => tnN_no (d := d) hh h
  repeat' (first | (with_reducible refine Unf.h ?_) | fail); all_goals try (conv => whnf)
  refine CallS.mk (c := cutN_c) d ?_
  repeat' (first | (with_reducible refine Unf.h ?_) | ((conv => whnf); first | refine Fork.mk (fun h => ?_) (fun h => ?_) | (refine Side.mk ?_ ?_; focus (first | with_reducible rfl | assumption | omega | (simp [*]; done))) | (refine Idx.mk ?_ ?_; focus (omega)) | refine Got.mk (fun _ _ => ?_) | refine retK_r ?_) | fail); all_goals try (conv => whnf)
  · exact RetE.mk (0, false) (hno fun m _ => no_nil (by omega) m) (by repeat' (first | (with_reducible refine Unf.h ?_) | ((conv => whnf); first | (refine Side.mk ?_ ?_; focus (with_reducible rfl)) | (with_reducible refine Unf.h ?_) | exact rfl) | fail); all_goals try (conv => whnf))
  · exact RetE.mk (0, false) (hno fun m hm => no_long (by omega) m hm) (by repeat' (first | (with_reducible refine Unf.h ?_) | ((conv => whnf); first | (refine Side.mk ?_ ?_; focus (with_reducible rfl)) | (with_reducible refine Unf.h ?_) | exact rfl) | fail); all_goals try (conv => whnf))
  · exact RetE.mk (0, false) (hno fun m _ => no_zero (by omega) (by assumption) (by omega) m) (by repeat' (first | (with_reducible refine Unf.h ?_) | ((conv => whnf); first | (refine Side.mk ?_ ?_; focus (with_reducible rfl)) | (with_reducible refine Unf.h ?_) | exact rfl) | fail); all_goals try (conv => whnf))
  all_goals (
    have h0 : 0 < d.length := by omega
    have h7 : d.length ≤ 7 := by omega
    have hz : d[0]'h0 = 48#8 → d.length ≤ 1 := by
      intro e
      first | omega | exact absurd e (by assumption)
    clear hno
    refine LoopS.autoN (I := Nat) (fun i => i ≤ d.length ∧ ∀ b ∈ d.take i, isD b) (fun i => [(36, .int .i64 i), (6, .int .i64 (valD (d.take i) : Int))]) (fun _ => []) 0 (fun i => d.length - i) 0 ⟨Nat.zero_le _, fun b hb => absurd hb List.not_mem_nil⟩ ?_ ?_
    · have e : valD (d.take 0) = 0 := rfl
      repeat' (first | (with_reducible refine Unf.h ?_) | ((conv => whnf); first | (refine Side.mk ?_ ?_; focus (first | with_reducible rfl | (refine congrArg (SV.int _) ?_; omega))) | (with_reducible refine Unf.h ?_) | exact True.intro) | fail); all_goals try (conv => whnf)
    rintro i ⟨hi, hm⟩
    have hv := valD_lt hm (by rw [List.length_take]; omega)
    have hno := fun h => tnN_no (d := d) hh h
    have h48 : (48#8).toNat = 48 := rfl
    have h57 : (57#8).toNat = 57 := rfl
    repeat' (first | (with_reducible first | refine Unf.h ?_ | refine loopK_n ?_) | ((conv => whnf); first | refine Fork.mk (fun h => ?_) (fun h => ?_) | (refine Side.mk ?_ ?_; focus ((intros; (try simp only [lenS, inR, cutS, loI, hiI] at *); omega))) | (refine Idx.mk ?_ ?_; focus (omega)) | refine retK_r ?_) | fail); all_goals try (conv => whnf)
    · have hil : i < d.length := by omega
      have hs : ¬ isD (d[i]'hil) := fun hd => by
        have h2 : (d[i]'hil).toNat < (48#8).toNat := h
        have := hd.1; omega
      exact RetE.mk (0, false) (hno fun m _ => no_sign hil hs m) (by repeat' (first | (with_reducible refine Unf.h ?_) | ((conv => whnf); first | (refine Side.mk ?_ ?_; focus (with_reducible rfl)) | (with_reducible refine Unf.h ?_) | exact rfl) | fail); all_goals try (conv => whnf))
    · have hil : i < d.length := by omega
      have hs : ¬ isD (d[i]'hil) := fun hd => by
        have h2 : (57#8).toNat < (d[i]'hil).toNat := h
        have := hd.2; omega
      exact RetE.mk (0, false) (hno fun m _ => no_sign hil hs m) (by repeat' (first | (with_reducible refine Unf.h ?_) | ((conv => whnf); first | (refine Side.mk ?_ ?_; focus (with_reducible rfl)) | (with_reducible refine Unf.h ?_) | exact rfl) | fail); all_goals try (conv => whnf))
    · rename_i c1 c2
      have hil : i < d.length := by omega
      have hs : isD (d[i]'hil) := ⟨by have h2 : ¬ (d[i]'hil).toNat < (48#8).toNat := c2; omega, by have h2 : ¬ (57#8).toNat < (d[i]'hil).toNat := h; omega⟩
      have e : (10 * (valD (d.take i) : Int) + ((d[((i : Nat) : Int).toNat]'hil - 48#8).toNat : Int)) = (valD (d.take (i + 1)) : Int) := by
        rw [valD_take hil]
        have := sub48 hs
        show 10 * (valD (d.take i) : Int) + (((d[i]'hil) - 48#8).toNat : Int) = _
        rw [this]; omega
      clear hno hs
      refine ⟨i + 1, ⟨by omega, by omega, isD_take hil hm ⟨by have h2 : ¬ (d[i]'hil).toNat < (48#8).toNat := c2; omega, by have h2 : ¬ (57#8).toNat < (d[i]'hil).toNat := h; omega⟩⟩, ?_⟩
      repeat' (first | (with_reducible refine Unf.h ?_) | ((conv => whnf); first | (refine Side.mk ?_ ?_; focus (first | with_reducible rfl | (refine congrArg (SV.int _) ?_; omega))) | (with_reducible refine Unf.h ?_) | exact True.intro) | fail); all_goals try (conv => whnf)
    all_goals (
      have ht : d.take i = d := List.take_of_length_le (by omega)
      rw [ht] at hm hv h ⊢
      have hdg : digN (valD d) = d := dg_val hm h0 hz
      skip
      first
        | (exfalso; omega)
        | (refine RetE.mk ((valD d : Int), decide (mayN ((valD d : Int)))) (tnN_end hh hdg) ?_
           repeat' (first | (with_reducible refine Unf.h ?_) | ((conv => whnf); first | (refine Side.mk ?_ ?_; focus (first | with_reducible rfl | exact decide_eq_decide.2 (by omega))) | (with_reducible refine Unf.h ?_) | exact rfl) | fail); all_goals try (conv => whnf)
           first | done | (refine Side.mk ?_ ?_; (focus (show _ ↔ _; simp only [decide_eq_true_eq, mayN]; omega)); (all_goals try (conv => whnf))))))
def tnY_c : Ctr where
  D := B8
  pre := fun d => d.length ≤ 1000000
  args := fun d => [.str (45#8 :: d)]
  E := Int × Bool
  post := fun d r => tnPost (45#8 :: d) r
  res := fun _ r => .tup [.int .i64 r.1, .bool r.2]
theorem tnY_no {d : B8} (h : ∀ m, 0 < m → m ≤ 1000000 → digN m ≠ d) : tnY_c.post d (0, false) := by
  refine ⟨fun h => absurd h (by decide), fun _ n hn e => ?_⟩
  unfold decS at e
  split at e
  · exact h (-n).toNat (by omega) (by omega) (List.cons.inj e).2
  · have := digN_isD n.toNat 45#8 (by rw [e]; simp)
    exact absurd this (by decide)
theorem tnY_end {d : B8} (h : digN (valD d) = d) (hp : 0 < valD d) : tnY_c.post d (-(valD d : Int), decide (mayN (-(valD d : Int)))) := by
  have e : decS (-(valD d : Int)) = 45#8 :: d := by
    unfold decS
    rw [if_pos (by omega), Int.neg_neg, Int.toNat_natCast, h]
  refine ⟨fun hm => ⟨of_decide_eq_true hm, e⟩, fun hm n hn en => ?_⟩
  have := of_decide_eq_false hm
  rw [← e] at en
  rw [decS_inj en] at hn
  exact this hn
set_option maxHeartbeats 1000000 in
def tnY_H : Cfg := ⟨[(61, cutY_c)], [], [], [], 68, 0, [], [], []⟩
theorem tnY_ok : tnY_c.Ok Tryd.prog 51 := by
  refine fn_ok tnY_H 0 rfl _ Tryd.func51 rfl rfl ⟨cutY_ok, trivial⟩ rfl rfl (by kernel_rfl) (fun _ => Nat.le_of_ble_eq_true rfl) ?_
  intro (d : B8) hp hr
  try dsimp only [tnY_c] at hp
  try simp only [tnY_c, Rng, RngL, inR, and_true, true_and] at hr
  have hdl : d.length ≤ 1000000 := hp
  have hpc : cutY_c.pre d := trivial
  have hno := fun h => tnY_no (d := d) h
  repeat' (first | (with_reducible refine Unf.h ?_) | fail); all_goals try (conv => whnf)
  refine CallS.mk (c := cutY_c) d ?_
  repeat' (first | (with_reducible refine Unf.h ?_) | ((conv => whnf); first | refine Fork.mk (fun h => ?_) (fun h => ?_) | (refine Side.mk ?_ ?_; focus (first | with_reducible rfl | exact True.intro | omega | (simp [*]; done))) | (refine Idx.mk ?_ ?_; focus (omega)) | refine Got.mk (fun _ _ => ?_) | refine retK_r ?_) | fail); all_goals try (conv => whnf)
  · exact RetE.mk (0, false) (hno fun m _ _ => no_nil (by omega) m) (by repeat' (first | (with_reducible refine Unf.h ?_) | ((conv => whnf); first | (refine Side.mk ?_ ?_; focus (with_reducible rfl)) | (with_reducible refine Unf.h ?_) | exact rfl) | fail); all_goals try (conv => whnf))
  · exact RetE.mk (0, false) (hno fun m _ hm => no_long (by omega) m hm) (by repeat' (first | (with_reducible refine Unf.h ?_) | ((conv => whnf); first | (refine Side.mk ?_ ?_; focus (with_reducible rfl)) | (with_reducible refine Unf.h ?_) | exact rfl) | fail); all_goals try (conv => whnf))
  · exact RetE.mk (0, false) (hno fun m h0 _ => no_zeroY (by omega) (by assumption) m h0) (by repeat' (first | (with_reducible refine Unf.h ?_) | ((conv => whnf); first | (refine Side.mk ?_ ?_; focus (with_reducible rfl)) | (with_reducible refine Unf.h ?_) | exact rfl) | fail); all_goals try (conv => whnf))
  · exact RetE.mk (0, false) (hno fun m h0 _ => no_zeroY (by omega) (by assumption) m h0) (by repeat' (first | (with_reducible refine Unf.h ?_) | ((conv => whnf); first | (refine Side.mk ?_ ?_; focus (with_reducible rfl)) | (with_reducible refine Unf.h ?_) | exact rfl) | fail); all_goals try (conv => whnf))
  all_goals (
    have h0 : 0 < d.length := by omega
    have h7 : d.length ≤ 7 := by omega
    have hz : d[0]'h0 = 48#8 → False := by
      intro e
      first | omega | exact absurd e (by assumption)
    clear hno
    refine LoopS.autoN (I := Nat) (fun i => i ≤ d.length ∧ ∀ b ∈ d.take i, isD b) (fun i => [(36, .int .i64 i), (6, .int .i64 (valD (d.take i) : Int))]) (fun _ => []) 0 (fun i => d.length - i) 0 ⟨Nat.zero_le _, fun b hb => absurd hb List.not_mem_nil⟩ ?_ ?_
    · have e : valD (d.take 0) = 0 := rfl
      repeat' (first | (with_reducible refine Unf.h ?_) | ((conv => whnf); first | (refine Side.mk ?_ ?_; focus (first | with_reducible rfl | (refine congrArg (SV.int _) ?_; omega))) | (with_reducible refine Unf.h ?_) | exact True.intro) | fail); all_goals try (conv => whnf)
    rintro i ⟨hi, hm⟩
    have hv := valD_lt hm (by rw [List.length_take]; omega)
    have hno := fun h => tnY_no (d := d) h
    have h48 : (48#8).toNat = 48 := rfl
    have h57 : (57#8).toNat = 57 := rfl
    repeat' (first | (with_reducible first | refine Unf.h ?_ | refine loopK_n ?_) | ((conv => whnf); first | refine Fork.mk (fun h => ?_) (fun h => ?_) | (refine Side.mk ?_ ?_; focus ((intros; (try simp only [lenS, inR, cutS, loI, hiI] at *); omega))) | (refine Idx.mk ?_ ?_; focus (omega)) | refine retK_r ?_) | fail); all_goals try (conv => whnf)
    · have hil : i < d.length := by omega
      have hs : ¬ isD (d[i]'hil) := fun hd => by
        have h2 : (d[i]'hil).toNat < (48#8).toNat := h
        have := hd.1; omega
      exact RetE.mk (0, false) (hno fun m _ _ => no_sign hil hs m) (by repeat' (first | (with_reducible refine Unf.h ?_) | ((conv => whnf); first | (refine Side.mk ?_ ?_; focus (with_reducible rfl)) | (with_reducible refine Unf.h ?_) | exact rfl) | fail); all_goals try (conv => whnf))
    · have hil : i < d.length := by omega
      have hs : ¬ isD (d[i]'hil) := fun hd => by
        have h2 : (57#8).toNat < (d[i]'hil).toNat := h
        have := hd.2; omega
      exact RetE.mk (0, false) (hno fun m _ _ => no_sign hil hs m) (by repeat' (first | (with_reducible refine Unf.h ?_) | ((conv => whnf); first | (refine Side.mk ?_ ?_; focus (with_reducible rfl)) | (with_reducible refine Unf.h ?_) | exact rfl) | fail); all_goals try (conv => whnf))
    · rename_i c1 c2
      have hil : i < d.length := by omega
      have hs : isD (d[i]'hil) := ⟨by have h2 : ¬ (d[i]'hil).toNat < (48#8).toNat := c2; omega, by have h2 : ¬ (57#8).toNat < (d[i]'hil).toNat := h; omega⟩
      have e : (10 * (valD (d.take i) : Int) + ((d[((i : Nat) : Int).toNat]'hil - 48#8).toNat : Int)) = (valD (d.take (i + 1)) : Int) := by
        rw [valD_take hil]
        have := sub48 hs
        show 10 * (valD (d.take i) : Int) + (((d[i]'hil) - 48#8).toNat : Int) = _
        rw [this]; omega
      clear hno hs
      refine ⟨i + 1, ⟨by omega, by omega, isD_take hil hm ⟨by have h2 : ¬ (d[i]'hil).toNat < (48#8).toNat := c2; omega, by have h2 : ¬ (57#8).toNat < (d[i]'hil).toNat := h; omega⟩⟩, ?_⟩
      repeat' (first | (with_reducible refine Unf.h ?_) | ((conv => whnf); first | (refine Side.mk ?_ ?_; focus (first | with_reducible rfl | (refine congrArg (SV.int _) ?_; omega))) | (with_reducible refine Unf.h ?_) | exact True.intro) | fail); all_goals try (conv => whnf)
    all_goals (
      have ht : d.take i = d := List.take_of_length_le (by omega)
      rw [ht] at hm hv h ⊢
      have hdg : digN (valD d) = d := dg_val hm h0 (fun e => (hz e).elim)
      have hp : 0 < valD d := by
        rcases Nat.eq_zero_or_pos (valD d) with h | h
        · rw [h, digN_lt (by omega)] at hdg
          have e : d[0] = 48#8 := by simp only [← hdg]; rfl
          exact (hz e).elim
        · exact h
      first
        | (exfalso; omega)
        | (refine RetE.mk (-(valD d : Int), decide (mayN (-(valD d : Int)))) (tnY_end hdg hp) ?_
           repeat' (first | (with_reducible refine Unf.h ?_) | ((conv => whnf); first | (refine Side.mk ?_ ?_; focus (first | with_reducible rfl | exact dF (by omega) | exact decide_eq_decide.2 (by omega))) | (with_reducible refine Unf.h ?_) | exact rfl) | fail); all_goals try (conv => whnf)
           first | done | (refine Side.mk ?_ ?_; (focus (show _ ↔ _; simp only [decide_eq_true_eq, mayN]; omega)); (all_goals try (conv => whnf))))))
theorem tn_ok : tn_c.Ok Tryd.prog 51 := by
  intro (s : B8) hp A0 w σ vs hA hobs hargs hdom hgl
  have hp' : s.length ≤ 1000000 := hp
  by_cases h : s.head? = some 45#8
  · obtain ⟨d, rfl⟩ : ∃ d, s = 45#8 :: d := by
      cases s with
      | nil => simp at h
      | cons b r => simp at h; exact ⟨r, by rw [h]⟩
    exact tnY_ok d (show d.length ≤ 1000000 by simp at hp'; omega) A0 w σ vs hA hobs hargs hdom hgl
  · exact tnN_ok s ⟨hp', h⟩ A0 w σ vs hA hobs hargs hdom hgl
end Go.Proofs.YtkcicejnkdobpaaDoor

namespace Go.Proofs.YtkcicejnkdobpaaDoor
set_option linter.all false
open Go.RowKit
/-! script.takeBytes, script.takeList -/
theorem mayL_nil' : mayL [] := mayL_nil
abbrev tbPost (s : B8) (r : B8 × Bool) : Prop := (r.2 = true → bytesS r.1 = s) ∧ (r.2 = false → ∀ l, bytesS l ≠ s)
def tb_c : Ctr where
  D := B8
  pre := fun s => s.length ≤ 1000000
  args := fun s => [.str s]
  E := B8 × Bool
  post := fun s r => tbPost s r
  res := fun _ r => .tup [.fs 1 eB r.1, .bool r.2]
/-- the value of a sign of base 16 -/
theorem hx_of {k : Nat} {x : BitVec 8} (h : ixC x hexC = (k : Int)) : k < 16 ∧ hx k = x := by
  have key : ∀ n : Nat, n < 256 → ∀ k : Nat, k < 16 → ixC (BitVec.ofNat 8 n) hexC = (k : Int) → hx k = BitVec.ofNat 8 n := by decide +kernel
  have hk : k < 16 := by
    unfold ixC at h
    split at h
    · have := congrArg List.length (cutAt_in (by assumption : x ∈ hexC))
      rw [List.length_append, List.length_cons, hexC_len] at this
      omega
    · omega
  have := key x.toNat x.isLt k hk (by rw [BitVec.ofNat_toNat, BitVec.setWidth_eq]; exact h)
  rw [BitVec.ofNat_toNat, BitVec.setWidth_eq] at this
  exact ⟨hk, this⟩
theorem hx_no {x : BitVec 8} (h : ixC x hexC < 0) : x ∉ hexD := by
  intro hm
  have : x ∈ hexC := hm
  unfold ixC at h
  rw [if_pos this] at h; omega
theorem or16 {u v : Nat} (hu : u < 16) (hv : v < 16) : (((((u : Int) * 2 ^ (((4#64).toNat : Nat) : Int).toNat).toNat ||| ((v : Int)).toNat : Nat)) : Int) = ((16 * u + v : Nat) : Int) := by
  have key : ∀ u : Nat, u < 16 → ∀ v : Nat, v < 16 → (u * 16) ||| v = 16 * u + v := by decide +kernel
  have e4 : (((4#64).toNat : Nat) : Int).toNat = 4 := rfl
  have e5 : ((u : Int) * 2 ^ 4).toNat = u * 16 := by omega
  rw [e4, Int.toNat_natCast, e5, key u hu v hv]
theorem hexB_of {u v : Nat} (hu : u < 16) (hv : v < 16) : hexB (BitVec.ofInt 8 ((16 * u + v : Nat) : Int)) = [hx u, hx v] := by
  have key : ∀ u : Nat, u < 16 → ∀ v : Nat, v < 16 → hexB (BitVec.ofInt 8 ((16 * u + v : Nat) : Int)) = [hx u, hx v] := by decide +kernel
  exact key u hu v hv
theorem hexs_two {s r : B8} {u v : Nat} (hu : u < 16) (hv : v < 16) (h : 2 * r.length + 1 < s.length) (h2 : hexs r = s.take (2 * r.length)) (e1 : hx u = s[2 * r.length]) (e2 : hx v = s[2 * r.length + 1]) : hexs (r ++ [BitVec.ofInt 8 ((16 * u + v : Nat) : Int)]) = s.take (2 * (r ++ [BitVec.ofInt 8 ((16 * u + v : Nat) : Int)]).length) := by
  have e : hexs (r ++ [BitVec.ofInt 8 ((16 * u + v : Nat) : Int)]) = hexs r ++ hexB (BitVec.ofInt 8 ((16 * u + v : Nat) : Int)) := by
    unfold hexs; rw [List.flatMap_append]; simp
  rw [e, hexB_of hu hv, h2, List.length_append, List.length_singleton, show 2 * (r.length + 1) = 2 * r.length + 1 + 1 by omega, List.take_succ_eq_append_getElem h, List.take_succ_eq_append_getElem (by omega), e1, e2, List.append_assoc]
  rfl
def tb_H : Cfg := ⟨[(62, ixb_c)], [(9, [], [3, 8], (.one 0 0 false (.one 1 0 false (.one 2 0 false (.one 4 0 false (.one 5 0 false (.one 6 0 false (.one 7 0 false (.one 3 2 false (.one 8 2 false (.one 9 0 false (.one 10 0 false .nil))))))))))), [])], [], [], 49, 0, [], [], []⟩
theorem tb_ok : tb_c.Ok Tryd.prog 52 := by
  refine fn_ok tb_H 0 rfl _ Tryd.func52 rfl rfl ⟨ixb_ok, trivial⟩ rfl rfl (by kernel_rfl) (fun _ => Nat.le_of_ble_eq_true rfl) ?_
  intro (s : B8) hp hr
  try dsimp only [tb_c] at hp
  try simp only [tb_c, Rng, RngL, inR, and_true, true_and] at hr
  have hbad : ∀ x ∈ s, x ∉ hexD → s ≠ [45#8] → tbPost s ([], false) := fun x hx hn hs => ⟨fun h => absurd h (by decide), fun _ l e => by
    rcases bytesS_mem (l := l) (by rw [e]; exact hx) with h | h
    · unfold bytesS at e
      split at e
      · exact hs e.symm
      · exact hn (hexs_mem (by rw [e]; exact hx))
    · exact hn h⟩
  have hlen : s ≠ [45#8] → s.length = 0 ∨ s.length % 2 = 1 → tbPost s ([], false) := fun hs hl => ⟨fun h => absurd h (by decide), fun _ l e => by
    unfold bytesS at e
    split at e
    · exact hs e.symm
    · rename_i hne
      have := hexs_len l
      rw [e] at this
      have : 0 < l.length := List.length_pos_iff.2 hne
      omega⟩
  have hpx : ∀ x, ixb_c.pre (hexC, x) := fun _ => show hexC.length ≤ 1000000 by rw [hexC_len]; omega
  have hC : cS #[45] = [45#8] := rfl
  repeat' (first | (with_reducible refine Unf.h ?_) | ((conv => whnf); first | refine Fork.mk (fun h => ?_) (fun h => ?_) | (refine Side.mk ?_ ?_; focus (omega)) | refine retK_r ?_) | fail); all_goals try (conv => whnf)
  · exact RetE.mk ([], true) ⟨fun _ => by rw [h]; rfl, fun h => absurd h (by decide)⟩ (by repeat' (first | (with_reducible refine Unf.h ?_) | ((conv => whnf); first | (refine Side.mk ?_ ?_; focus (with_reducible rfl)) | (with_reducible refine Unf.h ?_) | exact rfl) | fail); all_goals try (conv => whnf))
  · exact RetE.mk ([], false) (hlen (by assumption) (.inl (by omega))) (by repeat' (first | (with_reducible refine Unf.h ?_) | ((conv => whnf); first | (refine Side.mk ?_ ?_; focus (with_reducible rfl)) | (with_reducible refine Unf.h ?_) | exact rfl) | fail); all_goals try (conv => whnf))
  · exact RetE.mk ([], false) (hlen (by assumption) (.inr (by omega))) (by repeat' (first | (with_reducible refine Unf.h ?_) | ((conv => whnf); first | (refine Side.mk ?_ ?_; focus (with_reducible rfl)) | (with_reducible refine Unf.h ?_) | exact rfl) | fail); all_goals try (conv => whnf))
  · rename_i c1 c2
    have hne : s ≠ [45#8] := c1
    clear hlen c1
    refine LoopS.autoN (I := B8) (fun r => 2 * r.length ≤ s.length ∧ hexs r = s.take (2 * r.length)) (fun r => match r with | [] => [(5, .int .i64 0), (4, .nils)] | b :: q => [(5, .int .i64 (2 * ((b :: q).length : Int))), (4, .own 0)]) (fun r => match r with | [] => [] | b :: q => [(0, .row 5 1 eB (b :: q))]) 1 (fun r => s.length - r.length) [] ⟨by simp, rfl⟩ ?_ ?_
    · repeat' (first | (with_reducible refine Unf.h ?_) | ((conv => whnf); first | (refine Side.mk ?_ ?_; focus (with_reducible rfl)) | (with_reducible refine Unf.h ?_) | exact True.intro) | fail); all_goals try (conv => whnf)
    · rintro (_ | ⟨b, q⟩) ⟨h1, h2⟩
      · repeat' (first | (with_reducible refine Unf.h ?_) | ((conv => whnf); first | refine Fork.mk (fun h => ?_) (fun h => ?_) | (refine Side.mk ?_ ?_; focus (first | omega | (intros; (try simp only [lenS, inR, cutS, loI, hiI] at *); omega))) | (refine Idx.mk ?_ ?_; focus (omega)) | refine retK_r ?_) | fail); all_goals try (conv => whnf)
        · have h0 : Int.toNat 0 < s.length := by show 0 < s.length; omega
          have h01 : Int.toNat (0 + 1) < s.length := by show 1 < s.length; omega
          have hq0 := hpx (s[Int.toNat 0]'h0)
          have hq1 := hpx (s[Int.toNat (0 + 1)]'h01)
          refine CallS.mk (c := ixb_c) (hexC, s[Int.toNat 0]'h0) ?_
          repeat' (first | (with_reducible refine Unf.h ?_) | ((conv => whnf); first | (refine Side.mk ?_ ?_; focus (first | with_reducible rfl | assumption)) | refine Got.mk (fun _ _ => ?_)) | fail); all_goals try (conv => whnf)
          refine CallS.mk (c := ixb_c) (hexC, s[Int.toNat (0 + 1)]'h01) ?_
          repeat' (first | (with_reducible refine Unf.h ?_) | ((conv => whnf); first | refine Fork.mk (fun h => ?_) (fun h => ?_) | (refine Side.mk ?_ ?_; focus (first | with_reducible rfl | assumption)) | refine Got.mk (fun _ _ => ?_) | refine retK_r ?_) | fail); all_goals try (conv => whnf)
          · exact RetE.mk ([], false) (hbad _ (List.getElem_mem h0) (hx_no h) hne) (by repeat' (first | (with_reducible refine Unf.h ?_) | ((conv => whnf); first | (refine Side.mk ?_ ?_; focus (with_reducible rfl)) | (with_reducible refine Unf.h ?_) | exact rfl) | fail); all_goals try (conv => whnf))
          · exact RetE.mk ([], false) (hbad _ (List.getElem_mem h01) (hx_no h) hne) (by repeat' (first | (with_reducible refine Unf.h ?_) | ((conv => whnf); first | (refine Side.mk ?_ ?_; focus (with_reducible rfl)) | (with_reducible refine Unf.h ?_) | exact rfl) | fail); all_goals try (conv => whnf))
          · obtain ⟨u, hu⟩ : ∃ u : Nat, ixC (s[Int.toNat 0]'h0) hexC = u := ⟨_, (Int.toNat_of_nonneg (by omega)).symm⟩
            obtain ⟨v, hv⟩ : ∃ v : Nat, ixC (s[Int.toNat (0 + 1)]'h01) hexC = v := ⟨_, (Int.toNat_of_nonneg (by omega)).symm⟩
            obtain ⟨u1, u2⟩ := hx_of hu
            obtain ⟨v1, v2⟩ := hx_of hv
            simp only [hu, hv]
            have e4 : (((4#64).toNat : Nat) : Int).toNat = 4 := rfl
            refine Side.mk ⟨by decide, by decide, by rw [e4]; unfold inR; omega⟩ ?_
            repeat' (first | (with_reducible refine Unf.h ?_) | fail); all_goals try (conv => whnf)
            refine Side.mk ⟨by rw [e4]; omega, by omega⟩ ?_
            have ew := or16 u1 v1
            clear e4
            simp only [ew]
            repeat' (first | (with_reducible first | refine Unf.h ?_ | refine loopK_n ?_) | ((conv => whnf); (refine Side.mk ?_ ?_; focus ((intros; (try simp only [lenS, inR, cutS, loI, hiI] at *); omega)))) | fail); all_goals try (conv => whnf)
            have hx2 := hexs_two (s := s) (r := []) u1 v1 (by simp; omega) rfl u2 v2
            refine ⟨[] ++ [BitVec.ofInt 8 ((16 * u + v : Nat) : Int)], ⟨by show s.length - 1 < s.length - 0; omega, by show 2 * 1 ≤ s.length; omega, hx2⟩, ?_⟩
            repeat' (first | (with_reducible refine Unf.h ?_) | ((conv => whnf); first | (refine Side.mk ?_ ?_; focus (first | with_reducible rfl | (simp only [*, List.map_cons, List.map_nil, eB]; done) | (simp [*]; done))) | (with_reducible refine Unf.h ?_) | exact True.intro) | fail); all_goals try (conv => whnf)
        · exfalso; omega
      · have h1' : 2 * (q.length + 1) ≤ s.length := h1
        have h3 : ((b :: q).length : Int) = (q.length : Int) + 1 := by simp
        repeat' (first | (with_reducible refine Unf.h ?_) | ((conv => whnf); first | refine Fork.mk (fun h => ?_) (fun h => ?_) | (refine Side.mk ?_ ?_; focus (first | omega | (intros; (try simp only [lenS, inR, cutS, loI, hiI] at *); omega))) | (refine Idx.mk ?_ ?_; focus (omega)) | refine retK_r ?_) | fail); all_goals try (conv => whnf)
        · have h0 : (2 * ((b :: q).length : Int)).toNat < s.length := by omega
          have h01 : (2 * ((b :: q).length : Int) + 1).toNat < s.length := by omega
          have hq0 := hpx (s[(2 * ((b :: q).length : Int)).toNat]'h0)
          have hq1 := hpx (s[(2 * ((b :: q).length : Int) + 1).toNat]'h01)
          refine CallS.mk (c := ixb_c) (hexC, s[(2 * ((b :: q).length : Int)).toNat]'h0) ?_
          repeat' (first | (with_reducible refine Unf.h ?_) | ((conv => whnf); first | (refine Side.mk ?_ ?_; focus (first | with_reducible rfl | assumption)) | refine Got.mk (fun _ _ => ?_)) | fail); all_goals try (conv => whnf)
          refine CallS.mk (c := ixb_c) (hexC, s[(2 * ((b :: q).length : Int) + 1).toNat]'h01) ?_
          repeat' (first | (with_reducible refine Unf.h ?_) | ((conv => whnf); first | refine Fork.mk (fun h => ?_) (fun h => ?_) | (refine Side.mk ?_ ?_; focus (first | with_reducible rfl | assumption)) | refine Got.mk (fun _ _ => ?_) | refine retK_r ?_) | fail); all_goals try (conv => whnf)
          · exact RetE.mk ([], false) (hbad _ (List.getElem_mem h0) (hx_no h) hne) (by repeat' (first | (with_reducible refine Unf.h ?_) | ((conv => whnf); first | (refine Side.mk ?_ ?_; focus (with_reducible rfl)) | (with_reducible refine Unf.h ?_) | exact rfl) | fail); all_goals try (conv => whnf))
          · exact RetE.mk ([], false) (hbad _ (List.getElem_mem h01) (hx_no h) hne) (by repeat' (first | (with_reducible refine Unf.h ?_) | ((conv => whnf); first | (refine Side.mk ?_ ?_; focus (with_reducible rfl)) | (with_reducible refine Unf.h ?_) | exact rfl) | fail); all_goals try (conv => whnf))
          · obtain ⟨u, hu⟩ : ∃ u : Nat, ixC (s[(2 * ((b :: q).length : Int)).toNat]'h0) hexC = u := ⟨_, (Int.toNat_of_nonneg (by omega)).symm⟩
            obtain ⟨v, hv⟩ : ∃ v : Nat, ixC (s[(2 * ((b :: q).length : Int) + 1).toNat]'h01) hexC = v := ⟨_, (Int.toNat_of_nonneg (by omega)).symm⟩
            obtain ⟨u1, u2⟩ := hx_of hu
            obtain ⟨v1, v2⟩ := hx_of hv
            simp only [hu, hv]
            have e4 : (((4#64).toNat : Nat) : Int).toNat = 4 := rfl
            refine Side.mk ⟨by decide, by decide, by rw [e4]; unfold inR; omega⟩ ?_
            repeat' (first | (with_reducible refine Unf.h ?_) | fail); all_goals try (conv => whnf)
            refine Side.mk ⟨by rw [e4]; omega, by omega⟩ ?_
            have ew := or16 u1 v1
            clear e4
            simp only [ew]
            have hlq : (b :: q).length ≤ 1000000 := by omega
            repeat' (first | (with_reducible first | refine Unf.h ?_ | refine loopK_n ?_) | ((conv => whnf); first | (refine Side.mk ?_ ?_; focus ((intros; (try simp only [lenS, inR, cutS, loI, hiI] at *); omega))) | refine Ex.mk [_] rfl ?_) | fail); all_goals try (conv => whnf)
            have hx2 := hexs_two (s := s) (r := b :: q) u1 v1 (by omega) h2 u2 v2
            refine ⟨(b :: q) ++ [BitVec.ofInt 8 ((16 * u + v : Nat) : Int)], ⟨by rw [List.length_append]; simp only [List.length_singleton]; omega, by rw [List.length_append]; simp only [List.length_singleton]; omega, hx2⟩, ?_⟩
            have hl2 : 2 * ((b :: q).length : Int) + 2 = 2 * ((b :: (q ++ [BitVec.ofInt 8 ((16 * u + v : Nat) : Int)])).length : Int) := by simp; omega
            repeat' (first | (with_reducible refine Unf.h ?_) | ((conv => whnf); first | (refine Side.mk ?_ ?_; focus (first | with_reducible rfl | (refine congrArg (SV.int _) ?_; omega) | (simp [*, hl2]; done))) | (with_reducible refine Unf.h ?_) | exact True.intro) | fail); all_goals try (conv => whnf)
        · have ht : s.take (2 * (b :: q).length) = s := List.take_of_length_le (by omega)
          refine RetE.mk (b :: q, true) ⟨fun _ => ?_, fun h => (by simp at h)⟩ (by repeat' (first | (with_reducible refine Unf.h ?_) | ((conv => whnf); first | (refine Side.mk ?_ ?_; focus (with_reducible rfl)) | (with_reducible refine Unf.h ?_) | exact rfl) | fail); all_goals try (conv => whnf))
          show bytesS (b :: q) = s
          rw [bytesS, if_neg (by simp), h2, ht]
end Go.Proofs.YtkcicejnkdobpaaDoor

namespace Go.Proofs.YtkcicejnkdobpaaDoor
set_option linter.all false
open Go.RowKit
/-! script.takeList, script.kind, script.take -/
abbrev tlPost (s : B8) (r : List Int × Bool) : Prop := (r.2 = true → mayL r.1 ∧ listS r.1 = s) ∧ (r.2 = false → ∀ l, mayL l → listS l ≠ s)
def tl_c : Ctr where
  D := B8
  pre := fun s => s.length ≤ 1000000
  args := fun s => [.str s]
  E := List Int × Bool
  post := fun s r => tlPost s r
  res := fun _ r => .tup [.fs 1 eI r.1, .bool r.2]
theorem tl_no {s : B8} (hs : s ≠ [45#8]) {i : Nat} (hi : i < (splitC 44#8 s).length) (h : ∀ n, mayN n → decS n ≠ (splitC 44#8 s)[i]) : tlPost s ([], false) :=
  ⟨fun h => absurd h (by decide), fun _ l hl e => by
    have hne : l ≠ [] := by rintro rfl; exact hs e.symm
    have h1 := listS_split hl hne
    rw [e] at h1
    have hil : i < l.length := by rw [h1, List.length_map] at hi; exact hi
    have h2 : (splitC 44#8 s)[i] = decS l[i] := by
      have := congrArg (fun x => x[i]?) h1
      simp only [List.getElem?_map, List.getElem?_eq_getElem hi, List.getElem?_eq_getElem hil, Option.map_some, Option.some.injEq] at this
      exact this
    exact h l[i] (hl _ (List.getElem_mem hil)) h2.symm⟩
theorem tl_yes {s : B8} {r : List Int} (hne : r ≠ []) (hm : mayL r) (h : r.map decS = splitC 44#8 s) : tlPost s (r, true) :=
  ⟨fun _ => ⟨hm, by
    show listS r = s
    rw [listS, if_neg hne, mapnum hm, h, join_splitC]⟩, fun h => (by simp at h)⟩
def tl_H : Cfg := ⟨[(39, split_c), (51, tn_c)], [], [], [], 31, 0, [], [], []⟩
theorem tl_ok : tl_c.Ok Tryd.prog 53 := by
  refine fn_ok tl_H 0 rfl _ Tryd.func53 rfl rfl ⟨split_ok, tn_ok, trivial⟩ rfl rfl (by kernel_rfl) (fun _ => Nat.le_of_ble_eq_true rfl) ?_
  intro (s : B8) hp hr
  try dsimp only [tl_c] at hp
  try simp only [tl_c, Rng, RngL, inR, and_true, true_and] at hr
  have hps : split_c.pre (s, 44#8) := hp
  have hC : cS #[45] = [45#8] := rfl
  obtain ⟨ws, hws⟩ : ∃ ws, ws = splitC 44#8 s := ⟨_, rfl⟩
  have hwl : ws.length ≤ 1000001 := by
    rw [hws, splitC_len]; have := List.count_le_length (a := 44#8) (l := s); omega
  have hwm : ∀ w ∈ ws, tn_c.pre w := fun w hw => by
    rw [hws] at hw
    exact Nat.le_trans (splitC_mem hw).2 hp
  have hw0 : 0 < ws.length := by rw [hws, splitC_len]; omega
  repeat' (first | (with_reducible refine Unf.h ?_) | ((conv => whnf); first | refine Fork.mk (fun h => ?_) (fun h => ?_) | refine retK_r ?_) | fail); all_goals try (conv => whnf)
  · exact RetE.mk ([], true) ⟨fun _ => ⟨mayL_nil, by rw [h]; rfl⟩, fun h => (by simp at h)⟩ (by repeat' (first | (with_reducible refine Unf.h ?_) | ((conv => whnf); first | (refine Side.mk ?_ ?_; focus (with_reducible rfl)) | (with_reducible refine Unf.h ?_) | exact rfl) | fail); all_goals try (conv => whnf))
  · refine CallS.mk (c := split_c) (s, 44#8) ?_
    have hne : s ≠ [45#8] := h
    have hno := fun i hi h => tl_no (s := s) hne (i := i) hi h
    have hyes := fun r => tl_yes (s := s) (r := r)
    repeat' (first | (with_reducible refine Unf.h ?_) | ((conv => whnf); first | (refine Side.mk ?_ ?_; focus (first | with_reducible rfl | assumption | (simp [*]; done))) | refine Got.mk (fun _ _ => ?_)) | fail); all_goals try (conv => whnf)
    simp only [← hws] at hno hyes ⊢
    refine LoopS.autoN (I := List Int) (fun r => r.length ≤ ws.length ∧ mayL r ∧ r.map decS = ws.take r.length) (fun r => match r with | [] => [(14, .int .i64 0), (4, .nils)] | b :: q => [(14, .int .i64 ((b :: q).length : Int)), (4, .own 0)]) (fun r => match r with | [] => [] | b :: q => [(0, .row 3 1 eI (b :: q))]) 1 (fun r => ws.length - r.length) [] ⟨by simp, mayL_nil, rfl⟩ ?_ ?_
    · repeat' (first | (with_reducible refine Unf.h ?_) | ((conv => whnf); first | (refine Side.mk ?_ ?_; focus (with_reducible rfl)) | (with_reducible refine Unf.h ?_) | exact True.intro) | fail); all_goals try (conv => whnf)
    · rintro (_ | ⟨b, q⟩) ⟨h1, h2, h3⟩
      · repeat' (first | (with_reducible refine Unf.h ?_) | ((conv => whnf); first | refine Fork.mk (fun h => ?_) (fun h => ?_) | (refine Idx.mk ?_ ?_; focus (omega)) | refine retK_r ?_) | fail); all_goals try (conv => whnf)
        · have h0 : Int.toNat 0 < ws.length := hw0
          have hq := hwm _ (List.getElem_mem h0)
          refine CallS.mk (c := tn_c) (ws[Int.toNat 0]'h0) ?_
          repeat' (first | (with_reducible refine Unf.h ?_) | ((conv => whnf); first | (refine Side.mk ?_ ?_; focus (first | with_reducible rfl | assumption)) | refine Got.mk (fun _ _ => ?_)) | fail); all_goals try (conv => whnf)
          rename_i e he
          obtain ⟨n, ok⟩ := e
          obtain ⟨he1, he2⟩ := he
          cases ok with
          | false =>
            have hno1 := hno 0 hw0 (he2 rfl)
            repeat' (first | (with_reducible refine Unf.h ?_) | ((conv => whnf); first | (with_reducible refine Unf.h ?_) | refine retK_r ?_) | fail); all_goals try (conv => whnf)
            exact RetE.mk ([], false) hno1 (by repeat' (first | (with_reducible refine Unf.h ?_) | ((conv => whnf); first | (refine Side.mk ?_ ?_; focus (with_reducible rfl)) | (with_reducible refine Unf.h ?_) | exact rfl) | fail); all_goals try (conv => whnf))
          | true =>
            obtain ⟨hn1, hn2⟩ := he1 rfl
            clear he1 he2 hno hyes
            repeat' (first | (with_reducible first | refine Unf.h ?_ | refine loopK_n ?_) | ((conv => whnf); first | (refine Side.mk ?_ ?_; focus ((intros; (try simp only [lenS, inR, cutS, loI, hiI] at *); omega))) | (with_reducible refine Unf.h ?_)) | fail); all_goals try (conv => whnf)
            refine ⟨[n], ⟨by show ws.length - 1 < ws.length - 0; omega, by show 1 ≤ ws.length; omega, fun m hm => by rw [List.mem_singleton.1 hm]; exact hn1, ?_⟩, ?_⟩
            · show [decS n] = ws.take 1
              have e1 : decS n = ws[0]'hw0 := hn2
              rw [e1]
              cases ws with
              | nil => simp at hw0
              | cons w r => rfl
            repeat' (first | (with_reducible refine Unf.h ?_) | ((conv => whnf); first | (refine Side.mk ?_ ?_; focus (first | with_reducible rfl | (simp only [*, List.map_cons, List.map_nil, eB]; done) | (simp [*]; done))) | (with_reducible refine Unf.h ?_) | exact True.intro) | fail); all_goals try (conv => whnf)
        · exfalso; omega
      · have hbl : (b :: q).length ≤ ws.length := h1
        have hbl2 : 0 < (b :: q).length := by simp
        repeat' (first | (with_reducible refine Unf.h ?_) | ((conv => whnf); first | refine Fork.mk (fun h => ?_) (fun h => ?_) | (refine Idx.mk ?_ ?_; focus (omega)) | refine retK_r ?_) | fail); all_goals try (conv => whnf)
        · have h0 : (((b :: q).length : Nat) : Int).toNat < ws.length := by omega
          have h0' : (b :: q).length < ws.length := by omega
          have hq := hwm _ (List.getElem_mem h0)
          refine CallS.mk (c := tn_c) (ws[(((b :: q).length : Nat) : Int).toNat]'h0) ?_
          repeat' (first | (with_reducible refine Unf.h ?_) | ((conv => whnf); first | (refine Side.mk ?_ ?_; focus (first | with_reducible rfl | assumption)) | refine Got.mk (fun _ _ => ?_)) | fail); all_goals try (conv => whnf)
          rename_i e he
          obtain ⟨n, ok⟩ := e
          obtain ⟨he1, he2⟩ := he
          cases ok with
          | false =>
            have hno1 := hno _ h0 (he2 rfl)
            repeat' (first | (with_reducible refine Unf.h ?_) | ((conv => whnf); first | (with_reducible refine Unf.h ?_) | refine retK_r ?_) | fail); all_goals try (conv => whnf)
            exact RetE.mk ([], false) hno1 (by repeat' (first | (with_reducible refine Unf.h ?_) | ((conv => whnf); first | (refine Side.mk ?_ ?_; focus (with_reducible rfl)) | (with_reducible refine Unf.h ?_) | exact rfl) | fail); all_goals try (conv => whnf))
          | true =>
            obtain ⟨hn1, hn2⟩ := he1 rfl
            have h4 : ((b :: q) ++ [n]).map decS = ws.take ((b :: q).length + 1) := by
              rw [List.map_append, h3, List.take_succ_eq_append_getElem h0']
              have e1 : decS n = ws[(b :: q).length]'h0' := hn2
              simp only [List.map_cons, List.map_nil, e1]
            clear he1 he2 hno hyes hn2
            have hlq : (b :: q).length ≤ 1000001 := by omega
            repeat' (first | (with_reducible first | refine Unf.h ?_ | refine loopK_n ?_) | ((conv => whnf); first | (refine Side.mk ?_ ?_; focus ((intros; (try simp only [lenS, inR, cutS, loI, hiI] at *); omega))) | refine Ex.mk [_] rfl ?_ | (with_reducible refine Unf.h ?_)) | fail); all_goals try (conv => whnf)
            refine ⟨(b :: q) ++ [n], ⟨by rw [List.length_append, List.length_singleton]; omega, by rw [List.length_append, List.length_singleton]; omega, fun m hm => ?_, by rw [List.length_append, List.length_singleton]; exact h4⟩, ?_⟩
            · rcases List.mem_append.1 hm with hm | hm
              · exact h2 m hm
              · rw [List.mem_singleton.1 hm]; exact hn1
            have hl2 : ((b :: q).length : Int) + 1 = ((b :: (q ++ [n])).length : Int) := by simp
            repeat' (first | (with_reducible refine Unf.h ?_) | ((conv => whnf); first | (refine Side.mk ?_ ?_; focus (first | with_reducible rfl | (refine congrArg (SV.int _) ?_; omega) | (simp [*, hl2]; done))) | (with_reducible refine Unf.h ?_) | exact True.intro) | fail); all_goals try (conv => whnf)
        · have ht : ws.take (b :: q).length = ws := List.take_of_length_le (by omega)
          exact RetE.mk (b :: q, true) (hyes (b :: q) (by simp) h2 (h3.trans ht)) (by repeat' (first | (with_reducible refine Unf.h ?_) | ((conv => whnf); first | (refine Side.mk ?_ ?_; focus (with_reducible rfl)) | (with_reducible refine Unf.h ?_) | exact rfl) | fail); all_goals try (conv => whnf))
end Go.Proofs.YtkcicejnkdobpaaDoor

import Derived.Test.YtkakpdmlbkgpkaaN1
namespace Go.Proofs.Ytkakpdmlbkgpkaa
set_option linter.all false
open Go.RowKit
def frAt (l : List Fr) (i : Int) : Fr := if h : 0 ≤ i ∧ i < l.length then l[i.toNat]'(by omega) else ⟨0, []⟩
def peek_c : Ctr where
  D := Int × List Fr × Int
  pre := fun (i, l, lost) => ∀ f ∈ l, f.b.length ≤ 1000000
  args := fun (i, l, lost) => [.ptr 0 0, .int .i64 i]
  objs := fun (i, l, lost) => [(0, .box 28 [.own 1, .int .i64 lost]), (1, .row 31 2 eFr l)]
  nn := 2
  E := Unit
  post := fun _ _ => True
  res := fun (i, l, lost) _ => .tup [.agg [.int .i64 (frAt l i).to, .own 2], .dec (0 ≤ i ∧ i < l.length) inferInstance]
  out := fun (i, l, lost) _ => [(0, .box 28 [.own 1, .int .i64 lost]), (1, .row 31 2 eFr l), (2, .row 5 1 eB (frAt l i).b)]
  mm := 1
theorem peek_ok : peek_c.Ok Try.prog 9 := by
  refine fn_ok ⟨[(21, has_c), (20, clone_c)], [(4, [1, 3], [4, 6], [(0, 0, false), (1, 1, false), (2, 0, false), (3, 1, false), (4, 2, true), (5, 0, false), (6, 2, false), (7, 0, false)])], [], [], 25, peek_c.nn⟩ _ Try.func9 rfl rfl ⟨has_ok, clone_ok, trivial⟩ rfl rfl (by kernel_rfl) (fun _ => Nat.le_of_ble_eq_true rfl) ?_
  rintro ⟨i, l, lost⟩ hp hr
  try dsimp only [peek_c] at hp
  try simp only [peek_c, Rng, RngL, inR, and_true, true_and] at hr
  repeat' (((conv => whnf); first | refine Fork.mkn (fun h => ?_) (fun h => ?_) | refine Fork.mk (fun h => ?_) (fun h => ?_) | refine Side.mk (by (first | with_reducible rfl | exact True.intro | trivial | omega | (intros; (try simp only [List.length_nil, List.length_cons, List.length_append, List.length_map, List.length_take, List.length_drop, EF.of_len, EF.lit_len, inR] at *); omega) | exact List.eq_nil_of_length_eq_zero (by assumption) | exact (decide_eq_true (by omega)).symm | exact (decide_eq_false (by omega)).symm | exact decide_eq_decide.2 (by omega) | (split <;> first | rfl | (exfalso; omega)) | (refine ⟨fun h => ?_, fun h => ?_⟩ <;> first | rfl | (cases h; done) | omega | (exfalso; omega) | (simp only [Bool.false_eq_true] at h) ) | (simp [*]; done))) ?_ | refine Idx.mk (by first | omega | (simp only [List.length_nil, List.length_cons, List.length_append, List.length_map, List.length_take, List.length_drop, EF.of_len, EF.lit_len, inR]; omega)) ?_ | refine RetE.mk () trivial ?_ | refine Got.mk (fun _ _ => ?_) | refine boolK (fun h => ?_) ?_ | exact rfl))
  refine CallS.mk (i, l, lost) ?_
  repeat' (((conv => whnf); first | refine Fork.mkn (fun h => ?_) (fun h => ?_) | refine Fork.mk (fun h => ?_) (fun h => ?_) | refine Side.mk (by (first | with_reducible rfl | exact True.intro | trivial | omega | (intros; (try simp only [List.length_nil, List.length_cons, List.length_append, List.length_map, List.length_take, List.length_drop, EF.of_len, EF.lit_len, inR] at *); omega) | (dsimp only [has_c]; omega) | exact List.eq_nil_of_length_eq_zero (by assumption) | exact (decide_eq_true (by omega)).symm | exact (decide_eq_false (by omega)).symm | exact decide_eq_decide.2 (by omega) | (split <;> first | rfl | (exfalso; omega)) | (refine ⟨fun h => ?_, fun h => ?_⟩ <;> first | rfl | (cases h; done) | omega | (exfalso; omega) | (simp only [Bool.false_eq_true] at h) ) | (simp [*, frAt]; done))) ?_ | refine Idx.mk (by first | omega | (simp only [List.length_nil, List.length_cons, List.length_append, List.length_map, List.length_take, List.length_drop, EF.of_len, EF.lit_len, inR]; omega)) ?_ | refine RetE.mk () trivial ?_ | refine Got.mk (fun _ _ => ?_) | refine boolK (fun h => ?_) ?_ | exact rfl))
  have hb := hp _ (List.getElem_mem (show i.toNat < l.length by omega))
  refine CallS.mk (l[i.toNat]'(by omega)).b ?_
  repeat' (((conv => whnf); first | refine Fork.mkn (fun h => ?_) (fun h => ?_) | refine Fork.mk (fun h => ?_) (fun h => ?_) | refine Side.mk (by (first | with_reducible rfl | exact True.intro | trivial | omega | (intros; (try simp only [List.length_nil, List.length_cons, List.length_append, List.length_map, List.length_take, List.length_drop, EF.of_len, EF.lit_len, inR] at *); omega) | (dsimp only [clone_c]; omega) | exact List.eq_nil_of_length_eq_zero (by assumption) | exact (decide_eq_true (by omega)).symm | exact (decide_eq_false (by omega)).symm | exact decide_eq_decide.2 (by omega) | (split <;> first | rfl | (exfalso; omega)) | (refine ⟨fun h => ?_, fun h => ?_⟩ <;> first | rfl | (cases h; done) | omega | (exfalso; omega) | (simp only [Bool.false_eq_true] at h) ) | (simp [*, frAt]; done))) ?_ | refine Idx.mk (by first | omega | (simp only [List.length_nil, List.length_cons, List.length_append, List.length_map, List.length_take, List.length_drop, EF.of_len, EF.lit_len, inR]; omega)) ?_ | refine RetE.mk () trivial ?_ | refine Got.mk (fun _ _ => ?_) | refine boolK (fun h => ?_) ?_ | exact rfl))
def peekN_c : Ctr where
  D := Int
  pre := fun _ => True
  args := fun i => [.nilp, .int .i64 i]
  objs := fun _ => []
  nn := 0
  E := Unit
  post := fun _ _ => True
  res := fun _ _ => .tup [.agg [.int .i64 0, .nils], .bool false]
  out := fun _ _ => []
  mm := 0
theorem peekN_ok : peekN_c.Ok Try.prog 9 := by
  refine fn_ok ⟨[(21, hasN_c), (20, clone_c)], [(4, [1, 3], [4, 6], [(0, 0, false), (1, 1, false), (2, 0, false), (3, 1, false), (4, 2, true), (5, 0, false), (6, 2, false), (7, 0, false)])], [], [], 25, peekN_c.nn⟩ _ Try.func9 rfl rfl ⟨hasN_ok, clone_ok, trivial⟩ rfl rfl (by kernel_rfl) (fun _ => Nat.le_of_ble_eq_true rfl) ?_
  intro (i : Int) hp hr
  repeat' (((conv => whnf); first | refine Fork.mkn (fun h => ?_) (fun h => ?_) | refine Fork.mk (fun h => ?_) (fun h => ?_) | refine Side.mk (by (first | with_reducible rfl | exact True.intro | trivial | omega | (intros; (try simp only [List.length_nil, List.length_cons, List.length_append, List.length_map, List.length_take, List.length_drop, EF.of_len, EF.lit_len, inR] at *); omega) | exact List.eq_nil_of_length_eq_zero (by assumption) | exact (decide_eq_true (by omega)).symm | exact (decide_eq_false (by omega)).symm | exact decide_eq_decide.2 (by omega) | (split <;> first | rfl | (exfalso; omega)) | (refine ⟨fun h => ?_, fun h => ?_⟩ <;> first | rfl | (cases h; done) | omega | (exfalso; omega) | (simp only [Bool.false_eq_true] at h) ) | (simp [*]; done))) ?_ | refine Idx.mk (by first | omega | (simp only [List.length_nil, List.length_cons, List.length_append, List.length_map, List.length_take, List.length_drop, EF.of_len, EF.lit_len, inR]; omega)) ?_ | refine RetE.mk () trivial ?_ | refine Got.mk (fun _ _ => ?_) | refine boolK (fun h => ?_) ?_ | exact rfl))
  refine CallS.mk i ?_
  repeat' (((conv => whnf); first | refine Fork.mkn (fun h => ?_) (fun h => ?_) | refine Fork.mk (fun h => ?_) (fun h => ?_) | refine Side.mk (by (first | with_reducible rfl | exact True.intro | trivial | omega | (intros; (try simp only [List.length_nil, List.length_cons, List.length_append, List.length_map, List.length_take, List.length_drop, EF.of_len, EF.lit_len, inR] at *); omega) | (dsimp only [hasN_c]; omega) | exact List.eq_nil_of_length_eq_zero (by assumption) | exact (decide_eq_true (by omega)).symm | exact (decide_eq_false (by omega)).symm | exact decide_eq_decide.2 (by omega) | (split <;> first | rfl | (exfalso; omega)) | (refine ⟨fun h => ?_, fun h => ?_⟩ <;> first | rfl | (cases h; done) | omega | (exfalso; omega) | (simp only [Bool.false_eq_true] at h) ) | (simp [*]; done))) ?_ | refine Idx.mk (by first | omega | (simp only [List.length_nil, List.length_cons, List.length_append, List.length_map, List.length_take, List.length_drop, EF.of_len, EF.lit_len, inR]; omega)) ?_ | refine RetE.mk () trivial ?_ | refine Got.mk (fun _ _ => ?_) | refine boolK (fun h => ?_) ?_ | exact rfl))
def dropN_c : Ctr where
  D := Int
  pre := fun _ => True
  args := fun i => [.nilp, .int .i64 i]
  objs := fun _ => []
  nn := 0
  E := Unit
  post := fun _ _ => True
  res := fun _ _ => .bool false
  out := fun _ _ => []
  mm := 0
theorem dropN_ok : dropN_c.Ok Try.prog 22 := by
  refine fn_ok ⟨[(21, hasN_c)], [], [], [], 20, dropN_c.nn⟩ _ Try.func22 rfl rfl ⟨hasN_ok, trivial⟩ rfl rfl (by kernel_rfl) (fun _ => Nat.le_of_ble_eq_true rfl) ?_
  intro (i : Int) hp hr
  repeat' (((conv => whnf); first | refine Fork.mkn (fun h => ?_) (fun h => ?_) | refine Fork.mk (fun h => ?_) (fun h => ?_) | refine Side.mk (by (first | with_reducible rfl | exact True.intro | trivial | omega | (intros; (try simp only [List.length_nil, List.length_cons, List.length_append, List.length_map, List.length_take, List.length_drop, EF.of_len, EF.lit_len, inR] at *); omega) | exact List.eq_nil_of_length_eq_zero (by assumption) | exact (decide_eq_true (by omega)).symm | exact (decide_eq_false (by omega)).symm | exact decide_eq_decide.2 (by omega) | (split <;> first | rfl | (exfalso; omega)) | (refine ⟨fun h => ?_, fun h => ?_⟩ <;> first | rfl | (cases h; done) | omega | (exfalso; omega) | (simp only [Bool.false_eq_true] at h) ) | (simp [*]; done))) ?_ | refine Idx.mk (by first | omega | (simp only [List.length_nil, List.length_cons, List.length_append, List.length_map, List.length_take, List.length_drop, EF.of_len, EF.lit_len, inR]; omega)) ?_ | refine RetE.mk () trivial ?_ | refine Got.mk (fun _ _ => ?_) | refine boolK (fun h => ?_) ?_ | exact rfl))
  refine CallS.mk i ?_
  repeat' (((conv => whnf); first | refine Fork.mkn (fun h => ?_) (fun h => ?_) | refine Fork.mk (fun h => ?_) (fun h => ?_) | refine Side.mk (by (first | with_reducible rfl | exact True.intro | trivial | omega | (intros; (try simp only [List.length_nil, List.length_cons, List.length_append, List.length_map, List.length_take, List.length_drop, EF.of_len, EF.lit_len, inR] at *); omega) | (dsimp only [hasN_c]; omega) | exact List.eq_nil_of_length_eq_zero (by assumption) | exact (decide_eq_true (by omega)).symm | exact (decide_eq_false (by omega)).symm | exact decide_eq_decide.2 (by omega) | (split <;> first | rfl | (exfalso; omega)) | (refine ⟨fun h => ?_, fun h => ?_⟩ <;> first | rfl | (cases h; done) | omega | (exfalso; omega) | (simp only [Bool.false_eq_true] at h) ) | (simp [*]; done))) ?_ | refine Idx.mk (by first | omega | (simp only [List.length_nil, List.length_cons, List.length_append, List.length_map, List.length_take, List.length_drop, EF.of_len, EF.lit_len, inR]; omega)) ?_ | refine RetE.mk () trivial ?_ | refine Got.mk (fun _ _ => ?_) | refine boolK (fun h => ?_) ?_ | exact rfl))
def takeN_c : Ctr where
  D := Int
  pre := fun _ => True
  args := fun i => [.nilp, .int .i64 i]
  objs := fun _ => []
  nn := 0
  E := Unit
  post := fun _ _ => True
  res := fun _ _ => .tup [.agg [.int .i64 0, .nils], .bool false]
  out := fun _ _ => []
  mm := 0
theorem takeN_ok : takeN_c.Ok Try.prog 13 := by
  refine fn_ok ⟨[(9, peekN_c), (22, dropN_c)], [(2, [0], [5, 7], [(0, 1, false), (1, 0, false), (2, 0, false), (3, 0, false), (4, 0, false), (5, 2, true), (6, 0, false), (7, 2, false), (8, 0, false)])], [], [], 21, takeN_c.nn⟩ _ Try.func13 rfl rfl ⟨peekN_ok, dropN_ok, trivial⟩ rfl rfl (by kernel_rfl) (fun _ => Nat.le_of_ble_eq_true rfl) ?_
  intro (i : Int) hp hr
  repeat' (((conv => whnf); first | refine Fork.mkn (fun h => ?_) (fun h => ?_) | refine Fork.mk (fun h => ?_) (fun h => ?_) | refine Side.mk (by (first | with_reducible rfl | exact True.intro | trivial | omega | (intros; (try simp only [List.length_nil, List.length_cons, List.length_append, List.length_map, List.length_take, List.length_drop, EF.of_len, EF.lit_len, inR] at *); omega) | exact List.eq_nil_of_length_eq_zero (by assumption) | exact (decide_eq_true (by omega)).symm | exact (decide_eq_false (by omega)).symm | exact decide_eq_decide.2 (by omega) | (split <;> first | rfl | (exfalso; omega)) | (refine ⟨fun h => ?_, fun h => ?_⟩ <;> first | rfl | (cases h; done) | omega | (exfalso; omega) | (simp only [Bool.false_eq_true] at h) ) | (simp [*]; done))) ?_ | refine Idx.mk (by first | omega | (simp only [List.length_nil, List.length_cons, List.length_append, List.length_map, List.length_take, List.length_drop, EF.of_len, EF.lit_len, inR]; omega)) ?_ | refine RetE.mk () trivial ?_ | refine Got.mk (fun _ _ => ?_) | refine boolK (fun h => ?_) ?_ | exact rfl))
  refine CallS.mk i ?_
  repeat' (((conv => whnf); first | refine Fork.mkn (fun h => ?_) (fun h => ?_) | refine Fork.mk (fun h => ?_) (fun h => ?_) | refine Side.mk (by (first | with_reducible rfl | exact True.intro | trivial | omega | (intros; (try simp only [List.length_nil, List.length_cons, List.length_append, List.length_map, List.length_take, List.length_drop, EF.of_len, EF.lit_len, inR] at *); omega) | (dsimp only [peekN_c]; omega) | exact List.eq_nil_of_length_eq_zero (by assumption) | exact (decide_eq_true (by omega)).symm | exact (decide_eq_false (by omega)).symm | exact decide_eq_decide.2 (by omega) | (split <;> first | rfl | (exfalso; omega)) | (refine ⟨fun h => ?_, fun h => ?_⟩ <;> first | rfl | (cases h; done) | omega | (exfalso; omega) | (simp only [Bool.false_eq_true] at h) ) | (simp [*]; done))) ?_ | refine Idx.mk (by first | omega | (simp only [List.length_nil, List.length_cons, List.length_append, List.length_map, List.length_take, List.length_drop, EF.of_len, EF.lit_len, inR]; omega)) ?_ | refine RetE.mk () trivial ?_ | refine Got.mk (fun _ _ => ?_) | refine boolK (fun h => ?_) ?_ | exact rfl))
def copyN_c : Ctr where
  D := Int
  pre := fun _ => True
  args := fun i => [.nilp, .int .i64 i]
  objs := fun _ => []
  nn := 0
  E := Unit
  post := fun _ _ => True
  res := fun _ _ => .bool false
  out := fun _ _ => []
  mm := 0
theorem copyN_ok : copyN_c.Ok Try.prog 10 := by
  refine fn_ok ⟨[(9, peekN_c), (8, sendN_c)], [], [], [], 22, copyN_c.nn⟩ _ Try.func10 rfl rfl ⟨peekN_ok, sendN_ok, trivial⟩ rfl rfl (by kernel_rfl) (fun _ => Nat.le_of_ble_eq_true rfl) ?_
  intro (i : Int) hp hr
  repeat' (((conv => whnf); first | refine Fork.mkn (fun h => ?_) (fun h => ?_) | refine Fork.mk (fun h => ?_) (fun h => ?_) | refine Side.mk (by (first | with_reducible rfl | exact True.intro | trivial | omega | (intros; (try simp only [List.length_nil, List.length_cons, List.length_append, List.length_map, List.length_take, List.length_drop, EF.of_len, EF.lit_len, inR] at *); omega) | exact List.eq_nil_of_length_eq_zero (by assumption) | exact (decide_eq_true (by omega)).symm | exact (decide_eq_false (by omega)).symm | exact decide_eq_decide.2 (by omega) | (split <;> first | rfl | (exfalso; omega)) | (refine ⟨fun h => ?_, fun h => ?_⟩ <;> first | rfl | (cases h; done) | omega | (exfalso; omega) | (simp only [Bool.false_eq_true] at h) ) | (simp [*]; done))) ?_ | refine Idx.mk (by first | omega | (simp only [List.length_nil, List.length_cons, List.length_append, List.length_map, List.length_take, List.length_drop, EF.of_len, EF.lit_len, inR]; omega)) ?_ | refine RetE.mk () trivial ?_ | refine Got.mk (fun _ _ => ?_) | refine boolK (fun h => ?_) ?_ | exact rfl))
  refine CallS.mk i ?_
  repeat' (((conv => whnf); first | refine Fork.mkn (fun h => ?_) (fun h => ?_) | refine Fork.mk (fun h => ?_) (fun h => ?_) | refine Side.mk (by (first | with_reducible rfl | exact True.intro | trivial | omega | (intros; (try simp only [List.length_nil, List.length_cons, List.length_append, List.length_map, List.length_take, List.length_drop, EF.of_len, EF.lit_len, inR] at *); omega) | (dsimp only [peekN_c]; omega) | exact List.eq_nil_of_length_eq_zero (by assumption) | exact (decide_eq_true (by omega)).symm | exact (decide_eq_false (by omega)).symm | exact decide_eq_decide.2 (by omega) | (split <;> first | rfl | (exfalso; omega)) | (refine ⟨fun h => ?_, fun h => ?_⟩ <;> first | rfl | (cases h; done) | omega | (exfalso; omega) | (simp only [Bool.false_eq_true] at h) ) | (simp [*]; done))) ?_ | refine Idx.mk (by first | omega | (simp only [List.length_nil, List.length_cons, List.length_append, List.length_map, List.length_take, List.length_drop, EF.of_len, EF.lit_len, inR]; omega)) ?_ | refine RetE.mk () trivial ?_ | refine Got.mk (fun _ _ => ?_) | refine boolK (fun h => ?_) ?_ | exact rfl))
def swapN_c : Ctr where
  D := Int × Int
  pre := fun _ => True
  args := fun (i, k) => [.nilp, .int .i64 i, .int .i64 k]
  objs := fun _ => []
  nn := 0
  E := Unit
  post := fun _ _ => True
  res := fun _ _ => .bool false
  out := fun _ _ => []
  mm := 0
theorem swapN_ok : swapN_c.Ok Try.prog 23 := by
  refine fn_ok ⟨[(21, hasN_c)], [(3, [3, 8, 13, 16, 20, 23], [25, 27], [(0, 0, false), (1, 0, false), (2, 0, false), (3, 1, false), (4, 0, false), (5, 0, false), (6, 0, false), (7, 0, false), (8, 1, false), (9, 0, false), (10, 0, false), (11, 0, false), (12, 0, false), (13, 1, false), (14, 0, false), (15, 0, false), (16, 1, false), (17, 0, false), (18, 0, false), (19, 0, false), (20, 1, false), (21, 0, false), (22, 0, false), (23, 1, false), (24, 0, false), (25, 2, false), (26, 0, false), (27, 2, false)])], [], [], 43, swapN_c.nn⟩ _ Try.func23 rfl rfl ⟨hasN_ok, trivial⟩ rfl rfl (by kernel_rfl) (fun _ => Nat.le_of_ble_eq_true rfl) ?_
  rintro ⟨i, k⟩ hp hr
  repeat' (((conv => whnf); first | refine Fork.mkn (fun h => ?_) (fun h => ?_) | refine Fork.mk (fun h => ?_) (fun h => ?_) | refine Side.mk (by (first | with_reducible rfl | exact True.intro | trivial | omega | (intros; (try simp only [List.length_nil, List.length_cons, List.length_append, List.length_map, List.length_take, List.length_drop, EF.of_len, EF.lit_len, inR] at *); omega) | exact List.eq_nil_of_length_eq_zero (by assumption) | exact (decide_eq_true (by omega)).symm | exact (decide_eq_false (by omega)).symm | exact decide_eq_decide.2 (by omega) | (split <;> first | rfl | (exfalso; omega)) | (refine ⟨fun h => ?_, fun h => ?_⟩ <;> first | rfl | (cases h; done) | omega | (exfalso; omega) | (simp only [Bool.false_eq_true] at h) ) | (simp [*]; done))) ?_ | refine Idx.mk (by first | omega | (simp only [List.length_nil, List.length_cons, List.length_append, List.length_map, List.length_take, List.length_drop, EF.of_len, EF.lit_len, inR]; omega)) ?_ | refine RetE.mk () trivial ?_ | refine Got.mk (fun _ _ => ?_) | refine boolK (fun h => ?_) ?_ | exact rfl))
  refine CallS.mk i ?_
  repeat' (((conv => whnf); first | refine Fork.mkn (fun h => ?_) (fun h => ?_) | refine Fork.mk (fun h => ?_) (fun h => ?_) | refine Side.mk (by (first | with_reducible rfl | exact True.intro | trivial | omega | (intros; (try simp only [List.length_nil, List.length_cons, List.length_append, List.length_map, List.length_take, List.length_drop, EF.of_len, EF.lit_len, inR] at *); omega) | (dsimp only [hasN_c]; omega) | exact List.eq_nil_of_length_eq_zero (by assumption) | exact (decide_eq_true (by omega)).symm | exact (decide_eq_false (by omega)).symm | exact decide_eq_decide.2 (by omega) | (split <;> first | rfl | (exfalso; omega)) | (refine ⟨fun h => ?_, fun h => ?_⟩ <;> first | rfl | (cases h; done) | omega | (exfalso; omega) | (simp only [Bool.false_eq_true] at h) ) | (simp [*]; done))) ?_ | refine Idx.mk (by first | omega | (simp only [List.length_nil, List.length_cons, List.length_append, List.length_map, List.length_take, List.length_drop, EF.of_len, EF.lit_len, inR]; omega)) ?_ | refine RetE.mk () trivial ?_ | refine Got.mk (fun _ _ => ?_) | refine boolK (fun h => ?_) ?_ | exact rfl))
def turnN_c : Ctr where
  D := Int × Int × BitVec 8
  pre := fun _ => True
  args := fun (i, k, b) => [.nilp, .int .i64 i, .int .i64 k, .u8 b]
  objs := fun _ => []
  nn := 0
  E := Unit
  post := fun _ _ => True
  res := fun _ _ => .bool false
  out := fun _ _ => []
  mm := 0
theorem turnN_ok : turnN_c.Ok Try.prog 11 := by
  refine fn_ok ⟨[(21, hasN_c)], [], [], [], 44, turnN_c.nn⟩ _ Try.func11 rfl rfl ⟨hasN_ok, trivial⟩ rfl rfl (by kernel_rfl) (fun _ => Nat.le_of_ble_eq_true rfl) ?_
  rintro ⟨i, k, b⟩ hp hr
  repeat' (((conv => whnf); first | refine Fork.mkn (fun h => ?_) (fun h => ?_) | refine Fork.mk (fun h => ?_) (fun h => ?_) | refine Side.mk (by (first | with_reducible rfl | exact True.intro | trivial | omega | (intros; (try simp only [List.length_nil, List.length_cons, List.length_append, List.length_map, List.length_take, List.length_drop, EF.of_len, EF.lit_len, inR] at *); omega) | exact List.eq_nil_of_length_eq_zero (by assumption) | exact (decide_eq_true (by omega)).symm | exact (decide_eq_false (by omega)).symm | exact decide_eq_decide.2 (by omega) | (split <;> first | rfl | (exfalso; omega)) | (refine ⟨fun h => ?_, fun h => ?_⟩ <;> first | rfl | (cases h; done) | omega | (exfalso; omega) | (simp only [Bool.false_eq_true] at h) ) | (simp [*]; done))) ?_ | refine Idx.mk (by first | omega | (simp only [List.length_nil, List.length_cons, List.length_append, List.length_map, List.length_take, List.length_drop, EF.of_len, EF.lit_len, inR]; omega)) ?_ | refine RetE.mk () trivial ?_ | refine Got.mk (fun _ _ => ?_) | refine boolK (fun h => ?_) ?_ | exact rfl))
  refine CallS.mk i ?_
  repeat' (((conv => whnf); first | refine Fork.mkn (fun h => ?_) (fun h => ?_) | refine Fork.mk (fun h => ?_) (fun h => ?_) | refine Side.mk (by (first | with_reducible rfl | exact True.intro | trivial | omega | (intros; (try simp only [List.length_nil, List.length_cons, List.length_append, List.length_map, List.length_take, List.length_drop, EF.of_len, EF.lit_len, inR] at *); omega) | (dsimp only [hasN_c]; omega) | exact List.eq_nil_of_length_eq_zero (by assumption) | exact (decide_eq_true (by omega)).symm | exact (decide_eq_false (by omega)).symm | exact decide_eq_decide.2 (by omega) | (split <;> first | rfl | (exfalso; omega)) | (refine ⟨fun h => ?_, fun h => ?_⟩ <;> first | rfl | (cases h; done) | omega | (exfalso; omega) | (simp only [Bool.false_eq_true] at h) ) | (simp [*]; done))) ?_ | refine Idx.mk (by first | omega | (simp only [List.length_nil, List.length_cons, List.length_append, List.length_map, List.length_take, List.length_drop, EF.of_len, EF.lit_len, inR]; omega)) ?_ | refine RetE.mk () trivial ?_ | refine Got.mk (fun _ _ => ?_) | refine boolK (fun h => ?_) ?_ | exact rfl))
def doN_c : Ctr where
  D := Int × Int × Int × BitVec 8 × List (BitVec 8)
  pre := fun _ => True
  args := fun (kind, i, k, by_, b) => [.nilp, .agg [.int .i64 kind, .int .i64 i, .int .i64 k, .u8 by_, .fs 1 eB b]]
  objs := fun _ => []
  nn := 0
  E := Unit
  post := fun _ _ => True
  res := fun _ _ => .tup [.agg [.int .i64 0, .nils], .bool false]
  out := fun _ _ => []
  mm := 0
theorem doN_ok : doN_c.Ok Try.prog 17 := by
  refine fn_ok ⟨[(8, sendN_c), (13, takeN_c), (22, dropN_c), (10, copyN_c), (23, swapN_c), (11, turnN_c)], [], [], [], 65, doN_c.nn⟩ _ Try.func17 rfl rfl ⟨sendN_ok, takeN_ok, dropN_ok, copyN_ok, swapN_ok, turnN_ok, trivial⟩ rfl rfl (by kernel_rfl) (fun _ => Nat.le_of_ble_eq_true rfl) ?_
  rintro ⟨kind, i, k, by_, b⟩ hp hr
  repeat' (((conv => whnf); first | refine Fork.mkn (fun h => ?_) (fun h => ?_) | refine Fork.mk (fun h => ?_) (fun h => ?_) | refine Side.mk (by (first | with_reducible rfl | exact True.intro | trivial | omega | (intros; (try simp only [List.length_nil, List.length_cons, List.length_append, List.length_map, List.length_take, List.length_drop, EF.of_len, EF.lit_len, inR] at *); omega) | (dsimp only [sendN_c]; omega) | exact List.eq_nil_of_length_eq_zero (by assumption) | exact (decide_eq_true (by omega)).symm | exact (decide_eq_false (by omega)).symm | exact decide_eq_decide.2 (by omega) | (split <;> first | rfl | (exfalso; omega)) | (refine ⟨fun h => ?_, fun h => ?_⟩ <;> first | rfl | (cases h; done) | omega | (exfalso; omega) | (simp only [Bool.false_eq_true] at h) ) | (simp [*]; done))) ?_ | refine Idx.mk (by first | omega | (simp only [List.length_nil, List.length_cons, List.length_append, List.length_map, List.length_take, List.length_drop, EF.of_len, EF.lit_len, inR]; omega)) ?_ | refine RetE.mk () trivial ?_ | refine Got.mk (fun _ _ => ?_) | refine boolK (fun h => ?_) ?_ | exact rfl | refine CallS.mk ((i, b)) ?_ | refine CallS.mk (i) ?_ | refine CallS.mk ((i, k)) ?_ | refine CallS.mk ((i, k, by_)) ?_))

def awake_c : Ctr where
  D := Unit
  pre := fun _ => True
  args := fun _ => []
  objs := fun _ => []
  nn := 0
  E := Unit
  post := fun _ _ => True
  res := fun _ _ => .bool true
  out := fun _ _ => []
  mm := 0
theorem awake_ok : awake_c.Ok Try.prog 7 := by
  refine fn_ok ⟨[(8, send_c), (14, len_c)], [], [], [], 13, awake_c.nn⟩ _ Try.func7 rfl rfl ⟨send_ok, len_ok, trivial⟩ rfl rfl (by kernel_rfl) (fun _ => Nat.le_of_ble_eq_true rfl) ?_
  intro _ hp hr
  repeat' (((conv => whnf); first | refine Fork.mkn (fun h => ?_) (fun h => ?_) | refine Fork.mk (fun h => ?_) (fun h => ?_) | refine Side.mk (by (first | with_reducible rfl | exact True.intro | trivial | omega | (intros; (try simp only [List.length_nil, List.length_cons, List.length_append, List.length_map, List.length_take, List.length_drop, EF.of_len, EF.lit_len, inR] at *); omega) | exact List.eq_nil_of_length_eq_zero (by assumption) | exact (decide_eq_true (by omega)).symm | exact (decide_eq_false (by omega)).symm | exact decide_eq_decide.2 (by omega) | (split <;> first | rfl | (exfalso; omega)) | (refine ⟨fun h => ?_, fun h => ?_⟩ <;> first | rfl | (cases h; done) | omega | (exfalso; omega) | (simp only [Bool.false_eq_true] at h) ) | (simp [*]; done))) ?_ | refine Idx.mk (by first | omega | (simp only [List.length_nil, List.length_cons, List.length_append, List.length_map, List.length_take, List.length_drop, EF.of_len, EF.lit_len, inR]; omega)) ?_ | refine RetE.mk () trivial ?_ | refine Got.mk (fun _ _ => ?_) | refine boolK (fun h => ?_) ?_ | exact rfl))
  refine ⟨[97], rfl, ?_⟩
  repeat' (((conv => whnf); first | refine Fork.mkn (fun h => ?_) (fun h => ?_) | refine Fork.mk (fun h => ?_) (fun h => ?_) | refine Side.mk (by (first | with_reducible rfl | exact True.intro | trivial | omega | (intros; (try simp only [List.length_nil, List.length_cons, List.length_append, List.length_map, List.length_take, List.length_drop, EF.of_len, EF.lit_len, inR] at *); omega) | exact List.eq_nil_of_length_eq_zero (by assumption) | exact (decide_eq_true (by omega)).symm | exact (decide_eq_false (by omega)).symm | exact decide_eq_decide.2 (by omega) | (split <;> first | rfl | (exfalso; omega)) | (refine ⟨fun h => ?_, fun h => ?_⟩ <;> first | rfl | (cases h; done) | omega | (exfalso; omega) | (simp only [Bool.false_eq_true] at h) ) | (simp [*]; done))) ?_ | refine Idx.mk (by first | omega | (simp only [List.length_nil, List.length_cons, List.length_append, List.length_map, List.length_take, List.length_drop, EF.of_len, EF.lit_len, inR]; omega)) ?_ | refine RetE.mk () trivial ?_ | refine Got.mk (fun _ _ => ?_) | refine boolK (fun h => ?_) ?_ | exact rfl))
  refine CallS.mk (c := send_c) (1, [97], [], 0) ?_
  repeat' (((conv => whnf); first | refine Fork.mkn (fun h => ?_) (fun h => ?_) | refine Fork.mk (fun h => ?_) (fun h => ?_) | refine Side.mk (by (first | with_reducible rfl | exact True.intro | trivial | omega | (intros; (try simp only [List.length_nil, List.length_cons, List.length_append, List.length_map, List.length_take, List.length_drop, EF.of_len, EF.lit_len, inR] at *); omega) | (dsimp only [send_c]; omega) | exact List.eq_nil_of_length_eq_zero (by assumption) | exact (decide_eq_true (by omega)).symm | exact (decide_eq_false (by omega)).symm | exact decide_eq_decide.2 (by omega) | (split <;> first | rfl | (exfalso; omega)) | (refine ⟨fun h => ?_, fun h => ?_⟩ <;> first | rfl | (cases h; done) | omega | (exfalso; omega) | (simp only [Bool.false_eq_true] at h) ) | (simp [*]; done))) ?_ | refine Idx.mk (by first | omega | (simp only [List.length_nil, List.length_cons, List.length_append, List.length_map, List.length_take, List.length_drop, EF.of_len, EF.lit_len, inR]; omega)) ?_ | refine RetE.mk () trivial ?_ | refine Got.mk (fun _ _ => ?_) | refine boolK (fun h => ?_) ?_ | exact rfl))
  refine CallS.mk (c := len_c) ([⟨1, [97]⟩], 0) ?_
  repeat' (((conv => whnf); first | refine Fork.mkn (fun h => ?_) (fun h => ?_) | refine Fork.mk (fun h => ?_) (fun h => ?_) | refine Side.mk (by (first | with_reducible rfl | exact True.intro | trivial | omega | (intros; (try simp only [List.length_nil, List.length_cons, List.length_append, List.length_map, List.length_take, List.length_drop, EF.of_len, EF.lit_len, inR] at *); omega) | (dsimp only [len_c]; omega) | exact List.eq_nil_of_length_eq_zero (by assumption) | exact (decide_eq_true (by omega)).symm | exact (decide_eq_false (by omega)).symm | exact decide_eq_decide.2 (by omega) | (split <;> first | rfl | (exfalso; omega)) | (refine ⟨fun h => ?_, fun h => ?_⟩ <;> first | rfl | (cases h; done) | omega | (exfalso; omega) | (simp only [Bool.false_eq_true] at h) ) | (simp [*]; done))) ?_ | refine Idx.mk (by first | omega | (simp only [List.length_nil, List.length_cons, List.length_append, List.length_map, List.length_take, List.length_drop, EF.of_len, EF.lit_len, inR]; omega)) ?_ | refine RetE.mk () trivial ?_ | refine Got.mk (fun _ _ => ?_) | refine boolK (fun h => ?_) ?_ | exact rfl))
def nilLaw_c : Ctr where
  D := Int × Int × Int × BitVec 8 × List (BitVec 8)
  pre := fun _ => True
  args := fun (kind, i, k, by_, b) => [.agg [.int .i64 kind, .int .i64 i, .int .i64 k, .u8 by_, .fs 1 eB b]]
  objs := fun _ => []
  nn := 0
  E := Unit
  post := fun _ _ => True
  res := fun _ _ => .bool true
  out := fun _ _ => []
  mm := 0
theorem nilLaw_ok : nilLaw_c.Ok Try.prog 6 := by
  refine fn_ok ⟨[(7, awake_c), (17, doN_c), (9, peekN_c), (14, lenN_c), (15, lostN_c)], [], [], [], 46, nilLaw_c.nn⟩ _ Try.func6 rfl rfl ⟨awake_ok, doN_ok, peekN_ok, lenN_ok, lostN_ok, trivial⟩ rfl rfl (by kernel_rfl) (fun _ => Nat.le_of_ble_eq_true rfl) ?_
  rintro ⟨kind, i, k, by_, b⟩ hp hr
  repeat' (((conv => whnf); first | refine Fork.mkn (fun h => ?_) (fun h => ?_) | refine Fork.mk (fun h => ?_) (fun h => ?_) | refine Side.mk (by (first | with_reducible rfl | exact True.intro | trivial | omega | (intros; (try simp only [List.length_nil, List.length_cons, List.length_append, List.length_map, List.length_take, List.length_drop, EF.of_len, EF.lit_len, inR] at *); omega) | (dsimp only [doN_c]; omega) | exact List.eq_nil_of_length_eq_zero (by assumption) | exact (decide_eq_true (by omega)).symm | exact (decide_eq_false (by omega)).symm | exact decide_eq_decide.2 (by omega) | (split <;> first | rfl | (exfalso; omega)) | (refine ⟨fun h => ?_, fun h => ?_⟩ <;> first | rfl | (cases h; done) | omega | (exfalso; omega) | (simp only [Bool.false_eq_true] at h) ) | (simp [*]; done))) ?_ | refine Idx.mk (by first | omega | (simp only [List.length_nil, List.length_cons, List.length_append, List.length_map, List.length_take, List.length_drop, EF.of_len, EF.lit_len, inR]; omega)) ?_ | refine RetE.mk () trivial ?_ | refine Got.mk (fun _ _ => ?_) | refine boolK (fun h => ?_) ?_ | exact rfl | refine CallS.mk ((kind, i, k, by_, b)) ?_ | refine CallS.mk (i) ?_ | refine CallS.mk (()) ?_))
end Go.Proofs.Ytkakpdmlbkgpkaa

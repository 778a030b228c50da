import Derived.Test.YtkakpdmlbkgpkaaTab
namespace Go.Proofs.Ytkakpdmlbkgpkaa
set_option linter.all false
open Go.RowKit
structure Fr where
  to : Int
  b : List (BitVec 8)
abbrev eFr (f : Fr) : List SV := [.int .i64 f.to, .fs 1 eB f.b]
def has_c : Ctr where
  D := Int × List Fr × Int
  pre := fun _ => True
  args := fun (i, l, lost) => [.ptr 0 0, .int .i64 i]
  objs := fun (i, l, lost) => [(0, .box 28 [.own 1, .int .i64 lost]), (1, .row 31 2 eFr l)]
  nn := 2
  E := Unit
  post := fun _ _ => True
  res := fun (i, l, lost) _ => .dec (0 ≤ i ∧ i < l.length) inferInstance
  out := fun (i, l, lost) _ => [(0, .box 28 [.own 1, .int .i64 lost]), (1, .row 31 2 eFr l)]
  mm := 0
theorem has_ok : has_c.Ok Try.prog 21 := by
  refine fn_ok ⟨[], [], [], [], 20, has_c.nn⟩ _ Try.func21 rfl rfl trivial rfl rfl (by kernel_rfl) (fun _ => Nat.le_of_ble_eq_true rfl) ?_
  rintro ⟨i, l, lost⟩ _ _
  repeat' (((conv => whnf); first | refine Fork.mkn (fun h => ?_) (fun h => ?_) | refine Fork.mk (fun h => ?_) (fun h => ?_) | refine Side.mk (by (first | with_reducible rfl | exact True.intro | trivial | omega | (intros; (try simp only [List.length_nil, List.length_cons, List.length_append, List.length_map, List.length_take, List.length_drop, EF.of_len, EF.lit_len, inR] at *); omega) | exact List.eq_nil_of_length_eq_zero (by assumption) | exact (decide_eq_true (by omega)).symm | exact (decide_eq_false (by omega)).symm | exact decide_eq_decide.2 (by omega) | (split <;> first | rfl | (exfalso; omega)) | (refine ⟨fun h => ?_, fun h => ?_⟩ <;> first | rfl | (cases h; done) | omega | (exfalso; omega) | (simp only [Bool.false_eq_true] at h) ) | (simp [*]; done))) ?_ | refine Idx.mk (by first | omega | (simp only [List.length_nil, List.length_cons, List.length_append, List.length_map, List.length_take, List.length_drop, EF.of_len, EF.lit_len, inR]; omega)) ?_ | refine RetE.mk () trivial ?_ | refine Got.mk (fun _ _ => ?_) | refine boolK (fun h => ?_) ?_ | exact rfl))
def clone_c : Ctr where
  D := List (BitVec 8)
  pre := fun b => b.length ≤ 1000000
  args := fun b => [.fs 1 eB b]
  objs := fun b => []
  nn := 0
  E := Unit
  post := fun _ _ => True
  res := fun b _ => .own 0
  out := fun b _ => [(0, .row 5 1 eB b)]
  mm := 1
theorem clone_ok : clone_c.Ok Try.prog 20 := by
  refine fn_ok ⟨[], [], [], [], 8, clone_c.nn⟩ _ Try.func20 rfl rfl trivial rfl rfl (by kernel_rfl) (fun _ => Nat.le_of_ble_eq_true rfl) ?_
  intro (b : List (BitVec 8)) hp hr
  try dsimp only [clone_c] at hp
  try simp only [clone_c, Rng, RngL, inR, and_true, true_and] at hr
  repeat' (((conv => whnf); first | refine Fork.mkn (fun h => ?_) (fun h => ?_) | refine Fork.mk (fun h => ?_) (fun h => ?_) | refine Side.mk (by (first | with_reducible rfl | exact True.intro | trivial | omega | (intros; (try simp only [List.length_nil, List.length_cons, List.length_append, List.length_map, List.length_take, List.length_drop, EF.of_len, EF.lit_len, inR] at *); omega) | exact List.eq_nil_of_length_eq_zero (by assumption) | exact (decide_eq_true (by omega)).symm | exact (decide_eq_false (by omega)).symm | exact decide_eq_decide.2 (by omega) | (split <;> first | rfl | (exfalso; omega)) | (refine ⟨fun h => ?_, fun h => ?_⟩ <;> first | rfl | (cases h; done) | omega | (exfalso; omega) | (simp only [Bool.false_eq_true] at h) ) | (simp [*]; done))) ?_ | refine Idx.mk (by first | omega | (simp only [List.length_nil, List.length_cons, List.length_append, List.length_map, List.length_take, List.length_drop, EF.of_len, EF.lit_len, inR]; omega)) ?_ | refine RetE.mk () trivial ?_ | refine Got.mk (fun _ _ => ?_) | refine boolK (fun h => ?_) ?_ | exact rfl))
def send_c : Ctr where
  D := Int × List (BitVec 8) × List Fr × Int
  pre := fun (to, b, l, lost) => b.length ≤ 1000000 ∧ 0 ≤ lost ∧ lost ≤ 1000000
  args := fun (to, b, l, lost) => [.ptr 0 0, .int .i64 to, .fs 1 eB b]
  objs := fun (to, b, l, lost) => [(0, .box 28 [.own 1, .int .i64 lost]), (1, .row 31 2 eFr l)]
  nn := 2
  E := Unit
  post := fun _ _ => True
  res := fun (to, b, l, lost) _ => .dec (b.length ≤ 20000 ∧ l.length < 64) inferInstance
  out := fun (to, b, l, lost) _ => [(0, .box 28 [.own 2, .int .i64 (if b.length ≤ 20000 ∧ l.length < 64 then lost else lost + 1)]), (2, .row 31 2 eFr (if b.length ≤ 20000 ∧ l.length < 64 then l ++ [⟨to, b⟩] else l))]
  mm := 1
theorem send_ok : send_c.Ok Try.prog 8 := by
  refine fn_ok ⟨[(20, clone_c)], [(6, [4], [7, 9, 10, 13], [(0, 0, false), (1, 0, false), (2, 0, false), (3, 0, false), (4, 1, false), (5, 0, false), (6, 0, false), (7, 2, true), (8, 0, false), (9, 2, true), (10, 2, false), (11, 0, false), (12, 0, false), (13, 2, false)])], [], [], 40, send_c.nn⟩ _ Try.func8 rfl rfl ⟨clone_ok, trivial⟩ rfl rfl (by kernel_rfl) (fun _ => Nat.le_of_ble_eq_true rfl) ?_
  rintro ⟨to, b, l, lost⟩ hp hr
  try dsimp only [send_c] at hp
  try simp only [send_c, Rng, RngL, inR, and_true, true_and] at hr
  repeat' (((conv => whnf); first | refine Fork.mkn (fun h => ?_) (fun h => ?_) | refine Fork.mk (fun h => ?_) (fun h => ?_) | refine Side.mk (by (first | with_reducible rfl | exact True.intro | trivial | omega | (intros; (try simp only [List.length_nil, List.length_cons, List.length_append, List.length_map, List.length_take, List.length_drop, EF.of_len, EF.lit_len, inR] at *); omega) | exact List.eq_nil_of_length_eq_zero (by assumption) | exact (decide_eq_true (by omega)).symm | exact (decide_eq_false (by omega)).symm | exact decide_eq_decide.2 (by omega) | (split <;> first | rfl | (exfalso; omega)) | (refine ⟨fun h => ?_, fun h => ?_⟩ <;> first | rfl | (cases h; done) | omega | (exfalso; omega) | (simp only [Bool.false_eq_true] at h) ) | (simp [*]; done))) ?_ | refine Idx.mk (by first | omega | (simp only [List.length_nil, List.length_cons, List.length_append, List.length_map, List.length_take, List.length_drop, EF.of_len, EF.lit_len, inR]; omega)) ?_ | refine RetE.mk () trivial ?_ | refine Got.mk (fun _ _ => ?_) | refine boolK (fun h => ?_) ?_ | exact rfl))
  refine CallS.mk b ?_
  repeat' (((conv => whnf); first | refine Fork.mkn (fun h => ?_) (fun h => ?_) | refine Fork.mk (fun h => ?_) (fun h => ?_) | refine Side.mk (by (first | with_reducible rfl | exact True.intro | trivial | omega | (intros; (try simp only [List.length_nil, List.length_cons, List.length_append, List.length_map, List.length_take, List.length_drop, EF.of_len, EF.lit_len, inR] at *); omega) | (dsimp only [clone_c]; omega) | exact List.eq_nil_of_length_eq_zero (by assumption) | exact (decide_eq_true (by omega)).symm | exact (decide_eq_false (by omega)).symm | exact decide_eq_decide.2 (by omega) | (split <;> first | rfl | (exfalso; omega)) | (refine ⟨fun h => ?_, fun h => ?_⟩ <;> first | rfl | (cases h; done) | omega | (exfalso; omega) | (simp only [Bool.false_eq_true] at h) ) | (simp [*]; done))) ?_ | refine Idx.mk (by first | omega | (simp only [List.length_nil, List.length_cons, List.length_append, List.length_map, List.length_take, List.length_drop, EF.of_len, EF.lit_len, inR]; omega)) ?_ | refine RetE.mk () trivial ?_ | refine Got.mk (fun _ _ => ?_) | refine boolK (fun h => ?_) ?_ | exact rfl))
  refine ⟨[⟨to, b⟩], rfl, ?_⟩
  repeat' (((conv => whnf); first | refine Fork.mkn (fun h => ?_) (fun h => ?_) | refine Fork.mk (fun h => ?_) (fun h => ?_) | refine Side.mk (by (first | with_reducible rfl | exact True.intro | trivial | omega | (intros; (try simp only [List.length_nil, List.length_cons, List.length_append, List.length_map, List.length_take, List.length_drop, EF.of_len, EF.lit_len, inR] at *); omega) | (dsimp only [clone_c]; omega) | exact List.eq_nil_of_length_eq_zero (by assumption) | exact (decide_eq_true (by omega)).symm | exact (decide_eq_false (by omega)).symm | exact decide_eq_decide.2 (by omega) | (split <;> first | rfl | (exfalso; omega)) | (refine ⟨fun h => ?_, fun h => ?_⟩ <;> first | rfl | (cases h; done) | omega | (exfalso; omega) | (simp only [Bool.false_eq_true] at h) ) | (simp [*]; done))) ?_ | refine Idx.mk (by first | omega | (simp only [List.length_nil, List.length_cons, List.length_append, List.length_map, List.length_take, List.length_drop, EF.of_len, EF.lit_len, inR]; omega)) ?_ | refine RetE.mk () trivial ?_ | refine Got.mk (fun _ _ => ?_) | refine boolK (fun h => ?_) ?_ | exact rfl))
def sendN_c : Ctr where
  D := Int × List (BitVec 8)
  pre := fun _ => True
  args := fun (to, b) => [.nilp, .int .i64 to, .fs 1 eB b]
  objs := fun _ => []
  nn := 0
  E := Unit
  post := fun _ _ => True
  res := fun _ _ => .bool false
  out := fun _ _ => []
  mm := 0
theorem sendN_ok : sendN_c.Ok Try.prog 8 := by
  refine fn_ok ⟨[], [(6, [4], [7, 9, 10, 13], [(0, 0, false), (1, 0, false), (2, 0, false), (3, 0, false), (4, 1, false), (5, 0, false), (6, 0, false), (7, 2, true), (8, 0, false), (9, 2, true), (10, 2, false), (11, 0, false), (12, 0, false), (13, 2, false)])], [], [], 40, sendN_c.nn⟩ _ Try.func8 rfl rfl trivial rfl rfl (by kernel_rfl) (fun _ => Nat.le_of_ble_eq_true rfl) ?_
  rintro ⟨to, b⟩ hp hr
  repeat' (((conv => whnf); first | refine Fork.mkn (fun h => ?_) (fun h => ?_) | refine Fork.mk (fun h => ?_) (fun h => ?_) | refine Side.mk (by (first | with_reducible rfl | exact True.intro | trivial | omega | (intros; (try simp only [List.length_nil, List.length_cons, List.length_append, List.length_map, List.length_take, List.length_drop, EF.of_len, EF.lit_len, inR] at *); omega) | exact List.eq_nil_of_length_eq_zero (by assumption) | exact (decide_eq_true (by omega)).symm | exact (decide_eq_false (by omega)).symm | exact decide_eq_decide.2 (by omega) | (split <;> first | rfl | (exfalso; omega)) | (refine ⟨fun h => ?_, fun h => ?_⟩ <;> first | rfl | (cases h; done) | omega | (exfalso; omega) | (simp only [Bool.false_eq_true] at h) ) | (simp [*]; done))) ?_ | refine Idx.mk (by first | omega | (simp only [List.length_nil, List.length_cons, List.length_append, List.length_map, List.length_take, List.length_drop, EF.of_len, EF.lit_len, inR]; omega)) ?_ | refine RetE.mk () trivial ?_ | refine Got.mk (fun _ _ => ?_) | refine boolK (fun h => ?_) ?_ | exact rfl))
def hasN_c : Ctr where
  D := Int
  pre := fun _ => True
  args := fun i => [.nilp, .int .i64 i]
  objs := fun _ => []
  nn := 0
  E := Unit
  post := fun _ _ => True
  res := fun _ _ => .bool false
  out := fun _ _ => []
  mm := 0
theorem hasN_ok : hasN_c.Ok Try.prog 21 := by
  refine fn_ok ⟨[], [], [], [], 20, hasN_c.nn⟩ _ Try.func21 rfl rfl trivial rfl rfl (by kernel_rfl) (fun _ => Nat.le_of_ble_eq_true rfl) ?_
  intro (i : Int) hp hr
  repeat' (((conv => whnf); first | refine Fork.mkn (fun h => ?_) (fun h => ?_) | refine Fork.mk (fun h => ?_) (fun h => ?_) | refine Side.mk (by (first | with_reducible rfl | exact True.intro | trivial | omega | (intros; (try simp only [List.length_nil, List.length_cons, List.length_append, List.length_map, List.length_take, List.length_drop, EF.of_len, EF.lit_len, inR] at *); omega) | exact List.eq_nil_of_length_eq_zero (by assumption) | exact (decide_eq_true (by omega)).symm | exact (decide_eq_false (by omega)).symm | exact decide_eq_decide.2 (by omega) | (split <;> first | rfl | (exfalso; omega)) | (refine ⟨fun h => ?_, fun h => ?_⟩ <;> first | rfl | (cases h; done) | omega | (exfalso; omega) | (simp only [Bool.false_eq_true] at h) ) | (simp [*]; done))) ?_ | refine Idx.mk (by first | omega | (simp only [List.length_nil, List.length_cons, List.length_append, List.length_map, List.length_take, List.length_drop, EF.of_len, EF.lit_len, inR]; omega)) ?_ | refine RetE.mk () trivial ?_ | refine Got.mk (fun _ _ => ?_) | refine boolK (fun h => ?_) ?_ | exact rfl))
def len_c : Ctr where
  D := List Fr × Int
  pre := fun _ => True
  args := fun (l, lost) => [.ptr 0 0]
  objs := fun (l, lost) => [(0, .box 28 [.own 1, .int .i64 lost]), (1, .row 31 2 eFr l)]
  nn := 2
  E := Unit
  post := fun _ _ => True
  res := fun (l, lost) _ => .int .i64 l.length
  out := fun (l, lost) _ => [(0, .box 28 [.own 1, .int .i64 lost]), (1, .row 31 2 eFr l)]
  mm := 0
theorem len_ok : len_c.Ok Try.prog 14 := by
  refine fn_ok ⟨[], [], [], [], 10, len_c.nn⟩ _ Try.func14 rfl rfl trivial rfl rfl (by kernel_rfl) (fun _ => Nat.le_of_ble_eq_true rfl) ?_
  rintro ⟨l, lost⟩ hp hr
  repeat' (((conv => whnf); first | refine Fork.mkn (fun h => ?_) (fun h => ?_) | refine Fork.mk (fun h => ?_) (fun h => ?_) | refine Side.mk (by (first | with_reducible rfl | exact True.intro | trivial | omega | (intros; (try simp only [List.length_nil, List.length_cons, List.length_append, List.length_map, List.length_take, List.length_drop, EF.of_len, EF.lit_len, inR] at *); omega) | exact List.eq_nil_of_length_eq_zero (by assumption) | exact (decide_eq_true (by omega)).symm | exact (decide_eq_false (by omega)).symm | exact decide_eq_decide.2 (by omega) | (split <;> first | rfl | (exfalso; omega)) | (refine ⟨fun h => ?_, fun h => ?_⟩ <;> first | rfl | (cases h; done) | omega | (exfalso; omega) | (simp only [Bool.false_eq_true] at h) ) | (simp [*]; done))) ?_ | refine Idx.mk (by first | omega | (simp only [List.length_nil, List.length_cons, List.length_append, List.length_map, List.length_take, List.length_drop, EF.of_len, EF.lit_len, inR]; omega)) ?_ | refine RetE.mk () trivial ?_ | refine Got.mk (fun _ _ => ?_) | refine boolK (fun h => ?_) ?_ | exact rfl))
def lenN_c : Ctr where
  D := Unit
  pre := fun _ => True
  args := fun _ => [.nilp]
  objs := fun _ => []
  nn := 0
  E := Unit
  post := fun _ _ => True
  res := fun _ _ => .int .i64 0
  out := fun _ _ => []
  mm := 0
theorem lenN_ok : lenN_c.Ok Try.prog 14 := by
  refine fn_ok ⟨[], [], [], [], 10, lenN_c.nn⟩ _ Try.func14 rfl rfl trivial rfl rfl (by kernel_rfl) (fun _ => Nat.le_of_ble_eq_true rfl) ?_
  intro _ hp hr
  repeat' (((conv => whnf); first | refine Fork.mkn (fun h => ?_) (fun h => ?_) | refine Fork.mk (fun h => ?_) (fun h => ?_) | refine Side.mk (by (first | with_reducible rfl | exact True.intro | trivial | omega | (intros; (try simp only [List.length_nil, List.length_cons, List.length_append, List.length_map, List.length_take, List.length_drop, EF.of_len, EF.lit_len, inR] at *); omega) | exact List.eq_nil_of_length_eq_zero (by assumption) | exact (decide_eq_true (by omega)).symm | exact (decide_eq_false (by omega)).symm | exact decide_eq_decide.2 (by omega) | (split <;> first | rfl | (exfalso; omega)) | (refine ⟨fun h => ?_, fun h => ?_⟩ <;> first | rfl | (cases h; done) | omega | (exfalso; omega) | (simp only [Bool.false_eq_true] at h) ) | (simp [*]; done))) ?_ | refine Idx.mk (by first | omega | (simp only [List.length_nil, List.length_cons, List.length_append, List.length_map, List.length_take, List.length_drop, EF.of_len, EF.lit_len, inR]; omega)) ?_ | refine RetE.mk () trivial ?_ | refine Got.mk (fun _ _ => ?_) | refine boolK (fun h => ?_) ?_ | exact rfl))
def lost_c : Ctr where
  D := List Fr × Int
  pre := fun _ => True
  args := fun (l, lost) => [.ptr 0 0]
  objs := fun (l, lost) => [(0, .box 28 [.own 1, .int .i64 lost]), (1, .row 31 2 eFr l)]
  nn := 2
  E := Unit
  post := fun _ _ => True
  res := fun (l, lost) _ => .int .i64 lost
  out := fun (l, lost) _ => [(0, .box 28 [.own 1, .int .i64 lost]), (1, .row 31 2 eFr l)]
  mm := 0
theorem lost_ok : lost_c.Ok Try.prog 15 := by
  refine fn_ok ⟨[], [], [], [], 9, lost_c.nn⟩ _ Try.func15 rfl rfl trivial rfl rfl (by kernel_rfl) (fun _ => Nat.le_of_ble_eq_true rfl) ?_
  rintro ⟨l, lost⟩ hp hr
  repeat' (((conv => whnf); first | refine Fork.mkn (fun h => ?_) (fun h => ?_) | refine Fork.mk (fun h => ?_) (fun h => ?_) | refine Side.mk (by (first | with_reducible rfl | exact True.intro | trivial | omega | (intros; (try simp only [List.length_nil, List.length_cons, List.length_append, List.length_map, List.length_take, List.length_drop, EF.of_len, EF.lit_len, inR] at *); omega) | exact List.eq_nil_of_length_eq_zero (by assumption) | exact (decide_eq_true (by omega)).symm | exact (decide_eq_false (by omega)).symm | exact decide_eq_decide.2 (by omega) | (split <;> first | rfl | (exfalso; omega)) | (refine ⟨fun h => ?_, fun h => ?_⟩ <;> first | rfl | (cases h; done) | omega | (exfalso; omega) | (simp only [Bool.false_eq_true] at h) ) | (simp [*]; done))) ?_ | refine Idx.mk (by first | omega | (simp only [List.length_nil, List.length_cons, List.length_append, List.length_map, List.length_take, List.length_drop, EF.of_len, EF.lit_len, inR]; omega)) ?_ | refine RetE.mk () trivial ?_ | refine Got.mk (fun _ _ => ?_) | refine boolK (fun h => ?_) ?_ | exact rfl))
def lostN_c : Ctr where
  D := Unit
  pre := fun _ => True
  args := fun _ => [.nilp]
  objs := fun _ => []
  nn := 0
  E := Unit
  post := fun _ _ => True
  res := fun _ _ => .int .i64 0
  out := fun _ _ => []
  mm := 0
theorem lostN_ok : lostN_c.Ok Try.prog 15 := by
  refine fn_ok ⟨[], [], [], [], 9, lostN_c.nn⟩ _ Try.func15 rfl rfl trivial rfl rfl (by kernel_rfl) (fun _ => Nat.le_of_ble_eq_true rfl) ?_
  intro _ hp hr
  repeat' (((conv => whnf); first | refine Fork.mkn (fun h => ?_) (fun h => ?_) | refine Fork.mk (fun h => ?_) (fun h => ?_) | refine Side.mk (by (first | with_reducible rfl | exact True.intro | trivial | omega | (intros; (try simp only [List.length_nil, List.length_cons, List.length_append, List.length_map, List.length_take, List.length_drop, EF.of_len, EF.lit_len, inR] at *); omega) | exact List.eq_nil_of_length_eq_zero (by assumption) | exact (decide_eq_true (by omega)).symm | exact (decide_eq_false (by omega)).symm | exact decide_eq_decide.2 (by omega) | (split <;> first | rfl | (exfalso; omega)) | (refine ⟨fun h => ?_, fun h => ?_⟩ <;> first | rfl | (cases h; done) | omega | (exfalso; omega) | (simp only [Bool.false_eq_true] at h) ) | (simp [*]; done))) ?_ | refine Idx.mk (by first | omega | (simp only [List.length_nil, List.length_cons, List.length_append, List.length_map, List.length_take, List.length_drop, EF.of_len, EF.lit_len, inR]; omega)) ?_ | refine RetE.mk () trivial ?_ | refine Got.mk (fun _ _ => ?_) | refine boolK (fun h => ?_) ?_ | exact rfl))
end Go.Proofs.Ytkakpdmlbkgpkaa

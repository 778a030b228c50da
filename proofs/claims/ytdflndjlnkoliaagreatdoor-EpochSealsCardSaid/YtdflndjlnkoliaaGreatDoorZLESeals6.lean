import Derived.Test.YtdflndjlnkoliaaGreatDoorZLESeals5
namespace Go.Proofs.YtdflndjlnkoliaaGreatDoor
set_option linter.all false
open Go.RowKit
def lenTab : List (BitVec 64 × Int) := [(1#64, 1), (2#64, 2), (3#64, 2), (4#64, 3), (5#64, 3), (6#64, 3), (7#64, 3), (8#64, 4)]
def zerTab : List (BitVec 64 × Int) := [(1#64, 0), (2#64, 1), (3#64, 0), (4#64, 2), (5#64, 0), (6#64, 1), (7#64, 0), (8#64, 3)]
def blen64_c : Ctr where
  D := BitVec 64 × Int
  pre := fun p => p ∈ lenTab
  args := fun (x, _) => [.u64 x]
  res := fun (_, k) _ => .int .i64 k
set_option maxRecDepth 100000 in
def blen64_H : Cfg := ⟨[], [], [], [], 25, 0, [], [], []⟩
theorem blen64_ok : blen64_c.Ok Tryz.prog 180 := by
  refine fn_ok blen64_H 0 rfl _ Tryz.func180 rfl rfl trivial rfl rfl (by kernel_rfl) (fun _ => Nat.le_of_ble_eq_true rfl) ?_
  rintro ⟨x, k⟩ hp hr
  try dsimp only [blen64_c] at hp
  try simp only [blen64_c, Rng, RngL, inR, and_true, true_and] at hr
  simp only [lenTab, List.mem_cons, Prod.mk.injEq, List.not_mem_nil, or_false] at hp
  rcases hp with ⟨rfl, rfl⟩ | ⟨rfl, rfl⟩ | ⟨rfl, rfl⟩ | ⟨rfl, rfl⟩ | ⟨rfl, rfl⟩ | ⟨rfl, rfl⟩ | ⟨rfl, rfl⟩ | ⟨rfl, rfl⟩
  all_goals
    repeat' (first | (with_reducible refine Unf.h ?_) | ((conv => whnf); first | refine Fork.mk (fun h => ?_) (fun h => ?_) | (refine Side.mk ?_ ?_; focus ((intros; (try simp only [lenS, inR, cutS, loI, hiI] at *); omega)))) | fail); all_goals try (conv => whnf); all_goals try (exfalso; omega)
  all_goals try contradiction
  all_goals
    refine Idx.mk (by decide +kernel) ?_
    repeat (first | (with_reducible refine Unf.h ?_) | ((conv => whnf); (with_reducible first | refine Unf.h ?_ | refine loopK_n ?_ | refine cutK_n ?_)))
    conv => whnf
  all_goals
    refine Side.mk (fun _ h => by rwa [Int.zero_add]) ?_
    repeat (first | (with_reducible refine Unf.h ?_) | ((conv => whnf); (with_reducible first | refine Unf.h ?_ | refine loopK_n ?_ | refine cutK_n ?_)))
    conv => whnf
    refine retK_r ?_
    refine RetE.mk () trivial ?_
    conv => whnf
  all_goals
    refine Side.mk ?_ ?_
    focus
      refine congrArg (SV.int .i64) ?_
      decide +kernel
    repeat (first | (with_reducible refine Unf.h ?_) | ((conv => whnf); (with_reducible first | refine Unf.h ?_ | refine loopK_n ?_ | refine cutK_n ?_)))
    conv => whnf
    exact rfl
def bzer64_c : Ctr where
  D := BitVec 64 × Int
  pre := fun p => p ∈ zerTab
  args := fun (x, _) => [.u64 x]
  res := fun (_, k) _ => .int .i64 k
def bzer64_H : Cfg := ⟨[], [], [], [], 14, 0, [], [], []⟩
theorem bzer64_ok : bzer64_c.Ok Tryz.prog 201 := by
  refine fn_ok bzer64_H 0 rfl _ Tryz.func201 rfl rfl trivial rfl rfl (by kernel_rfl) (fun _ => Nat.le_of_ble_eq_true rfl) ?_
  rintro ⟨x, k⟩ hp hr
  try dsimp only [bzer64_c] at hp
  try simp only [bzer64_c, Rng, RngL, inR, and_true, true_and] at hr
  simp only [zerTab, List.mem_cons, Prod.mk.injEq, List.not_mem_nil, or_false] at hp
  rcases hp with ⟨rfl, rfl⟩ | ⟨rfl, rfl⟩ | ⟨rfl, rfl⟩ | ⟨rfl, rfl⟩ | ⟨rfl, rfl⟩ | ⟨rfl, rfl⟩ | ⟨rfl, rfl⟩ | ⟨rfl, rfl⟩
  all_goals
    repeat' (first | (with_reducible refine Unf.h ?_) | ((conv => whnf); first | refine Fork.mk (fun h => ?_) (fun h => ?_) | refine RetE.mk () trivial ?_ | refine retK_r ?_) | fail); all_goals try (conv => whnf); all_goals try (exfalso; omega)
  all_goals try contradiction
  all_goals
    refine Idx.mk (by decide +kernel) ?_
    repeat (first | (with_reducible refine Unf.h ?_) | ((conv => whnf); (with_reducible first | refine Unf.h ?_ | refine loopK_n ?_ | refine cutK_n ?_)))
    conv => whnf
    refine retK_r ?_
    refine RetE.mk () trivial ?_
    conv => whnf
  all_goals
    refine Side.mk ?_ ?_
    focus
      refine congrArg (SV.int .i64) ?_
      decide +kernel
    repeat (first | (with_reducible refine Unf.h ?_) | ((conv => whnf); (with_reducible first | refine Unf.h ?_ | refine loopK_n ?_ | refine cutK_n ?_)))
    conv => whnf
    exact rfl
def blen_c : Ctr where
  D := BitVec 64 × Int
  pre := fun p => p ∈ lenTab
  args := fun (x, _) => [.u64 x]
  res := fun (_, k) _ => .int .i64 k
def blen_H : Cfg := ⟨[(180, blen64_c)], [], [], [], 8, 0, [], [], []⟩
theorem blen_ok : blen_c.Ok Tryz.prog 149 := by
  refine fn_ok blen_H 0 rfl _ Tryz.func149 rfl rfl ⟨blen64_ok, trivial⟩ rfl rfl (by kernel_rfl) (fun _ => Nat.le_of_ble_eq_true rfl) ?_
  rintro ⟨x, k⟩ hp hr
  try dsimp only [blen_c] at hp
  try simp only [blen_c, Rng, RngL, inR, and_true, true_and] at hr
  have hq : blen64_c.pre (x, k) := hp
  repeat' (first | (with_reducible refine Unf.h ?_) | ((conv => whnf); first | (refine Side.mk ?_ ?_; focus (first | with_reducible rfl | assumption | (refine congrArg (SV.int _) ?_; omega))) | refine RetE.mk () trivial ?_ | refine Got.mk (fun _ _ => ?_) | refine retK_r ?_ | exact rfl | refine CallS.mk (c := blen64_c) ((x, k)) ?_) | fail); all_goals try (conv => whnf); all_goals try (exfalso; omega)
def bzer_c : Ctr where
  D := BitVec 64 × Int
  pre := fun p => p ∈ zerTab
  args := fun (x, _) => [.u64 x]
  res := fun (_, k) _ => .int .i64 k
def bzer_H : Cfg := ⟨[(201, bzer64_c)], [], [], [], 8, 0, [], [], []⟩
theorem bzer_ok : bzer_c.Ok Tryz.prog 197 := by
  refine fn_ok bzer_H 0 rfl _ Tryz.func197 rfl rfl ⟨bzer64_ok, trivial⟩ rfl rfl (by kernel_rfl) (fun _ => Nat.le_of_ble_eq_true rfl) ?_
  rintro ⟨x, k⟩ hp hr
  try dsimp only [bzer_c] at hp
  try simp only [bzer_c, Rng, RngL, inR, and_true, true_and] at hr
  have hq : bzer64_c.pre (x, k) := hp
  repeat' (first | (with_reducible refine Unf.h ?_) | ((conv => whnf); first | (refine Side.mk ?_ ?_; focus (first | with_reducible rfl | assumption | (refine congrArg (SV.int _) ?_; omega))) | refine RetE.mk () trivial ?_ | refine Got.mk (fun _ _ => ?_) | refine retK_r ?_ | exact rfl | refine CallS.mk (c := bzer64_c) ((x, k)) ?_) | fail); all_goals try (conv => whnf); all_goals try (exfalso; omega)
def fseg_c : Ctr where
  D := Nat × Nat
  pre := fun (fr, to) => fr < to ∧ to ≤ 8
  args := fun (fr, to) => [.int .i64 (fr : Int), .int .i64 (to : Int)]
  res := fun (fr, to) _ => .int .i64 (sizeS fr to : Int)
def fseg_H : Cfg := ⟨[(149, blen_c), (197, bzer_c)], [], [], [], 22, 0, [], [], []⟩
theorem fseg_ok : fseg_c.Ok Tryz.prog 188 := by
  refine fn_ok fseg_H 0 rfl _ Tryz.func188 rfl rfl ⟨blen_ok, bzer_ok, trivial⟩ rfl rfl (by kernel_rfl) (fun _ => Nat.le_of_ble_eq_true rfl) ?_
  rintro ⟨fr, to⟩ hp hr
  try dsimp only [fseg_c] at hp
  try simp only [fseg_c, Rng, RngL, inR, and_true, true_and] at hr
  obtain ⟨hp1, hp2⟩ := hp
  have hp1 : fr < to := hp1
  have hp2 : to ≤ 8 := hp2
  obtain ⟨d, rfl⟩ : ∃ d, to = fr + (d + 1) := ⟨to - fr - 1, by omega⟩
  have hd : d < 8 := by omega
  have hf : fr < 8 := by omega
  obtain ⟨D, hD⟩ : ∃ D : Int, ((fr + (d + 1) : Nat) : Int) - fr = D := ⟨_, rfl⟩
  have hDv : D = (d : Int) + 1 := by omega
  obtain ⟨L, hL1, hL2, hL3⟩ : ∃ L : Nat, (BitVec.ofInt 64 D, (L : Int) + 1) ∈ lenTab ∧ 2 ^ L ≤ d + 1 ∧ d + 1 < 2 ^ (L + 1) := by
    subst hDv
    have : d = 0 ∨ d = 1 ∨ d = 2 ∨ d = 3 ∨ d = 4 ∨ d = 5 ∨ d = 6 ∨ d = 7 := by omega
    rcases this with rfl | rfl | rfl | rfl | rfl | rfl | rfl | rfl
    · exact ⟨0, by decide, by decide, by decide⟩
    · exact ⟨1, by decide, by decide, by decide⟩
    · exact ⟨1, by decide, by decide, by decide⟩
    · exact ⟨2, by decide, by decide, by decide⟩
    · exact ⟨2, by decide, by decide, by decide⟩
    · exact ⟨2, by decide, by decide, by decide⟩
    · exact ⟨2, by decide, by decide, by decide⟩
    · exact ⟨3, by decide, by decide, by decide⟩
  have hLl : L ≤ 3 := by
    rcases Nat.lt_or_ge 3 L with h | h
    · have := Nat.pow_le_pow_right (show 0 < 2 by decide) (show 4 ≤ L from h)
      omega
    · exact h
  have hLp : ((1 : Int) * 2 ^ ((((L : Int) + 1 - 1).toNat : Nat) : Int).toNat) = ((2 ^ L : Nat) : Int) := by
    rw [show ((((L : Int) + 1 - 1).toNat : Nat) : Int).toNat = L by omega]; push_cast; omega
  have hLs : 0 ≤ ((((L : Int) + 1 - 1).toNat : Nat) : Int) ∧ ((((L : Int) + 1 - 1).toNat : Nat) : Int) < 64 ∧ inR ((1 : Int) * 2 ^ ((((L : Int) + 1 - 1).toNat : Nat) : Int).toNat) := by
    rw [hLp]; exact ⟨by omega, by omega, by constructor <;> omega⟩
  have hLb : 2 ^ L ≤ 8 := by omega
  have hqL : blen_c.pre (BitVec.ofInt 64 D, (L : Int) + 1) := hL1
  rcases Nat.eq_zero_or_pos fr with h0 | h0
  · subst h0
    have e : sizeS 0 (0 + (d + 1)) = 2 ^ L := by
      rw [size_prog (L := L) (T := 0) (by omega) (by omega) (by omega) (by simp) (fun h => absurd rfl h), if_pos rfl]
    repeat' (first | (with_reducible refine Unf.h ?_) | ((conv => whnf); (refine Side.mk ?_ ?_; focus ((intros; (try simp only [lenS, inR, cutS, loI, hiI] at *); omega)))) | fail); all_goals try (conv => whnf); all_goals try (exfalso; omega)
    rw [hD]
    refine CallS.mk (c := blen_c) ((BitVec.ofInt 64 D, (L : Int) + 1)) ?_
    repeat' (first | (with_reducible refine Unf.h ?_) | ((conv => whnf); first | refine Fork.mk (fun h => ?_) (fun h => ?_) | (refine Side.mk ?_ ?_; focus (first | with_reducible rfl | assumption | omega | (refine congrArg (SV.int _) ?_; omega) | (intros; (try simp only [lenS, inR, cutS, loI, hiI, e] at *); omega))) | refine RetE.mk () trivial ?_ | refine Got.mk (fun _ _ => ?_) | refine retK_r ?_ | exact rfl) | fail); all_goals try (conv => whnf); all_goals try (exfalso; omega)
  · obtain ⟨T, hT1, hT2, hT3⟩ : ∃ T : Nat, (BitVec.ofInt 64 (fr : Int), (T : Int)) ∈ zerTab ∧ fr % 2 ^ T = 0 ∧ fr % 2 ^ (T + 1) ≠ 0 := by
      have : fr = 1 ∨ fr = 2 ∨ fr = 3 ∨ fr = 4 ∨ fr = 5 ∨ fr = 6 ∨ fr = 7 := by omega
      rcases this with rfl | rfl | rfl | rfl | rfl | rfl | rfl
      · exact ⟨0, by decide, by decide, by decide⟩
      · exact ⟨1, by decide, by decide, by decide⟩
      · exact ⟨0, by decide, by decide, by decide⟩
      · exact ⟨2, by decide, by decide, by decide⟩
      · exact ⟨0, by decide, by decide, by decide⟩
      · exact ⟨1, by decide, by decide, by decide⟩
      · exact ⟨0, by decide, by decide, by decide⟩
    have hTl : T ≤ 3 := by
      rcases Nat.lt_or_ge 3 T with h | h
      · have h1 := Nat.pow_le_pow_right (show 0 < 2 by decide) (show 4 ≤ T from h)
        have h2 := Nat.le_of_dvd h0 (Nat.dvd_of_mod_eq_zero hT2)
        omega
      · exact h
    have hTp : ((1 : Int) * 2 ^ ((((T : Int)).toNat : Nat) : Int).toNat) = ((2 ^ T : Nat) : Int) := by
      rw [show ((((T : Int)).toNat : Nat) : Int).toNat = T by omega]; push_cast; omega
    have hTb : 2 ^ T ≤ 8 := by have := Nat.pow_le_pow_right (show 0 < 2 by decide) hTl; omega
    have hTs : 0 ≤ ((((T : Int)).toNat : Nat) : Int) ∧ ((((T : Int)).toNat : Nat) : Int) < 64 ∧ inR ((1 : Int) * 2 ^ ((((T : Int)).toNat : Nat) : Int).toNat) := by
      rw [hTp]; exact ⟨by omega, by omega, by constructor <;> omega⟩
    have hqT : bzer_c.pre (BitVec.ofInt 64 (fr : Int), (T : Int)) := hT1
    have e : sizeS fr (fr + (d + 1)) = 2 ^ min L T := by
      rw [size_prog (L := L) (T := T) (by omega) (by omega) (by omega) hT2 (fun _ => hT3), if_neg (by omega)]
    have em : 2 ^ min L T = min (2 ^ L) (2 ^ T) := by
      rcases Nat.le_total L T with h | h
      · rw [Nat.min_eq_left h, Nat.min_eq_left (Nat.pow_le_pow_right (by decide) h)]
      · rw [Nat.min_eq_right h, Nat.min_eq_right (Nat.pow_le_pow_right (by decide) h)]
    repeat' (first | (with_reducible refine Unf.h ?_) | ((conv => whnf); (refine Side.mk ?_ ?_; focus ((intros; (try simp only [lenS, inR, cutS, loI, hiI] at *); omega)))) | fail); all_goals try (conv => whnf); all_goals try (exfalso; omega)
    rw [hD]
    refine CallS.mk (c := blen_c) ((BitVec.ofInt 64 D, (L : Int) + 1)) ?_
    repeat' (first | (with_reducible refine Unf.h ?_) | ((conv => whnf); first | refine Fork.mk (fun h => ?_) (fun h => ?_) | (refine Side.mk ?_ ?_; focus (first | with_reducible rfl | assumption | omega | (intros; (try simp only [lenS, inR, cutS, loI, hiI] at *); omega))) | refine Got.mk (fun _ _ => ?_)) | fail); all_goals try (conv => whnf); all_goals try (exfalso; omega)
    refine CallS.mk (c := bzer_c) ((BitVec.ofInt 64 (fr : Int), (T : Int))) ?_
    repeat' (first | (with_reducible refine Unf.h ?_) | ((conv => whnf); first | (refine Side.mk ?_ ?_; focus (first | with_reducible rfl | assumption | omega | (refine congrArg (SV.int _) ?_; omega))) | refine RetE.mk () trivial ?_ | refine Got.mk (fun _ _ => ?_) | refine retK_r ?_ | exact rfl) | fail); all_goals try (conv => whnf); all_goals try (exfalso; omega)
end Go.Proofs.YtdflndjlnkoliaaGreatDoor

namespace Go.Proofs.YtdflndjlnkoliaaGreatDoor
set_option linter.all false
open Go.RowKit
def fmay_c : Ctr where
  D := Int × Int
  args := fun (fr, to) => [.int .i64 fr, .int .i64 to]
  res := fun (fr, to) _ => .dec (0 ≤ fr ∧ fr ≤ to ∧ to ≤ 2147483647) inferInstance
def fmay_H : Cfg := ⟨[], [], [], [], 16, 0, [], [], []⟩
theorem fmay_ok : fmay_c.Ok Tryz.prog 168 := by
  refine fn_ok fmay_H 0 rfl _ Tryz.func168 rfl rfl trivial rfl rfl (by kernel_rfl) (fun _ => Nat.le_of_ble_eq_true rfl) ?_
  rintro ⟨fr, to⟩ hp hr
  try dsimp only [fmay_c] at hp
  try simp only [fmay_c, Rng, RngL, inR, and_true, true_and] at hr
  repeat' (first | (with_reducible refine Unf.h ?_) | ((conv => whnf); first | refine Fork.mk (fun h => ?_) (fun h => ?_) | (refine Side.mk ?_ ?_; focus (first | omega | (refine ⟨fun h => ?_, fun h => ?_⟩ <;> first | rfl | (cases h; done) | omega | (exfalso; omega) | (simp only [Bool.false_eq_true] at h; done)))) | refine RetE.mk () trivial ?_ | refine retK_r ?_ | exact rfl) | fail); all_goals try (conv => whnf); all_goals try (exfalso; omega)
def fsegs_c : Ctr where
  D := Nat
  pre := fun to => to ≤ 8
  args := fun to => [.int .i64 0, .int .i64 (to : Int)]
  res := fun to _ => .fs 1 eN (segZ to 0 to)
def fsegs_H : Cfg := ⟨[(168, fmay_c), (188, fseg_c)], [], [], [], 25, 0, [], [], []⟩
theorem fsegs_ok : fsegs_c.Ok Tryz.prog 169 := by
  refine fn_ok fsegs_H 0 rfl _ Tryz.func169 rfl rfl ⟨fmay_ok, fseg_ok, trivial⟩ rfl rfl (by kernel_rfl) (fun _ => Nat.le_of_ble_eq_true rfl) ?_
  intro (to : Nat) hp hr
  try dsimp only [fsegs_c] at hp
  try simp only [fsegs_c, Rng, RngL, inR, and_true, true_and] at hr
  have hp : to ≤ 8 := hp
  repeat' (first | (with_reducible refine Unf.h ?_) | fail); all_goals try (conv => whnf); all_goals try (exfalso; omega)
  refine CallS.mk (c := fmay_c) ((0, (to : Int))) ?_
  repeat' (first | (with_reducible refine Unf.h ?_) | ((conv => whnf); first | refine Fork.mkn (fun h => ?_) (fun h => ?_) | (refine Side.mk ?_ ?_; focus (first | with_reducible rfl | exact True.intro)) | refine Got.mk (fun _ _ => ?_)) | fail); all_goals try (conv => whnf); all_goals try (exfalso; omega)
  refine LoopS.autoN (I := Nat × List Nat) (fun (a, acc) => a ≤ to ∧ acc.length ≤ a ∧ acc ++ segZ (to - a) a to = segZ to 0 to) (fun (a, acc) => [(0, .int .i64 (a : Int)), (5, .own 0)]) (fun (a, acc) => [(0, .row 3 1 eN acc)]) 1 (fun (a, _) => to - a) (0, []) ⟨Nat.zero_le _, Nat.zero_le _, rfl⟩ ?_ ?_
  · repeat' (first | (with_reducible refine Unf.h ?_) | ((conv => whnf); first | (refine Side.mk ?_ ?_; focus (first | with_reducible rfl | (refine congrArg (SV.int _) ?_; omega))) | (with_reducible refine Unf.h ?_) | exact True.intro) | fail); all_goals try (conv => whnf); all_goals try (exfalso; omega)
  · rintro ⟨a, acc⟩ ⟨g2, g3, g4⟩
    have g2 : a ≤ to := g2
    have g3 : acc.length ≤ a := g3
    have g4 : acc ++ segZ (to - a) a to = segZ to 0 to := g4
    by_cases hat : a < to
    · obtain ⟨z1, z2⟩ := size_pos hat
      have hpz : fseg_c.pre (a, to) := ⟨hat, hp⟩
      rw [segZ_cons hat] at g4
      repeat' (first | (with_reducible refine Unf.h ?_) | ((conv => whnf); refine Fork.mk (fun h => ?_) (fun h => ?_)) | fail); all_goals try (conv => whnf); all_goals try (exfalso; omega)
      refine CallS.mk (c := fseg_c) ((a, to)) ?_
      repeat' (first | (with_reducible first | refine Unf.h ?_ | refine loopK_n ?_) | ((conv => whnf); first | (refine Side.mk ?_ ?_; focus (first | with_reducible rfl | assumption | (intros; (try simp only [lenS, inR, cutS, loI, hiI] at *); omega))) | refine Got.mk (fun _ _ => ?_) | refine Ex.mk [_] rfl ?_) | fail); all_goals try (conv => whnf); all_goals try (exfalso; omega)
      refine ⟨(a + sizeS a to, acc ++ [sizeS a to]), ⟨by show to - (a + sizeS a to) < to - a; omega, by omega, by show (acc ++ [sizeS a to]).length ≤ _; simp; omega, by rw [List.append_assoc]; exact g4⟩, ?_⟩
      repeat' (first | (with_reducible refine Unf.h ?_) | ((conv => whnf); first | (refine Side.mk ?_ ?_; focus (first | with_reducible rfl | (refine congrArg (SV.int _) ?_; omega))) | (with_reducible refine Unf.h ?_) | exact True.intro) | fail); all_goals try (conv => whnf); all_goals try (exfalso; omega)
    · have e : segZ (to - a) a to = [] := by rw [show to - a = 0 by omega]; rfl
      rw [e, List.append_nil] at g4
      repeat' (first | (with_reducible refine Unf.h ?_) | ((conv => whnf); first | refine Fork.mk (fun h => ?_) (fun h => ?_) | (refine Side.mk ?_ ?_; focus ((simp only [*, g4]; done))) | refine RetE.mk () trivial ?_ | refine retK_r ?_ | exact rfl) | fail); all_goals try (conv => whnf); all_goals try (exfalso; omega)
theorem segR_len : ∀ (f fr : Nat) (l : List H256), l.length ≤ f → (segR nodeH zeroR f fr l).length = (segZ f fr (fr + l.length)).length
  | 0, fr, l, _ => rfl
  | f + 1, fr, l, h => by
    cases l with
    | nil =>
      show 0 = (segZ (f + 1) fr (fr + 0)).length
      unfold segZ
      rw [if_neg (by omega)]; rfl
    | cons x r =>
      obtain ⟨z1, z2⟩ := size_pos (show fr < fr + (x :: r).length by simp)
      have e1 : (x :: r).length = r.length + 1 := rfl
      have ih := segR_len f (fr + sizeS fr (fr + (x :: r).length)) ((x :: r).drop (sizeS fr (fr + (x :: r).length))) (by rw [List.length_drop]; omega)
      rw [List.length_drop, show fr + sizeS fr (fr + (x :: r).length) + ((x :: r).length - sizeS fr (fr + (x :: r).length)) = fr + (x :: r).length by omega] at ih
      show (segR nodeH zeroR f _ _).length + 1 = _
      rw [ih]
      show _ = (if fr < fr + (x :: r).length then _ else _ : List Nat).length
      rw [if_pos (by omega)]; rfl
theorem segsH_len0 (l : List H256) : (segsH 0 l).length = (segZ l.length 0 l.length).length := by
  have := segR_len l.length 0 l (Nat.le_refl _)
  rw [Nat.zero_add] at this
  exact this
def fformed_c : Ctr where
  D := List H256 × Nat
  pre := fun (S, to) => to ≤ 8 ∧ S.length = (segZ to 0 to).length
  args := fun (S, to) => [.agg [.int .i64 0, .int .i64 (to : Int), .fs 32 eH S]]
  res := fun _ _ => .bool true
def fformed_H : Cfg := ⟨[(168, fmay_c), (169, fsegs_c)], [(1, [1, 3, 7, 9], [4, 10, 13], (.one 0 0 false (.one 1 1 false (.one 2 0 false (.one 3 1 false (.one 4 2 true (.one 5 0 false (.one 6 0 false (.one 7 1 false (.one 8 0 false (.one 9 1 false (.one 12 0 false (.alt 10 true (.one 11 0 false (.one 13 2 true (.one 14 0 false (.one 15 0 false (.one 16 0 false (.one 17 0 false .nil)))))) (.one 13 2 true (.one 14 0 false (.one 10 2 false (.one 11 0 false (.one 15 0 false (.one 16 0 false (.one 17 0 false .nil))))))))))))))))))), [])], [], [], 20, 0, [], [], []⟩
theorem fformed_ok : fformed_c.Ok Tryz.prog 146 := by
  refine fn_ok fformed_H 0 rfl _ Tryz.func146 rfl rfl ⟨fmay_ok, fsegs_ok, trivial⟩ rfl rfl (by kernel_rfl) (fun _ => Nat.le_of_ble_eq_true rfl) ?_
  rintro ⟨S, to⟩ hp hr
  try dsimp only [fformed_c] at hp
  try simp only [fformed_c, Rng, RngL, inR, and_true, true_and] at hr
  obtain ⟨hp, hl⟩ := hp
  have hp : to ≤ 8 := hp
  have hl : S.length = (segZ to 0 to).length := hl
  have hz := segZ_len to 0 to
  have hq : fsegs_c.pre to := hp
  repeat' (first | (with_reducible refine Unf.h ?_) | fail); all_goals try (conv => whnf); all_goals try (exfalso; omega)
  refine CallS.mk (c := fmay_c) ((0, (to : Int))) ?_
  repeat' (first | (with_reducible refine Unf.h ?_) | ((conv => whnf); first | refine Both.mk ?_ ?_ | refine Both.mk ?_ ?_ | refine Fork.mk (fun h => ?_) (fun h => ?_) | (refine Side.mk ?_ ?_; focus (first | with_reducible rfl | exact True.intro)) | refine Got.mk (fun _ _ => ?_)) | fail); all_goals try (conv => whnf); all_goals try (exfalso; omega)
  all_goals
    refine CallS.mk (c := fsegs_c) (to) ?_
    repeat' (first | (with_reducible refine Unf.h ?_) | ((conv => whnf); first | (refine Side.mk ?_ ?_; focus (first | with_reducible rfl | assumption | (simp [*]; done))) | refine RetE.mk () trivial ?_ | refine Got.mk (fun _ _ => ?_) | refine retK_r ?_ | exact rfl) | fail); all_goals try (conv => whnf); all_goals try (exfalso; omega)
def foldH (l : List H256) : H256 := foldRt nodeH zeroR l
theorem foldH_cons (x : H256) {l : List H256} (h : l ≠ []) : foldH (x :: l) = nodeH x (foldH l) := by
  cases l with
  | nil => exact absurd rfl h
  | cons y r => rfl
def logH (l : List H256) : H256 := rootL nodeH zeroR l.length l
theorem fold_log (l : List H256) : foldH (segsH 0 l) = logH l := fold_segs nodeH zeroR l.length l (Nat.le_refl _)
def froot_c : Ctr where
  D := List H256 × List H256
  pre := fun (S, l) => l.length ≤ 8 ∧ segsH 0 l = S
  args := fun (S, l) => [.agg [.int .i64 0, .int .i64 (l.length : Int), .fs 32 eH S]]
  res := fun (_, l) _ => .tup [.agg [.arr8 (logH l)], .int .i64 0]
def froot_H : Cfg := ⟨[(146, fformed_c), (114, sum_c), (147, fnode_c)], [(10, [1, 4, 5], [6, 7], (.one 0 0 false (.one 1 1 false (.one 2 0 false (.one 3 0 false (.one 4 1 false (.one 5 1 false (.one 6 2 false (.one 7 2 false .nil)))))))), [])], [], [], 42, 0, [], [], []⟩
theorem froot_ok : froot_c.Ok Tryz.prog 108 := by
  refine fn_ok froot_H 0 rfl _ Tryz.func108 rfl rfl ⟨fformed_ok, sum_ok, fnode_ok, trivial⟩ rfl rfl (by kernel_rfl) (fun _ => Nat.le_of_ble_eq_true rfl) ?_
  rintro ⟨S, l⟩ hp hr
  try dsimp only [froot_c] at hp
  try simp only [froot_c, Rng, RngL, inR, and_true, true_and] at hr
  obtain ⟨hp, hseg⟩ := hp
  have hp : l.length ≤ 8 := hp
  have hseg : segsH 0 l = S := hseg
  have hl := segsH_len0 l
  have hz := segZ_len l.length 0 l.length
  have hfl := fold_log l
  rw [hseg] at hl hfl
  clear hseg
  have hq : fformed_c.pre (S, l.length) := ⟨hp, hl⟩
  repeat' (first | (with_reducible refine Unf.h ?_) | fail); all_goals try (conv => whnf); all_goals try (exfalso; omega)
  refine CallS.mk (c := fformed_c) ((S, l.length)) ?_
  have hS : S.length ≤ 8 := by omega
  rcases Nat.eq_zero_or_pos S.length with h0 | h0
  · obtain rfl := List.eq_nil_of_length_eq_zero h0
    have e : logH l = sha [] := hfl.symm
    repeat' (first | (with_reducible refine Unf.h ?_) | ((conv => whnf); first | refine Fork.mkn (fun h => ?_) (fun h => ?_) | refine Fork.mk (fun h => ?_) (fun h => ?_) | (refine Side.mk ?_ ?_; focus (first | with_reducible rfl | assumption)) | refine Got.mk (fun _ _ => ?_)) | fail); all_goals try (conv => whnf); all_goals try (exfalso; omega)
    refine CallS.mk (c := sum_c) ([]) ?_
    repeat' (first | (with_reducible refine Unf.h ?_) | ((conv => whnf); first | (refine Side.mk ?_ ?_; focus (first | with_reducible rfl | exact True.intro | (simp only [*, e]; done))) | refine RetE.mk () trivial ?_ | refine Got.mk (fun _ _ => ?_) | refine retK_r ?_ | exact rfl) | fail); all_goals try (conv => whnf); all_goals try (exfalso; omega)
  · repeat' (first | (with_reducible refine Unf.h ?_) | ((conv => whnf); first | refine Fork.mkn (fun h => ?_) (fun h => ?_) | refine Fork.mk (fun h => ?_) (fun h => ?_) | (refine Side.mk ?_ ?_; focus (first | with_reducible rfl | assumption | (intros; (try simp only [lenS, inR, cutS, loI, hiI] at *); omega))) | (refine Idx.mk ?_ ?_; focus (omega)) | refine Got.mk (fun _ _ => ?_)) | fail); all_goals try (conv => whnf); all_goals try (exfalso; omega)
    refine LoopS.autoN (I := Nat) (fun k => k < S.length) (fun k => [(6, .int .i64 ((k : Int) - 1))]) (fun k => [(0, .box 205 [.int .i64 0, .int .i64 (l.length : Int), .fs 32 eH S]), (1, .box 30 [.arr8 zeroH]), (2, .box 30 [.arr8 (foldH (S.drop k))])]) 3 (fun k => k) (S.length - 1) (by show S.length - 1 < S.length; omega) ?_ ?_
    · have e2 : foldH (S.drop (S.length - 1)) = S[((S.length : Int) - 1).toNat]'(by omega) := by
        have e : S.drop (S.length - 1) = [S[((S.length : Int) - 1).toNat]'(by omega)] := by
          rw [List.drop_eq_getElem_cons (by omega), List.drop_of_length_le (by omega)]
          congr 2; omega
        rw [e]; rfl
      repeat' (first | (with_reducible refine Unf.h ?_) | ((conv => whnf); first | (refine Side.mk ?_ ?_; focus (first | with_reducible rfl | (refine congrArg (SV.int _) ?_; omega))) | (with_reducible refine Unf.h ?_)) | fail); all_goals try (conv => whnf); all_goals try (exfalso; omega)
      refine Side.mk (congrArg SV.arr8 e2.symm) ?_
      repeat' (first | (with_reducible refine Unf.h ?_) | ((conv => whnf); exact True.intro) | fail); all_goals try (conv => whnf); all_goals try (exfalso; omega)
    · intro k hk
      have hk : k < S.length := hk
      rcases Nat.eq_zero_or_pos k with hk0 | hk0
      · subst hk0
        have e : foldH (S.drop 0) = logH l := hfl
        repeat' (first | (with_reducible refine Unf.h ?_) | ((conv => whnf); first | refine Fork.mk (fun h => ?_) (fun h => ?_) | (refine Side.mk ?_ ?_; focus (first | with_reducible rfl | (simp only [*, e]; done))) | refine RetE.mk () trivial ?_ | refine retK_r ?_ | exact rfl) | fail); all_goals try (conv => whnf); all_goals try (exfalso; omega)
      · have e : foldH (S.drop (k - 1)) = nodeH (S[((k : Int) - 1).toNat]'(by omega)) (foldH (S.drop k)) := by
          rw [List.drop_eq_getElem_cons (by omega : k - 1 < S.length), show k - 1 + 1 = k by omega, foldH_cons _ (fun h => by have := congrArg List.length h; simp at this; omega)]
          congr 2; omega
        have hqn : fnode_c.pre (S[((k : Int) - 1).toNat]'(by omega), foldH (S.drop k)) := trivial
        repeat' (first | (with_reducible refine Unf.h ?_) | ((conv => whnf); first | refine Fork.mk (fun h => ?_) (fun h => ?_) | (refine Idx.mk ?_ ?_; focus (omega))) | fail); all_goals try (conv => whnf); all_goals try (exfalso; omega)
        refine CallS.mk (c := fnode_c) ((S[((k : Int) - 1).toNat]'(by omega), foldH (S.drop k))) ?_
        repeat' (first | (with_reducible first | refine Unf.h ?_ | refine loopK_n ?_) | ((conv => whnf); first | (refine Side.mk ?_ ?_; focus (first | with_reducible rfl | exact True.intro | (intros; (try simp only [lenS, inR, cutS, loI, hiI] at *); omega))) | refine Got.mk (fun _ _ => ?_)) | fail); all_goals try (conv => whnf); all_goals try (exfalso; omega)
        refine ⟨k - 1, ⟨by omega, by omega⟩, ?_⟩
        repeat' (first | (with_reducible refine Unf.h ?_) | ((conv => whnf); first | (refine Side.mk ?_ ?_; focus (first | with_reducible rfl | (refine congrArg (SV.int _) ?_; omega) | (simp only [*, e]; done))) | (with_reducible refine Unf.h ?_) | exact True.intro) | fail); all_goals try (conv => whnf); all_goals try (exfalso; omega)
def elogR_c : Ctr where
  D := List H256
  pre := fun l => l.length ≤ 8
  args := fun l => [.fs 32 eH l]
  res := fun l _ => .agg [.arr8 (logH l)]
def elogR_H : Cfg := ⟨[(107, fof_c), (108, froot_c)], [], [], [], 18, 0, [], [], []⟩
theorem elogR_ok : elogR_c.Ok Tryz.prog 67 := by
  refine fn_ok elogR_H 0 rfl _ Tryz.func67 rfl rfl ⟨fof_ok, froot_ok, trivial⟩ rfl rfl (by kernel_rfl) (fun _ => Nat.le_of_ble_eq_true rfl) ?_
  intro (l : List H256) hp hr
  try dsimp only [elogR_c] at hp
  try simp only [elogR_c, Rng, RngL, inR, and_true, true_and] at hr
  have hp : l.length ≤ 8 := hp
  have hqf : fof_c.pre (0, l) := ⟨by show 0 ≤ 1000000; omega, by show l.length ≤ 40; omega⟩
  have hq : froot_c.pre (segsH 0 l, l) := ⟨hp, rfl⟩
  have ez : (((0 : Nat) : Int) + (l.length : Int)) = (l.length : Int) := by omega
  have ef := fof_seg 0 l
  repeat' (first | (with_reducible refine Unf.h ?_) | fail); all_goals try (conv => whnf); all_goals try (exfalso; omega)
  refine CallS.mk (c := fof_c) ((0, l)) ?_
  repeat' (first | (with_reducible refine Unf.h ?_) | ((conv => whnf); first | (refine Side.mk ?_ ?_; focus (first | with_reducible rfl | assumption | (refine congrArg (SV.int _) ?_; omega))) | refine Got.mk (fun _ _ => ?_)) | fail); all_goals try (conv => whnf); all_goals try (exfalso; omega)
  rw [ez, ef]
  all_goals try (conv => whnf); all_goals try (exfalso; omega)
  refine CallS.mk (c := froot_c) ((segsH 0 l, l)) ?_
  repeat' (first | (with_reducible refine Unf.h ?_) | ((conv => whnf); first | (refine Side.mk ?_ ?_; focus (first | with_reducible rfl | assumption | (refine congrArg (SV.int _) ?_; omega))) | refine RetE.mk () trivial ?_ | refine Got.mk (fun _ _ => ?_) | refine retK_r ?_ | exact rfl) | fail); all_goals try (conv => whnf); all_goals try (exfalso; omega)
end Go.Proofs.YtdflndjlnkoliaaGreatDoor

namespace Go.Proofs.YtdflndjlnkoliaaGreatDoor
set_option linter.all false
open Go.RowKit
theorem last_at {x : Bs} {l : List Ver} {j : Nat} (h : (((j + 1 : Nat) : Int) - 1).toNat < l.length) : lastE 0 (l.take (j + 1)) = (l[(((j + 1 : Nat) : Int) - 1).toNat]'h).ep ∧ lastB (cmL x) zeroH (l.take (j + 1)) = cmL x (l[(((j + 1 : Nat) : Int) - 1).toNat]'h) := by
  have e : (((j + 1 : Nat) : Int) - 1).toNat = j := by omega
  have hj : j < l.length := by omega
  rw [List.take_succ_eq_append_getElem hj, lastE_snoc, lastB_snoc]
  simp only [e, and_self]
theorem fm_at {x : Bs} {l : List Ver} {j : Nat} (hf : fmV (cmL x) 0 zeroH 0 (l.take (j + 1))) (h : (((j + 1 : Nat) : Int) - 1).toNat < l.length) : 1 ≤ (l[(((j + 1 : Nat) : Int) - 1).toNat]'h).ep ∧ (l[(((j + 1 : Nat) : Int) - 1).toNat]'h).val.length ≤ 64 := by
  have e : (((j + 1 : Nat) : Int) - 1).toNat = j := by omega
  have hj : j < l.length := by omega
  rw [List.take_succ_eq_append_getElem hj, fmV_app] at hf
  have h1 := fmV_le (cmL x) hf.1
  have h2 := hf.2.2.1
  simp only [e]
  exact ⟨by omega, hf.2.2.2.2.2⟩
def rform14_c : Ctr where
  D := Bs × List Ver
  pre := fun (x, l) => x.length ≤ 1000000 ∧ l.length ≤ 100000
  args := fun (x, l) => [.fs 1 eB x, .fs 67 eVr l]
  res := fun (x, l) _ => .dec (formedC cmL zeroH x l) inferInstance
def rform14_H : Cfg := ⟨[(81, rcommit_c)], [(11, [4, 10, 14, 20], [21], (.one 0 0 false (.one 1 0 false (.one 2 0 false (.one 3 0 false (.one 4 1 false (.one 5 0 false (.one 6 0 false (.one 7 0 false (.one 8 0 false (.one 9 0 false (.one 10 1 false (.one 11 0 false (.one 12 0 false (.one 13 0 false (.one 14 1 false (.one 15 0 false (.one 16 0 false (.one 17 0 false (.one 18 0 false (.one 19 0 false (.one 20 1 false (.one 21 2 true (.one 22 0 false (.one 23 0 false (.one 24 0 false .nil))))))))))))))))))))))))), [])], [], [], 84, 0, [], [], []⟩
theorem rform14_ok : rform14_c.Ok Tryz.prog 82 := by
  refine fn_ok rform14_H 0 rfl _ Tryz.func82 rfl rfl ⟨rcommit_ok, trivial⟩ rfl rfl (by kernel_rfl) (fun _ => Nat.le_of_ble_eq_true rfl) ?_
  rintro ⟨x, l⟩ hp hr
  try dsimp only [rform14_c] at hp
  try simp only [rform14_c, Rng, RngL, inR, and_true, true_and] at hr
  obtain ⟨hp1, hp2⟩ := hp
  have hp1 : x.length ≤ 1000000 := hp1
  have hp2 : l.length ≤ 100000 := hp2
  by_cases hx : (1 ≤ x.length ∧ x.length ≤ 32) ∧ 0 < l.length
  · obtain ⟨⟨hx1, hx2⟩, hl⟩ := hx
    repeat' (first | (with_reducible refine Unf.h ?_) | ((conv => whnf); refine Fork.mk (fun h => ?_) (fun h => ?_)) | fail); all_goals try (conv => whnf); all_goals try (exfalso; omega)
    refine LoopS.autoN (I := Nat) (fun i => i ≤ l.length ∧ fmV (cmL x) 0 zeroH 0 (l.take i)) (fun i => [(5, .int .i64 (i : Int))]) (fun _ => []) 0 (fun i => l.length - i) 0 ⟨Nat.zero_le _, trivial⟩ ?_ ?_
    · repeat' (first | (with_reducible refine Unf.h ?_) | ((conv => whnf); first | (refine Side.mk ?_ ?_; focus (first | with_reducible rfl | (refine congrArg (SV.int _) ?_; omega))) | (with_reducible refine Unf.h ?_) | exact True.intro) | fail); all_goals try (conv => whnf); all_goals try (exfalso; omega)
    · rintro i ⟨hi, hf⟩
      have hi : i ≤ l.length := hi
      by_cases hil : i < l.length
      · have hA : formedC cmL zeroH x l → (l[((i : Nat) : Int).toNat]'hil).num = (i : Int) + 1 ∧ lastE 0 (l.take i) < (l[((i : Nat) : Int).toNat]'hil).ep ∧ (l[((i : Nat) : Int).toNat]'hil).ep < 2147483648 ∧ (l[((i : Nat) : Int).toNat]'hil).before = lastB (cmL x) zeroH (l.take i) ∧ (l[((i : Nat) : Int).toNat]'hil).val.length ≤ 64 := fun hF => formed_at hF i hil
        rcases Nat.eq_zero_or_pos i with h0 | h0
        · subst h0
          have e0 : lastE 0 (l.take 0) = 0 := rfl
          have e1 : lastB (cmL x) zeroH (l.take 0) = zeroH := rfl
          rw [e0, e1] at hA
          repeat' (first | (with_reducible first | refine Unf.h ?_ | refine loopK_n ?_) | ((conv => whnf); first | refine Fork.mkn (fun h => ?_) (fun h => ?_) | refine Fork.mk (fun h => ?_) (fun h => ?_) | (refine Side.mk ?_ ?_; focus ((intros; (try simp only [lenS, inR, cutS, loI, hiI] at *); omega))) | (refine Idx.mk ?_ ?_; focus (omega)) | refine RetE.mk () trivial ?_ | refine retK_r ?_) | fail); all_goals try (conv => whnf); all_goals try (exfalso; omega)
          all_goals first
            | (refine Side.mk (iffF fun hF => ?_) ?_
               · obtain ⟨a1, a2, a3, a4, a5⟩ := hA hF
                 first
                   | omega
                   | exact absurd (congrArg Vector.toList a4) (by assumption)
               · repeat' (first | (with_reducible refine Unf.h ?_) | ((conv => whnf); exact rfl) | fail); all_goals try (conv => whnf); all_goals try (exfalso; omega))
            | skip
          obtain ⟨q1, q2, q3⟩ := fm_step hil hf (by assumption) (by show 0 < (l[((0 : Nat) : Int).toNat]'hil).ep; omega) (by show (l[((0 : Nat) : Int).toNat]'hil).ep < _; omega) (Vector.toList_inj.1 (by assumption)) (by show (l[((0 : Nat) : Int).toNat]'hil).val.length ≤ _; omega)
          refine ⟨0 + 1, ⟨by omega, by omega, q1⟩, ?_⟩
          repeat' (first | (with_reducible refine Unf.h ?_) | ((conv => whnf); first | (refine Side.mk ?_ ?_; focus (first | with_reducible rfl | (refine congrArg (SV.int _) ?_; omega))) | (with_reducible refine Unf.h ?_) | exact True.intro) | fail); all_goals try (conv => whnf); all_goals try (exfalso; omega)
        · obtain ⟨j, rfl⟩ : ∃ j, i = j + 1 := ⟨i - 1, by omega⟩
          have hjl : (((j + 1 : Nat) : Int) - 1).toNat < l.length := by omega
          obtain ⟨e0, e1⟩ := last_at (x := x) hjl
          obtain ⟨e2, e3⟩ := fm_at hf hjl
          rw [e0, e1] at hA
          have hpc : rcommit_c.pre (x, l[(((j + 1 : Nat) : Int) - 1).toNat]'hjl) := ⟨hp1, by show (l[(((j + 1 : Nat) : Int) - 1).toNat]'hjl).val.length ≤ 1000000; omega⟩
          repeat' (first | (with_reducible refine Unf.h ?_) | ((conv => whnf); first | refine Fork.mkn (fun h => ?_) (fun h => ?_) | refine Fork.mk (fun h => ?_) (fun h => ?_) | (refine Side.mk ?_ ?_; focus ((intros; (try simp only [lenS, inR, cutS, loI, hiI] at *); omega))) | (refine Idx.mk ?_ ?_; focus (omega)) | refine RetE.mk () trivial ?_ | refine retK_r ?_) | fail); all_goals try (conv => whnf); all_goals try (exfalso; omega)
          all_goals first
            | (refine Side.mk (iffF fun hF => ?_) ?_
               · obtain ⟨a1, a2, a3, a4, a5⟩ := hA hF
                 first
                   | omega
                   | exact absurd (congrArg Vector.toList a4) (by assumption)
               · repeat' (first | (with_reducible refine Unf.h ?_) | ((conv => whnf); exact rfl) | fail); all_goals try (conv => whnf); all_goals try (exfalso; omega))
            | skip
          refine CallS.mk (c := rcommit_c) ((x, l[(((j + 1 : Nat) : Int) - 1).toNat]'hjl)) ?_
          repeat' (first | (with_reducible first | refine Unf.h ?_ | refine loopK_n ?_) | ((conv => whnf); first | refine Fork.mkn (fun h => ?_) (fun h => ?_) | (refine Side.mk ?_ ?_; focus (first | with_reducible rfl | assumption | (intros; (try simp only [lenS, inR, cutS, loI, hiI] at *); omega))) | refine RetE.mk () trivial ?_ | refine Got.mk (fun _ _ => ?_) | refine retK_r ?_) | fail); all_goals try (conv => whnf); all_goals try (exfalso; omega)
          all_goals first
            | (refine Side.mk (iffF fun hF => ?_) ?_
               · obtain ⟨a1, a2, a3, a4, a5⟩ := hA hF
                 first
                   | omega
                   | exact absurd (congrArg Vector.toList a4) (by assumption)
               · repeat' (first | (with_reducible refine Unf.h ?_) | ((conv => whnf); exact rfl) | fail); all_goals try (conv => whnf); all_goals try (exfalso; omega))
            | skip
          obtain ⟨q1, q2, q3⟩ := fm_step hil hf (by assumption) (by rw [e0]; show _ < (l[((j + 1 : Nat) : Int).toNat]'hil).ep; omega) (by show (l[((j + 1 : Nat) : Int).toNat]'hil).ep < _; omega) (by rw [e1]; exact Vector.toList_inj.1 (by assumption)) (by show (l[((j + 1 : Nat) : Int).toNat]'hil).val.length ≤ _; omega)
          refine ⟨j + 1 + 1, ⟨by omega, by omega, q1⟩, ?_⟩
          repeat' (first | (with_reducible refine Unf.h ?_) | ((conv => whnf); first | (refine Side.mk ?_ ?_; focus (first | with_reducible rfl | (refine congrArg (SV.int _) ?_; omega))) | (with_reducible refine Unf.h ?_) | exact True.intro) | fail); all_goals try (conv => whnf); all_goals try (exfalso; omega)
      · have e : l.take i = l := List.take_of_length_le (by omega)
        rw [e] at hf
        have hF : formedC cmL zeroH x l := ⟨⟨hx1, hx2⟩, fun h => by rw [h] at hl; exact absurd hl (by simp), hf⟩
        repeat' (first | (with_reducible refine Unf.h ?_) | ((conv => whnf); first | refine Fork.mk (fun h => ?_) (fun h => ?_) | (refine Side.mk ?_ ?_; focus ((refine ⟨fun h => ?_, fun h => ?_⟩ <;> first | rfl | (cases h; done) | omega | (exfalso; omega) | (simp only [Bool.false_eq_true] at h; done)))) | refine RetE.mk () trivial ?_ | refine retK_r ?_ | exact rfl) | fail); all_goals try (conv => whnf); all_goals try (exfalso; omega)
  · have hn : ¬ formedC cmL zeroH x l := fun h => hx ⟨h.1, List.length_pos_iff.2 h.2.1⟩
    repeat' (first | (with_reducible refine Unf.h ?_) | ((conv => whnf); first | refine Fork.mk (fun h => ?_) (fun h => ?_) | (refine Side.mk ?_ ?_; focus ((simp [*, hn]; done))) | refine RetE.mk () trivial ?_ | refine retK_r ?_ | exact rfl) | fail); all_goals try (conv => whnf); all_goals try (exfalso; omega)
def rgrow14_c : Ctr where
  D := H256 × Bs × List Ver × Int × Bs
  pre := fun (_, x, l, _, val) => x.length ≤ 100000 ∧ l.length ≤ 10000 ∧ val.length ≤ 100000 ∧ ∀ v ∈ l, v.val.length ≤ 100000
  args := fun (s, x, l, e, val) => [.agg [.arr8 s], .fs 1 eB x, .fs 67 eVr l, .int .i64 e, .fs 1 eB val]
  res := fun (s, x, l, e, val) _ => .tup [.fs 67 eVr (growF s x l e val).1, .int .i64 (growF s x l e val).2]
def rgrow14_H : Cfg := ⟨[(80, rsalt14_c), (81, rcommit_c), (82, rform14_c)], [], [28], [], 61, 0, [], [], []⟩
theorem rgrow14_ok : rgrow14_c.Ok Tryz.prog 37 := by
  refine fn_ok rgrow14_H 0 rfl _ Tryz.func37 rfl rfl ⟨rsalt14_ok, rcommit_ok, rform14_ok, trivial⟩ rfl rfl (by kernel_rfl) (fun _ => Nat.le_of_ble_eq_true rfl) ?_
  rintro ⟨s, x, l, e, val⟩ hp hr
  try dsimp only [rgrow14_c] at hp
  try simp only [rgrow14_c, Rng, RngL, inR, and_true, true_and] at hr
  obtain ⟨hp1, hp2, hp3, hp4⟩ := hp
  have hp1 : x.length ≤ 100000 := hp1
  have hp2 : l.length ≤ 10000 := hp2
  have hp3 : val.length ≤ 100000 := hp3
  have hcs : rsalt14_c.pre (s, x, (l.length : Int) + 1) := show x.length ≤ 1000000 by omega
  obtain ⟨nv, hnv⟩ : ∃ nv, newV cmL zeroH (saltL s x ((l.length : Int) + 1)) x l e val = nv := ⟨_, rfl⟩
  have hnv2 : nv = ⟨(l.length : Int) + 1, e, saltL s x ((l.length : Int) + 1), lastB (cmL x) zeroH l, val⟩ := hnv.symm
  have hfo : formedC cmL zeroH x (l ++ [nv]) ↔ okG cmL zeroH x l e val := by rw [← hnv]; exact okG_out cmL zeroH _
  repeat' (first | (with_reducible refine Unf.h ?_) | ((conv => whnf); (refine Side.mk ?_ ?_; focus ((intros; (try simp only [lenS, inR, cutS, loI, hiI] at *); omega)))) | fail); all_goals try (conv => whnf); all_goals try (exfalso; omega)
  refine CallS.mk (c := rsalt14_c) ((s, x, (l.length : Int) + 1)) ?_
  repeat' (first | (with_reducible refine Unf.h ?_) | ((conv => whnf); first | (refine Side.mk ?_ ?_; focus (first | with_reducible rfl | assumption)) | refine Got.mk (fun _ _ => ?_)) | fail); all_goals try (conv => whnf); all_goals try (exfalso; omega)
  refine CutS.auto (I := Unit) (fun _ => True) (fun _ => [(12, .ptr 1 0)]) (fun _ => [(0, .box 30 [.arr8 s]), (1, .box 107 [.int .i64 ((l.length : Int) + 1), .int .i64 e, .arr8 (saltL s x ((l.length : Int) + 1)), .arr8 (lastB (cmL x) zeroH l), .fs 1 eB val])]) 2 ?_ ?_
  · rcases Nat.eq_zero_or_pos l.length with hl | hl
    · obtain rfl := List.eq_nil_of_length_eq_zero hl
      have e0 : lastB (cmL x) zeroH [] = zeroH := rfl
      repeat' (first | (with_reducible first | refine Unf.h ?_ | refine cutK_n ?_) | ((conv => whnf); refine Fork.mk (fun h => ?_) (fun h => ?_)) | fail); all_goals try (conv => whnf); all_goals try (exfalso; omega)
      refine ⟨(), trivial, ?_⟩
      repeat' (first | (with_reducible refine Unf.h ?_) | ((conv => whnf); first | (refine Side.mk ?_ ?_; focus (first | with_reducible rfl | (simp only [*, e0]; done))) | (with_reducible refine Unf.h ?_) | exact True.intro) | fail); all_goals try (conv => whnf); all_goals try (exfalso; omega)
    · have hne := List.length_pos_iff.1 hl
      have hli : ((l.length : Int) - 1).toNat < l.length := by omega
      have hlast : (l.getLast hne) = l[((l.length : Int) - 1).toNat]'hli := by
        rw [List.getLast_eq_getElem]; congr 1; omega
      have hB := lastB_at (cmL x) zeroH hne
      rw [hlast] at hB
      have hpc : rcommit_c.pre (x, l[((l.length : Int) - 1).toNat]'hli) := ⟨show x.length ≤ 1000000 by omega, by
        have := hp4 _ (List.getElem_mem hli)
        show (l[((l.length : Int) - 1).toNat]'hli).val.length ≤ 1000000; omega⟩
      repeat' (first | (with_reducible refine Unf.h ?_) | ((conv => whnf); first | refine Fork.mk (fun h => ?_) (fun h => ?_) | (refine Side.mk ?_ ?_; focus ((intros; (try simp only [lenS, inR, cutS, loI, hiI] at *); omega))) | (refine Idx.mk ?_ ?_; focus (omega))) | fail); all_goals try (conv => whnf); all_goals try (exfalso; omega)
      refine CallS.mk (c := rcommit_c) ((x, l[((l.length : Int) - 1).toNat]'hli)) ?_
      repeat' (first | (with_reducible first | refine Unf.h ?_ | refine cutK_n ?_) | ((conv => whnf); first | (refine Side.mk ?_ ?_; focus (first | with_reducible rfl | assumption)) | refine Got.mk (fun _ _ => ?_)) | fail); all_goals try (conv => whnf); all_goals try (exfalso; omega)
      refine ⟨(), trivial, ?_⟩
      repeat' (first | (with_reducible refine Unf.h ?_) | ((conv => whnf); first | (refine Side.mk ?_ ?_; focus (first | with_reducible rfl | (simp only [*, hB]; done))) | (with_reducible refine Unf.h ?_) | exact True.intro) | fail); all_goals try (conv => whnf); all_goals try (exfalso; omega)
  · intro _ _
    have hp5 : rform14_c.pre (x, l) := ⟨show x.length ≤ 1000000 by omega, show l.length ≤ 100000 by omega⟩
    have hp6 : rform14_c.pre (x, l ++ [nv]) := ⟨show x.length ≤ 1000000 by omega, by show (l ++ [nv]).length ≤ 100000; simp; omega⟩
    by_cases hok : okG cmL zeroH x l e val
    · have hf : growF s x l e val = (l ++ [nv], 0) := by rw [← hnv]; exact if_pos hok
      have hF2 := hfo.2 hok
      repeat' (first | (with_reducible refine Unf.h ?_) | ((conv => whnf); (refine Side.mk ?_ ?_; focus ((intros; (try simp only [lenS, inR, cutS, loI, hiI] at *); omega)))) | fail); all_goals try (conv => whnf); all_goals try (exfalso; omega)
      refine Ex.mk [nv] (by rw [hnv2]; rfl) ?_
      repeat' (first | (with_reducible refine Unf.h ?_) | ((conv => whnf); first | refine Fork.mk (fun h => ?_) (fun h => ?_) | (refine Side.mk ?_ ?_; focus ((intros; (try simp only [lenS, inR, cutS, loI, hiI] at *); omega)))) | fail); all_goals try (conv => whnf); all_goals try (exfalso; omega)
      · refine CallS.mk (c := rform14_c) ((x, l)) ?_
        repeat' (first | (with_reducible refine Unf.h ?_) | ((conv => whnf); first | refine Fork.mkn (fun h => ?_) (fun h => ?_) | (refine Side.mk ?_ ?_; focus (first | with_reducible rfl | assumption)) | refine RetE.mk () trivial ?_ | refine Got.mk (fun _ _ => ?_) | refine retK_r ?_) | fail); all_goals try (conv => whnf); all_goals try (exfalso; omega)
        · exact absurd (okG_short cmL zeroH hok (List.length_pos_iff.1 (by omega))) (by assumption)
        refine CallS.mk (c := rform14_c) ((x, l ++ [nv])) ?_
        repeat' (first | (with_reducible refine Unf.h ?_) | ((conv => whnf); first | refine Fork.mkn (fun h => ?_) (fun h => ?_) | (refine Side.mk ?_ ?_; focus (first | with_reducible rfl | assumption | (simp only [*, hf]; done))) | refine RetE.mk () trivial ?_ | refine Got.mk (fun _ _ => ?_) | refine retK_r ?_ | exact rfl) | fail); all_goals try (conv => whnf); all_goals try (exfalso; omega)
        exact absurd hF2 (by assumption)
      · refine CallS.mk (c := rform14_c) ((x, l ++ [nv])) ?_
        repeat' (first | (with_reducible refine Unf.h ?_) | ((conv => whnf); first | refine Fork.mkn (fun h => ?_) (fun h => ?_) | (refine Side.mk ?_ ?_; focus (first | with_reducible rfl | assumption | (simp only [*, hf]; done))) | refine RetE.mk () trivial ?_ | refine Got.mk (fun _ _ => ?_) | refine retK_r ?_ | exact rfl) | fail); all_goals try (conv => whnf); all_goals try (exfalso; omega)
        exact absurd hF2 (by assumption)
    · have hf : growF s x l e val = ([], 1) := if_neg hok
      repeat' (first | (with_reducible refine Unf.h ?_) | ((conv => whnf); (refine Side.mk ?_ ?_; focus ((intros; (try simp only [lenS, inR, cutS, loI, hiI] at *); omega)))) | fail); all_goals try (conv => whnf); all_goals try (exfalso; omega)
      refine Ex.mk [nv] (by rw [hnv2]; rfl) ?_
      repeat' (first | (with_reducible refine Unf.h ?_) | ((conv => whnf); first | refine Fork.mk (fun h => ?_) (fun h => ?_) | (refine Side.mk ?_ ?_; focus ((intros; (try simp only [lenS, inR, cutS, loI, hiI] at *); omega)))) | fail); all_goals try (conv => whnf); all_goals try (exfalso; omega)
      · refine CallS.mk (c := rform14_c) ((x, l)) ?_
        repeat' (first | (with_reducible refine Unf.h ?_) | ((conv => whnf); first | refine Fork.mkn (fun h => ?_) (fun h => ?_) | (refine Side.mk ?_ ?_; focus (first | with_reducible rfl | assumption | (simp only [*, hf]; done))) | refine RetE.mk () trivial ?_ | refine Got.mk (fun _ _ => ?_) | refine retK_r ?_ | exact rfl) | fail); all_goals try (conv => whnf); all_goals try (exfalso; omega)
        refine CallS.mk (c := rform14_c) ((x, l ++ [nv])) ?_
        repeat' (first | (with_reducible refine Unf.h ?_) | ((conv => whnf); first | refine Fork.mkn (fun h => ?_) (fun h => ?_) | (refine Side.mk ?_ ?_; focus (first | with_reducible rfl | assumption | (simp only [*, hf]; done))) | refine RetE.mk () trivial ?_ | refine Got.mk (fun _ _ => ?_) | refine retK_r ?_ | exact rfl) | fail); all_goals try (conv => whnf); all_goals try (exfalso; omega)
        exact absurd (hfo.1 (by assumption)) hok
      · refine CallS.mk (c := rform14_c) ((x, l ++ [nv])) ?_
        repeat' (first | (with_reducible refine Unf.h ?_) | ((conv => whnf); first | refine Fork.mkn (fun h => ?_) (fun h => ?_) | (refine Side.mk ?_ ?_; focus (first | with_reducible rfl | assumption | (simp only [*, hf]; done))) | refine RetE.mk () trivial ?_ | refine Got.mk (fun _ _ => ?_) | refine retK_r ?_ | exact rfl) | fail); all_goals try (conv => whnf); all_goals try (exfalso; omega)
        exact absurd (hfo.1 (by assumption)) hok
end Go.Proofs.YtdflndjlnkoliaaGreatDoor

namespace Go.Proofs.YtdflndjlnkoliaaGreatDoor
set_option linter.all false
open Go.RowKit
abbrev eEp (n : List Nws) : List SV := [.fs 68 eNw n]
abbrev rSt (s : H256) (es : List (List Nws)) : SV := .fpt [.arr8 s, .fs 1 eEp es]
structure RdOk (es : List (List Nws)) : Prop where
  len : es.length ≤ 30
  few : ∀ n ∈ es, n.length ≤ 100
  lab : ∀ n ∈ es, ∀ p ∈ n, p.1.length ≤ 100000 ∧ p.2.val.length ≤ 100000
theorem StOk.rd {es : List (List Nws)} (h : StOk es) : RdOk es := ⟨by have := h.len; omega, fun n hn => by have := h.few n hn; omega, fun n hn p hp => by have := h.lab n hn p hp; omega⟩
abbrev pick1 (x : Bs) (n : List Nws) : List Ver := n.filterMap fun p => if p.1 = x then some p.2 else none
theorem pick1_len (x : Bs) (n : List Nws) : (pick1 x n).length ≤ n.length := List.length_filterMap_le ..
theorem pick1_step (x : Bs) (n : List Nws) (k : Nat) (h : k < n.length) : pick1 x (n.take (k + 1)) = pick1 x (n.take k) ++ if n[k].1 = x then [n[k].2] else [] := by
  unfold pick1
  rw [List.take_succ_eq_append_getElem h, List.filterMap_append]
  congr 1
  split
  · rename_i e; simp [e]
  · rename_i e; simp [e]
theorem chR_step (es : List (List Nws)) (x : Bs) (i : Nat) (h : i < es.length) : chR (es.take (i + 1)) x = chR (es.take i) x ++ pick1 x es[i] := by
  rw [List.take_succ_eq_append_getElem h, chR_snoc]
theorem RdOk.ch {es : List (List Nws)} (h : RdOk es) (x : Bs) (i : Nat) : (chR (es.take i) x).length ≤ 3000 := by
  have h1 := chR_len (es.take i) x
  have h2 := flat_few (es.take i) 100 fun n hn => h.few n (List.mem_of_mem_take hn)
  have h3 : (es.take i).length ≤ es.length := by simp; omega
  have := h.len
  omega
theorem chR_mem {es : List (List Nws)} {x : Bs} {v : Ver} (h : v ∈ chR es x) : ∃ n ∈ es, ∃ p ∈ n, p.2 = v := by
  unfold chR at h
  obtain ⟨p, hp, he⟩ := List.mem_filterMap.1 h
  obtain ⟨n, hn, hpn⟩ := List.mem_flatten.1 hp
  refine ⟨n, hn, p, hpn, ?_⟩
  split at he
  · exact Option.some.inj he
  · cases he
def rchain_c : Ctr where
  D := H256 × List (List Nws) × Bs × Nat
  pre := fun (_, es, _, _) => RdOk es
  args := fun (s, es, x, e) => [rSt s es, .fs 1 eB x, .int .i64 (e : Int)]
  res := fun _ _ => .own 0
  out := fun (_, es, x, e) _ => [(0, .row 107 67 eVr (chR (es.take e) x))]
  mm := 1
def rchain_H : Cfg := ⟨[(73, same_c)], [], [], [], 64, 0, [], [], []⟩
theorem rchain_ok : rchain_c.Ok Tryz.prog 38 := by
  refine fn_ok rchain_H 0 rfl _ Tryz.func38 rfl rfl ⟨same_ok, trivial⟩ rfl rfl (by kernel_rfl) (fun _ => Nat.le_of_ble_eq_true rfl) ?_
  rintro ⟨s, es, x, e⟩ hp hr
  try dsimp only [rchain_c] at hp
  try simp only [rchain_c, Rng, RngL, inR, and_true, true_and] at hr
  have hp : RdOk es := hp
  repeat' (first | (with_reducible refine Unf.h ?_) | fail); all_goals try (conv => whnf); all_goals try (exfalso; omega)
  refine LoopS.autoN (I := Nat) (fun i => i ≤ es.length ∧ i ≤ e) (fun i => [(8, .int .i64 (i : Int)), (7, .own 0)]) (fun i => [(0, .row 107 67 eVr (chR (es.take i) x))]) 1 (fun i => es.length - i) 0 ⟨Nat.zero_le _, Nat.zero_le _⟩ ?_ ?_
  · have e0 : chR (es.take 0) x = [] := rfl
    repeat' (first | (with_reducible refine Unf.h ?_) | ((conv => whnf); first | (refine Side.mk ?_ ?_; focus (first | with_reducible rfl | assumption | (refine congrArg (SV.int _) ?_; omega))) | (with_reducible refine Unf.h ?_) | exact True.intro) | fail); all_goals try (conv => whnf); all_goals try (exfalso; omega)
  · rintro i ⟨hi, hie⟩
    have hi : i ≤ es.length := hi
    have hie : i ≤ e := hie
    have hch := hp.ch x i
    by_cases hil : i < es.length ∧ i < e
    · obtain ⟨hil, hil2⟩ := hil
      have hnl := hp.few (es[((i : Nat) : Int).toNat]'hil) (List.getElem_mem _)
      have es1 : chR (es.take (i + 1)) x = chR (es.take i) x ++ pick1 x (es[((i : Nat) : Int).toNat]'hil) := chR_step es x i hil
      repeat' (first | (with_reducible refine Unf.h ?_) | ((conv => whnf); refine Fork.mk (fun h => ?_) (fun h => ?_)) | fail); all_goals try (conv => whnf); all_goals try (exfalso; omega)
      refine LoopS.autoN (I := Nat) (fun k => k ≤ (es[((i : Nat) : Int).toNat]'hil).length) (fun k => [(9, .int .i64 (k : Int)), (7, .own 0)]) (fun k => [(0, .row 107 67 eVr (chR (es.take i) x ++ pick1 x ((es[((i : Nat) : Int).toNat]'hil).take k)))]) 1 (fun k => (es[((i : Nat) : Int).toNat]'hil).length - k) 0 (Nat.zero_le _) ?_ ?_
      · have e0 : chR (es.take i) x ++ pick1 x ((es[((i : Nat) : Int).toNat]'hil).take 0) = chR (es.take i) x := by simp [pick1]
        repeat' (first | (with_reducible refine Unf.h ?_) | ((conv => whnf); first | (refine Side.mk ?_ ?_; focus (first | with_reducible rfl | (refine congrArg (SV.int _) ?_; omega) | (simp only [*, e0]; done))) | (with_reducible refine Unf.h ?_) | exact True.intro) | fail); all_goals try (conv => whnf); all_goals try (exfalso; omega)
      · intro k hk
        have hk : k ≤ (es[((i : Nat) : Int).toNat]'hil).length := hk
        have hpk := pick1_len x ((es[((i : Nat) : Int).toNat]'hil).take k)
        have htk : ((es[((i : Nat) : Int).toNat]'hil).take k).length ≤ (es[((i : Nat) : Int).toNat]'hil).length := by simp; omega
        by_cases hkl : k < (es[((i : Nat) : Int).toNat]'hil).length
        · have ek : pick1 x ((es[((i : Nat) : Int).toNat]'hil).take (k + 1)) = pick1 x ((es[((i : Nat) : Int).toNat]'hil).take k) ++ if ((es[((i : Nat) : Int).toNat]'hil)[((k : Nat) : Int).toNat]'hkl).1 = x then [((es[((i : Nat) : Int).toNat]'hil)[((k : Nat) : Int).toNat]'hkl).2] else [] := pick1_step x (es[((i : Nat) : Int).toNat]'hil) k hkl
          repeat' (first | (with_reducible refine Unf.h ?_) | ((conv => whnf); first | refine Fork.mk (fun h => ?_) (fun h => ?_) | (refine Idx.mk ?_ ?_; focus (omega))) | fail); all_goals try (conv => whnf); all_goals try (exfalso; omega)
          refine CallS.mk (c := same_c) ((((es[((i : Nat) : Int).toNat]'hil)[((k : Nat) : Int).toNat]'hkl).1, x)) ?_
          repeat' (first | (with_reducible first | refine Unf.h ?_ | refine loopK_n ?_) | ((conv => whnf); first | refine Fork.mk (fun h => ?_) (fun h => ?_) | (refine Side.mk ?_ ?_; focus (first | with_reducible rfl | exact True.intro | (intros; (try simp only [lenS, inR, cutS, loI, hiI] at *); omega))) | (refine Idx.mk ?_ ?_; focus (omega)) | refine Got.mk (fun _ _ => ?_) | refine Ex.mk [_] rfl ?_) | fail); all_goals try (conv => whnf); all_goals try (exfalso; omega)
          · rw [if_pos (by assumption)] at ek
            refine ⟨k + 1, ⟨by omega, by omega⟩, ?_⟩
            rw [ek, ← List.append_assoc]
            repeat' (first | (with_reducible refine Unf.h ?_) | ((conv => whnf); first | (refine Side.mk ?_ ?_; focus (first | with_reducible rfl | (refine congrArg (SV.int _) ?_; omega))) | (with_reducible refine Unf.h ?_) | exact True.intro) | fail); all_goals try (conv => whnf); all_goals try (exfalso; omega)
          · rw [if_neg (by assumption), List.append_nil] at ek
            refine ⟨k + 1, ⟨by omega, by omega⟩, ?_⟩
            rw [ek]
            repeat' (first | (with_reducible refine Unf.h ?_) | ((conv => whnf); first | (refine Side.mk ?_ ?_; focus (first | with_reducible rfl | (refine congrArg (SV.int _) ?_; omega))) | (with_reducible refine Unf.h ?_) | exact True.intro) | fail); all_goals try (conv => whnf); all_goals try (exfalso; omega)
        · have e0 : (es[((i : Nat) : Int).toNat]'hil).take k = (es[((i : Nat) : Int).toNat]'hil) := List.take_of_length_le (by omega)
          rw [e0, ← es1]
          repeat' (first | (with_reducible first | refine Unf.h ?_ | refine loopK_n ?_) | ((conv => whnf); first | refine Fork.mk (fun h => ?_) (fun h => ?_) | (refine Side.mk ?_ ?_; focus ((intros; (try simp only [lenS, inR, cutS, loI, hiI] at *); omega))) | (refine Idx.mk ?_ ?_; focus (omega))) | fail); all_goals try (conv => whnf); all_goals try (exfalso; omega)
          refine ⟨i + 1, ⟨by omega, by omega, by omega⟩, ?_⟩
          repeat' (first | (with_reducible refine Unf.h ?_) | ((conv => whnf); first | (refine Side.mk ?_ ?_; focus (first | with_reducible rfl | (refine congrArg (SV.int _) ?_; omega))) | (with_reducible refine Unf.h ?_) | exact True.intro) | fail); all_goals try (conv => whnf); all_goals try (exfalso; omega)
    · have e1 : es.take e = es.take i := by
        rcases Nat.lt_or_ge i e with h' | h'
        · rw [List.take_of_length_le (by omega), List.take_of_length_le (by omega)]
        · rw [show e = i by omega]
      repeat' (first | (with_reducible refine Unf.h ?_) | ((conv => whnf); first | refine Fork.mk (fun h => ?_) (fun h => ?_) | (refine Side.mk ?_ ?_; focus ((simp only [*, e1]; done))) | refine RetE.mk () trivial ?_ | refine retK_r ?_ | exact rfl) | fail); all_goals try (conv => whnf); all_goals try (exfalso; omega)
def rwith19_c : Ctr where
  D := H256 × List (List Nws) × List Nws
  pre := fun (_, es, _) => es.length ≤ 1000
  args := fun (s, es, n) => [rSt s es, .fs 68 eNw n]
  res := fun (s, es, n) _ => rSt s (es ++ [n])
def rwith19_H : Cfg := ⟨[], [(2, [4, 8], [9, 12], (.one 0 0 false (.one 1 0 false (.one 2 0 false (.one 3 0 false (.one 4 1 false (.one 5 0 false (.one 6 0 false (.one 7 0 false (.one 8 1 false (.one 9 2 false (.one 10 0 false (.one 11 0 false (.one 12 2 false .nil))))))))))))), [])], [], [], 35, 0, [], [], []⟩
theorem rwith19_ok : rwith19_c.Ok Tryz.prog 40 := by
  refine fn_ok rwith19_H 0 rfl _ Tryz.func40 rfl rfl trivial rfl rfl (by kernel_rfl) (fun _ => Nat.le_of_ble_eq_true rfl) ?_
  rintro ⟨s, es, n⟩ hp hr
  try dsimp only [rwith19_c] at hp
  try simp only [rwith19_c, Rng, RngL, inR, and_true, true_and] at hr
  have hp : es.length ≤ 1000 := hp
  repeat' (first | (with_reducible refine Unf.h ?_) | ((conv => whnf); first | (refine Side.mk ?_ ?_; focus (first | with_reducible rfl | (intros; (try simp only [lenS, inR, cutS, loI, hiI] at *); omega))) | refine RetE.mk () trivial ?_ | refine Ex.mk [_] rfl ?_ | refine retK_r ?_ | exact rfl) | fail); all_goals try (conv => whnf); all_goals try (exfalso; omega)
end Go.Proofs.YtdflndjlnkoliaaGreatDoor

namespace Go.Proofs.YtdflndjlnkoliaaGreatDoor
set_option linter.all false
open Go.RowKit
def agree (n : Nat) (a b : H256) : Prop := ∀ i, i < n → kb a i = kb b i
theorem agree_shared {a b : H256} {n : Nat} (hn : n ≤ 256) : agree n a b ↔ n ≤ shared a b := by
  constructor
  · intro h
    rcases Nat.lt_or_ge (shared a b) n with hl | hl
    · exact absurd (h _ hl) (shared_ne (by omega))
    · exact hl
  · intro h i hi; exact shared_eq (by omega)
theorem agree.symm {n : Nat} {a b : H256} (h : agree n a b) : agree n b a := fun i hi => (h i hi).symm
theorem agree.trans {n : Nat} {a b c : H256} (h : agree n a b) (g : agree n b c) : agree n a c := fun i hi => (h i hi).trans (g i hi)
theorem agree.mono {n m : Nat} {a b : H256} (h : agree n a b) (hm : m ≤ n) : agree m a b := fun i hi => h i (by omega)
theorem holds_agree {p : Pfx} {k : H256} : holdsP p k ↔ formedP p ∧ agree p.len.toNat p.bits k := by
  rw [holds_shared]
  refine and_congr_right fun hf => ?_
  rw [agree_shared (by have := hf.2.1; omega)]
  have := hf.1; omega
theorem within_agree {p q : Pfx} : withinP p q ↔ formedP p ∧ formedP q ∧ p.len ≤ q.len ∧ agree p.len.toNat p.bits q.bits := by
  rw [within_shared]
  constructor
  · rintro ⟨h1, h2, h3, h4⟩
    exact ⟨h1, h2, h3, (agree_shared (by have := h1.2.1; omega)).2 (by omega)⟩
  · rintro ⟨h1, h2, h3, h4⟩
    refine ⟨h1, h2, h3, ?_⟩
    have := (agree_shared (by have := h1.2.1; omega)).1 h4
    have := h1.1; omega
theorem formed_out {p : Pfx} (h : formedP p) {i : Nat} (hi : p.len ≤ i) : kb p.bits i = false := (formed_iff h.1 h.2.1).1 h i hi
theorem bitI_kb {k : H256} {n : Int} (h : 0 ≤ n) : bitI k n = 1 ↔ kb k n.toNat = true := by
  unfold bitI
  by_cases hb : kb k n.toNat = true
  · rw [if_pos ⟨h, hb⟩]; simp [hb]
  · rw [if_neg (fun h' => hb h'.2)]; simp [hb]
theorem child_len {p : Pfx} {b : Int} (h : childOk p b) : (childP p b).len = p.len + 1 := by unfold childP; rw [if_pos h]
theorem child_kb {p : Pfx} {b : Int} (h : childOk p b) (i : Nat) (hi : i < 256) : kb (childP p b).bits i = if i = p.len.toNat then decide (b = 1) else kb p.bits i := by
  unfold childP; rw [if_pos h]
  have h0 := h.1.1
  have h1 := h.2.1
  by_cases hb : b = 1
  · simp only [hb, if_true]
    rw [kb_setB _ _ _ (by omega) hi]
    by_cases hi2 : i = p.len.toNat
    · simp [hi2]
    · rw [if_neg hi2]
      have : ¬ p.len.toNat = i := fun e => hi2 e.symm
      simp [this]
  · simp only [hb, if_false]
    by_cases hi2 : i = p.len.toNat
    · rw [if_pos hi2, formed_out h.1 (by omega)]; simp
    · rw [if_neg hi2]
theorem child_formed {p : Pfx} {b : Int} (h : childOk p b) : formedP (childP p b) := by
  have h0 := h.1.1
  have h1 := h.2.1
  refine (formed_iff (by rw [child_len h]; omega) (by rw [child_len h]; omega)).2 fun i hi => ?_
  rw [child_len h] at hi
  by_cases hi2 : i < 256
  · rw [child_kb h i hi2, if_neg (by omega)]
    exact formed_out h.1 (by omega)
  · exact kb_out (by omega)
theorem child_agree {p : Pfx} {b : Int} (h : childOk p b) (k : H256) : agree (childP p b).len.toNat (childP p b).bits k ↔ agree p.len.toNat p.bits k ∧ kb k p.len.toNat = decide (b = 1) := by
  have h0 := h.1.1
  have h1 := h.2.1
  have hl : (childP p b).len.toNat = p.len.toNat + 1 := by rw [child_len h]; omega
  rw [hl]
  constructor
  · intro hh
    refine ⟨fun i hi => ?_, ?_⟩
    · have := hh i (by omega)
      rw [child_kb h i (by omega), if_neg (by omega)] at this
      exact this
    · have := hh p.len.toNat (by omega)
      rw [child_kb h _ (by omega), if_pos rfl] at this
      exact this.symm
  · rintro ⟨h2, h3⟩ i hi
    rw [child_kb h i (by omega)]
    by_cases hi2 : i = p.len.toNat
    · rw [if_pos hi2, hi2, h3]
    · rw [if_neg hi2]; exact h2 i (by omega)
theorem child_holds {p : Pfx} {b : Int} (h : childOk p b) {k : H256} (hk : holdsP p k) (hb : kb k p.len.toNat = decide (b = 1)) : holdsP (childP p b) k :=
  holds_agree.2 ⟨child_formed h, (child_agree h k).2 ⟨(holds_agree.1 hk).2, hb⟩⟩
def PT.wf : PT → Prop
  | .leaf _ _ => True
  | .node p a b => (formedP p ∧ p.len < 256) ∧ withinP (childP p 0) a.cover ∧ withinP (childP p 1) b.cover ∧ a.wf ∧ b.wf
theorem wf_ok {p : Pfx} (h : formedP p ∧ p.len < 256) (b : Int) (hb : b = 0 ∨ b = 1) : childOk p b := ⟨h.1, h.2, by omega, by omega⟩
theorem cover_formed : ∀ {T : PT}, T.wf → formedP T.cover
  | .leaf k _, _ => cutP_formed k 256
  | .node p _ _, h => h.1.1
theorem leaf_cover (k v : H256) : (PT.leaf k v).cover = ⟨256, k⟩ := by
  show cutP k 256 = _
  unfold cutP
  simp only [show min (max (256 : Int) 0) 256 = 256 by decide]
  rw [show (256 : Int).toNat = 256 from rfl, cutB_all]
theorem leaf_within {r : Pfx} {k v : H256} (h : holdsP r k) : withinP r (PT.leaf k v).cover := by
  rw [leaf_cover]
  refine within_agree.2 ⟨h.1, ?_, h.1.2.1, (holds_agree.1 h).2⟩
  have := cutP_formed k 256
  rw [show cutP k 256 = (⟨256, k⟩ : Pfx) from leaf_cover k k] at this
  exact this
theorem joinT_ok {a b : PT} (ha : a.wf) (hb : b.wf) (h1 : (shared a.cover.bits b.cover.bits : Int) < a.cover.len) (h2 : (shared a.cover.bits b.cover.bits : Int) < b.cover.len) :
    (PT.join a b).wf ∧ (PT.join a b).cover.len = shared a.cover.bits b.cover.bits ∧ agree (shared a.cover.bits b.cover.bits) (PT.join a b).cover.bits a.cover.bits := by
  have fa := cover_formed ha
  have fb := cover_formed hb
  generalize hp : a.cover = p at *
  generalize hq : b.cover = q at *
  generalize hs : shared p.bits q.bits = s at *
  have hm : meetP p q = cutP p.bits (s : Int) := by
    unfold meetP; rw [if_pos ⟨fa, fb⟩, hs]
    congr 1; omega
  have hq1 := fb.2.1
  have hlen : (meetP p q).len = s := by rw [hm]; unfold cutP; simp only; omega
  have hbits : (meetP p q).bits = cutB p.bits s := by rw [hm]; unfold cutP; simp only; congr 1; omega
  have hf : formedP (meetP p q) := by rw [hm]; exact cutP_formed _ _
  have hok : formedP (meetP p q) ∧ (meetP p q).len < 256 := ⟨hf, by rw [hlen]; omega⟩
  have ag : agree s (meetP p q).bits p.bits := fun i hi => by rw [hbits, kb_cutB]; simp [hi]
  have hsq : agree s p.bits q.bits := fun i hi => shared_eq (by omega)
  have hne : kb p.bits s ≠ kb q.bits s := by rw [← hs]; exact shared_ne (by omega)
  have side : ∀ (c : Int) (x : Pfx), (c = 0 ∨ c = 1) → formedP x → (s : Int) < x.len → agree s p.bits x.bits → kb x.bits s = decide (c = 1) → withinP (childP (meetP p q) c) x := fun c x hc fx hl hx hb => by
    have hco := wf_ok hok c hc
    refine within_agree.2 ⟨child_formed hco, fx, by rw [child_len hco, hlen]; omega, (child_agree hco _).2 ⟨?_, ?_⟩⟩
    · rw [hlen]; exact ag.trans hx
    · rw [hlen]; exact hb
  have refl : agree s p.bits p.bits := fun _ _ => rfl
  have hcov : (PT.join a b).cover = meetP p q := by
    unfold PT.join; simp only [hp, hq]; split <;> rfl
  refine ⟨?_, by rw [hcov]; exact hlen, by rw [hcov]; exact ag⟩
  unfold PT.join
  simp only [hp, hq]
  rw [hlen]
  by_cases hbit : bitI p.bits (s : Int) = 1
  · rw [if_pos hbit]
    have hb1 : kb p.bits s = true := (bitI_kb (by omega)).1 hbit
    have hb2 : kb q.bits s = false := by cases h : kb q.bits s; rfl; rw [hb1, h] at hne; exact absurd rfl hne
    exact ⟨hok, by rw [hq]; exact side 0 q (.inl rfl) fb h2 hsq (by rw [hb2]; rfl), by rw [hp]; exact side 1 p (.inr rfl) fa h1 refl (by rw [hb1]; rfl), hb, ha⟩
  · rw [if_neg hbit]
    have hb1 : kb p.bits s = false := by cases h : kb p.bits s; rfl; exact absurd ((bitI_kb (n := (s : Int)) (by omega)).2 h) hbit
    have hb2 : kb q.bits s = true := by cases h : kb q.bits s; rw [hb1, h] at hne; exact absurd rfl hne; rfl
    exact ⟨hok, by rw [hp]; exact side 0 p (.inl rfl) fa h1 refl (by rw [hb1]; rfl), by rw [hq]; exact side 1 q (.inr rfl) fb h2 hsq (by rw [hb2]; rfl), ha, hb⟩
theorem join_leaf {T : PT} {k v : H256} (h : T.wf) (hn : ¬ holdsP T.cover k) : (PT.join T (.leaf k v)).wf ∧ ∀ r, withinP r T.cover → holdsP r k → withinP r (PT.join T (.leaf k v)).cover := by
  have fT := cover_formed h
  have e : (PT.leaf k v).cover = ⟨256, k⟩ := leaf_cover k v
  have hs : (shared T.cover.bits k : Int) < T.cover.len := by
    rcases Int.lt_or_le (shared T.cover.bits k : Int) T.cover.len with h1 | h1
    · exact h1
    · exact absurd (holds_shared.2 ⟨fT, h1⟩) hn
  have hlen := fT.2.1
  have hbits : (PT.leaf k v).cover.bits = k := by rw [e]
  have hl2 : (PT.leaf k v).cover.len = 256 := by rw [e]
  obtain ⟨w1, w2, w3⟩ := joinT_ok (a := T) (b := .leaf k v) h trivial (by rw [hbits]; exact hs) (by rw [hbits, hl2]; omega)
  rw [hbits] at w2 w3
  refine ⟨w1, fun r hr hk => ?_⟩
  obtain ⟨r1, r2, r3, r4⟩ := within_agree.1 hr
  have hle : r.len.toNat ≤ shared T.cover.bits k := (agree_shared (by have := r1.2.1; omega)).1 (r4.symm.trans (holds_agree.1 hk).2)
  refine within_agree.2 ⟨r1, cover_formed w1, by rw [w2]; have := r1.1; omega, r4.trans ((w3.mono hle).symm)⟩
theorem ins_wf (k v : H256) : ∀ {T : PT}, T.wf → (T.ins k v).wf ∧ ∀ r, withinP r T.cover → holdsP r k → withinP r (T.ins k v).cover
  | .leaf k' v', h => by
    unfold PT.ins
    by_cases hk : k' = k
    · rw [if_pos hk]
      exact ⟨trivial, fun r _ hr => leaf_within hr⟩
    · rw [if_neg hk]
      refine join_leaf h fun hh => hk ?_
      rw [leaf_cover] at hh
      have := (holds_shared.1 hh).2
      have := shared_le k' k
      exact shared_all (show shared k' k = 256 by simp only at *; omega)
  | .node p a b, h => by
    obtain ⟨h0, h1, h2, h3, h4⟩ := h
    unfold PT.ins
    by_cases hh : holdsP p k
    · rw [if_pos hh]
      have hp0 := h0.1.1
      by_cases hb : bitI k p.len = 1
      · rw [if_pos hb]
        obtain ⟨i1, i2⟩ := ins_wf k v h4
        exact ⟨⟨h0, h1, i2 _ h2 (child_holds (wf_ok h0 1 (.inr rfl)) hh (by rw [(bitI_kb hp0).1 hb]; rfl)), h3, i1⟩, fun r hr _ => hr⟩
      · rw [if_neg hb]
        obtain ⟨i1, i2⟩ := ins_wf k v h3
        have hkb : kb k p.len.toNat = false := by cases hc : kb k p.len.toNat; rfl; exact absurd ((bitI_kb hp0).2 hc) hb
        exact ⟨⟨h0, i2 _ h1 (child_holds (wf_ok h0 0 (.inl rfl)) hh (by rw [hkb]; rfl)), h2, i1, h4⟩, fun r hr _ => hr⟩
    · rw [if_neg hh]
      exact join_leaf (T := .node p a b) ⟨h0, h1, h2, h3, h4⟩ hh
def wfO : Option PT → Prop
  | none => True
  | some T => T.wf
theorem trees_wf : ∀ (n : Nat) (ps : List KV), ps.length = n → wfO (treesF ps)
  | 0, ps, h => by
    obtain rfl := List.eq_nil_of_length_eq_zero h
    exact trivial
  | n + 1, ps, h => by
    have hne : ps ≠ [] := fun e => by subst e; cases h
    obtain ⟨qs, p, rfl⟩ : ∃ qs p, ps = qs ++ [p] := ⟨ps.dropLast, ps.getLast hne, (List.dropLast_concat_getLast hne).symm⟩
    have ih := trees_wf n qs (by simpa using h)
    rw [treesF_snoc]
    cases hq : treesF qs with
    | none => exact trivial
    | some T => rw [hq] at ih; exact (ins_wf p.1 p.2 ih).1
theorem built_wf (ps : List KV) : wfO (treesF ps) := trees_wf _ ps rfl
end Go.Proofs.YtdflndjlnkoliaaGreatDoor

namespace Go.Proofs.YtdflndjlnkoliaaGreatDoor
set_option linter.all false
open Go.RowKit
def PT.list : PT → List KV
  | .leaf k v => [(k, v)]
  | .node _ a b => a.list ++ b.list
theorem list_pos : ∀ T : PT, 0 < T.list.length
  | .leaf _ _ => by simp [PT.list]
  | .node _ a b => by have := list_pos a; simp only [PT.list, List.length_append]; omega
theorem wf_child {p : Pfx} {a : PT} {c : Int} (h0 : formedP p ∧ p.len < 256) (hc : c = 0 ∨ c = 1) (hw : withinP (childP p c) a.cover) {k : H256} (hk : holdsP a.cover k) : holdsP p k ∧ kb k p.len.toNat = decide (c = 1) := by
  have hco := wf_ok h0 c hc
  obtain ⟨w1, w2, w3, w4⟩ := within_agree.1 hw
  have hk2 := (holds_agree.1 hk).2
  have : agree (childP p c).len.toNat (childP p c).bits k := w4.trans (hk2.mono (by have := w1.1; omega))
  obtain ⟨g1, g2⟩ := (child_agree hco k).1 this
  exact ⟨holds_agree.2 ⟨h0.1, g1⟩, g2⟩
theorem leaf_holds (k v : H256) : holdsP (PT.leaf k v).cover k := by
  have := cover_formed (T := .leaf k v) trivial
  rw [leaf_cover] at this ⊢
  exact holds_agree.2 ⟨this, fun _ _ => rfl⟩
theorem wf_held : ∀ {T : PT}, T.wf → ∀ x ∈ T.list, holdsP T.cover x.1
  | .leaf k v, _, x, hx => by
    obtain rfl : x = (k, v) := by simpa [PT.list] using hx
    exact leaf_holds k v
  | .node p a b, h, x, hx => by
    obtain ⟨h0, h1, h2, h3, h4⟩ := h
    rcases List.mem_append.1 hx with hx | hx
    · exact (wf_child h0 (.inl rfl) h1 (wf_held h3 x hx)).1
    · exact (wf_child h0 (.inr rfl) h2 (wf_held h4 x hx)).1
theorem wf_left {p : Pfx} {a b : PT} (h : (PT.node p a b).wf) {x : KV} (hx : x ∈ a.list) : holdsP p x.1 ∧ kb x.1 p.len.toNat = false := wf_child h.1 (.inl rfl) h.2.1 (wf_held h.2.2.2.1 x hx)
theorem wf_right {p : Pfx} {a b : PT} (h : (PT.node p a b).wf) {x : KV} (hx : x ∈ b.list) : holdsP p x.1 ∧ kb x.1 p.len.toNat = true := wf_child h.1 (.inr rfl) h.2.2.1 (wf_held h.2.2.2.2 x hx)
theorem shared_at {x y : H256} {n : Nat} (hn : n < 256) (h : agree n x y) (hne : kb x n ≠ kb y n) : shared x y = n := shared_uniq (by omega) h (fun _ => hne)
theorem less_at {x y : H256} {n : Nat} (hn : n < 256) (h : agree n x y) (hx : kb x n = false) (hy : kb y n = true) : lessP x y := by
  have := shared_at hn h (by rw [hx, hy]; simp)
  exact ⟨by omega, by rw [this]; exact hx⟩
theorem less_asymm {x y : H256} (h : lessP x y) : ¬ lessP y x := fun g => by
  have hn := shared_ne h.1
  have e : shared y x = shared x y := shared_at h.1 (fun i hi => (shared_eq hi).symm) (fun e => hn e.symm)
  have h2 := h.2
  have g2 := g.2
  rw [e] at g2
  exact hn (by rw [h2, g2])
theorem less_irrefl (x : H256) : ¬ lessP x x := fun h => less_asymm h h
theorem not_less_at {x y : H256} {n : Nat} (hn : n < 256) (h : agree n x y) (hx : kb x n = false) (hy : kb y n = true) : ¬ lessP y x := less_asymm (less_at hn h hx hy)
theorem ne_at {x y : H256} {n : Nat} (hx : kb x n = false) (hy : kb y n = true) : x ≠ y := fun e => by rw [e, hy] at hx; cases hx
theorem holds_agree2 {p : Pfx} {x y : H256} (hx : holdsP p x) (hy : holdsP p y) : agree p.len.toNat x y := ((holds_agree.1 hx).2).symm.trans (holds_agree.1 hy).2
def putL (k v : H256) : List KV → List KV
  | [] => [(k, v)]
  | x :: r => if lessP x.1 k then x :: putL k v r else (k, v) :: (x :: r).filter fun y => decide (y.1 ≠ k)
theorem putL_cons (k v : H256) (x : KV) (r : List KV) : putL k v (x :: r) = if lessP x.1 k then x :: putL k v r else (k, v) :: (x :: r).filter fun y => decide (y.1 ≠ k) := rfl
theorem putL_less {k v : H256} : ∀ {l m : List KV}, (∀ x ∈ l, lessP x.1 k) → putL k v (l ++ m) = l ++ putL k v m
  | [], _, _ => rfl
  | x :: r, m, h => by
    show putL k v (x :: (r ++ m)) = x :: (r ++ putL k v m)
    rw [putL_cons, if_pos (h x (by simp)), putL_less fun y hy => h y (by simp [hy])]
theorem filter_ne {k : H256} {l : List KV} (h : ∀ x ∈ l, x.1 ≠ k) : l.filter (fun y => decide (y.1 ≠ k)) = l := List.filter_eq_self.2 fun x hx => by simpa using h x hx
theorem putL_gt {k v : H256} : ∀ {l m : List KV}, (∀ x ∈ m, ¬ lessP x.1 k ∧ x.1 ≠ k) → putL k v (l ++ m) = putL k v l ++ m
  | [], [], _ => rfl
  | [], x :: m, h => by
    show putL k v (x :: m) = (k, v) :: x :: m
    rw [putL_cons, if_neg (h x (by simp)).1, filter_ne fun y hy => (h y hy).2]
  | x :: r, m, h => by
    show putL k v (x :: (r ++ m)) = _
    rw [putL_cons, putL_cons]
    split
    · rw [putL_gt h]; rfl
    · have e : (x :: (r ++ m)).filter (fun y => decide (y.1 ≠ k)) = (x :: r).filter (fun y => decide (y.1 ≠ k)) ++ m := by
        rw [show x :: (r ++ m) = (x :: r) ++ m from rfl, List.filter_append, filter_ne fun y hy => (h y hy).2]
      rw [e]; rfl
theorem meet_len {p q : Pfx} (fp : formedP p) (fq : formedP q) (h1 : (shared p.bits q.bits : Int) < p.len) (h2 : (shared p.bits q.bits : Int) < q.len) : (meetP p q).len = shared p.bits q.bits := by
  unfold meetP
  rw [if_pos ⟨fp, fq⟩]
  have := fp.2.1
  unfold cutP; simp only; omega
theorem join_list {T : PT} {k v : H256} (h : T.wf) (hn : ¬ holdsP T.cover k) : (PT.join T (.leaf k v)).list = putL k v T.list := by
  have fT := cover_formed h
  have e : (PT.leaf k v).cover = ⟨256, k⟩ := leaf_cover k v
  have hs : (shared T.cover.bits k : Int) < T.cover.len := by
    rcases Int.lt_or_le (shared T.cover.bits k : Int) T.cover.len with h1 | h1
    · exact h1
    · exact absurd (holds_shared.2 ⟨fT, h1⟩) hn
  have hlen := fT.2.1
  have fL : formedP (PT.leaf k v).cover := cover_formed (T := .leaf k v) trivial
  have hm : (meetP T.cover (PT.leaf k v).cover).len = shared T.cover.bits k := by
    have := meet_len (p := T.cover) (q := (PT.leaf k v).cover) fT fL (by rw [e]; exact hs) (by rw [e]; show (shared T.cover.bits k : Int) < 256; omega)
    rw [this, e]
  have hne := shared_ne (a := T.cover.bits) (b := k) (by omega)
  have ag : ∀ x ∈ T.list, agree (shared T.cover.bits k) x.1 k ∧ kb x.1 (shared T.cover.bits k) = kb T.cover.bits (shared T.cover.bits k) := fun x hx => by
    have hx2 := (holds_agree.1 (wf_held h x hx)).2
    exact ⟨((hx2.mono (by omega)).symm).trans (fun i hi => shared_eq hi), (hx2 _ (by omega)).symm⟩
  unfold PT.join
  simp only [hm]
  by_cases hb : bitI T.cover.bits (shared T.cover.bits k : Int) = 1
  · rw [if_pos hb]
    have hb1 : kb T.cover.bits (shared T.cover.bits k) = true := (bitI_kb (by omega)).1 hb
    have hb2 : kb k (shared T.cover.bits k) = false := by cases hc : kb k (shared T.cover.bits k); rfl; rw [hb1, hc] at hne; exact absurd rfl hne
    have := putL_gt (k := k) (v := v) (l := []) (m := T.list) fun x hx => by
      obtain ⟨g1, g2⟩ := ag x hx
      exact ⟨not_less_at (by omega) g1.symm hb2 (g2.trans hb1), (ne_at hb2 (g2.trans hb1)).symm⟩
    exact this.symm
  · rw [if_neg hb]
    have hb1 : kb T.cover.bits (shared T.cover.bits k) = false := by cases hc : kb T.cover.bits (shared T.cover.bits k); rfl; exact absurd ((bitI_kb (n := (shared T.cover.bits k : Int)) (by omega)).2 hc) hb
    have hb2 : kb k (shared T.cover.bits k) = true := by cases hc : kb k (shared T.cover.bits k); rw [hb1, hc] at hne; exact absurd rfl hne; rfl
    have := putL_less (k := k) (v := v) (l := T.list) (m := []) fun x hx => by
      obtain ⟨g1, g2⟩ := ag x hx
      exact less_at (by omega) g1 (g2.trans hb1) hb2
    rw [List.append_nil] at this
    exact this.symm
theorem ins_list {k v : H256} : ∀ {T : PT}, T.wf → (T.ins k v).list = putL k v T.list
  | .leaf k' v', h => by
    unfold PT.ins
    by_cases hk : k' = k
    · rw [if_pos hk]
      subst hk
      show [(k', v)] = putL k' v [(k', v')]
      unfold putL
      rw [if_neg (less_irrefl _)]; simp
    · rw [if_neg hk]
      refine join_list h fun hh => hk ?_
      rw [leaf_cover] at hh
      have := (holds_shared.1 hh).2
      have := shared_le k' k
      exact shared_all (show shared k' k = 256 by simp only at *; omega)
  | .node p a b, h => by
    have h0 := h.1
    unfold PT.ins
    by_cases hh : holdsP p k
    · rw [if_pos hh]
      have hp0 := h0.1.1
      have hp1 := h0.2
      by_cases hb : bitI k p.len = 1
      · rw [if_pos hb]
        have hkb := (bitI_kb hp0).1 hb
        show a.list ++ (b.ins k v).list = putL k v (a.list ++ b.list)
        rw [ins_list h.2.2.2.2, putL_less fun x hx => by
          obtain ⟨x1, x2⟩ := wf_left h hx
          exact less_at (by omega) (holds_agree2 x1 hh) x2 hkb]
      · rw [if_neg hb]
        have hkb : kb k p.len.toNat = false := by cases hc : kb k p.len.toNat; rfl; exact absurd ((bitI_kb hp0).2 hc) hb
        show (a.ins k v).list ++ b.list = putL k v (a.list ++ b.list)
        rw [ins_list h.2.2.2.1, putL_gt fun x hx => by
          obtain ⟨x1, x2⟩ := wf_right h hx
          exact ⟨not_less_at (by omega) (holds_agree2 hh x1) hkb x2, (ne_at hkb x2).symm⟩]
    · rw [if_neg hh]
      exact join_list h hh
def listO : Option PT → List KV
  | none => []
  | some T => T.list
def allL (ps : List KV) : List KV := ps.foldl (fun l p => putL p.1 p.2 l) []
theorem allL_snoc (ps : List KV) (p : KV) : allL (ps ++ [p]) = putL p.1 p.2 (allL ps) := by unfold allL; rw [List.foldl_append]; rfl
theorem all_trees_aux : ∀ (n : Nat) (ps : List KV), ps.length = n → allL ps = listO (treesF ps)
  | 0, ps, h => by
    obtain rfl := List.eq_nil_of_length_eq_zero h
    rfl
  | n + 1, ps, h => by
    have hne : ps ≠ [] := fun e => by subst e; cases h
    obtain ⟨qs, p, rfl⟩ : ∃ qs p, ps = qs ++ [p] := ⟨ps.dropLast, ps.getLast hne, (List.dropLast_concat_getLast hne).symm⟩
    have ih := all_trees_aux n qs (by simpa using h)
    have hw := built_wf qs
    rw [allL_snoc, treesF_snoc, ih]
    cases hq : treesF qs with
    | none => rfl
    | some T => rw [hq] at hw; exact (ins_list hw).symm
theorem all_trees (ps : List KV) : allL ps = listO (treesF ps) := all_trees_aux _ ps rfl
theorem over_spec {p : Pfx} {a b : PT} (h : (PT.node p a b).wf) {x y : KV} (hx : x ∈ a.list) (hy : y ∈ b.list) : shared x.1 y.1 = p.len.toNat ∧ cutP x.1 (shared x.1 y.1 : Int) = p := by
  obtain ⟨x1, x2⟩ := wf_left h hx
  obtain ⟨y1, y2⟩ := wf_right h hy
  have h0 := h.1.1.1
  have h1 := h.1.2
  have e : shared x.1 y.1 = p.len.toNat := shared_at (by omega) (holds_agree2 x1 y1) (by rw [x2, y2]; simp)
  refine ⟨e, ?_⟩
  rw [e]
  have e2 : (p.len.toNat : Int) = p.len := by omega
  rw [e2]
  unfold cutP
  rw [show min (max p.len 0) 256 = p.len by omega, x1.2]
end Go.Proofs.YtdflndjlnkoliaaGreatDoor

namespace Go.Proofs.YtdflndjlnkoliaaGreatDoor
set_option linter.all false
open Go.RowKit
def putI (k v : H256) : Bool → List KV → List KV
  | true, r => r.filter fun y => decide (y.1 ≠ k)
  | false, r => putL k v r
theorem putL_len (k v : H256) : ∀ l : List KV, (putL k v l).length ≤ l.length + 1
  | [] => by simp [putL]
  | x :: r => by
    rw [putL_cons]; split
    · have := putL_len k v r; simp only [List.length_cons]; omega
    · have := List.length_filter_le (fun y : KV => decide (y.1 ≠ k)) (x :: r); simp only [List.length_cons] at *; omega
theorem putI_less {k v : H256} {x : KV} {r : List KV} (h : lessP x.1 k) : putI k v false (x :: r) = x :: putI k v false r := by
  show putL k v (x :: r) = x :: putL k v r
  rw [putL_cons, if_pos h]
theorem putI_ge {k v : H256} {x : KV} {r : List KV} (h : ¬ lessP x.1 k) : putI k v false (x :: r) = (k, v) :: putI k v true (x :: r) := by
  show putL k v (x :: r) = (k, v) :: (x :: r).filter (fun y => decide (y.1 ≠ k))
  rw [putL_cons, if_neg h]
theorem putI_same {k v : H256} {x : KV} {r : List KV} (h : x.1 = k) : putI k v true (x :: r) = putI k v true r := by
  show (x :: r).filter (fun y => decide (y.1 ≠ k)) = r.filter (fun y => decide (y.1 ≠ k))
  rw [List.filter_cons_of_neg (by simp [h])]
theorem putI_other {k v : H256} {x : KV} {r : List KV} (h : ¬ x.1 = k) : putI k v true (x :: r) = x :: putI k v true r := by
  show (x :: r).filter (fun y => decide (y.1 ≠ k)) = x :: r.filter (fun y => decide (y.1 ≠ k))
  rw [List.filter_cons_of_pos (by simp [h])]
def rput_c : Ctr where
  D := List KV × H256 × H256
  pre := fun (l, _, _) => l.length ≤ 1000000
  args := fun (l, k, v) => [.fs 64 eKV l, .agg [.arr8 k], .agg [.arr8 v]]
  res := fun (l, k, v) _ => .fs 64 eKV (putL k v l)
def rput_H : Cfg := ⟨[(137, rless_c)], [(6, [7, 8], [9], (.one 0 0 false (.one 1 0 false (.one 2 0 false (.one 3 0 false (.one 4 0 false (.one 5 0 false (.one 6 0 false (.one 7 1 false (.one 8 1 false (.one 9 2 false (.one 10 0 false (.one 11 0 false .nil)))))))))))), []), (9, [4, 5], [], (.one 0 0 false (.one 1 0 false (.one 2 0 false (.one 3 0 false (.one 4 1 false (.one 5 1 false (.one 6 0 false .nil))))))), [])], [], [], 57, 0, [], [], []⟩
theorem rput_ok : rput_c.Ok Tryz.prog 95 := by
  refine fn_ok rput_H 0 rfl _ Tryz.func95 rfl rfl ⟨rless_ok, trivial⟩ rfl rfl (by kernel_rfl) (fun _ => Nat.le_of_ble_eq_true rfl) ?_
  rintro ⟨l, k, v⟩ hp hr
  try dsimp only [rput_c] at hp
  try simp only [rput_c, Rng, RngL, inR, and_true, true_and] at hr
  repeat' (first | (with_reducible refine Unf.h ?_) | fail); all_goals try (conv => whnf)
  refine LoopS.autoN (I := Nat × List KV × Bool) (fun (i, o, b) => i ≤ l.length ∧ (b = false → o.length ≤ i) ∧ o.length ≤ i + 1 ∧ o ++ putI k v b (l.drop i) = putL k v l) (fun (i, o, b) => [(9, .int .i64 i), (8, .bool b), (7, .own 2)]) (fun (i, o, b) => [(0, .box 30 [.arr8 k]), (1, .box 30 [.arr8 v]), (2, .row 186 64 eKV o)]) 3 (fun (i, _, _) => l.length - i) (0, [], false) ⟨Nat.zero_le _, by simp, by simp, rfl⟩ ?_ ?_
  · repeat' (first | (with_reducible refine Unf.h ?_) | ((conv => whnf); first | (refine Side.mk ?_ ?_; focus (first | with_reducible rfl | (refine congrArg (SV.int _) ?_; omega))) | (with_reducible refine Unf.h ?_) | exact True.intro) | fail); all_goals try (conv => whnf)
  · rintro ⟨i, o, b⟩ ⟨h1, h2, h3, h4⟩
    by_cases hi : i < l.length
    · have hic : (i : Int).toNat < l.length := by omega
      rw [List.drop_eq_getElem_cons hi] at h4
      have es : l[i]'hi = l[(i : Int).toNat]'hic := by congr 1
      rw [es] at h4
      generalize hx : l[(i : Int).toNat]'hic = x at *
      have inv : ∀ (o' : List KV) (b' : Bool), (b' = false → o'.length ≤ i + 1) → o'.length ≤ i + 2 → o' ++ putI k v b' (l.drop (i + 1)) = putL k v l → l.length - (i + 1) < l.length - i ∧ i + 1 ≤ l.length ∧ (b' = false → o'.length ≤ i + 1) ∧ o'.length ≤ i + 1 + 1 ∧ o' ++ putI k v b' (l.drop (i + 1)) = putL k v l := fun o' b' g1 g2 g3 => ⟨by omega, by omega, g1, by omega, g3⟩
      cases b
      · have h2 := h2 rfl
        repeat' (first | (with_reducible first | refine Unf.h ?_ | refine loopK_n ?_) | ((conv => whnf); first | refine Fork.mkn (fun h => ?_) (fun h => ?_) | refine Fork.mk (fun h => ?_) (fun h => ?_) | (refine Side.mk ?_ ?_; focus (first | with_reducible rfl | exact True.intro | (intros; (try simp only [lenS, inR, cutS, loI, hiI, hx] at *); omega) | (simp only [*, hx]; done))) | (refine Idx.mk ?_ ?_; focus (omega)) | refine Got.mk (fun _ _ => ?_) | refine Ex.mk [_] rfl ?_ | refine CallS.mk (c := rless_c) ((x.1, k)) ?_) | fail); all_goals try (conv => whnf)
        · refine ⟨[(k, v)], rfl, ?_⟩
          rw [putI_ge h] at h4
          repeat' (first | (with_reducible first | refine Unf.h ?_ | refine loopK_n ?_) | ((conv => whnf); first | refine Fork.mkn (fun h => ?_) (fun h => ?_) | (refine Side.mk ?_ ?_; focus ((intros; (try simp only [lenS, inR, cutS, loI, hiI, hx] at *); omega))) | (refine Idx.mk ?_ ?_; focus (omega)) | refine Ex.mk [_] rfl ?_) | fail); all_goals try (conv => whnf)
          · have hne : ¬ x.1 = k := fun e => h (by rw [hx, e])
            rw [putI_other hne] at h4
            refine ⟨(i + 1, o ++ [(k, v)] ++ [x], true), inv _ _ (by simp) (by simp; omega) (by rw [← h4]; simp), ?_⟩
            repeat' (first | (with_reducible refine Unf.h ?_) | ((conv => whnf); first | (refine Side.mk ?_ ?_; focus (first | with_reducible rfl | (refine congrArg (SV.int _) ?_; omega) | (simp only [*, hx]; done))) | (with_reducible refine Unf.h ?_) | exact True.intro) | fail); all_goals try (conv => whnf)
          · have he : x.1 = k := by rw [hx] at h; exact Vector.toList_inj.1 h
            rw [putI_same he] at h4
            refine ⟨(i + 1, o ++ [(k, v)], true), inv _ _ (by simp) (by simp; omega) (by rw [← h4]; simp), ?_⟩
            repeat' (first | (with_reducible refine Unf.h ?_) | ((conv => whnf); first | (refine Side.mk ?_ ?_; focus (first | with_reducible rfl | (refine congrArg (SV.int _) ?_; omega))) | (with_reducible refine Unf.h ?_) | exact True.intro) | fail); all_goals try (conv => whnf)
        · have hl : lessP x.1 k := by assumption
          rw [putI_less hl] at h4
          refine ⟨(i + 1, o ++ [x], false), inv _ _ (by simp; omega) (by simp; omega) (by rw [← h4]; simp), ?_⟩
          repeat' (first | (with_reducible refine Unf.h ?_) | ((conv => whnf); first | (refine Side.mk ?_ ?_; focus (first | with_reducible rfl | (refine congrArg (SV.int _) ?_; omega) | (simp only [*, hx]; done))) | (with_reducible refine Unf.h ?_) | exact True.intro) | fail); all_goals try (conv => whnf)
        · have hl : lessP x.1 k := by assumption
          rw [hx] at h
          rw [Vector.toList_inj.1 h] at hl
          exact absurd hl (less_irrefl _)
        · exfalso; omega
      · clear h2
        repeat' (first | (with_reducible first | refine Unf.h ?_ | refine loopK_n ?_) | ((conv => whnf); first | refine Fork.mkn (fun h => ?_) (fun h => ?_) | refine Fork.mk (fun h => ?_) (fun h => ?_) | (refine Side.mk ?_ ?_; focus (first | omega | (intros; (try simp only [lenS, inR, cutS, loI, hiI, hx] at *); omega))) | (refine Idx.mk ?_ ?_; focus (omega)) | refine RetE.mk () trivial ?_ | refine Ex.mk [_] rfl ?_ | refine retK_r ?_ | exact rfl) | fail); all_goals try (conv => whnf)
        · have hne : ¬ x.1 = k := fun e => h (by rw [hx, e])
          rw [putI_other hne] at h4
          refine ⟨(i + 1, o ++ [x], true), inv _ _ (by simp) (by simp; omega) (by rw [← h4]; simp), ?_⟩
          repeat' (first | (with_reducible refine Unf.h ?_) | ((conv => whnf); first | (refine Side.mk ?_ ?_; focus (first | with_reducible rfl | (refine congrArg (SV.int _) ?_; omega) | (simp only [*, hx]; done))) | (with_reducible refine Unf.h ?_) | exact True.intro) | fail); all_goals try (conv => whnf)
        · rw [hx] at h
          rw [putI_same (Vector.toList_inj.1 h)] at h4
          refine ⟨(i + 1, o, true), inv _ _ (by simp) (by omega) h4, ?_⟩
          repeat' (first | (with_reducible refine Unf.h ?_) | ((conv => whnf); first | (refine Side.mk ?_ ?_; focus (first | with_reducible rfl | (refine congrArg (SV.int _) ?_; omega))) | (with_reducible refine Unf.h ?_) | exact True.intro) | fail); all_goals try (conv => whnf)
        all_goals (exfalso; omega)
    · have e : l.drop i = [] := List.drop_eq_nil_of_le (by omega)
      rw [e] at h4
      cases b
      · replace h4 : putL k v l = o ++ [(k, v)] := h4.symm
        repeat' (first | (with_reducible refine Unf.h ?_) | ((conv => whnf); first | refine Fork.mk (fun h => ?_) (fun h => ?_) | (refine Idx.mk ?_ ?_; focus (omega))) | fail); all_goals try (conv => whnf)
        · exfalso; omega
        · refine ⟨[(k, v)], rfl, ?_⟩
          repeat' (first | (with_reducible refine Unf.h ?_) | ((conv => whnf); first | (refine Side.mk ?_ ?_; focus (first | (intros; (try simp only [lenS, inR, cutS, loI, hiI, h4] at *); omega) | (simp only [*, h4]; done))) | refine RetE.mk () trivial ?_ | refine retK_r ?_ | exact rfl) | fail); all_goals try (conv => whnf)
      · replace h4 : o ++ [] = putL k v l := h4
        rw [List.append_nil] at h4
        repeat' (first | (with_reducible first | refine Unf.h ?_ | refine loopK_n ?_) | ((conv => whnf); first | refine Fork.mkn (fun h => ?_) (fun h => ?_) | refine Fork.mk (fun h => ?_) (fun h => ?_) | (refine Side.mk ?_ ?_; focus (first | omega | (simp only [*, h4]; done))) | (refine Idx.mk ?_ ?_; focus (omega)) | refine RetE.mk () trivial ?_ | refine Ex.mk [_] rfl ?_ | refine retK_r ?_ | exact rfl) | fail); all_goals try (conv => whnf)
        all_goals (exfalso; omega)
theorem allL_len : ∀ (n : Nat) (l : List KV), l.length = n → (allL l).length ≤ n
  | 0, l, h => by obtain rfl := List.eq_nil_of_length_eq_zero h; exact Nat.le_refl _
  | n + 1, l, h => by
    have hne : l ≠ [] := fun e => by subst e; cases h
    obtain ⟨qs, p, rfl⟩ : ∃ qs p, l = qs ++ [p] := ⟨l.dropLast, l.getLast hne, (List.dropLast_concat_getLast hne).symm⟩
    have ih := allL_len n qs (by simpa using h)
    have := putL_len p.1 p.2 (allL qs)
    rw [allL_snoc]; omega
end Go.Proofs.YtdflndjlnkoliaaGreatDoor

namespace Go.Proofs.YtdflndjlnkoliaaGreatDoor
set_option linter.all false
open Go.RowKit
def rover_c : Ctr where
  D := Pfx × PT × PT
  pre := fun (p, a, b) => (PT.node p a b).wf
  args := fun (_, a, b) => [.fs 64 eKV (a.list ++ b.list)]
  res := fun (p, _, _) _ => .agg (ePfx p)
theorem app_first {a b : PT} (i : Nat) (hi : i = 0) (h : i < (a.list ++ b.list).length) : (a.list ++ b.list)[i] ∈ a.list := by
  subst hi
  rw [List.getElem_append_left (list_pos a)]; exact List.getElem_mem _
theorem app_last {a b : PT} (i : Nat) (hi : i = a.list.length + b.list.length - 1) (h : i < (a.list ++ b.list).length) : (a.list ++ b.list)[i] ∈ b.list := by
  have := list_pos b
  rw [List.getElem_append_right (by omega)]; exact List.getElem_mem _
def rover_H : Cfg := ⟨[(135, rshared_c), (134, rcut_c)], [(1, [3, 10], [11, 12, 13, 14], (.one 0 0 false (.one 1 0 false (.one 2 0 false (.one 3 1 false (.one 4 0 false (.one 5 0 false (.one 6 0 false (.one 7 0 false (.one 8 0 false (.one 9 0 false (.one 10 1 false (.alt 11 true (.one 12 2 true (.one 13 2 true (.one 14 2 false .nil))) (.one 12 2 true (.one 11 2 true (.one 13 2 true (.one 14 2 false .nil)))))))))))))))), []), (2, [0, 1, 2], [3, 4, 5], (.one 0 1 false (.one 1 1 false (.one 2 1 false (.one 3 2 true (.one 4 2 false (.one 5 2 false .nil)))))), [])], [], [], 21, 0, [], [1], []⟩
theorem rover_ok : rover_c.Ok Tryz.prog 91 := by
  refine fn_ok rover_H 0 rfl _ Tryz.func91 rfl rfl ⟨rshared_ok, rcut_ok, trivial⟩ rfl rfl (by kernel_rfl) (fun _ => Nat.le_of_ble_eq_true rfl) ?_
  rintro ⟨p, a, b⟩ hp hr
  try dsimp only [rover_c] at hp
  try simp only [rover_c, Rng, RngL, inR, and_true, true_and] at hr
  have la := list_pos a
  have lb := list_pos b
  have hlen : (a.list ++ b.list).length = a.list.length + b.list.length := List.length_append
  have h0 : (0 : Int).toNat < (a.list ++ b.list).length := by show 0 < _; omega
  have h1 : (((a.list ++ b.list).length : Int) - 1).toNat < (a.list ++ b.list).length := by omega
  have hx : (a.list ++ b.list)[(0 : Int).toNat]'h0 ∈ a.list := app_first _ rfl h0
  have hy : (a.list ++ b.list)[(((a.list ++ b.list).length : Int) - 1).toNat]'h1 ∈ b.list := app_last _ (by omega) h1
  have ho := (over_spec hp hx hy).2
  repeat' (first | (with_reducible refine Unf.h ?_) | fail); all_goals try (conv => whnf)
  refine CutS.auto (I := Unit) (fun _ => True) (fun _ => [(3, .ptr 1 0), (4, .ptr 2 0)]) (fun _ => [(1, .box 30 [.arr8 ((a.list ++ b.list)[(0 : Int).toNat]'h0).1]), (2, .box 30 [.arr8 ((a.list ++ b.list)[(((a.list ++ b.list).length : Int) - 1).toNat]'h1).1]), (0, .box 58 [.int .i64 0, .arr8 zeroH])]) 3 ?_ ?_
  · repeat' (first | (with_reducible first | refine Unf.h ?_ | refine cutK_n ?_) | ((conv => whnf); first | refine Both.mk ?_ ?_ | (refine Side.mk ?_ ?_; focus ((intros; (try simp only [lenS, inR, cutS, loI, hiI] at *); omega))) | (refine Idx.mk ?_ ?_; focus (omega))) | fail); all_goals try (conv => whnf)
    all_goals (refine ⟨(), trivial, ?_⟩)
    all_goals repeat' (first | (with_reducible refine Unf.h ?_) | ((conv => whnf); first | (refine Side.mk ?_ ?_; focus (with_reducible rfl)) | (with_reducible refine Unf.h ?_) | exact True.intro) | fail); all_goals try (conv => whnf)
  · intro _ _
    generalize (a.list ++ b.list)[(0 : Int).toNat]'h0 = x at *
    generalize (a.list ++ b.list)[(((a.list ++ b.list).length : Int) - 1).toNat]'h1 = y at *
    repeat' (first | (with_reducible refine Unf.h ?_) | ((conv => whnf); first | (refine Side.mk ?_ ?_; focus (first | with_reducible rfl | exact True.intro | (simp only [*, ho]; done))) | refine RetE.mk () trivial ?_ | refine Got.mk (fun _ _ => ?_) | refine retK_r ?_ | exact rfl | refine CallS.mk (c := rshared_c) ((x.1, y.1)) ?_ | refine CallS.mk (c := rcut_c) ((x.1, (shared x.1 y.1 : Int))) ?_) | fail); all_goals try (conv => whnf)
def rpart_c : Ctr where
  D := Pfx × PT × PT
  pre := fun (p, a, b) => (PT.node p a b).wf
  args := fun (p, a, b) => [.fs 64 eKV (a.list ++ b.list), .agg (ePfx p)]
  res := fun (_, a, _) _ => .int .i64 a.list.length
theorem part_bit {p : Pfx} {a b : PT} (hp : (PT.node p a b).wf) (i : Nat) (h : i < (a.list ++ b.list).length) : bitI ((a.list ++ b.list)[i]).1 p.len = 0 ↔ i < a.list.length := by
  have h0 := hp.1.1.1
  by_cases hi : i < a.list.length
  · rw [List.getElem_append_left hi]
    have := (wf_left hp (List.getElem_mem hi)).2
    have hn : ¬ bitI (a.list[i]).1 p.len = 1 := fun h' => by rw [(bitI_kb h0).1 h'] at this; cases this
    rcases bitI_01 (a.list[i]).1 p.len with e | e
    · simp [e, hi]
    · exact absurd e hn
  · rw [List.getElem_append_right (by omega)]
    have hm := (wf_right hp (List.getElem_mem (show i - a.list.length < b.list.length by rw [List.length_append] at h; omega))).2
    rw [(bitI_kb h0).2 hm]; simp [hi]
def rpart_H : Cfg := ⟨[(94, rbit_c)], [(2, [9, 11], [12], (.one 0 0 false (.one 1 0 false (.one 2 0 false (.one 3 0 false (.one 4 0 false (.one 5 0 false (.one 6 0 false (.one 7 0 false (.one 8 0 false (.one 9 1 false (.one 10 0 false (.one 11 1 false (.one 12 2 false (.one 13 0 false (.one 14 0 false .nil))))))))))))))), [])], [], [], 24, 0, [], [], []⟩
theorem rpart_ok : rpart_c.Ok Tryz.prog 92 := by
  refine fn_ok rpart_H 0 rfl _ Tryz.func92 rfl rfl ⟨rbit_ok, trivial⟩ rfl rfl (by kernel_rfl) (fun _ => Nat.le_of_ble_eq_true rfl) ?_
  rintro ⟨p, a, b⟩ hp hr
  try dsimp only [rpart_c] at hp
  try simp only [rpart_c, Rng, RngL, inR, and_true, true_and] at hr
  have lb := list_pos b
  have hlen : (a.list ++ b.list).length = a.list.length + b.list.length := List.length_append
  have hbit := part_bit hp
  generalize hl : a.list ++ b.list = l at *
  repeat' (first | (with_reducible refine Unf.h ?_) | fail); all_goals try (conv => whnf)
  refine LoopS.auto (fun i : Nat => i ≤ a.list.length) (fun i => [(5, .int .i64 i)]) (fun _ => [(0, .box 58 (ePfx p))]) (fun i => a.list.length - i) 0 (by omega) ?_ ?_
  · repeat' (first | (with_reducible refine Unf.h ?_) | ((conv => whnf); first | (refine Side.mk ?_ ?_; focus (first | with_reducible rfl | (refine congrArg (SV.int _) ?_; omega))) | (with_reducible refine Unf.h ?_) | exact True.intro) | fail); all_goals try (conv => whnf)
  · intro i hi
    have hic : (i : Int).toNat < l.length := by omega
    have hb := hbit (i : Int).toNat hic
    repeat' (first | (with_reducible first | refine Unf.h ?_ | refine loopK_n ?_) | ((conv => whnf); first | refine Fork.mk (fun h => ?_) (fun h => ?_) | (refine Side.mk ?_ ?_; focus (first | with_reducible rfl | exact True.intro | (refine congrArg (SV.int _) ?_; omega) | (intros; (try simp only [lenS, inR, cutS, loI, hiI] at *); omega) | (simp only [*]; done))) | (refine Idx.mk ?_ ?_; focus (omega)) | refine RetE.mk () trivial ?_ | refine Got.mk (fun _ _ => ?_) | refine retK_r ?_ | exact rfl | refine CallS.mk (c := rbit_c) (((l[(i : Int).toNat]'hic).1, p.len)) ?_) | fail); all_goals try (conv => whnf)
    · have := hb.1 (by assumption)
      refine ⟨i + 1, ⟨by omega, by omega⟩, ?_⟩
      repeat' (first | (with_reducible refine Unf.h ?_) | ((conv => whnf); first | (refine Side.mk ?_ ?_; focus (first | with_reducible rfl | (refine congrArg (SV.int _) ?_; omega))) | (with_reducible refine Unf.h ?_) | exact True.intro) | fail); all_goals try (conv => whnf)
  def PT.text : PT → Bs
  | .leaf k v => leafT k v
  | .node p a b => innerT p.len p.bits a.hash b.hash
theorem hash_text (T : PT) : T.hash = sha T.text := by cases T <;> rfl
theorem text_len (T : PT) : T.text.length ≤ 1000000000 := by
  cases T with
  | leaf k v => exact leafT_len k v
  | node p a b => exact innerT_len p.len p.bits a.hash b.hash
def hashO : Option PT → H256
  | none => emptyH
  | some T => T.hash
def rtop_c (n : Nat) : Ctr where
  D := PT
  pre := fun T => T.wf ∧ T.depth ≤ n
  args := fun T => [.fs 64 eKV T.list]
  res := fun T _ => .fs 1 eB T.text
def rroot_c (n : Nat) : Ctr where
  D := Option PT
  pre := fun o => wfO o ∧ depthO o < n
  args := fun o => [.fs 64 eKV (listO o)]
  res := fun o _ => .agg [.arr8 (hashO o)]
def rtop_H (n : Nat): Cfg := ⟨[(159, rleaf_c), (91, rover_c), (92, rpart_c), (79, (rroot_c n)), (160, rinner_c)], [(5, [0], [4, 8, 9], (.one 0 1 false (.one 1 0 false (.one 2 0 false (.one 3 0 false (.one 5 0 false (.one 6 0 false (.one 7 0 false (.one 4 2 true (.one 8 2 true (.one 9 2 false (.one 10 0 false .nil))))))))))), [])], [], [], 27, 0, [], [], []⟩
theorem rtop_ok (n : Nat) (h : (rroot_c n).Ok Tryz.prog 79): (rtop_c n).Ok Tryz.prog 120 := by
  refine fn_ok (rtop_H n) 0 rfl _ Tryz.func120 rfl rfl ⟨rleaf_ok, rover_ok, rpart_ok, h, rinner_ok, trivial⟩ rfl rfl (by kernel_rfl) (fun _ => Nat.le_of_ble_eq_true rfl) ?_
  intro (T : PT) hp hr
  try dsimp only [rtop_c] at hp
  try simp only [rtop_c, Rng, RngL, inR, and_true, true_and] at hr
  obtain ⟨hw, hd⟩ := hp
  cases T with
  | leaf k v =>
    have e : (PT.leaf k v).list = [(k, v)] := rfl
    have e2 : (PT.leaf k v).text = leafT k v := rfl
    repeat' (first | (with_reducible refine Unf.h ?_) | ((conv => whnf); first | refine Fork.mk (fun h => ?_) (fun h => ?_) | (refine Side.mk ?_ ?_; focus (first | exact True.intro | (simp only [*, e, e2]; done) | (simp [*, e, e2]; done))) | (refine Idx.mk ?_ ?_; focus (omega)) | refine RetE.mk () trivial ?_ | refine Got.mk (fun _ _ => ?_) | refine retK_r ?_ | exact rfl | refine CallS.mk (c := rleaf_c) ((k, v)) ?_) | fail); all_goals try (conv => whnf)
    exact absurd rfl h
  | node p a b =>
    have e : (PT.node p a b).list = a.list ++ b.list := rfl
    rw [e] at hr
    show Vc _ _ _ (argE [.fs 64 eKV (a.list ++ b.list)] 0) _ _ _
    have hlen : (a.list ++ b.list).length = a.list.length + b.list.length := List.length_append
    have la := list_pos a
    have lb := list_pos b
    have h0 := hw.1.1.1
    have h1 := hw.1.2
    have hpa : (rroot_c n).pre (some a) := ⟨hw.2.2.2.1, by simp only [PT.depth] at hd; show a.depth < n; omega⟩
    have hpb : (rroot_c n).pre (some b) := ⟨hw.2.2.2.2, by simp only [PT.depth] at hd; show b.depth < n; omega⟩
    have ca : cutL (a.list ++ b.list) none (some (a.list.length : Int)) = a.list := by simp [cutL, loI, hiI]
    have cb : cutL (a.list ++ b.list) (some (a.list.length : Int)) none = b.list := by simp [cutL, loI, hiI]
    have e2 : (PT.node p a b).text = innerT p.len p.bits a.hash b.hash := rfl
    repeat' (first | (with_reducible refine Unf.h ?_) | ((conv => whnf); first | refine Fork.mk (fun h => ?_) (fun h => ?_) | (refine Side.mk ?_ ?_; focus (first | with_reducible rfl | assumption | (intros; (try simp only [lenS, inR, cutS, loI, hiI] at *); omega))) | (refine Idx.mk ?_ ?_; focus (omega)) | refine Got.mk (fun _ _ => ?_) | refine CallS.mk (c := rover_c) ((p, a, b)) ?_ | refine CallS.mk (c := rpart_c) ((p, a, b)) ?_) | fail); all_goals try (conv => whnf)
    · exfalso; omega
    · refine CallS.mk (c := rroot_c n) (some a) ?_
      repeat' (first | (with_reducible refine Unf.h ?_) | ((conv => whnf); first | (refine Side.mk ?_ ?_; focus (first | assumption | (simp only [*, ca, listO]; done))) | refine Got.mk (fun _ _ => ?_)) | fail); all_goals try (conv => whnf)
      refine CallS.mk (c := rroot_c n) (some b) ?_
      repeat' (first | (with_reducible refine Unf.h ?_) | ((conv => whnf); first | (refine Side.mk ?_ ?_; focus (first | with_reducible rfl | exact True.intro | assumption | (simp only [*, cb, listO, hashO, e2]; done))) | refine RetE.mk () trivial ?_ | refine Got.mk (fun _ _ => ?_) | refine retK_r ?_ | exact rfl | refine CallS.mk (c := rinner_c) ((p.len, p.bits, a.hash, b.hash)) ?_) | fail); all_goals try (conv => whnf)
def rroot_H (n : Nat): Cfg := ⟨[(119, rempty_c), (120, (rtop_c n)), (117, refsum_c)], [], [], [], 10, 0, [], [], []⟩
theorem rroot_ok (n : Nat) (h : (rtop_c n).Ok Tryz.prog 120): (rroot_c (n + 1)).Ok Tryz.prog 79 := by
  refine fn_ok (rroot_H n) 0 rfl _ Tryz.func79 rfl rfl ⟨rempty_ok, h, refsum_ok, trivial⟩ rfl rfl (by kernel_rfl) (fun _ => Nat.le_of_ble_eq_true rfl) ?_
  intro (o : Option PT) hp hr
  try dsimp only [rroot_c] at hp
  try simp only [rroot_c, Rng, RngL, inR, and_true, true_and] at hr
  obtain ⟨hw, hd⟩ := hp
  cases o with
  | none =>
    repeat' (first | (with_reducible refine Unf.h ?_) | ((conv => whnf); first | refine Fork.mk (fun h => ?_) (fun h => ?_) | (refine Side.mk ?_ ?_; focus (first | exact True.intro | (simp only [*, hashO]; done))) | refine RetE.mk () trivial ?_ | refine Got.mk (fun _ _ => ?_) | refine retK_r ?_ | exact rfl | refine CallS.mk (c := rempty_c) (()) ?_) | fail); all_goals try (conv => whnf)
    exact absurd rfl h
  | some T =>
    have e := hash_text T
    have lt := list_pos T
    have hpre : (rtop_c n).pre T := ⟨hw, by have : T.depth < n + 1 := hd; omega⟩
    have htl := text_len T
    repeat' (first | (with_reducible refine Unf.h ?_) | ((conv => whnf); first | refine Fork.mk (fun h => ?_) (fun h => ?_) | (refine Side.mk ?_ ?_; focus (first | with_reducible rfl | assumption | (simp only [*, hashO, listO, e]; done))) | refine RetE.mk () trivial ?_ | refine Got.mk (fun _ _ => ?_) | refine retK_r ?_ | exact rfl | refine CallS.mk (T) ?_ | refine CallS.mk (c := refsum_c) (T.text) ?_) | fail); all_goals try (conv => whnf)
    have : T.list.length = 0 := by have h' : (T.list.length : Int) = 0 := h; omega
    omega
theorem rroot_all : ∀ n, (rroot_c n).Ok Tryz.prog 79
  | 0 => fun o hp => absurd hp.2 (Nat.not_lt_zero _)
  | n + 1 => rroot_ok n (rtop_ok n (rroot_all n))
theorem rroot1000_ok : (rroot_c 1000).Ok Tryz.prog 79 := rroot_all 1000
end Go.Proofs.YtdflndjlnkoliaaGreatDoor

namespace Go.Proofs.YtdflndjlnkoliaaGreatDoor
set_option linter.all false
open Go.RowKit
theorem kvs_step (es : List (List Nws)) (i : Nat) (h : i < es.length) : kvs (es.take (i + 1)) = kvs (es.take i) ++ es[i].map kvN := by
  rw [List.take_succ_eq_append_getElem h, kvs_snoc]
def rpairs19_c : Ctr where
  D := H256 × List (List Nws) × Nat
  pre := fun (_, es, _) => RdOk es
  args := fun (s, es, e) => [rSt s es, .int .i64 (e : Int)]
  res := fun (_, es, e) _ => .fs 64 eKV (allL (kvs (es.take e)))
def rpairs19_H : Cfg := ⟨[(52, rkey14_c), (81, rcommit_c), (95, rput_c)], [(9, [2, 5, 7], [3, 8, 9], (.one 0 0 false (.one 1 0 false (.one 2 1 false (.one 4 0 false (.one 5 1 false (.one 6 0 false (.one 7 1 false (.one 3 2 true (.one 8 2 false (.one 9 2 false (.one 10 0 false .nil))))))))))), [])], [], [], 56, 0, [], [], []⟩
theorem rpairs19_ok : rpairs19_c.Ok Tryz.prog 51 := by
  refine fn_ok rpairs19_H 0 rfl _ Tryz.func51 rfl rfl ⟨rkey14_ok, rcommit_ok, rput_ok, trivial⟩ rfl rfl (by kernel_rfl) (fun _ => Nat.le_of_ble_eq_true rfl) ?_
  rintro ⟨s, es, e⟩ hp hr
  try dsimp only [rpairs19_c] at hp
  try simp only [rpairs19_c, Rng, RngL, inR, and_true, true_and] at hr
  have hp : RdOk es := hp
  have hkl : ∀ i, (kvs (es.take i)).length ≤ 3000 := fun i => by
    have h2 := flat_few (es.take i) 100 fun n hn => hp.few n (List.mem_of_mem_take hn)
    have h3 : (es.take i).length ≤ es.length := by simp; omega
    have := hp.len
    show ((es.take i).flatten.map kvN).length ≤ 3000
    rw [List.length_map]; omega
  repeat' (first | (with_reducible refine Unf.h ?_) | fail); all_goals try (conv => whnf); all_goals try (exfalso; omega)
  refine LoopS.autoN (I := Nat) (fun i => i ≤ es.length ∧ i ≤ e) (fun i => [(6, .int .i64 (i : Int)), (5, .fs 64 eKV (allL (kvs (es.take i))))]) (fun _ => []) 0 (fun i => es.length - i) 0 ⟨Nat.zero_le _, Nat.zero_le _⟩ ?_ ?_
  · have e0 : allL (kvs (es.take 0)) = [] := rfl
    repeat' (first | (with_reducible refine Unf.h ?_) | ((conv => whnf); first | (refine Side.mk ?_ ?_; focus (first | with_reducible rfl | assumption | (refine congrArg (SV.int _) ?_; omega))) | (with_reducible refine Unf.h ?_) | exact True.intro) | fail); all_goals try (conv => whnf); all_goals try (exfalso; omega)
  · rintro i ⟨hi, hie⟩
    have hi : i ≤ es.length := hi
    have hie : i ≤ e := hie
    have hkli := hkl i
    by_cases hil : i < es.length ∧ i < e
    · obtain ⟨hil, hil2⟩ := hil
      have hnm : (es[((i : Nat) : Int).toNat]'hil) ∈ es := List.getElem_mem _
      have hnl := hp.few (es[((i : Nat) : Int).toNat]'hil) hnm
      have es1 : kvs (es.take (i + 1)) = kvs (es.take i) ++ (es[((i : Nat) : Int).toNat]'hil).map kvN := kvs_step es i hil
      repeat' (first | (with_reducible refine Unf.h ?_) | ((conv => whnf); refine Fork.mk (fun h => ?_) (fun h => ?_)) | fail); all_goals try (conv => whnf); all_goals try (exfalso; omega)
      refine LoopS.autoN (I := Nat) (fun k => k ≤ (es[((i : Nat) : Int).toNat]'hil).length) (fun k => [(7, .int .i64 (k : Int)), (5, .fs 64 eKV (allL (kvs (es.take i) ++ ((es[((i : Nat) : Int).toNat]'hil).take k).map kvN)))]) (fun _ => []) 0 (fun k => (es[((i : Nat) : Int).toNat]'hil).length - k) 0 (Nat.zero_le _) ?_ ?_
      · have e0 : allL (kvs (es.take i) ++ ((es[((i : Nat) : Int).toNat]'hil).take 0).map kvN) = allL (kvs (es.take i)) := by simp
        repeat' (first | (with_reducible refine Unf.h ?_) | ((conv => whnf); first | (refine Side.mk ?_ ?_; focus (first | with_reducible rfl | (refine congrArg (SV.int _) ?_; omega) | (simp only [*, e0]; done))) | (with_reducible refine Unf.h ?_) | exact True.intro) | fail); all_goals try (conv => whnf); all_goals try (exfalso; omega)
      · intro k hk
        have hk : k ≤ (es[((i : Nat) : Int).toNat]'hil).length := hk
        by_cases hkl2 : k < (es[((i : Nat) : Int).toNat]'hil).length
        · obtain ⟨hpl, hpv⟩ := hp.lab (es[((i : Nat) : Int).toNat]'hil) hnm ((es[((i : Nat) : Int).toNat]'hil)[((k : Nat) : Int).toNat]'hkl2) (List.getElem_mem _)
          have ek : allL (kvs (es.take i) ++ ((es[((i : Nat) : Int).toNat]'hil).take (k + 1)).map kvN) = putL (keyL ((es[((i : Nat) : Int).toNat]'hil)[((k : Nat) : Int).toNat]'hkl2).1) (cmL ((es[((i : Nat) : Int).toNat]'hil)[((k : Nat) : Int).toNat]'hkl2).1 ((es[((i : Nat) : Int).toNat]'hil)[((k : Nat) : Int).toNat]'hkl2).2) (allL (kvs (es.take i) ++ ((es[((i : Nat) : Int).toNat]'hil).take k).map kvN)) := by
            rw [List.take_succ_eq_append_getElem hkl2, List.map_append, ← List.append_assoc]
            exact allL_snoc _ _
          have hll := allL_len _ (kvs (es.take i) ++ ((es[((i : Nat) : Int).toNat]'hil).take k).map kvN) rfl
          have hlk : (kvs (es.take i) ++ ((es[((i : Nat) : Int).toNat]'hil).take k).map kvN).length ≤ 4000 := by rw [List.length_append, List.length_map, List.length_take]; omega
          have h1 : rkey14_c.pre ((es[((i : Nat) : Int).toNat]'hil)[((k : Nat) : Int).toNat]'hkl2).1 := by show ((es[((i : Nat) : Int).toNat]'hil)[((k : Nat) : Int).toNat]'hkl2).1.length ≤ 1000000; omega
          have h2 : rcommit_c.pre (((es[((i : Nat) : Int).toNat]'hil)[((k : Nat) : Int).toNat]'hkl2).1, ((es[((i : Nat) : Int).toNat]'hil)[((k : Nat) : Int).toNat]'hkl2).2) := ⟨by show ((es[((i : Nat) : Int).toNat]'hil)[((k : Nat) : Int).toNat]'hkl2).1.length ≤ 1000000; omega, by show ((es[((i : Nat) : Int).toNat]'hil)[((k : Nat) : Int).toNat]'hkl2).2.val.length ≤ 1000000; omega⟩
          have h3 : rput_c.pre (allL (kvs (es.take i) ++ ((es[((i : Nat) : Int).toNat]'hil).take k).map kvN), keyL ((es[((i : Nat) : Int).toNat]'hil)[((k : Nat) : Int).toNat]'hkl2).1, cmL ((es[((i : Nat) : Int).toNat]'hil)[((k : Nat) : Int).toNat]'hkl2).1 ((es[((i : Nat) : Int).toNat]'hil)[((k : Nat) : Int).toNat]'hkl2).2) := by show (allL _).length ≤ 1000000; omega
          repeat' (first | (with_reducible refine Unf.h ?_) | ((conv => whnf); first | refine Fork.mk (fun h => ?_) (fun h => ?_) | (refine Idx.mk ?_ ?_; focus (omega))) | fail); all_goals try (conv => whnf); all_goals try (exfalso; omega)
          refine CallS.mk (c := rkey14_c) (((es[((i : Nat) : Int).toNat]'hil)[((k : Nat) : Int).toNat]'hkl2).1) ?_
          repeat' (first | (with_reducible refine Unf.h ?_) | ((conv => whnf); first | (refine Side.mk ?_ ?_; focus (first | with_reducible rfl | assumption)) | refine Got.mk (fun _ _ => ?_)) | fail); all_goals try (conv => whnf); all_goals try (exfalso; omega)
          refine CallS.mk (c := rcommit_c) ((((es[((i : Nat) : Int).toNat]'hil)[((k : Nat) : Int).toNat]'hkl2).1, ((es[((i : Nat) : Int).toNat]'hil)[((k : Nat) : Int).toNat]'hkl2).2)) ?_
          repeat' (first | (with_reducible refine Unf.h ?_) | ((conv => whnf); first | (refine Side.mk ?_ ?_; focus (first | with_reducible rfl | assumption)) | refine Got.mk (fun _ _ => ?_)) | fail); all_goals try (conv => whnf); all_goals try (exfalso; omega)
          refine CallS.mk (c := rput_c) ((allL (kvs (es.take i) ++ ((es[((i : Nat) : Int).toNat]'hil).take k).map kvN), keyL ((es[((i : Nat) : Int).toNat]'hil)[((k : Nat) : Int).toNat]'hkl2).1, cmL ((es[((i : Nat) : Int).toNat]'hil)[((k : Nat) : Int).toNat]'hkl2).1 ((es[((i : Nat) : Int).toNat]'hil)[((k : Nat) : Int).toNat]'hkl2).2)) ?_
          repeat' (first | (with_reducible first | refine Unf.h ?_ | refine loopK_n ?_) | ((conv => whnf); first | (refine Side.mk ?_ ?_; focus (first | with_reducible rfl | assumption | (intros; (try simp only [lenS, inR, cutS, loI, hiI] at *); omega))) | refine Got.mk (fun _ _ => ?_)) | fail); all_goals try (conv => whnf); all_goals try (exfalso; omega)
          refine ⟨k + 1, ⟨by omega, by omega⟩, ?_⟩
          rw [ek]
          repeat' (first | (with_reducible refine Unf.h ?_) | ((conv => whnf); first | (refine Side.mk ?_ ?_; focus (first | with_reducible rfl | (refine congrArg (SV.int _) ?_; omega))) | (with_reducible refine Unf.h ?_) | exact True.intro) | fail); all_goals try (conv => whnf); all_goals try (exfalso; omega)
        · have e0 : (es[((i : Nat) : Int).toNat]'hil).take k = (es[((i : Nat) : Int).toNat]'hil) := List.take_of_length_le (by omega)
          rw [e0, ← es1]
          repeat' (first | (with_reducible first | refine Unf.h ?_ | refine loopK_n ?_) | ((conv => whnf); first | refine Fork.mk (fun h => ?_) (fun h => ?_) | (refine Side.mk ?_ ?_; focus ((intros; (try simp only [lenS, inR, cutS, loI, hiI] at *); omega))) | (refine Idx.mk ?_ ?_; focus (omega))) | fail); all_goals try (conv => whnf); all_goals try (exfalso; omega)
          refine ⟨i + 1, ⟨by omega, by omega, by omega⟩, ?_⟩
          repeat' (first | (with_reducible refine Unf.h ?_) | ((conv => whnf); first | (refine Side.mk ?_ ?_; focus (first | with_reducible rfl | (refine congrArg (SV.int _) ?_; omega))) | (with_reducible refine Unf.h ?_) | exact True.intro) | fail); all_goals try (conv => whnf); all_goals try (exfalso; omega)
    · have e1 : es.take e = es.take i := by
        rcases Nat.lt_or_ge i e with h' | h'
        · rw [List.take_of_length_le (by omega), List.take_of_length_le (by omega)]
        · rw [show e = i by omega]
      repeat' (first | (with_reducible refine Unf.h ?_) | ((conv => whnf); first | refine Fork.mk (fun h => ?_) (fun h => ?_) | (refine Side.mk ?_ ?_; focus ((simp only [*, e1]; done))) | refine RetE.mk () trivial ?_ | refine retK_r ?_ | exact rfl) | fail); all_goals try (conv => whnf); all_goals try (exfalso; omega)
def rootD (es : List (List Nws)) (e : Nat) : H256 := hashO (treesF (kvs (es.take e)))
def rtree19_c : Ctr where
  D := H256 × List (List Nws) × Nat
  pre := fun (_, es, _) => RdOk es ∧ ∀ i, (kvs (es.take i)).length ≤ 900
  args := fun (s, es, e) => [rSt s es, .int .i64 (e : Int)]
  res := fun (_, es, e) _ => .agg [.arr8 (rootD es e)]
def rtree19_H : Cfg := ⟨[(51, rpairs19_c), (79, (rroot_c 1000))], [], [], [], 9, 0, [], [], []⟩
theorem rtree19_ok : rtree19_c.Ok Tryz.prog 35 := by
  refine fn_ok rtree19_H 0 rfl _ Tryz.func35 rfl rfl ⟨rpairs19_ok, rroot1000_ok, trivial⟩ rfl rfl (by kernel_rfl) (fun _ => Nat.le_of_ble_eq_true rfl) ?_
  rintro ⟨s, es, e⟩ hp hr
  try dsimp only [rtree19_c] at hp
  try simp only [rtree19_c, Rng, RngL, inR, and_true, true_and] at hr
  obtain ⟨hp1, hp2⟩ := hp
  have hpp : rpairs19_c.pre (s, es, e) := hp1
  have hat := all_trees (kvs (es.take e))
  have hd := (builtOk (kvs (es.take e))).depth
  have hw := built_wf (kvs (es.take e))
  have hkl := hp2 e
  have hpr : (rroot_c 1000).pre (treesF (kvs (es.take e))) := ⟨hw, by omega⟩
  repeat' (first | (with_reducible refine Unf.h ?_) | fail); all_goals try (conv => whnf); all_goals try (exfalso; omega)
  refine CallS.mk (c := rpairs19_c) ((s, es, e)) ?_
  repeat' (first | (with_reducible refine Unf.h ?_) | ((conv => whnf); first | (refine Side.mk ?_ ?_; focus (first | with_reducible rfl | assumption)) | refine Got.mk (fun _ _ => ?_)) | fail); all_goals try (conv => whnf); all_goals try (exfalso; omega)
  rw [hat]
  refine CallS.mk (c := rroot_c 1000) (treesF (kvs (es.take e))) ?_
  repeat' (first | (with_reducible refine Unf.h ?_) | ((conv => whnf); first | (refine Side.mk ?_ ?_; focus (first | with_reducible rfl | assumption | (simp only [*, rootD]; done))) | refine RetE.mk () trivial ?_ | refine Got.mk (fun _ _ => ?_) | refine retK_r ?_ | exact rfl) | fail); all_goals try (conv => whnf); all_goals try (exfalso; omega)
def entsD (es : List (List Nws)) (n : Nat) : List H256 := (List.range n).map fun i : Nat => entH ((i : Int) + 1) (rootD es (i + 1))
theorem entsD_succ (es : List (List Nws)) (n : Nat) : entsD es (n + 1) = entsD es n ++ [entH ((n : Int) + 1) (rootD es (n + 1))] := by unfold entsD; rw [List.range_succ, List.map_append]; rfl
theorem entsD_len (es : List (List Nws)) (n : Nat) : (entsD es n).length = n := by simp [entsD]
def rents_c : Ctr where
  D := H256 × List (List Nws) × Nat
  pre := fun (_, es, n) => (RdOk es ∧ ∀ i, (kvs (es.take i)).length ≤ 900) ∧ n ≤ 1000
  args := fun (s, es, n) => [rSt s es, .int .i64 (n : Int)]
  res := fun (_, es, n) _ => .fs 32 (fun v : H256 => [.arr8 v]) (entsD es n)
def rents_H : Cfg := ⟨[(35, rtree19_c), (34, rentry17_c)], [], [], [], 21, 0, [], [], []⟩
theorem rents_ok : rents_c.Ok Tryz.prog 12 := by
  refine fn_ok rents_H 0 rfl _ Tryz.func12 rfl rfl ⟨rtree19_ok, rentry17_ok, trivial⟩ rfl rfl (by kernel_rfl) (fun _ => Nat.le_of_ble_eq_true rfl) ?_
  rintro ⟨s, es, n⟩ hp hr
  try dsimp only [rents_c] at hp
  try simp only [rents_c, Rng, RngL, inR, and_true, true_and] at hr
  obtain ⟨hp1, hp2⟩ := hp
  have hp2 : n ≤ 1000 := hp2
  repeat' (first | (with_reducible refine Unf.h ?_) | fail); all_goals try (conv => whnf); all_goals try (exfalso; omega)
  refine LoopS.autoN (I := Nat) (fun i => i ≤ n) (fun i => [(6, .int .i64 ((i : Int) + 1)), (5, .own 0)]) (fun i => [(0, .row 30 32 (fun v : H256 => [.arr8 v]) (entsD es i))]) 1 (fun i => n - i) 0 (Nat.zero_le _) ?_ ?_
  · have e0 : entsD es 0 = [] := rfl
    repeat' (first | (with_reducible refine Unf.h ?_) | ((conv => whnf); first | (refine Side.mk ?_ ?_; focus (first | with_reducible rfl | assumption | (refine congrArg (SV.int _) ?_; omega))) | (with_reducible refine Unf.h ?_) | exact True.intro) | fail); all_goals try (conv => whnf); all_goals try (exfalso; omega)
  · intro i hi
    have hi : i ≤ n := hi
    have hel := entsD_len es i
    rcases Nat.lt_or_ge i n with hin | hin
    · have hpt : rtree19_c.pre (s, es, i + 1) := hp1
      have es1 := entsD_succ es i
      repeat' (first | (with_reducible refine Unf.h ?_) | ((conv => whnf); refine Fork.mk (fun h => ?_) (fun h => ?_)) | fail); all_goals try (conv => whnf); all_goals try (exfalso; omega)
      refine CallS.mk (c := rtree19_c) ((s, es, i + 1)) ?_
      repeat' (first | (with_reducible refine Unf.h ?_) | ((conv => whnf); first | (refine Side.mk ?_ ?_; focus (first | with_reducible rfl | assumption | (refine congrArg (SV.int _) ?_; omega))) | refine Got.mk (fun _ _ => ?_)) | fail); all_goals try (conv => whnf); all_goals try (exfalso; omega)
      refine CallS.mk (c := rentry17_c) (((i : Int) + 1, rootD es (i + 1))) ?_
      repeat' (first | (with_reducible first | refine Unf.h ?_ | refine loopK_n ?_) | ((conv => whnf); first | (refine Side.mk ?_ ?_; focus (first | with_reducible rfl | exact True.intro | (intros; (try simp only [lenS, inR, cutS, loI, hiI] at *); omega))) | refine Got.mk (fun _ _ => ?_) | refine Ex.mk [_] rfl ?_) | fail); all_goals try (conv => whnf); all_goals try (exfalso; omega)
      refine ⟨i + 1, ⟨by omega, by omega⟩, ?_⟩
      rw [es1]
      repeat' (first | (with_reducible refine Unf.h ?_) | ((conv => whnf); first | (refine Side.mk ?_ ?_; focus (first | with_reducible rfl | (refine congrArg (SV.int _) ?_; omega))) | (with_reducible refine Unf.h ?_) | exact True.intro) | fail); all_goals try (conv => whnf); all_goals try (exfalso; omega)
    · obtain rfl : i = n := by omega
      repeat' (first | (with_reducible refine Unf.h ?_) | ((conv => whnf); first | refine Fork.mk (fun h => ?_) (fun h => ?_) | (refine Side.mk ?_ ?_; focus (with_reducible rfl)) | refine RetE.mk () trivial ?_ | refine retK_r ?_ | exact rfl) | fail); all_goals try (conv => whnf); all_goals try (exfalso; omega)
end Go.Proofs.YtdflndjlnkoliaaGreatDoor

namespace Go.Proofs.YtdflndjlnkoliaaGreatDoor
set_option linter.all false
open Go.RowKit
def growOk (ps : Ppl) (e : Int) (n : List Nws) : Prop := (n.map Prod.fst).Nodup ∧ ∀ p ∈ n, p.2.ep = e ∧ formedC cmL zeroH p.1 (chainP ps p.1 ++ [p.2])
instance (ps : Ppl) (e : Int) (n : List Nws) : Decidable (growOk ps e n) := inferInstanceAs (Decidable (_ ∧ _))
def chainsN (ps : Ppl) (n : List Nws) : List (List Ver) := n.map fun p => chainP ps p.1 ++ [p.2]
def grownR (ps : Ppl) (e : Int) (n : List Nws) : List Nws × List (List Ver) := if growOk ps e n then (n, chainsN ps n) else ([], [])
def seenL (n : List Nws) : List (Bs × Int) := n.foldl (fun m p => mput m p.1 ((mget m p.1).getD 0 + 1)) []
theorem seenL_snoc (n : List Nws) (p : Nws) : seenL (n ++ [p]) = mput (seenL n) p.1 ((mget (seenL n) p.1).getD 0 + 1) := by unfold seenL; rw [List.foldl_append]; rfl
theorem seenL_count (x : Bs) : ∀ (k : Nat) (n : List Nws), n.length = k → (mget (seenL n) x).getD 0 = ((n.map Prod.fst).count x : Nat)
  | 0, n, h => by obtain rfl := List.eq_nil_of_length_eq_zero h; rfl
  | k + 1, n, h => by
    have hne : n ≠ [] := fun e => by subst e; cases h
    obtain ⟨qs, p, rfl⟩ : ∃ qs p, n = qs ++ [p] := ⟨n.dropLast, n.getLast hne, (List.dropLast_concat_getLast hne).symm⟩
    have ih := fun y => seenL_count y k qs (by simpa using h)
    rw [seenL_snoc, mget_put, List.map_append, List.count_append]
    by_cases hx : p.1 = x
    · subst hx
      rw [if_pos rfl]
      simp only [Option.getD_some, ih, List.map_cons, List.map_nil, List.count_singleton_self]
      omega
    · rw [if_neg hx, ih x]
      simp [hx]
theorem seenL_len (n : List Nws) : (seenL n).length ≤ n.length := by
  have key : ∀ (k : Nat) (n : List Nws), n.length = k → (seenL n).length ≤ k := by
    intro k
    induction k with
    | zero => intro n h; obtain rfl := List.eq_nil_of_length_eq_zero h; exact Nat.le_refl _
    | succ k ih =>
      intro n h
      have hne : n ≠ [] := fun e => by subst e; cases h
      obtain ⟨qs, p, rfl⟩ : ∃ qs p, n = qs ++ [p] := ⟨n.dropLast, n.getLast hne, (List.dropLast_concat_getLast hne).symm⟩
      rw [seenL_snoc]
      have := ih qs (by simpa using h)
      have := mput_len (l := seenL qs) (a := p.1) (b := (mget (seenL qs) p.1).getD 0 + 1)
      omega
  exact key _ n rfl
theorem growOk_snoc {ps : Ppl} {e : Int} {n : List Nws} {p : Nws} : growOk ps e (n ++ [p]) ↔ growOk ps e n ∧ ((n ++ [p]).map Prod.fst).count p.1 ≤ 1 ∧ p.2.ep = e ∧ formedC cmL zeroH p.1 (chainP ps p.1 ++ [p.2]) := by
  unfold growOk
  rw [List.map_append, List.nodup_append, List.count_append]
  have e1 : ([p].map Prod.fst).count p.1 = 1 := by simp
  rw [e1]
  constructor
  · rintro ⟨⟨h1, h2, h3⟩, h4⟩
    refine ⟨⟨h1, fun q hq => h4 q (by simp [hq])⟩, ?_, h4 p (by simp)⟩
    have : (n.map Prod.fst).count p.1 = 0 := List.count_eq_zero.2 fun hm => h3 _ hm _ (by simp) rfl
    omega
  · rintro ⟨⟨h1, h2⟩, h3, h4⟩
    refine ⟨⟨h1, by simp, fun a ha b hb e => ?_⟩, fun q hq => ?_⟩
    · have hb : b = p.1 := by simpa using hb
      subst hb; subst e
      have := List.count_pos_iff.2 ha
      omega
    · rcases List.mem_append.1 hq with hq | hq
      · exact h2 q hq
      · obtain rfl := List.mem_singleton.1 hq; exact h4
theorem growOk_take {ps : Ppl} {e : Int} {n : List Nws} (h : growOk ps e n) (i : Nat) : growOk ps e (n.take i) :=
  ⟨(List.map_take (f := Prod.fst) (l := n) ▸ (List.take_sublist i _).nodup h.1 : ((n.take i).map Prod.fst).Nodup), fun p hp => h.2 p (List.mem_of_mem_take hp)⟩
def egrow_c : Ctr where
  D := Dir × Int × List Nws
  pre := fun ((_, _, _, ps), _, n) => n.length ≤ 1000 ∧ (∀ p ∈ n, p.1.length ≤ 100000) ∧ ∀ x, (chainP ps x).length ≤ 1000
  args := fun (_, e, n) => [.ptr 0 0, .int .i64 e, .fs 68 eNw n]
  objs := fun ((s, l, ss, ps), _) => stG s l ss ps
  nn := 6
  res := fun ((_, _, _, ps), e, n) _ => .tup [.agg [.fs 68 eNw (grownR ps e n).1, .fs 1 eCh (grownR ps e n).2], .dec (growOk ps e n) inferInstance]
  out := fun ((s, l, ss, ps), _) _ => stG s l ss ps
def egrow_H : Cfg := ⟨[(42, chOf_c), (72, cloneV_c), (85, cformed_c)], [(7, [], [2, 3, 4, 6, 7, 8], (.one 0 0 false (.one 1 0 false (.one 5 0 false (.alt 2 false (.alt 3 false (.alt 4 false (.one 6 2 false (.one 7 2 false (.one 8 2 false (.one 9 0 false .nil)))) (.one 6 2 false (.alt 4 false (.one 7 2 false (.one 8 2 false (.one 9 0 false .nil))) (.one 7 2 false (.one 4 2 false (.one 8 2 false (.one 9 0 false .nil))))))) (.one 6 2 false (.alt 3 false (.alt 4 false (.one 7 2 false (.one 8 2 false (.one 9 0 false .nil))) (.one 7 2 false (.one 4 2 false (.one 8 2 false (.one 9 0 false .nil))))) (.one 7 2 false (.one 3 2 false (.one 4 2 false (.one 8 2 false (.one 9 0 false .nil)))))))) (.one 6 2 false (.alt 2 false (.alt 3 false (.alt 4 false (.one 7 2 false (.one 8 2 false (.one 9 0 false .nil))) (.one 7 2 false (.one 4 2 false (.one 8 2 false (.one 9 0 false .nil))))) (.one 7 2 false (.one 3 2 false (.one 4 2 false (.one 8 2 false (.one 9 0 false .nil)))))) (.one 7 2 false (.one 2 2 false (.one 3 2 false (.one 4 2 false (.one 8 2 false (.one 9 0 false .nil)))))))))))), [1000000])], [], [], 66, 6, [], [6, 7], []⟩
set_option maxHeartbeats 2000000 in
theorem egrow_ok : egrow_c.Ok Tryz.prog 43 := by
  refine fn_ok egrow_H 6 rfl _ Tryz.func43 rfl rfl ⟨chOf_ok, cloneV_ok, cformed_ok, trivial⟩ rfl rfl (by kernel_rfl) (fun _ => Nat.le_of_ble_eq_true rfl) ?_
  rintro ⟨⟨s, l, ss, ps⟩, e, n⟩ hp hr
  try dsimp only [egrow_c] at hp
  try simp only [egrow_c, Rng, RngL, inR, and_true, true_and] at hr
  obtain ⟨hp1, hp2, hp3⟩ := hp
  have hp1 : n.length ≤ 1000 := hp1
  have hk := mkeyS
  have hz := zeroI
  repeat' (first | (with_reducible refine Unf.h ?_) | fail); all_goals try (conv => whnf); all_goals try (exfalso; omega)
  refine MkS.mk inferInstance eS eZ ?_
  repeat' (first | (with_reducible refine Unf.h ?_) | fail); all_goals try (conv => whnf); all_goals try (exfalso; omega)
  refine LoopS.mk (I := Nat) (fun i => i ≤ n.length ∧ growOk ps e (n.take i)) (fun i => [(18, .int .i64 (i : Int)), (17, .int .i64 (n.length : Int)), (16, .fs 68 eNw n), (9, .own 8), (8, .ptr 7 0), (6, .ptr 6 0), (0, .ptr 0 0), (1, .int .i64 e), (2, .fs 68 eNw n)]) (fun i => stG s l ss ps ++ [(6, .box 120 [.nils, .nils]), (7, .box 120 [.fs 68 eNw n, .own 9]), (8, .mp 9 3 inferInstance eS eZ (seenL (n.take i))), (9, .row 61 1 eCh (chainsN ps (n.take i)))]) 10 (fun i => n.length - i) 0 ⟨Nat.zero_le _, by constructor <;> simp⟩ ?_ ?_
  · have e0 : seenL (n.take 0) = [] := rfl
    have e1 : chainsN ps (n.take 0) = [] := rfl
    repeat' (first | (with_reducible refine Unf.h ?_) | ((conv => whnf); first | (refine Side.mk ?_ ?_; focus (first | with_reducible rfl | assumption | (refine congrArg (SV.int _) ?_; omega) | (simp only [*, e0, e1]; done))) | (with_reducible refine Unf.h ?_) | exact True.intro) | fail); all_goals try (conv => whnf); all_goals try (exfalso; omega)
  · rintro i ⟨hi, hg⟩
    by_cases hil : i < n.length
    · obtain ⟨p, hpi⟩ : ∃ p, n[((i : Nat) : Int).toNat]'hil = p := ⟨_, rfl⟩
      have hpi2 : n[i]'hil = p := hpi
      have ets : n.take (i + 1) = n.take i ++ [p] := by rw [List.take_succ_eq_append_getElem hil, hpi2]
      have hsl := seenL_len (n.take i)
      have hsl2 : (n.take i).length ≤ n.length := by simp; omega
      have hct := seenL_count p.1 _ (n.take i) rfl
      have hct2 := List.count_le_length (a := p.1) (l := (n.take i).map Prod.fst)
      rw [List.length_map] at hct2
      obtain ⟨c, hc⟩ : ∃ c, c = (mget (seenL (n.take i)) p.1).getD 0 := ⟨_, rfl⟩
      rw [← hc] at hct
      have es : mput (seenL (n.take i)) p.1 (c + 1) = seenL (n.take (i + 1)) := by rw [ets, seenL_snoc, ← hc]
      repeat' (first | (with_reducible refine Unf.h ?_) | ((conv => whnf); first | refine Fork.mk (fun h => ?_) (fun h => ?_) | (refine Idx.mk ?_ ?_; focus (omega))) | fail); all_goals try (conv => whnf); all_goals try (exfalso; omega)
      refine CutS.mk (I := Unit) (fun _ => True) (fun _ => [(11, .ptr 10 0), (18, .int .i64 (i : Int)), (17, .int .i64 (n.length : Int)), (16, .fs 68 eNw n), (9, .own 8), (8, .ptr 7 0), (6, .ptr 6 0), (0, .ptr 0 0), (1, .int .i64 e), (2, .fs 68 eNw n)]) (fun _ => stG s l ss ps ++ [(6, .box 120 [.nils, .nils]), (7, .box 120 [.fs 68 eNw n, .own 9]), (8, .mp 9 3 inferInstance eS eZ (seenL (n.take (i + 1)))), (9, .row 61 1 eCh (chainsN ps (n.take i))), (10, .box 117 (eNw p))]) 11 ?_ ?_
      · repeat' (first | (with_reducible refine Unf.h ?_) | ((conv => whnf); refine Ex.mk _ rfl ?_) | fail); all_goals try (conv => whnf); all_goals try (exfalso; omega)
        rw [hpi]
        refine LookS.mk p.1 rfl hk _ hz ⟨rfl, fun _ => rfl⟩ (fun b hb => ?_) (fun hb => ?_)
        · obtain rfl : b = c := by rw [hc, hb]; rfl
          repeat' (first | (with_reducible refine Unf.h ?_) | ((conv => whnf); first | (refine Side.mk ?_ ?_; focus ((intros; (try simp only [lenS, inR, cutS, loI, hiI] at *); omega))) | (with_reducible refine Unf.h ?_)) | fail); all_goals try (conv => whnf); all_goals try (exfalso; omega)
          refine UpdS.mk p.1 rfl (b + 1) rfl hk (by omega) ?_
          rw [es]
          repeat' (first | (with_reducible refine cutK_n ?_) | ((conv => whnf); (with_reducible refine Unf.h ?_)) | fail); all_goals try (conv => whnf); all_goals try (exfalso; omega)
          refine ⟨(), trivial, ?_⟩
          repeat' (first | (with_reducible refine Unf.h ?_) | ((conv => whnf); first | (refine Side.mk ?_ ?_; focus (with_reducible rfl)) | (with_reducible refine Unf.h ?_) | exact True.intro) | fail); all_goals try (conv => whnf); all_goals try (exfalso; omega)
        · obtain rfl : c = 0 := by rw [hc, hb]; rfl
          repeat' (first | (with_reducible refine Unf.h ?_) | ((conv => whnf); first | (refine Side.mk ?_ ?_; focus ((intros; (try simp only [lenS, inR, cutS, loI, hiI] at *); omega))) | (with_reducible refine Unf.h ?_)) | fail); all_goals try (conv => whnf); all_goals try (exfalso; omega)
          refine UpdS.mk p.1 rfl (0 + 1) rfl hk (by omega) ?_
          rw [es]
          repeat' (first | (with_reducible refine cutK_n ?_) | ((conv => whnf); (with_reducible refine Unf.h ?_)) | fail); all_goals try (conv => whnf); all_goals try (exfalso; omega)
          refine ⟨(), trivial, ?_⟩
          repeat' (first | (with_reducible refine Unf.h ?_) | ((conv => whnf); first | (refine Side.mk ?_ ?_; focus (with_reducible rfl)) | (with_reducible refine Unf.h ?_) | exact True.intro) | fail); all_goals try (conv => whnf); all_goals try (exfalso; omega)
      · intro _ _
        have hcho : chOf_c.pre (s, ps, p.1) := by
          have := hp2 p (hpi ▸ List.getElem_mem _)
          show p.1.length ≤ 1000000; omega
        have hchl := hp3 p.1
        have hclv : cloneV_c.pre (chainP ps p.1) := by show (chainP ps p.1).length ≤ 100000; omega
        repeat' (first | (with_reducible refine Unf.h ?_) | fail); all_goals try (conv => whnf); all_goals try (exfalso; omega)
        refine CutS.mk (I := Unit) (fun _ => True) (fun _ => [(12, .own 11), (11, .ptr 10 0), (18, .int .i64 (i : Int)), (17, .int .i64 (n.length : Int)), (16, .fs 68 eNw n), (9, .own 8), (8, .ptr 7 0), (6, .ptr 6 0), (0, .ptr 0 0), (1, .int .i64 e), (2, .fs 68 eNw n)]) (fun _ => stG s l ss ps ++ [(6, .box 120 [.nils, .nils]), (7, .box 120 [.fs 68 eNw n, .own 9]), (8, .mp 9 3 inferInstance eS eZ (seenL (n.take (i + 1)))), (9, .row 61 1 eCh (chainsN ps (n.take i))), (10, .box 117 (eNw p)), (11, .row 115 67 eVr (chainP ps p.1 ++ [p.2]))]) 12 ?_ ?_
        · repeat' (first | (with_reducible refine Unf.h ?_) | ((conv => whnf); first | refine Both.mk ?_ ?_ | refine Both.mk ?_ ?_) | fail); all_goals try (conv => whnf); all_goals try (exfalso; omega)
          all_goals
            refine CallS.mk (c := chOf_c) ((s, ps, p.1)) ?_
            repeat' (first | (with_reducible first | refine Unf.h ?_ | refine cutK_n ?_) | ((conv => whnf); first | refine Both.mk ?_ ?_ | refine Both.mk ?_ ?_ | (refine Side.mk ?_ ?_; focus (first | with_reducible rfl | assumption | (intros; (try simp only [lenS, inR, cutS, loI, hiI] at *); omega))) | refine Got.mk (fun _ _ => ?_) | refine Ex.mk [_] rfl ?_ | refine CallS.mk (c := cloneV_c) (chainP ps p.1) ?_) | fail); all_goals try (conv => whnf); all_goals try (exfalso; omega)
          all_goals
            refine ⟨(), trivial, ?_⟩
            repeat' (first | (with_reducible refine Unf.h ?_) | ((conv => whnf); first | (refine Side.mk ?_ ?_; focus (with_reducible rfl)) | (with_reducible refine Unf.h ?_) | exact True.intro) | fail); all_goals try (conv => whnf); all_goals try (exfalso; omega)
        · intro _ _
          have em : mget (seenL (n.take (i + 1))) p.1 = some (c + 1) := by rw [← es, mget_put, if_pos rfl]
          have hcnt : (((n.take i ++ [p]).map Prod.fst).count p.1 : Int) = c + 1 := by
            rw [List.map_append, List.count_append, hct]; simp
          have hcf : cformed_c.pre (p.1, chainP ps p.1 ++ [p.2]) := ⟨hcho, by show (chainP ps p.1 ++ [p.2]).length ≤ 100000; simp; omega⟩
          have hgs := growOk_snoc (ps := ps) (e := e) (n := n.take i) (p := p)
          rw [← ets] at hgs
          have hcl : (chainsN ps (n.take i)).length = (n.take i).length := by simp [chainsN]
          repeat' (first | (with_reducible refine Unf.h ?_) | ((conv => whnf); refine Ex.mk _ rfl ?_) | fail); all_goals try (conv => whnf); all_goals try (exfalso; omega)
          refine LookS.mk p.1 rfl hk _ hz ⟨rfl, fun _ => rfl⟩ (fun b hb => ?_) (fun hm => by rw [em] at hm; cases hm)
          obtain rfl : b = c + 1 := by rw [em] at hb; exact (Option.some.inj hb).symm
          by_cases hgp : growOk ps e (n.take (i + 1))
          · obtain ⟨_, k1, k2, k3⟩ := hgs.1 hgp
            rw [ets] at k1
            have ec : chainsN ps (n.take (i + 1)) = chainsN ps (n.take i) ++ [chainP ps p.1 ++ [p.2]] := by rw [ets]; simp [chainsN]
            repeat' (first | (with_reducible refine Unf.h ?_) | ((conv => whnf); first | refine Fork.mkn (fun h => ?_) (fun h => ?_) | refine Fork.mk (fun h => ?_) (fun h => ?_) | (with_reducible refine Unf.h ?_)) | fail); all_goals try (conv => whnf); all_goals try (exfalso; omega)
            refine CallS.mk (c := cformed_c) ((p.1, chainP ps p.1 ++ [p.2])) ?_
            repeat' (first | (with_reducible first | refine Unf.h ?_ | refine loopK_n ?_) | ((conv => whnf); first | refine Fork.mkn (fun h => ?_) (fun h => ?_) | (refine Side.mk ?_ ?_; focus (first | with_reducible rfl | assumption | (intros; (try simp only [lenS, inR, cutS, loI, hiI] at *); omega))) | refine RetE.mk () trivial ?_ | refine Got.mk (fun _ _ => ?_) | refine Ex.mk [_] rfl ?_ | refine retK_r ?_) | fail); all_goals try (conv => whnf); all_goals try (exfalso; omega)
            · exact absurd k3 (by assumption)
            refine ⟨i + 1, ⟨by omega, by omega, hgp⟩, ?_⟩
            repeat' (first | (with_reducible refine Unf.h ?_) | ((conv => whnf); first | (refine Side.mk ?_ ?_; focus (first | with_reducible rfl | (refine congrArg (SV.int _) ?_; omega))) | (with_reducible refine Unf.h ?_)) | fail); all_goals try (conv => whnf); all_goals try (exfalso; omega)
            refine Side.mk (congrArg (SO.row _ _ _) ec.symm) ?_
            repeat' (first | (with_reducible refine Unf.h ?_) | ((conv => whnf); exact True.intro) | fail); all_goals try (conv => whnf); all_goals try (exfalso; omega)
          · have hng : ¬ growOk ps e n := fun hF => hgp (growOk_take hF _)
            have hgr : grownR ps e n = ([], []) := if_neg hng
            repeat' (first | (with_reducible refine Unf.h ?_) | ((conv => whnf); first | refine Fork.mkn (fun h => ?_) (fun h => ?_) | refine Fork.mk (fun h => ?_) (fun h => ?_) | (refine Side.mk ?_ ?_; focus (first | with_reducible rfl | (simp only [*, hgr]; done) | (simp [*, hgr]; done))) | refine RetE.mk () trivial ?_ | (with_reducible refine Unf.h ?_) | refine retK_r ?_ | exact rfl) | fail); all_goals try (conv => whnf); all_goals try (exfalso; omega)
            all_goals try (exact absurd (by assumption) hng)
            refine CallS.mk (c := cformed_c) ((p.1, chainP ps p.1 ++ [p.2])) ?_
            repeat' (first | (with_reducible first | refine Unf.h ?_ | refine loopK_n ?_) | ((conv => whnf); first | refine Fork.mkn (fun h => ?_) (fun h => ?_) | (refine Side.mk ?_ ?_; focus (first | with_reducible rfl | assumption | (intros; (try simp only [lenS, inR, cutS, loI, hiI, hgr] at *); omega) | (simp only [*, hgr]; done) | (simp [*, hgr]; done))) | refine RetE.mk () trivial ?_ | refine Got.mk (fun _ _ => ?_) | refine Ex.mk [_] rfl ?_ | refine retK_r ?_ | exact rfl) | fail); all_goals try (conv => whnf); all_goals try (exfalso; omega)
            exact absurd (hgs.2 ⟨hg, by rw [ets]; omega, by assumption, by assumption⟩) hgp
    · have e0 : n.take i = n := List.take_of_length_le (by omega)
      rw [e0] at hg ⊢
      have e1 : grownR ps e n = (n, chainsN ps n) := if_pos hg
      repeat' (first | (with_reducible refine Unf.h ?_) | ((conv => whnf); first | refine Fork.mk (fun h => ?_) (fun h => ?_) | (refine Side.mk ?_ ?_; focus (first | with_reducible rfl | (refine ⟨fun h => ?_, fun h => ?_⟩ <;> first | rfl | (cases h; done) | omega | (exfalso; omega) | (simp only [Bool.false_eq_true] at h; done)) | (simp only [*, e1]; done))) | refine RetE.mk () trivial ?_ | refine retK_r ?_ | exact rfl) | fail); all_goals try (conv => whnf); all_goals try (exfalso; omega)
end Go.Proofs.YtdflndjlnkoliaaGreatDoor

namespace Go.Proofs.YtdflndjlnkoliaaGreatDoor
set_option linter.all false
open Go.RowKit
theorem lastT_slds (es : List (List Nws)) : lastTr (slds es) = (builtF (kvs es)).2 := by
  rcases Nat.eq_zero_or_pos es.length with h | h
  · obtain rfl := List.eq_nil_of_length_eq_zero h; rfl
  · have hne : es ≠ [] := List.length_pos_iff.1 h
    obtain ⟨qs, p, rfl⟩ : ∃ qs p, es = qs ++ [p] := ⟨es.dropLast, es.getLast hne, (List.dropLast_concat_getLast hne).symm⟩
    unfold lastTr
    rw [slds_snoc, dif_pos (by simp), List.getLast_concat]
def eplant_c : Ctr where
  D := H256 × List (List Nws) × List Nws
  pre := fun (_, es, n) => StOk es ∧ n.length ≤ 16 ∧ ∀ p ∈ n, p.1.length ≤ 1000000 ∧ p.2.val.length ≤ 1000000
  args := fun (_, _, n) => [.ptr 0 0, .fs 68 eNw n]
  objs := fun (s, es, _) => stG s (builtF (kvs es)).1 (slds es) (peo es)
  nn := 6
  res := fun (_, es, n) _ => .tup [.int .i64 (builtF (kvs (es ++ [n]))).2, .int .i64 0]
  out := fun (s, es, n) _ => [(0, .box 89 [.arr8 s, .ptr 1 0, .own 3, .own 4, .own 5]), (1, .box 100 [.own 6]), (6, .row 192 132 eNd (builtF (kvs (es ++ [n]))).1), (3, .row 143 67 eSl (slds es)), (4, .row 175 2 ePn (peo es)), (5, nmO (peo es))]
  mm := 1
def eplant_H : Cfg := ⟨[(66, etree_c), (61, ckey_c), (86, ccommit_c), (88, put_c)], [(5, [3, 6, 9, 11], [7, 12, 13], (.one 0 0 false (.one 1 0 false (.one 2 0 false (.one 3 1 false (.one 4 0 false (.one 5 0 false (.one 6 1 false (.one 8 0 false (.one 9 1 false (.one 10 0 false (.one 11 1 false (.one 7 2 true (.one 12 2 true (.one 13 2 false (.one 14 0 false (.one 15 0 false (.one 16 0 false (.one 17 0 false (.one 18 0 false .nil))))))))))))))))))), [])], [], [], 42, 6, [], [], []⟩
theorem eplant_ok : eplant_c.Ok Tryz.prog 45 := by
  refine fn_ok eplant_H 6 rfl _ Tryz.func45 rfl rfl ⟨etree_ok, ckey_ok, ccommit_ok, put_ok, trivial⟩ rfl rfl (by kernel_rfl) (fun _ => Nat.le_of_ble_eq_true rfl) ?_
  rintro ⟨s, es, n⟩ hp hr
  try dsimp only [eplant_c] at hp
  try simp only [eplant_c, Rng, RngL, inR, and_true, true_and] at hr
  obtain ⟨hst, hp1, hp2⟩ := hp
  have hp1 : n.length ≤ 16 := hp1
  have elt := lastT_slds es
  repeat' (first | (with_reducible refine Unf.h ?_) | fail); all_goals try (conv => whnf); all_goals try (exfalso; omega)
  refine CallS.mk (c := etree_c) ((s, (builtF (kvs es)).1, slds es, peo es)) ?_
  repeat' (first | (with_reducible refine Unf.h ?_) | ((conv => whnf); first | (refine Side.mk ?_ ?_; focus (first | with_reducible rfl | exact True.intro)) | refine Got.mk (fun _ _ => ?_)) | fail); all_goals try (conv => whnf); all_goals try (exfalso; omega)
  refine LoopS.mk (I := Nat) (fun i => i ≤ n.length) (fun i => [(15, .int .i64 (i : Int)), (14, .int .i64 (n.length : Int)), (13, .fs 68 eNw n), (6, .int .i64 (builtF (kvs es ++ (n.take i).map kvN)).2), (0, .ptr 0 0), (1, .fs 68 eNw n)]) (fun i => [(0, .box 89 [.arr8 s, .ptr 1 0, .own 3, .own 4, .own 5]), (1, .box 100 [.own 6]), (6, .row 192 132 eNd (builtF (kvs es ++ (n.take i).map kvN)).1), (3, .row 143 67 eSl (slds es)), (4, .row 175 2 ePn (peo es)), (5, nmO (peo es))]) 7 (fun i => n.length - i) 0 (Nat.zero_le _) ?_ ?_
  · have e0 : kvs es ++ (n.take 0).map kvN = kvs es := by simp
    repeat' (first | (with_reducible refine Unf.h ?_) | ((conv => whnf); first | (refine Side.mk ?_ ?_; focus (first | with_reducible rfl | (refine congrArg (SV.int _) ?_; omega) | (simp only [*, e0]; done))) | (with_reducible refine Unf.h ?_) | exact True.intro) | fail); all_goals try (conv => whnf); all_goals try (exfalso; omega)
  · intro i hi
    by_cases hil : i < n.length
    · obtain ⟨p, hpi⟩ : ∃ p, n[((i : Nat) : Int).toNat]'hil = p := ⟨_, rfl⟩
      have hpi2 : n[i]'hil = p := hpi
      have hpm : p ∈ n := hpi ▸ List.getElem_mem _
      obtain ⟨hpl, hpv⟩ := hp2 p hpm
      have ets : kvs es ++ (n.take (i + 1)).map kvN = (kvs es ++ (n.take i).map kvN) ++ [(keyL p.1, cmL p.1 p.2)] := by
        rw [List.take_succ_eq_append_getElem hil, hpi2, List.map_append, ← List.append_assoc]; rfl
      have eb := builtF_snoc (kvs es ++ (n.take i).map kvN) (keyL p.1, cmL p.1 p.2)
      rw [← ets] at eb
      have eb : builtF (kvs es ++ (n.take (i + 1)).map kvN) = putF (builtF (kvs es ++ (n.take i).map kvN)).1 (builtF (kvs es ++ (n.take i).map kvN)).2 (keyL p.1) (cmL p.1 p.2) := eb
      have hsz := hst.forest (m := 0) (qs := (n.take i).map kvN) (by simp; omega)
      have hbo := builtOk (kvs es ++ (n.take i).map kvN)
      have hit := treeAt_is hbo.tree
      have hpp : put_c.pre ((builtF (kvs es ++ (n.take i).map kvN)).1, (builtF (kvs es ++ (n.take i).map kvN)).2, keyL p.1, cmL p.1 p.2) := ⟨by omega, hbo.closed, hit⟩
      have hck : ckey_c.pre p.1 := hpl
      have hcm : ccommit_c.pre (p.1, p.2) := ⟨hpl, hpv⟩
      repeat' (first | (with_reducible refine Unf.h ?_) | ((conv => whnf); first | refine Fork.mk (fun h => ?_) (fun h => ?_) | (refine Idx.mk ?_ ?_; focus (omega))) | fail); all_goals try (conv => whnf); all_goals try (exfalso; omega)
      rw [hpi]
      refine CallS.mk (c := ckey_c) (p.1) ?_
      repeat' (first | (with_reducible refine Unf.h ?_) | ((conv => whnf); first | (refine Side.mk ?_ ?_; focus (first | with_reducible rfl | assumption)) | refine Got.mk (fun _ _ => ?_)) | fail); all_goals try (conv => whnf); all_goals try (exfalso; omega)
      refine CallS.mk (c := ccommit_c) ((p.1, p.2)) ?_
      repeat' (first | (with_reducible refine Unf.h ?_) | ((conv => whnf); first | (refine Side.mk ?_ ?_; focus (first | with_reducible rfl | assumption)) | refine Got.mk (fun _ _ => ?_)) | fail); all_goals try (conv => whnf); all_goals try (exfalso; omega)
      refine CallS.mk (c := put_c) (((builtF (kvs es ++ (n.take i).map kvN)).1, (builtF (kvs es ++ (n.take i).map kvN)).2, keyL p.1, cmL p.1 p.2)) ?_
      repeat' (first | (with_reducible first | refine Unf.h ?_ | refine loopK_n ?_) | ((conv => whnf); first | refine Fork.mkn (fun h => ?_) (fun h => ?_) | (refine Side.mk ?_ ?_; focus (first | with_reducible rfl | assumption | (intros; (try simp only [lenS, inR, cutS, loI, hiI] at *); omega))) | refine Got.mk (fun _ _ => ?_)) | fail); all_goals try (conv => whnf); all_goals try (exfalso; omega)
      refine ⟨i + 1, ⟨by omega, by omega⟩, ?_⟩
      rw [eb]
      repeat' (first | (with_reducible refine Unf.h ?_) | ((conv => whnf); first | (refine Side.mk ?_ ?_; focus (first | with_reducible rfl | (refine congrArg (SV.int _) ?_; omega))) | (with_reducible refine Unf.h ?_) | exact True.intro) | fail); all_goals try (conv => whnf); all_goals try (exfalso; omega)
    · have e0 : n.take i = n := List.take_of_length_le (by omega)
      rw [e0, ← kvs_snoc]
      repeat' (first | (with_reducible refine Unf.h ?_) | ((conv => whnf); first | refine Fork.mk (fun h => ?_) (fun h => ?_) | (refine Side.mk ?_ ?_; focus (with_reducible rfl)) | refine RetE.mk () trivial ?_ | refine retK_r ?_ | exact rfl) | fail); all_goals try (conv => whnf); all_goals try (exfalso; omega)
def ecopy_c : Ctr where
  D := List Nws
  pre := fun n => n.length ≤ 10000 ∧ ∀ p ∈ n, p.1.length ≤ 1000000 ∧ p.2.val.length ≤ 1000000
  args := fun n => [.fs 68 eNw n]
  res := fun n _ => .fs 68 eNw n
def ecopy_H : Cfg := ⟨[(84, cloneB_c)], [(5, [1, 5], [2, 6, 8, 11], (.one 0 0 false (.one 1 1 false (.one 3 0 false (.one 4 0 false (.one 5 1 false (.one 2 2 true (.one 7 0 false (.one 6 2 false (.one 8 2 false (.one 9 0 false (.one 10 0 false (.one 11 2 false .nil)))))))))))), [])], [], [], 28, 0, [], [], []⟩
theorem ecopy_ok : ecopy_c.Ok Tryz.prog 68 := by
  refine fn_ok ecopy_H 0 rfl _ Tryz.func68 rfl rfl ⟨cloneB_ok, trivial⟩ rfl rfl (by kernel_rfl) (fun _ => Nat.le_of_ble_eq_true rfl) ?_
  intro (n : List Nws) hp hr
  try dsimp only [ecopy_c] at hp
  try simp only [ecopy_c, Rng, RngL, inR, and_true, true_and] at hr
  obtain ⟨hp1, hp2⟩ := hp
  have hp1 : n.length ≤ 10000 := hp1
  repeat' (first | (with_reducible refine Unf.h ?_) | fail); all_goals try (conv => whnf); all_goals try (exfalso; omega)
  refine LoopS.autoN (I := Nat) (fun i => i ≤ n.length) (fun i => [(8, .int .i64 (i : Int)), (3, .own 0)]) (fun i => [(0, .row 117 68 eNw (n.take i))]) 1 (fun i => n.length - i) 0 (Nat.zero_le _) ?_ ?_
  · have e0 : n.take 0 = [] := rfl
    repeat' (first | (with_reducible refine Unf.h ?_) | ((conv => whnf); first | (refine Side.mk ?_ ?_; focus (first | with_reducible rfl | assumption | (refine congrArg (SV.int _) ?_; omega))) | (with_reducible refine Unf.h ?_) | exact True.intro) | fail); all_goals try (conv => whnf); all_goals try (exfalso; omega)
  · intro i hi
    by_cases hil : i < n.length
    · obtain ⟨p, hpi⟩ : ∃ p, n[((i : Nat) : Int).toNat]'hil = p := ⟨_, rfl⟩
      have hpi2 : n[i]'hil = p := hpi
      have hpm : p ∈ n := hpi ▸ List.getElem_mem _
      obtain ⟨hpl, hpv⟩ := hp2 p hpm
      have hc1 : cloneB_c.pre p.1 := hpl
      have hc2 : cloneB_c.pre p.2.val := hpv
      have ets : n.take (i + 1) = n.take i ++ [p] := by rw [List.take_succ_eq_append_getElem hil, hpi2]
      repeat' (first | (with_reducible refine Unf.h ?_) | ((conv => whnf); first | refine Fork.mk (fun h => ?_) (fun h => ?_) | (refine Idx.mk ?_ ?_; focus (omega))) | fail); all_goals try (conv => whnf); all_goals try (exfalso; omega)
      rw [hpi]
      refine CallS.mk (c := cloneB_c) (p.1) ?_
      repeat' (first | (with_reducible refine Unf.h ?_) | ((conv => whnf); first | (refine Side.mk ?_ ?_; focus (first | with_reducible rfl | assumption)) | refine Got.mk (fun _ _ => ?_)) | fail); all_goals try (conv => whnf); all_goals try (exfalso; omega)
      refine CallS.mk (c := cloneB_c) (p.2.val) ?_
      repeat' (first | (with_reducible first | refine Unf.h ?_ | refine loopK_n ?_) | ((conv => whnf); first | (refine Side.mk ?_ ?_; focus (first | with_reducible rfl | assumption | (intros; (try simp only [lenS, inR, cutS, loI, hiI] at *); omega))) | refine Got.mk (fun _ _ => ?_) | refine Ex.mk [_] rfl ?_) | fail); all_goals try (conv => whnf); all_goals try (exfalso; omega)
      refine ⟨i + 1, ⟨by omega, by omega⟩, ?_⟩
      repeat' (first | (with_reducible refine Unf.h ?_) | ((conv => whnf); first | (refine Side.mk ?_ ?_; focus (first | with_reducible rfl | (refine congrArg (SV.int _) ?_; omega) | (simp only [*, ets]; done))) | (with_reducible refine Unf.h ?_) | exact True.intro) | fail); all_goals try (conv => whnf); all_goals try (exfalso; omega)
    · have e0 : n.take i = n := List.take_of_length_le (by omega)
      repeat' (first | (with_reducible refine Unf.h ?_) | ((conv => whnf); first | refine Fork.mk (fun h => ?_) (fun h => ?_) | (refine Side.mk ?_ ?_; focus ((simp only [*, e0]; done))) | refine RetE.mk () trivial ?_ | refine retK_r ?_ | exact rfl) | fail); all_goals try (conv => whnf); all_goals try (exfalso; omega)
end Go.Proofs.YtdflndjlnkoliaaGreatDoor

namespace Go.Proofs.YtdflndjlnkoliaaGreatDoor
set_option linter.all false
open Go.RowKit
theorem setLb_last {x : Bs} {c : List Ver} {ps : Ppl} : (ps ++ [(x, ([] : List Ver))]).set ps.length (x, c) = ps ++ [(x, c)] := by
  rw [List.set_append_right _ _ (Nat.le_refl _), Nat.sub_self]; rfl
theorem flat_take_len {es : List (List Nws)} (h : StOk es) (n : List Nws) (hn : n.length ≤ 16) (hd : (n.map Prod.fst).Nodup) (i : Nat) : (setAll (peo es) ((n.take i).map (grownL (peo es)))).length ≤ 336 := by
  have h1 := setAll_len _ (peo es) ((n.take i).map (grownL (peo es))) rfl
  have h2 := h.people
  have h3 : ((n.take i).map (grownL (peo es))).length ≤ n.length := by simp; omega
  omega
def eclose_c : Ctr where
  D := H256 × List (List Nws) × List Nws
  pre := fun (_, es, n) => StOk es ∧ n.length ≤ 16 ∧ (n.map Prod.fst).Nodup ∧ ∀ p ∈ n, p.1.length ≤ 1000000 ∧ p.2.val.length ≤ 1000000
  args := fun (_, es, n) => [.ptr 0 0, .int .i64 (builtF (kvs (es ++ [n]))).2, .int .i64 ((builtF (kvs es)).1.length : Int), .agg [.fs 68 eNw n, .fs 1 eCh (chainsN (peo es) n)]]
  objs := fun (s, es, n) => stG s (builtF (kvs (es ++ [n]))).1 (slds es) (peo es)
  nn := 6
  res := fun _ _ => .tup []
  out := fun (s, es, n) _ => [(0, .box 89 [.arr8 s, .ptr 1 0, .own 6, .own 7, .own 5]), (1, .box 100 [.own 2]), (2, .row 192 132 eNd (builtF (kvs (es ++ [n]))).1), (6, .row 143 67 eSl (slds (es ++ [n]))), (7, .row 175 2 ePn (peo (es ++ [n]))), (5, nmO (peo (es ++ [n])))]
  mm := 2
def eclose_H : Cfg := ⟨[(89, root_c), (84, cloneB_c), (90, hentry_c), (68, ecopy_c)], [(5, [3, 5], [6, 7], (.one 0 0 false (.one 1 0 false (.one 2 0 false (.one 3 1 false (.one 4 0 false (.one 5 1 false (.one 6 2 true (.one 7 2 false (.one 8 0 false (.one 9 0 false (.one 10 0 false (.one 11 0 false (.one 12 0 false .nil))))))))))))), []), (8, [3, 5], [6, 8], (.one 0 0 false (.one 1 0 false (.one 2 0 false (.one 3 1 false (.one 4 0 false (.one 5 1 false (.one 7 0 false (.one 6 2 true (.one 8 2 false .nil))))))))), []), (9, [4, 6], [7, 9, 10, 13], (.one 0 0 false (.one 1 0 false (.one 2 0 false (.one 3 0 false (.one 4 1 false (.one 5 0 false (.one 6 1 false (.one 7 2 true (.one 8 0 false (.one 9 2 true (.one 10 2 false (.one 11 0 false (.one 12 0 false (.one 13 2 false .nil)))))))))))))), []), (10, [3, 6, 9], [12], (.one 0 0 false (.one 1 0 false (.one 2 0 false (.one 3 1 false (.one 4 0 false (.one 5 0 false (.one 6 1 false (.one 7 0 false (.one 8 0 false (.one 9 1 false (.one 10 0 false (.one 11 0 false (.one 12 2 false .nil))))))))))))), []), (12, [1, 6, 9, 12], [10, 13, 15, 16], (.one 0 0 false (.one 1 1 false (.one 2 0 false (.one 3 0 false (.one 4 0 false (.one 5 0 false (.one 6 1 false (.one 7 0 false (.one 8 0 false (.one 9 1 false (.one 11 0 false (.one 12 1 false (.alt 10 true (.alt 13 true (.one 14 0 false (.one 15 2 true (.one 16 2 false .nil))) (.one 15 2 true (.one 13 2 true (.one 14 0 false (.one 16 2 false .nil))))) (.one 15 2 true (.one 10 2 true (.one 13 2 true (.one 14 0 false (.one 16 2 false .nil)))))))))))))))))), []), (13, [4, 5], [6, 7, 10], (.one 0 0 false (.one 1 0 false (.one 2 0 false (.one 3 0 false (.one 4 1 false (.one 5 1 false (.one 6 2 true (.one 7 2 false (.one 8 0 false (.one 9 0 false (.one 10 2 false .nil))))))))))), [])], [], [], 109, 6, [], [], [67]⟩
set_option maxHeartbeats 2000000 in
theorem eclose_ok : eclose_c.Ok Tryz.prog 46 := by
  refine fn_ok eclose_H 6 rfl _ Tryz.func46 rfl rfl ⟨root_ok, cloneB_ok, hentry_ok, ecopy_ok, trivial⟩ rfl rfl (by kernel_rfl) (fun _ => Nat.le_of_ble_eq_true rfl) ?_
  rintro ⟨s, es, n⟩ hp hr
  try dsimp only [eclose_c] at hp
  try simp only [eclose_c, Rng, RngL, inR, and_true, true_and] at hr
  obtain ⟨hst, hp1, hp2, hp3⟩ := hp
  have hp1 : n.length ≤ 16 := hp1
  have hk := mkeyS
  have hz := zeroI
  have hbo := builtOk (kvs (es ++ [n]))
  have hpr : root_c.pre ((builtF (kvs (es ++ [n]))).1, (builtF (kvs (es ++ [n]))).2) := treeAt_is hbo.tree
  have hcl : (chainsN (peo es) n).length = n.length := by simp [chainsN]
  repeat' (first | (with_reducible refine Unf.h ?_) | fail); all_goals try (conv => whnf); all_goals try (exfalso; omega)
  refine CallS.mk (c := root_c) (((builtF (kvs (es ++ [n]))).1, (builtF (kvs (es ++ [n]))).2)) ?_
  repeat' (first | (with_reducible refine Unf.h ?_) | ((conv => whnf); first | (refine Side.mk ?_ ?_; focus (first | with_reducible rfl | assumption)) | refine Got.mk (fun _ _ => ?_)) | fail); all_goals try (conv => whnf); all_goals try (exfalso; omega)
  refine LoopS.mk (I := Nat) (fun i => i ≤ n.length) (fun i => [(27, .int .i64 (i : Int)), (26, .int .i64 (n.length : Int)), (25, .fs 68 eNw n), (8, .ptr 7 0), (7, .ptr 6 0), (0, .ptr 0 0), (1, .int .i64 (builtF (kvs (es ++ [n]))).2), (2, .int .i64 ((builtF (kvs es)).1.length : Int))]) (fun i => [(0, .box 89 [.arr8 s, .ptr 1 0, .own 3, .own 8, .own 5]), (1, .box 100 [.own 2]), (2, .row 192 132 eNd (builtF (kvs (es ++ [n]))).1), (3, .row 143 67 eSl (slds es)), (8, .row 175 2 ePn (setAll (peo es) ((n.take i).map (grownL (peo es))))), (5, nmO (setAll (peo es) ((n.take i).map (grownL (peo es))))), (6, .box 120 [.fs 68 eNw n, .fs 1 eCh (chainsN (peo es) n)]), (7, .box 30 [.arr8 (rootF (builtF (kvs (es ++ [n]))).1 (builtF (kvs (es ++ [n]))).2)])]) 9 (fun i => n.length - i) 0 (Nat.zero_le _) ?_ ?_
  · have e0 : setAll (peo es) ((n.take 0).map (grownL (peo es))) = peo es := rfl
    repeat' (first | (with_reducible refine Unf.h ?_) | ((conv => whnf); first | (refine Side.mk ?_ ?_; focus (first | with_reducible rfl | (refine congrArg (SV.int _) ?_; omega) | (simp only [*, e0]; done))) | (with_reducible refine Unf.h ?_) | exact True.intro) | fail); all_goals try (conv => whnf); all_goals try (exfalso; omega)
  · intro i hi
    have hpl := flat_take_len hst n hp1 hp2 i
    by_cases hil : i < n.length
    · obtain ⟨p, hpi⟩ : ∃ p, n[((i : Nat) : Int).toNat]'hil = p := ⟨_, rfl⟩
      have hpi2 : n[i]'hil = p := hpi
      have hpm : p ∈ n := hpi ▸ List.getElem_mem _
      obtain ⟨hpl2, hpv⟩ := hp3 p hpm
      have hc1 : cloneB_c.pre p.1 := hpl2
      obtain ⟨c, hc⟩ : ∃ c, chainP (peo es) p.1 ++ [p.2] = c := ⟨_, rfl⟩
      have hci : (chainsN (peo es) n)[((i : Nat) : Int).toNat]'(by rw [hcl]; exact hil) = c := by
        simp only [chainsN, List.getElem_map]
        rw [← hc, hpi]
      have ets : (n.take (i + 1)).map (grownL (peo es)) = (n.take i).map (grownL (peo es)) ++ [(p.1, c)] := by
        rw [List.take_succ_eq_append_getElem hil, hpi2, List.map_append, ← hc]; rfl
      have esa : setAll (peo es) ((n.take (i + 1)).map (grownL (peo es))) = setLb (setAll (peo es) ((n.take i).map (grownL (peo es)))) p.1 c := by rw [ets, setAll_snoc]
      generalize setAll (peo es) ((n.take i).map (grownL (peo es))) = ps at *
      repeat' (first | (with_reducible refine Unf.h ?_) | ((conv => whnf); first | refine Fork.mk (fun h => ?_) (fun h => ?_) | (refine Idx.mk ?_ ?_; focus (omega)) | refine Ex.mk _ rfl ?_) | fail); all_goals try (conv => whnf); all_goals try (exfalso; omega)
      rw [hpi]
      refine LookS.mk p.1 rfl hk _ hz ⟨rfl, fun _ => rfl⟩ (fun b hb => ?_) (fun hm => ?_)
      · obtain ⟨j, hj, hkj, e1, e2, e3⟩ := numsL_hit 0 ps hb
        obtain rfl : b = (j : Int) := by simpa using hkj
        have f1 := esa.trans (e3 c).1
        have f2 := (e3 c).2
        repeat' (first | (with_reducible refine Unf.h ?_) | ((conv => whnf); first | (refine Side.mk ?_ ?_; focus (omega)) | (refine Idx.mk ?_ ?_; focus (omega)) | (with_reducible refine Unf.h ?_)) | fail); all_goals try (conv => whnf); all_goals try (exfalso; omega)
        refine Ex.mk (p.1, c) (by rw [hci, show (ps[((j : Nat) : Int).toNat]'hj).1 = p.1 from e1]) ?_
        repeat' (first | (with_reducible first | refine Unf.h ?_ | refine loopK_n ?_) | ((conv => whnf); first | (refine Side.mk ?_ ?_; focus ((intros; (try simp only [lenS, inR, cutS, loI, hiI] at *); omega))) | (with_reducible refine Unf.h ?_)) | fail); all_goals try (conv => whnf); all_goals try (exfalso; omega)
        refine ⟨i + 1, ⟨by omega, by omega⟩, ?_⟩
        rw [f1]
        repeat' (first | (with_reducible refine Unf.h ?_) | ((conv => whnf); first | (refine Side.mk ?_ ?_; focus (first | with_reducible rfl | (refine congrArg (SV.int _) ?_; omega) | (simp only [*, f2]; done) | (simp [*, f2]; done))) | (with_reducible refine Unf.h ?_) | exact True.intro) | fail); all_goals try (conv => whnf); all_goals try (exfalso; omega)
      · obtain ⟨e1, e2, e3⟩ := numsL_miss c 0 ps hm
        have f1 := esa.trans e2
        rw [Nat.zero_add] at e3
        have hnl := numsL_len 0 ps
        repeat' (first | (with_reducible refine Unf.h ?_) | ((conv => whnf); first | refine Ex.mk _ rfl ?_ | (with_reducible refine Unf.h ?_)) | fail); all_goals try (conv => whnf); all_goals try (exfalso; omega)
        refine UpdS.mk p.1 rfl (ps.length : Int) rfl hk (by omega) ?_
        rw [e3]
        repeat' (first | (with_reducible refine Unf.h ?_) | ((conv => whnf); (with_reducible refine Unf.h ?_)) | fail); all_goals try (conv => whnf); all_goals try (exfalso; omega)
        refine CallS.mk (c := cloneB_c) (p.1) ?_
        repeat' (first | (with_reducible refine Unf.h ?_) | ((conv => whnf); first | (refine Side.mk ?_ ?_; focus (first | with_reducible rfl | assumption)) | refine Got.mk (fun _ _ => ?_)) | fail); all_goals try (conv => whnf); all_goals try (exfalso; omega)
        refine ValS.mk (OrdK.nilA 66 [.fs 1 eB p.1, .nils] [.fs 1 eB p.1, .fs 67 eVr []] rfl ⟨.inl rfl, .inr ⟨rfl, _, _, _, rfl⟩, trivial⟩ ?_)
        repeat' (first | (with_reducible refine Unf.h ?_) | fail); all_goals try (conv => whnf); all_goals try (exfalso; omega)
        refine Ex.mk [(p.1, [])] rfl ?_
        have hlast : ∀ h, (ps ++ [(p.1, ([] : List Ver))])[((ps.length : Nat) : Int).toNat]'h = (p.1, []) := fun h => by simp
        have hset : (ps ++ [(p.1, ([] : List Ver))]).set ((ps.length : Nat) : Int).toNat (p.1, c) = ps ++ [(p.1, c)] := setLb_last
        repeat' (first | (with_reducible refine Unf.h ?_) | ((conv => whnf); first | (refine Side.mk ?_ ?_; focus ((intros; (try simp only [lenS, inR, cutS, loI, hiI] at *); omega))) | (refine Idx.mk ?_ ?_; focus (first | omega | (simp only [lenS, inR, cutS, loI, hiI]; omega)))) | fail); all_goals try (conv => whnf); all_goals try (exfalso; omega)
        refine Ex.mk (p.1, c) (by rw [hci, hlast]) ?_
        rw [hset]
        repeat' (first | (with_reducible first | refine Unf.h ?_ | refine loopK_n ?_) | ((conv => whnf); first | (refine Side.mk ?_ ?_; focus ((intros; (try simp only [lenS, inR, cutS, loI, hiI] at *); omega))) | (with_reducible refine Unf.h ?_)) | fail); all_goals try (conv => whnf); all_goals try (exfalso; omega)
        refine ⟨i + 1, ⟨by omega, by omega⟩, ?_⟩
        rw [f1]
        repeat' (first | (with_reducible refine Unf.h ?_) | ((conv => whnf); first | (refine Side.mk ?_ ?_; focus (first | with_reducible rfl | (refine congrArg (SV.int _) ?_; omega))) | (with_reducible refine Unf.h ?_) | exact True.intro) | fail); all_goals try (conv => whnf); all_goals try (exfalso; omega)
    · have e0 : n.take i = n := List.take_of_length_le (by omega)
      have e1 : setAll (peo es) (n.map (grownL (peo es))) = peo (es ++ [n]) := by rw [peo_snoc, giveLb_all n _ hp2]
      rw [e0, e1]
      have hsl := slds_len es
      have hsl2 := hst.len
      have hph : hentry_c.pre (((slds es).length : Int) + 1, rootF (builtF (kvs (es ++ [n]))).1 (builtF (kvs (es ++ [n]))).2) := ⟨by show 0 ≤ ((slds es).length : Int) + 1; omega, by show ((slds es).length : Int) + 1 < _; omega⟩
      have hpc : ecopy_c.pre n := ⟨by show n.length ≤ 10000; omega, hp3⟩
      repeat' (first | (with_reducible refine Unf.h ?_) | ((conv => whnf); first | refine Both.mk ?_ ?_ | refine Both.mk ?_ ?_ | refine Fork.mk (fun h => ?_) (fun h => ?_) | (refine Side.mk ?_ ?_; focus ((intros; (try simp only [lenS, inR, cutS, loI, hiI] at *); omega)))) | fail); all_goals try (conv => whnf); all_goals try (exfalso; omega)
      all_goals
        refine CallS.mk (c := hentry_c) ((((slds es).length : Int) + 1, rootF (builtF (kvs (es ++ [n]))).1 (builtF (kvs (es ++ [n]))).2)) ?_
        repeat' (first | (with_reducible refine Unf.h ?_) | ((conv => whnf); first | refine Both.mk ?_ ?_ | refine Both.mk ?_ ?_ | (refine Side.mk ?_ ?_; focus (first | with_reducible rfl | assumption)) | refine Got.mk (fun _ _ => ?_)) | fail); all_goals try (conv => whnf); all_goals try (exfalso; omega)
      all_goals
        refine CallS.mk (c := ecopy_c) (n) ?_
        repeat' (first | (with_reducible refine Unf.h ?_) | ((conv => whnf); first | (refine Side.mk ?_ ?_; focus (first | with_reducible rfl | assumption)) | refine Got.mk (fun _ _ => ?_)) | fail); all_goals try (conv => whnf); all_goals try (exfalso; omega)
      all_goals have esl : slds (es ++ [n]) = slds es ++ [⟨(builtF (kvs (es ++ [n]))).2, rootB (es ++ [n]), ((builtF (kvs es)).1.length : Int), entH (((slds es).length : Int) + 1) (rootB (es ++ [n])), n⟩] := by rw [slds_snoc, hsl]
      all_goals
        refine Ex.mk [⟨(builtF (kvs (es ++ [n]))).2, rootB (es ++ [n]), ((builtF (kvs es)).1.length : Int), entH (((slds es).length : Int) + 1) (rootB (es ++ [n])), n⟩] rfl ?_
        repeat' (first | (with_reducible refine Unf.h ?_) | ((conv => whnf); first | (refine Side.mk ?_ ?_; focus (first | with_reducible rfl | (intros; (try simp only [lenS, inR, cutS, loI, hiI] at *); omega) | (simp only [*]; done))) | refine RetE.mk () trivial ?_ | refine retK_n ?_ | exact rfl) | fail); all_goals try (conv => whnf); all_goals try (exfalso; omega)
end Go.Proofs.YtdflndjlnkoliaaGreatDoor

namespace Go.Proofs.YtdflndjlnkoliaaGreatDoor
set_option linter.all false
open Go.RowKit
theorem sealF_ok {s : H256} {es : List (List Nws)} {us : List (Bs × Bs)} (h : StOk es) (hl : es.length < 20) : StOk (sealF s es us).1 := by
  unfold sealF
  split
  · exact h
  · rename_i h16
    split
    · rename_i hc
      have ha : apartE (es ++ [us.map (verN s es)]) := by
        intro n hn
        rcases List.mem_append.1 hn with hn | hn
        · exact h.apart n hn
        · obtain rfl := List.mem_singleton.1 hn
          rw [verN_fst]; exact hc.2
      refine ⟨ha, by simp; omega, fun n hn => ?_, fun n hn p hp => ?_, fun i hi p hp => ?_⟩
      · rcases List.mem_append.1 hn with hn | hn
        · exact h.few n hn
        · obtain rfl := List.mem_singleton.1 hn; simp; omega
      · rcases List.mem_append.1 hn with hn | hn
        · exact h.lab n hn p hp
        · obtain rfl := List.mem_singleton.1 hn
          obtain ⟨u, hu, rfl⟩ := List.mem_map.1 hp
          have ho := hc.1 u hu
          exact ⟨ho.1.2, ho.2.2.2.2⟩
      · rcases Nat.lt_or_ge i es.length with hil | hil
        · have e : (es ++ [us.map (verN s es)])[i] = es[i] := List.getElem_append_left hil
          have hp : p ∈ (es ++ [us.map (verN s es)])[i] := hp
          rw [e] at hp
          exact h.ep i hil p hp
        · have hi : i < (es ++ [us.map (verN s es)]).length := hi
          obtain rfl : i = es.length := by simp at hi; omega
          have hp : p ∈ (es ++ [us.map (verN s es)])[es.length] := hp
          rw [List.getElem_concat_length rfl] at hp
          obtain ⟨u, hu, rfl⟩ := List.mem_map.1 hp
          rfl
    · exact h
theorem growOk_seal {s : H256} {es : List (List Nws)} {us : List (Bs × Bs)} (h : StOk es) (ho : ∀ u ∈ us, okU es u) : growOk (peo es) ((es.length : Int) + 1) (us.map (verN s es)) ↔ (us.map Prod.fst).Nodup := by
  unfold growOk
  rw [verN_fst]
  refine ⟨fun h => h.1, fun h1 => ⟨h1, fun p hp => ?_⟩⟩
  obtain ⟨u, hu, rfl⟩ := List.mem_map.1 hp
  refine ⟨rfl, ?_⟩
  show formedC cmL zeroH u.1 (chainP (peo es) u.1 ++ [(verN s es u).2])
  rw [h.chain]
  exact (okG_out cmL zeroH _).2 (ho u hu)
abbrev stO8 (s : H256) (es : List (List Nws)) : List Ob := [(0, .box 89 [.arr8 s, .ptr 1 0, .own 7, .own 8, .own 5]), (1, .box 100 [.own 6]), (6, .row 192 132 eNd (builtF (kvs es)).1), (7, .row 143 67 eSl (slds es)), (8, .row 175 2 ePn (peo es)), (5, nmO (peo es))]
def eseal_c : Ctr where
  D := H256 × List (List Nws) × List (Bs × Bs)
  pre := fun (_, es, us) => StOk es ∧ es.length < 20 ∧ us.length ≤ 100000 ∧ ∀ u ∈ us, u.1.length ≤ 10000 ∧ u.2.length ≤ 10000
  args := fun (_, _, us) => [.ptr 0 0, .fs 2 eUp us]
  objs := fun (s, es, _) => stG s (builtF (kvs es)).1 (slds es) (peo es)
  nn := 6
  res := fun (s, es, us) _ => .int .i64 (sealF s es us).2
  out := fun (s, es, us) _ => stO8 s (sealF s es us).1
  mm := 3
def eseal_H : Cfg := ⟨[(42, chOf_c), (41, cgrow_c), (43, egrow_c), (44, size_c), (45, eplant_c), (46, eclose_c)], [(10, [5, 8, 12], [3, 9, 13], (.one 0 0 false (.one 1 0 false (.one 2 0 false (.one 4 0 false (.one 5 1 false (.one 6 0 false (.one 7 0 false (.one 8 1 false (.one 10 0 false (.one 11 0 false (.one 12 1 false (.alt 3 true (.one 9 2 true (.one 13 2 false (.one 14 0 false (.one 15 0 false (.one 16 0 false (.one 17 0 false (.one 18 0 false .nil))))))) (.one 9 2 true (.one 3 2 true (.one 13 2 false (.one 14 0 false (.one 15 0 false (.one 16 0 false (.one 17 0 false (.one 18 0 false .nil)))))))))))))))))))), [1000000]), (13, [2, 8], [10, 11], (.one 0 0 false (.one 1 0 false (.one 2 1 false (.one 3 0 false (.one 4 0 false (.one 5 0 false (.one 6 0 false (.one 7 0 false (.one 8 1 false (.one 9 0 false (.one 10 2 false (.one 11 2 false (.one 12 0 false .nil))))))))))))), [])], [], [], 96, 6, [], [10], []⟩
set_option maxHeartbeats 4000000 in
theorem eseal_ok : eseal_c.Ok Tryz.prog 17 := by
  refine fn_ok eseal_H 6 rfl _ Tryz.func17 rfl rfl ⟨chOf_ok, cgrow_ok, egrow_ok, size_ok, eplant_ok, eclose_ok, trivial⟩ rfl rfl (by kernel_rfl) (fun _ => Nat.le_of_ble_eq_true rfl) ?_
  rintro ⟨s, es, us⟩ hp hr
  try dsimp only [eseal_c] at hp
  try simp only [eseal_c, Rng, RngL, inR, and_true, true_and] at hr
  obtain ⟨hst, hp1, hp2, hp3⟩ := hp
  have hp1 : es.length < 20 := hp1
  have hp2 : us.length ≤ 100000 := hp2
  have hsl := slds_len es
  rcases Nat.lt_or_ge 16 us.length with h16 | h16
  · have ef : sealF s es us = (es, 3) := if_pos h16
    repeat' (first | (with_reducible refine Unf.h ?_) | ((conv => whnf); first | refine Fork.mk (fun h => ?_) (fun h => ?_) | (refine Side.mk ?_ ?_; focus (first | with_reducible rfl | (simp only [*, ef]; done) | (dsimp only [resS, eseal_c]; (simp only [*, ef]; done)))) | refine RetE.mk () trivial ?_ | refine retK_r ?_ | exact rfl) | fail); all_goals try (conv => whnf); all_goals try (exfalso; omega)
  · have efn : sealF s es us = if (∀ u ∈ us, okU es u) ∧ (us.map Prod.fst).Nodup then (es ++ [us.map (verN s es)], 0) else (es, 1) := if_neg (by omega)
    repeat' (first | (with_reducible refine Unf.h ?_) | ((conv => whnf); first | refine Fork.mk (fun h => ?_) (fun h => ?_) | (refine Side.mk ?_ ?_; focus ((intros; (try simp only [lenS, inR, cutS, loI, hiI] at *); omega)))) | fail); all_goals try (conv => whnf); all_goals try (exfalso; omega)
    refine LoopS.mk (I := Nat) (fun i => i ≤ us.length ∧ ∀ u ∈ us.take i, okU es u) (fun i => [(31, .int .i64 (i : Int)), (30, .int .i64 (us.length : Int)), (29, .fs 2 eUp us), (5, .int .i64 (((slds es).length : Int) + 1)), (6, .own 6), (0, .ptr 0 0), (1, .fs 2 eUp us)]) (fun i => stG s (builtF (kvs es)).1 (slds es) (peo es) ++ [(6, .row 117 68 eNw ((us.take i).map (verN s es)))]) 7 (fun i => us.length - i) 0 ⟨Nat.zero_le _, fun u hu => by simp at hu⟩ ?_ ?_
    · have e0 : (us.take 0).map (verN s es) = [] := rfl
      repeat' (first | (with_reducible refine Unf.h ?_) | ((conv => whnf); first | (refine Side.mk ?_ ?_; focus (first | with_reducible rfl | assumption | (refine congrArg (SV.int _) ?_; omega))) | (with_reducible refine Unf.h ?_) | exact True.intro) | fail); all_goals try (conv => whnf); all_goals try (exfalso; omega)
    · rintro i ⟨hi, hok⟩
      have hi : i ≤ us.length := hi
      by_cases hil : i < us.length
      · obtain ⟨u, hui⟩ : ∃ u, us[((i : Nat) : Int).toNat]'hil = u := ⟨_, rfl⟩
        have hui2 : us[i]'hil = u := hui
        have hum : u ∈ us := hui ▸ List.getElem_mem _
        obtain ⟨hul, huv⟩ := hp3 u hum
        have hch : chainP (peo es) u.1 = chR es u.1 := hst.chain u.1
        have hcl := hst.chainLen u.1
        rw [← hch] at hcl
        have hpc : chOf_c.pre (s, peo es, u.1) := by show u.1.length ≤ 1000000; omega
        have hpg : cgrow_c.pre (s, u.1, chainP (peo es) u.1, ((slds es).length : Int) + 1, u.2) := ⟨by show u.1.length ≤ 100000; omega, by show (chainP (peo es) u.1).length ≤ 10000; omega, by show u.2.length ≤ 100000; omega⟩
        have hgd : growF s u.1 (chainP (peo es) u.1) (((slds es).length : Int) + 1) u.2 = if okU es u then (chainP (peo es) u.1 ++ [(verN s es u).2], 0) else ([], 1) := by
          rw [hch, hsl]; rfl
        have ets : (us.take (i + 1)).map (verN s es) = (us.take i).map (verN s es) ++ [verN s es u] := by
          rw [List.take_succ_eq_append_getElem hil, hui2, List.map_append]; rfl
        repeat' (first | (with_reducible refine Unf.h ?_) | ((conv => whnf); first | refine Fork.mk (fun h => ?_) (fun h => ?_) | (refine Idx.mk ?_ ?_; focus (omega))) | fail); all_goals try (conv => whnf); all_goals try (exfalso; omega)
        refine CutS.mk (I := Unit) (fun _ => True) (fun _ => [(9, .fs 67 eVr (growF s u.1 (chainP (peo es) u.1) (((slds es).length : Int) + 1) u.2).1), (10, .int .i64 (growF s u.1 (chainP (peo es) u.1) (((slds es).length : Int) + 1) u.2).2), (8, .ptr 7 0), (31, .int .i64 (i : Int)), (30, .int .i64 (us.length : Int)), (29, .fs 2 eUp us), (5, .int .i64 (((slds es).length : Int) + 1)), (6, .own 6), (0, .ptr 0 0), (1, .fs 2 eUp us)]) (fun _ => stG s (builtF (kvs es)).1 (slds es) (peo es) ++ [(6, .row 117 68 eNw ((us.take i).map (verN s es))), (7, .box 79 (eUp u))]) 8 ?_ ?_
        · repeat' (first | (with_reducible refine Unf.h ?_) | ((conv => whnf); first | refine Both.mk ?_ ?_ | refine Both.mk ?_ ?_) | fail); all_goals try (conv => whnf); all_goals try (exfalso; omega)
          all_goals
            rw [hui]
            refine CallS.mk (c := chOf_c) ((s, peo es, u.1)) ?_
            repeat' (first | (with_reducible refine Unf.h ?_) | ((conv => whnf); first | (refine Side.mk ?_ ?_; focus (first | with_reducible rfl | assumption)) | refine Got.mk (fun _ _ => ?_)) | fail); all_goals try (conv => whnf); all_goals try (exfalso; omega)
          all_goals
            refine CallS.mk (c := cgrow_c) ((s, u.1, chainP (peo es) u.1, ((slds es).length : Int) + 1, u.2)) ?_
            repeat' (first | (with_reducible first | refine Unf.h ?_ | refine cutK_n ?_) | ((conv => whnf); first | (refine Side.mk ?_ ?_; focus (first | with_reducible rfl | assumption)) | refine Got.mk (fun _ _ => ?_)) | fail); all_goals try (conv => whnf); all_goals try (exfalso; omega)
          all_goals
            refine ⟨(), trivial, ?_⟩
            repeat' (first | (with_reducible refine Unf.h ?_) | ((conv => whnf); first | (refine Side.mk ?_ ?_; focus (with_reducible rfl)) | (with_reducible refine Unf.h ?_) | exact True.intro) | fail); all_goals try (conv => whnf); all_goals try (exfalso; omega)
        · intro _ _
          by_cases hoku : okU es u
          · rw [if_pos hoku] at hgd
            have hv : ∀ h, (chainP (peo es) u.1 ++ [(verN s es u).2])[(((chainP (peo es) u.1 ++ [(verN s es u).2]).length : Int) - 1).toNat]'h = (verN s es u).2 := fun h => by
              have e : (((chainP (peo es) u.1 ++ [(verN s es u).2]).length : Int) - 1).toNat = (chainP (peo es) u.1).length := by simp
              simp only [e]
              exact List.getElem_concat_length rfl _
            rw [hgd]
            repeat' (first | (with_reducible refine Unf.h ?_) | ((conv => whnf); first | refine Fork.mkn (fun h => ?_) (fun h => ?_) | (refine Side.mk ?_ ?_; focus ((intros; (try simp only [lenS, inR, cutS, loI, hiI] at *); omega))) | (refine Idx.mk ?_ ?_; focus ((simp only [lenS, inR, cutS, loI, hiI]; omega)))) | fail); all_goals try (conv => whnf); all_goals try (exfalso; omega)
            refine Ex.mk [verN s es u] (by simp only [hv]; rfl) ?_
            repeat' (first | (with_reducible first | refine Unf.h ?_ | refine loopK_n ?_) | ((conv => whnf); (refine Side.mk ?_ ?_; focus ((intros; (try simp only [lenS, inR, cutS, loI, hiI] at *); omega)))) | fail); all_goals try (conv => whnf); all_goals try (exfalso; omega)
            refine ⟨i + 1, ⟨by omega, by omega, fun w hw => ?_⟩, ?_⟩
            · rw [List.take_succ_eq_append_getElem hil, hui2] at hw
              rcases List.mem_append.1 hw with hw | hw
              · exact hok w hw
              · obtain rfl := List.mem_singleton.1 hw; exact hoku
            · rw [ets]
              repeat' (first | (with_reducible refine Unf.h ?_) | ((conv => whnf); first | (refine Side.mk ?_ ?_; focus (first | with_reducible rfl | (refine congrArg (SV.int _) ?_; omega))) | (with_reducible refine Unf.h ?_) | exact True.intro) | fail); all_goals try (conv => whnf); all_goals try (exfalso; omega)
          · rw [if_neg hoku] at hgd
            have ef : sealF s es us = (es, 1) := by rw [efn, if_neg fun h => hoku (h.1 u hum)]
            rw [hgd]
            repeat' (first | (with_reducible refine Unf.h ?_) | ((conv => whnf); first | refine Fork.mkn (fun h => ?_) (fun h => ?_) | (refine Side.mk ?_ ?_; focus (first | with_reducible rfl | (simp only [*, ef]; done) | (dsimp only [resS, eseal_c]; (simp only [*, ef]; done)))) | refine RetE.mk () trivial ?_ | refine retK_r ?_ | exact rfl) | fail); all_goals try (conv => whnf); all_goals try (exfalso; omega)
      · have e0 : us.take i = us := List.take_of_length_le (by omega)
        rw [e0] at hok ⊢
        have hml : (us.map (verN s es)).length = us.length := by simp
        have hgs := growOk_seal (s := s) hst hok
        rw [← hsl] at hgs
        have hpg : egrow_c.pre ((s, (builtF (kvs es)).1, slds es, peo es), ((slds es).length : Int) + 1, us.map (verN s es)) := ⟨by show (us.map (verN s es)).length ≤ 1000; omega, fun p hp => by
          obtain ⟨u, hu, rfl⟩ := List.mem_map.1 hp
          have := (hp3 u hu).1
          show u.1.length ≤ 100000; omega, fun x => by
          have := hst.chainLen x
          rw [hst.chain x]; omega⟩
        have hpn : ∀ p ∈ us.map (verN s es), p.1.length ≤ 1000000 ∧ p.2.val.length ≤ 1000000 := fun p hp => by
          obtain ⟨u, hu, rfl⟩ := List.mem_map.1 hp
          have := hp3 u hu
          exact ⟨by show u.1.length ≤ 1000000; omega, by show u.2.length ≤ 1000000; omega⟩
        by_cases hgo : growOk (peo es) (((slds es).length : Int) + 1) (us.map (verN s es))
        · have ef : sealF s es us = (es ++ [us.map (verN s es)], 0) := by rw [efn, if_pos ⟨hok, hgs.1 hgo⟩]
          have hgr : grownR (peo es) (((slds es).length : Int) + 1) (us.map (verN s es)) = (us.map (verN s es), chainsN (peo es) (us.map (verN s es))) := if_pos hgo
          have hpp : eplant_c.pre (s, es, us.map (verN s es)) := ⟨hst, by omega, hpn⟩
          have hpc : eclose_c.pre (s, es, us.map (verN s es)) := ⟨hst, by omega, hgo.1, hpn⟩
          repeat' (first | (with_reducible refine Unf.h ?_) | ((conv => whnf); refine Fork.mk (fun h => ?_) (fun h => ?_)) | fail); all_goals try (conv => whnf); all_goals try (exfalso; omega)
          refine CallS.mk (c := egrow_c) (((s, (builtF (kvs es)).1, slds es, peo es), ((slds es).length : Int) + 1, us.map (verN s es))) ?_
          repeat' (first | (with_reducible refine Unf.h ?_) | ((conv => whnf); first | refine Fork.mkn (fun h => ?_) (fun h => ?_) | (refine Side.mk ?_ ?_; focus (first | with_reducible rfl | assumption)) | refine RetE.mk () trivial ?_ | refine Got.mk (fun _ _ => ?_) | refine retK_r ?_) | fail); all_goals try (conv => whnf); all_goals try (exfalso; omega)
          · exact absurd hgo (by assumption)
          rw [hgr]
          refine CallS.mk (c := size_c) ((builtF (kvs es)).1) ?_
          repeat' (first | (with_reducible refine Unf.h ?_) | ((conv => whnf); first | (refine Side.mk ?_ ?_; focus (first | with_reducible rfl | exact True.intro)) | refine Got.mk (fun _ _ => ?_)) | fail); all_goals try (conv => whnf); all_goals try (exfalso; omega)
          refine CallS.mk (c := eplant_c) ((s, es, us.map (verN s es))) ?_
          repeat' (first | (with_reducible refine Unf.h ?_) | ((conv => whnf); first | refine Fork.mkn (fun h => ?_) (fun h => ?_) | (refine Side.mk ?_ ?_; focus (first | with_reducible rfl | assumption)) | refine Got.mk (fun _ _ => ?_)) | fail); all_goals try (conv => whnf); all_goals try (exfalso; omega)
          refine CallS.mk (c := eclose_c) ((s, es, us.map (verN s es))) ?_
          repeat' (first | (with_reducible refine Unf.h ?_) | ((conv => whnf); first | (refine Side.mk ?_ ?_; focus (first | with_reducible rfl | assumption | (simp only [*, ef]; done) | (dsimp only [resS, eseal_c]; (simp only [*, ef]; done)))) | refine RetE.mk () trivial ?_ | refine Got.mk (fun _ _ => ?_) | refine retK_r ?_ | exact rfl) | fail); all_goals try (conv => whnf); all_goals try (exfalso; omega)
        · have ef : sealF s es us = (es, 1) := by rw [efn, if_neg fun h => hgo (hgs.2 h.2)]
          repeat' (first | (with_reducible refine Unf.h ?_) | ((conv => whnf); refine Fork.mk (fun h => ?_) (fun h => ?_)) | fail); all_goals try (conv => whnf); all_goals try (exfalso; omega)
          refine CallS.mk (c := egrow_c) (((s, (builtF (kvs es)).1, slds es, peo es), ((slds es).length : Int) + 1, us.map (verN s es))) ?_
          repeat' (first | (with_reducible refine Unf.h ?_) | ((conv => whnf); first | refine Fork.mkn (fun h => ?_) (fun h => ?_) | (refine Side.mk ?_ ?_; focus (first | with_reducible rfl | assumption | (simp only [*, ef]; done) | (dsimp only [resS, eseal_c]; (simp only [*, ef]; done)))) | refine RetE.mk () trivial ?_ | refine Got.mk (fun _ _ => ?_) | refine retK_r ?_ | exact rfl) | fail); all_goals try (conv => whnf); all_goals try (exfalso; omega)
          exact absurd (by assumption) hgo
end Go.Proofs.YtdflndjlnkoliaaGreatDoor

namespace Go.Proofs.YtdflndjlnkoliaaGreatDoor
set_option linter.all false
open Go.RowKit
theorem root_hash {l : Fo} {t : Int} : ∀ {o : Option PT}, treeAt l t o → rootF l t = hashO o
  | none, h => if_pos h
  | some T, h => by
    have h0 := (den_in h).1
    unfold rootF
    rw [if_neg (by omega)]
    exact den_hash h
theorem rootB_D (es : List (List Nws)) (i : Nat) : rootB (es.take i) = rootD es i := root_hash (builtOk (kvs (es.take i))).tree
theorem entries_D (es : List (List Nws)) : (slds es).map (·.entry) = entsD es es.length := by
  unfold slds entsD
  rw [List.map_map]
  refine List.map_congr_left fun i _ => ?_
  show entH ((i : Int) + 1) (rootB (es.take (i + 1))) = _
  rw [rootB_D]
theorem entsD_take (es : List (List Nws)) {n k : Nat} (h : n ≤ k) : (entsD es k).take n = entsD es n := by
  unfold entsD
  rw [← List.map_take, List.take_range, Nat.min_eq_left h]
theorem kvs_few {es : List (List Nws)} (h : StOk es) (i : Nat) : (kvs (es.take i)).length ≤ 900 := by
  have h2 := flat_few (es.take i) 16 fun n hn => h.few n (List.mem_of_mem_take hn)
  have h3 : (es.take i).length ≤ es.length := by simp; omega
  have := h.len
  show ((es.take i).flatten.map kvN).length ≤ 900
  rw [List.length_map]; omega
theorem slds_root {es : List (List Nws)} {i : Nat} (h : i < (slds es).length) : ((slds es)[i]).root = rootD es (i + 1) := by
  rw [slds_get]; exact rootB_D es (i + 1)
abbrev DirE := H256 × List (List Nws)
abbrev stE (s : H256) (es : List (List Nws)) : List Ob := stG s (builtF (kvs es)).1 (slds es) (peo es)
def ehas_c : Ctr where
  D := DirE × Int
  args := fun (_, e) => [.ptr 0 0, .int .i64 e]
  objs := fun ((s, es), _) => stE s es
  nn := 6
  res := fun ((_, es), e) _ => .dec (1 ≤ e ∧ e ≤ (es.length : Int)) inferInstance
  out := fun ((s, es), _) _ => stE s es
def ehas_H : Cfg := ⟨[(21, eps_c)], [], [], [], 13, 6, [], [], []⟩
theorem ehas_ok : ehas_c.Ok Tryz.prog 59 := by
  refine fn_ok ehas_H 6 rfl _ Tryz.func59 rfl rfl ⟨eps_ok, trivial⟩ rfl rfl (by kernel_rfl) (fun _ => Nat.le_of_ble_eq_true rfl) ?_
  rintro ⟨⟨s, es⟩, e⟩ hp hr
  try dsimp only [ehas_c] at hp
  try simp only [ehas_c, Rng, RngL, inR, and_true, true_and] at hr
  have hl := slds_len es
  repeat' (first | (with_reducible refine Unf.h ?_) | ((conv => whnf); first | refine Fork.mk (fun h => ?_) (fun h => ?_) | (refine Side.mk ?_ ?_; focus (first | with_reducible rfl | (refine ⟨fun h => ?_, fun h => ?_⟩ <;> first | rfl | (cases h; done) | omega | (exfalso; omega) | (simp only [Bool.false_eq_true] at h; done)))) | refine RetE.mk () trivial ?_ | refine retK_r ?_ | exact rfl) | fail); all_goals try (conv => whnf); all_goals try (exfalso; omega)
  refine CallS.mk (c := eps_c) ((s, (builtF (kvs es)).1, slds es, peo es)) ?_
  repeat' (first | (with_reducible refine Unf.h ?_) | ((conv => whnf); first | (refine Side.mk ?_ ?_; focus (first | with_reducible rfl | exact True.intro | omega)) | refine RetE.mk () trivial ?_ | refine Got.mk (fun _ _ => ?_) | refine retK_r ?_ | exact rfl) | fail); all_goals try (conv => whnf); all_goals try (exfalso; omega)
abbrev stL (s : H256) (ss : List Sld) : List Ob := [(0, .box 89 [.arr8 s, .ptr 1 0, .own 2, .own 3, .own 4]), (2, .row 143 67 eSl ss)]
def eentS_c : Ctr where
  D := H256 × List Sld
  pre := fun (_, ss) => ss.length ≤ 1000
  args := fun _ => [.ptr 0 0]
  objs := fun (s, ss) => stL s ss
  nn := 5
  res := fun (_, ss) _ => .fs 32 eH (ss.map (·.entry))
  out := fun (s, ss) _ => stL s ss
def eentS_H : Cfg := ⟨[], [], [], [], 22, 5, [], [], []⟩
theorem eentS_ok : eentS_c.Ok Tryz.prog 31 := by
  refine fn_ok eentS_H 5 rfl _ Tryz.func31 rfl rfl trivial rfl rfl (by kernel_rfl) (fun _ => Nat.le_of_ble_eq_true rfl) ?_
  rintro ⟨s, ss⟩ hp hr
  try dsimp only [eentS_c] at hp
  try simp only [eentS_c, Rng, RngL, inR, and_true, true_and] at hr
  have hp : ss.length ≤ 1000 := hp
  repeat' (first | (with_reducible refine Unf.h ?_) | fail); all_goals try (conv => whnf); all_goals try (exfalso; omega)
  refine LoopS.mk (I := Nat) (fun i => i ≤ ss.length) (fun i => [(11, .int .i64 (i : Int)), (10, .int .i64 (ss.length : Int)), (9, .own 2), (3, .own 5), (0, .ptr 0 0)]) (fun i => stL s ss ++ [(5, .row 30 32 eH ((ss.take i).map (·.entry)))]) 6 (fun i => ss.length - i) 0 (Nat.zero_le _) ?_ ?_
  · have e0 : (ss.take 0).map (·.entry) = [] := rfl
    repeat' (first | (with_reducible refine Unf.h ?_) | ((conv => whnf); first | (refine Side.mk ?_ ?_; focus (first | with_reducible rfl | assumption | (refine congrArg (SV.int _) ?_; omega))) | (with_reducible refine Unf.h ?_) | exact True.intro) | fail); all_goals try (conv => whnf); all_goals try (exfalso; omega)
  · intro i hi
    by_cases hil : i < ss.length
    · have es : (ss.take (i + 1)).map (·.entry) = (ss.take i).map (·.entry) ++ [(ss[((i : Nat) : Int).toNat]'hil).entry] := by
        rw [List.take_succ_eq_append_getElem hil, List.map_append]; rfl
      have hl : ((ss.take i).map (·.entry)).length ≤ 1000 := by simp; omega
      repeat' (first | (with_reducible first | refine Unf.h ?_ | refine loopK_n ?_) | ((conv => whnf); first | refine Fork.mk (fun h => ?_) (fun h => ?_) | (refine Side.mk ?_ ?_; focus (first | omega | (intros; (try simp only [lenS, inR, cutS, loI, hiI] at *); omega))) | (refine Idx.mk ?_ ?_; focus (omega)) | refine Ex.mk [_] rfl ?_) | fail); all_goals try (conv => whnf); all_goals try (exfalso; omega)
      refine ⟨i + 1, ⟨by omega, by omega⟩, ?_⟩
      repeat' (first | (with_reducible refine Unf.h ?_) | ((conv => whnf); first | (refine Side.mk ?_ ?_; focus (first | with_reducible rfl | (refine congrArg (SV.int _) ?_; omega) | (simp only [*, es]; done))) | (with_reducible refine Unf.h ?_) | exact True.intro) | fail); all_goals try (conv => whnf); all_goals try (exfalso; omega)
    · have e : ss.take i = ss := List.take_of_length_le (by omega)
      repeat' (first | (with_reducible refine Unf.h ?_) | ((conv => whnf); first | refine Fork.mk (fun h => ?_) (fun h => ?_) | (refine Side.mk ?_ ?_; focus (first | with_reducible rfl | (simp only [*, e]; done))) | refine RetE.mk () trivial ?_ | refine retK_r ?_ | exact rfl) | fail); all_goals try (conv => whnf); all_goals try (exfalso; omega)
abbrev eHd (h : Int × Int × H256 × H256) : List SV := [.int .i64 h.1, .int .i64 h.2.1, .arr8 h.2.2.1, .arr8 h.2.2.2]
def headD (es : List (List Nws)) (t : Int) : Int × Int × H256 × H256 := if es.length = 0 then (0, 0, zeroH, zeroH) else ((es.length : Int), t, rootD es es.length, logH (entsD es es.length))
def ehead_c : Ctr where
  D := DirE × Int
  pre := fun ((_, es), _) => es.length ≤ 8
  args := fun (_, t) => [.ptr 0 0, .int .i64 t]
  objs := fun ((s, es), _) => stE s es
  nn := 6
  res := fun ((_, es), t) _ => .agg (eHd (headD es t))
  out := fun ((s, es), _) _ => stE s es
def ehead_H : Cfg := ⟨[(21, eps_c), (31, eentS_c), (67, elogR_c)], [(3, [3, 7, 11], [12, 13], (.one 0 0 false (.one 1 0 false (.one 2 0 false (.one 3 1 false (.one 4 0 false (.one 5 0 false (.one 6 0 false (.one 7 1 false (.one 8 0 false (.one 9 0 false (.one 10 0 false (.one 11 1 false (.one 12 2 true (.one 13 2 false .nil)))))))))))))), []), (4, [7], [3, 9, 10, 12], (.one 0 0 false (.one 1 0 false (.one 2 0 false (.one 5 0 false (.one 6 0 false (.one 7 1 false (.one 8 0 false (.alt 3 true (.one 4 0 false (.one 9 2 true (.one 10 2 true (.one 11 0 false (.one 12 2 false .nil))))) (.one 9 2 true (.alt 3 true (.one 4 0 false (.one 10 2 true (.one 11 0 false (.one 12 2 false .nil)))) (.one 10 2 true (.one 3 2 true (.one 4 0 false (.one 11 0 false (.one 12 2 false .nil))))))))))))))), [1000000])], [], [], 34, 6, [], [], []⟩
theorem ehead_ok : ehead_c.Ok Tryz.prog 23 := by
  refine fn_ok ehead_H 6 rfl _ Tryz.func23 rfl rfl ⟨eps_ok, eentS_ok, elogR_ok, trivial⟩ rfl rfl (by kernel_rfl) (fun _ => Nat.le_of_ble_eq_true rfl) ?_
  rintro ⟨⟨s, es⟩, t⟩ hp hr
  try dsimp only [ehead_c] at hp
  try simp only [ehead_c, Rng, RngL, inR, and_true, true_and] at hr
  have hp : es.length ≤ 8 := hp
  have hl := slds_len es
  have he := entries_D es
  have hel := entsD_len es es.length
  have hqe : eentS_c.pre (s, slds es) := by show (slds es).length ≤ 1000; omega
  have hql : elogR_c.pre (entsD es es.length) := by show (entsD es es.length).length ≤ 8; omega
  repeat' (first | (with_reducible refine Unf.h ?_) | fail); all_goals try (conv => whnf); all_goals try (exfalso; omega)
  refine CallS.mk (c := eps_c) ((s, (builtF (kvs es)).1, slds es, peo es)) ?_
  rcases Nat.eq_zero_or_pos es.length with h0 | h0
  · have eh : headD es t = (0, 0, zeroH, zeroH) := if_pos h0
    repeat' (first | (with_reducible refine Unf.h ?_) | ((conv => whnf); first | refine Fork.mk (fun h => ?_) (fun h => ?_) | (refine Side.mk ?_ ?_; focus (first | with_reducible rfl | exact True.intro | (simp only [*, eh]; done))) | refine RetE.mk () trivial ?_ | refine Got.mk (fun _ _ => ?_) | refine retK_r ?_ | exact rfl) | fail); all_goals try (conv => whnf); all_goals try (exfalso; omega)
  · have eh : headD es t = ((es.length : Int), t, rootD es es.length, logH (entsD es es.length)) := if_neg (by omega)
    have er : ∀ h, ((slds es)[(((slds es).length : Int) - 1).toNat]'h).root = rootD es es.length := fun h => by
      rw [slds_root]; congr 1; omega
    repeat' (first | (with_reducible refine Unf.h ?_) | ((conv => whnf); first | refine Both.mk ?_ ?_ | refine Both.mk ?_ ?_ | refine Fork.mk (fun h => ?_) (fun h => ?_) | (refine Side.mk ?_ ?_; focus (first | with_reducible rfl | exact True.intro | omega | (intros; (try simp only [lenS, inR, cutS, loI, hiI] at *); omega))) | (refine Idx.mk ?_ ?_; focus (omega)) | refine Got.mk (fun _ _ => ?_)) | fail); all_goals try (conv => whnf); all_goals try (exfalso; omega)
    all_goals
      refine CallS.mk (c := eentS_c) ((s, slds es)) ?_
      repeat' (first | (with_reducible refine Unf.h ?_) | ((conv => whnf); first | refine Both.mk ?_ ?_ | refine Both.mk ?_ ?_ | (refine Side.mk ?_ ?_; focus (first | with_reducible rfl | assumption)) | refine Got.mk (fun _ _ => ?_)) | fail); all_goals try (conv => whnf); all_goals try (exfalso; omega)
    all_goals
      rw [he]
      refine CallS.mk (c := elogR_c) ((entsD es es.length)) ?_
      repeat' (first | (with_reducible refine Unf.h ?_) | ((conv => whnf); first | (refine Side.mk ?_ ?_; focus (first | with_reducible rfl | assumption | (simp only [*]; done))) | refine RetE.mk () trivial ?_ | refine Got.mk (fun _ _ => ?_) | refine retK_r ?_) | fail); all_goals try (conv => whnf); all_goals try (exfalso; omega)
    all_goals
      refine Side.mk (by rw [eh, er]) ?_
      repeat' (first | (with_reducible refine Unf.h ?_) | ((conv => whnf); first | (refine Side.mk ?_ ?_; focus (first | with_reducible rfl | (simp only [*, eh]; done))) | exact rfl) | fail); all_goals try (conv => whnf); all_goals try (exfalso; omega)
def elog_c : Ctr where
  D := DirE × Nat
  pre := fun ((_, es), n) => es.length ≤ 8 ∧ n ≤ es.length
  args := fun (_, n) => [.ptr 0 0, .int .i64 (n : Int)]
  objs := fun ((s, es), _) => stE s es
  nn := 6
  res := fun ((_, es), n) _ => .agg [.arr8 (logH (entsD es n))]
  out := fun ((s, es), _) _ => stE s es
def elog_H : Cfg := ⟨[(21, eps_c), (31, eent_c), (67, elogR_c)], [], [], [], 17, 6, [], [], []⟩
theorem elog_ok : elog_c.Ok Tryz.prog 48 := by
  refine fn_ok elog_H 6 rfl _ Tryz.func48 rfl rfl ⟨eps_ok, eent_ok, elogR_ok, trivial⟩ rfl rfl (by kernel_rfl) (fun _ => Nat.le_of_ble_eq_true rfl) ?_
  rintro ⟨⟨s, es⟩, n⟩ hp hr
  try dsimp only [elog_c] at hp
  try simp only [elog_c, Rng, RngL, inR, and_true, true_and] at hr
  obtain ⟨hp1, hp2⟩ := hp
  have hp1 : es.length ≤ 8 := hp1
  have hp2 : n ≤ es.length := hp2
  have hl := slds_len es
  have he := entries_D es
  have hel := entsD_len es n
  have het := entsD_take es hp2
  have ec : cutL (List.map (·.entry) (slds es)) none (some (min (max (n : Int) 0) ((slds es).length : Int))) = entsD es n := by
    rw [he, ← het]
    rw [show min (max (n : Int) 0) ((slds es).length : Int) = n by omega]
    simp [cutL]
  have hqe : eent_c.pre (s, (builtF (kvs es)).1, slds es, peo es) := by show (slds es).length ≤ 1000; omega
  have hql : elogR_c.pre (entsD es n) := by show (entsD es n).length ≤ 8; omega
  repeat' (first | (with_reducible refine Unf.h ?_) | fail); all_goals try (conv => whnf); all_goals try (exfalso; omega)
  refine CallS.mk (c := eent_c) ((s, (builtF (kvs es)).1, slds es, peo es)) ?_
  repeat' (first | (with_reducible refine Unf.h ?_) | ((conv => whnf); first | (refine Side.mk ?_ ?_; focus (first | with_reducible rfl | assumption)) | refine Got.mk (fun _ _ => ?_)) | fail); all_goals try (conv => whnf); all_goals try (exfalso; omega)
  refine CallS.mk (c := eps_c) ((s, (builtF (kvs es)).1, slds es, peo es)) ?_
  repeat' (first | (with_reducible refine Unf.h ?_) | ((conv => whnf); first | (refine Side.mk ?_ ?_; focus (first | with_reducible rfl | exact True.intro | (intros; (try simp only [lenS, inR, cutS, loI, hiI] at *); omega))) | refine Got.mk (fun _ _ => ?_)) | fail); all_goals try (conv => whnf); all_goals try (exfalso; omega)
  rw [ec]
  refine CallS.mk (c := elogR_c) ((entsD es n)) ?_
  repeat' (first | (with_reducible refine Unf.h ?_) | ((conv => whnf); first | (refine Side.mk ?_ ?_; focus (first | with_reducible rfl | assumption)) | refine RetE.mk () trivial ?_ | refine Got.mk (fun _ _ => ?_) | refine retK_r ?_ | exact rfl) | fail); all_goals try (conv => whnf); all_goals try (exfalso; omega)
def enews_c : Ctr where
  D := DirE × Nat
  pre := fun ((_, es), e) => e < es.length ∧ StOk es
  args := fun (_, e) => [.ptr 0 0, .int .i64 ((e : Int) + 1)]
  objs := fun ((s, es), _) => stE s es
  nn := 6
  res := fun ((_, es), e) _ => .fs 68 eNw (es.getD e [])
  out := fun ((s, es), _) _ => stE s es
def enews_H : Cfg := ⟨[(59, ehas_c), (68, ecopy_c)], [], [], [], 19, 6, [], [], []⟩
theorem enews_ok : enews_c.Ok Tryz.prog 24 := by
  refine fn_ok enews_H 6 rfl _ Tryz.func24 rfl rfl ⟨ehas_ok, ecopy_ok, trivial⟩ rfl rfl (by kernel_rfl) (fun _ => Nat.le_of_ble_eq_true rfl) ?_
  rintro ⟨⟨s, es⟩, e⟩ hp hr
  try dsimp only [enews_c] at hp
  try simp only [enews_c, Rng, RngL, inR, and_true, true_and] at hr
  obtain ⟨hp1, hp2⟩ := hp
  have hp1 : e < es.length := hp1
  have hl := slds_len es
  have hg : ∀ h, ((slds es)[(((e : Int) + 1) - 1).toNat]'h).news = es.getD e [] := fun h => by
    have e1 : (((e : Int) + 1) - 1).toNat = e := by omega
    simp only [e1]
    rw [slds_get]; rfl
  have hm : es.getD e [] ∈ es := by
    rw [List.getD_eq_getElem?_getD, List.getElem?_eq_getElem hp1]; exact List.getElem_mem _
  have hq : ecopy_c.pre (es.getD e []) := ⟨by have := hp2.few _ hm; omega, fun p hp => by have := hp2.lab _ hm p hp; omega⟩
  repeat' (first | (with_reducible refine Unf.h ?_) | fail); all_goals try (conv => whnf); all_goals try (exfalso; omega)
  refine CallS.mk (c := ehas_c) (((s, es), (e : Int) + 1)) ?_
  repeat' (first | (with_reducible refine Unf.h ?_) | ((conv => whnf); first | refine Fork.mkn (fun h => ?_) (fun h => ?_) | (refine Side.mk ?_ ?_; focus (first | with_reducible rfl | exact True.intro | omega | (intros; (try simp only [lenS, inR, cutS, loI, hiI] at *); omega))) | (refine Idx.mk ?_ ?_; focus (omega)) | refine Got.mk (fun _ _ => ?_)) | fail); all_goals try (conv => whnf); all_goals try (exfalso; omega)
  rw [hg]
  refine CallS.mk (c := ecopy_c) ((es.getD e [])) ?_
  repeat' (first | (with_reducible refine Unf.h ?_) | ((conv => whnf); first | (refine Side.mk ?_ ?_; focus (first | with_reducible rfl | assumption)) | refine RetE.mk () trivial ?_ | refine Got.mk (fun _ _ => ?_) | refine retK_r ?_ | exact rfl) | fail); all_goals try (conv => whnf); all_goals try (exfalso; omega)
end Go.Proofs.YtdflndjlnkoliaaGreatDoor

namespace Go.Proofs.YtdflndjlnkoliaaGreatDoor
set_option linter.all false
open Go.RowKit
def nodeO_c : Ctr where
  D := Fo × Int × Nd
  pre := fun (l, i, n) => inF l i ∧ nd l i = n
  args := fun (_, i, _) => [.ptr 0 0, .int .i64 i]
  objs := fun (l, _, _) => fo l
  nn := 2
  res := fun (_, _, n) _ => .tup [.agg (eNd n), .bool true]
  out := fun (l, _, _) _ => fo l
def nodeO_H : Cfg := ⟨[(44, size_c)], [], [], [], 22, 2, [], [], []⟩
theorem nodeO_ok : nodeO_c.Ok Tryz.prog 98 := by
  refine fn_ok nodeO_H 2 rfl _ Tryz.func98 rfl rfl ⟨size_ok, trivial⟩ rfl rfl (by kernel_rfl) (fun _ => Nat.le_of_ble_eq_true rfl) ?_
  rintro ⟨l, i, n⟩ hp hr
  try dsimp only [nodeO_c] at hp
  try simp only [nodeO_c, Rng, RngL, inR, and_true, true_and] at hr
  obtain ⟨⟨h0, h1⟩, hn⟩ := hp
  have e := (nd_get l i (by omega) (by omega)).trans hn
  repeat' (first | (with_reducible refine Unf.h ?_) | ((conv => whnf); first | refine Fork.mk (fun h => ?_) (fun h => ?_) | (refine Side.mk ?_ ?_; focus (first | with_reducible rfl | exact True.intro | omega | (simp only [*, e]; done))) | (refine Idx.mk ?_ ?_; focus (omega)) | refine RetE.mk () trivial ?_ | refine Got.mk (fun _ _ => ?_) | refine retK_r ?_ | exact rfl | refine CallS.mk (c := size_c) (l) ?_) | fail); all_goals try (conv => whnf); all_goals try (exfalso; omega)
def nodeXO_c : Ctr where
  D := Fo × Int
  pre := fun (l, i) => ¬ inF l i
  args := fun (_, i) => [.ptr 0 0, .int .i64 i]
  objs := fun (l, _) => fo l
  nn := 2
  res := fun _ _ => .tup [.agg (eNd zeroN), .bool false]
  out := fun (l, _) _ => fo l
def nodeXO_H : Cfg := ⟨[(44, size_c)], [], [], [], 22, 2, [], [], []⟩
theorem nodeXO_ok : nodeXO_c.Ok Tryz.prog 98 := by
  refine fn_ok nodeXO_H 2 rfl _ Tryz.func98 rfl rfl ⟨size_ok, trivial⟩ rfl rfl (by kernel_rfl) (fun _ => Nat.le_of_ble_eq_true rfl) ?_
  rintro ⟨l, i⟩ hp hr
  try dsimp only [nodeXO_c] at hp
  try simp only [nodeXO_c, Rng, RngL, inR, and_true, true_and] at hr
  repeat' (first | (with_reducible refine Unf.h ?_) | ((conv => whnf); first | refine Fork.mk (fun h => ?_) (fun h => ?_) | (refine Side.mk ?_ ?_; focus (first | with_reducible rfl | exact True.intro | omega | (simp only [*, zeroN]; done))) | (refine Idx.mk ?_ ?_; focus (omega)) | refine RetE.mk () trivial ?_ | refine Got.mk (fun _ _ => ?_) | refine retK_r ?_ | exact rfl | refine CallS.mk (c := size_c) (l) ?_) | fail); all_goals try (conv => whnf)
  exact absurd (show inF l i from ⟨by omega, by omega⟩) hp
def nodeHashO_c : Ctr where
  D := Fo × Int × H256
  pre := fun (l, i, h) => inF l i ∧ (nd l i).hash = h
  args := fun (_, i, _) => [.ptr 0 0, .int .i64 i]
  objs := fun (l, _, _) => fo l
  nn := 2
  res := fun (_, _, h) _ => .agg [.arr8 h]
  out := fun (l, _, _) _ => fo l
def nodeHashO_H : Cfg := ⟨[(98, nodeO_c)], [], [], [], 15, 2, [], [], []⟩
theorem nodeHashO_ok : nodeHashO_c.Ok Tryz.prog 100 := by
  refine fn_ok nodeHashO_H 2 rfl _ Tryz.func100 rfl rfl ⟨nodeO_ok, trivial⟩ rfl rfl (by kernel_rfl) (fun _ => Nat.le_of_ble_eq_true rfl) ?_
  rintro ⟨l, i, n⟩ hp hr
  try dsimp only [nodeHashO_c] at hp
  try simp only [nodeHashO_c, Rng, RngL, inR, and_true, true_and] at hr
  obtain ⟨h0, hn⟩ := hp
  have hpre : nodeO_c.pre (l, i, nd l i) := ⟨h0, rfl⟩
  repeat' (first | (with_reducible refine Unf.h ?_) | ((conv => whnf); first | (refine Side.mk ?_ ?_; focus (first | with_reducible rfl | assumption | (simp only [*, hn]; done))) | refine RetE.mk () trivial ?_ | refine Got.mk (fun _ _ => ?_) | refine retK_r ?_ | exact rfl | refine CallS.mk (c := nodeO_c) ((l, i, nd l i)) ?_) | fail); all_goals try (conv => whnf)
def showO_c : Ctr where
  D := Fo × Int × H256 × Option PT
  pre := fun (l, t, _, o) => treeAt l t o ∧ depthO o ≤ 100000
  args := fun (_, t, k, _) => [.ptr 0 0, .int .i64 t, .agg [.arr8 k]]
  objs := fun (l, _, _, _) => fo l
  nn := 2
  res := fun (_, _, k, o) _ => .tup [.agg (ePrf (showP k o)), .int .i64 0]
  out := fun (l, _, _, _) _ => fo l
def showO_H : Cfg := ⟨[(89, root_c), (98, nodeO_c), (98, nodeXO_c), (99, holds_c), (101, bit_c), (100, nodeHashO_c)], [(9, [1, 3], [5, 7, 9], (.one 0 0 false (.one 1 1 false (.one 2 0 false (.one 3 1 false (.one 4 0 false (.one 5 2 true (.one 6 0 false (.one 7 2 true (.one 8 0 false (.one 9 2 false .nil)))))))))), [10]), (11, [1, 4, 8], [5, 9, 11, 13, 15, 17], (.one 0 0 false (.one 1 1 false (.one 2 0 false (.one 3 0 false (.one 4 1 false (.one 6 0 false (.one 7 0 false (.one 8 1 false (.one 10 0 false (.one 5 2 true (.one 9 2 true (.one 11 2 true (.one 12 0 false (.one 13 2 false (.one 14 0 false (.one 15 2 false (.one 16 0 false (.one 17 2 false .nil)))))))))))))))))), [10, 1000000]), (12, [1, 3], [], (.one 0 0 false (.one 1 1 false (.one 2 0 false (.one 3 1 false (.one 4 0 false (.one 5 0 false .nil)))))), []), (15, [1, 3], [6, 8, 9, 11], (.one 0 0 false (.one 1 1 false (.one 2 0 false (.one 3 1 false (.one 4 0 false (.one 5 0 false (.one 6 2 true (.one 7 0 false (.one 8 2 true (.one 9 2 false (.one 10 0 false (.one 11 2 false .nil)))))))))))), [1000000])], [], [], 90, 2, [], [], []⟩
theorem showO_ok : showO_c.Ok Tryz.prog 60 := by
  refine fn_ok showO_H 2 rfl _ Tryz.func60 rfl rfl ⟨root_ok, nodeO_ok, nodeXO_ok, holds_ok, bit_ok, nodeHashO_ok, trivial⟩ rfl rfl (by kernel_rfl) (fun _ => Nat.le_of_ble_eq_true rfl) ?_
  rintro ⟨l, t, k, o⟩ hp hr
  try dsimp only [showO_c] at hp
  try simp only [showO_c, Rng, RngL, inR, and_true, true_and] at hr
  obtain ⟨htr, hdp⟩ := hp
  have hpre : root_c.pre (l, t) := treeAt_is htr
  repeat' (first | (with_reducible refine Unf.h ?_) | ((conv => whnf); first | refine Fork.mkn (fun h => ?_) (fun h => ?_) | (refine Side.mk ?_ ?_; focus (first | with_reducible rfl | assumption | omega)) | refine RetE.mk () trivial ?_ | refine Got.mk (fun _ _ => ?_) | refine retK_r ?_ | exact rfl | refine CallS.mk (c := root_c) ((l, t)) ?_) | fail); all_goals try (conv => whnf)
  refine LoopS.autoN (I := Option PT × Int × List Stp) (fun (o', t', S) => treeAt l t' o' ∧ S ++ stepsO k o' = stepsO k o ∧ lastO k o' = lastO k o ∧ S.length + depthO o' ≤ depthO o) (fun (_, t', _) => [(1, .int .i64 t')]) (fun (_, _, S) => fo l ++ [(2, .box 30 [.arr8 k]), (3, .box 60 [.nils, .int .i64 0, .arr8 zeroH, .arr8 zeroH, .int .i64 0, .arr8 zeroH, .arr8 zeroH, .arr8 zeroH]), (5, .box 60 [.own 6, .int .i64 0, .arr8 zeroH, .arr8 zeroH, .int .i64 0, .arr8 zeroH, .arr8 zeroH, .arr8 zeroH]), (6, .row 189 65 eStp S), (4, .box 30 [.arr8 (rootF l t)])]) 7 (fun (o', _, _) => depthO o') (o, t, []) ⟨htr, rfl, rfl, by simp⟩ ?_ ?_
  · repeat' (first | (with_reducible refine Unf.h ?_) | ((conv => whnf); first | (refine Side.mk ?_ ?_; focus (with_reducible rfl)) | (with_reducible refine Unf.h ?_) | exact True.intro) | fail); all_goals try (conv => whnf)
  · rintro ⟨o', t', S⟩ ⟨h1, h2, h3, h4⟩
    match o', h1, h2, h3, h4 with
    | none, h1, h2, h3, h4 =>
      have e : showP k o = ⟨S, 0, zeroH, zeroH, 0, zeroH, zeroH, zeroH⟩ := by
        unfold showP; rw [← h2, ← h3]; simp only [stepsO, List.append_nil]; rfl
      have hpre : nodeXO_c.pre (l, t') := fun h' => by have : t' = -1 := h1; have := h'.1; omega
      repeat' (first | (with_reducible refine Unf.h ?_) | fail); all_goals try (conv => whnf)
      refine Or2.r (CallS.mk (c := nodeXO_c) ((l, t')) ?_)
      repeat' (first | (with_reducible refine Unf.h ?_) | ((conv => whnf); first | (refine Side.mk ?_ ?_; focus (first | with_reducible rfl | assumption | (simp only [*, e]; done))) | refine RetE.mk () trivial ?_ | refine Got.mk (fun _ _ => ?_) | refine retK_r ?_ | exact rfl) | fail); all_goals try (conv => whnf)
    | some (.leaf k' v'), h1, h2, h3, h4 =>
      have e : showP k o = ⟨S, 1, k', v', 0, zeroH, zeroH, zeroH⟩ := by
        unfold showP; rw [← h2, ← h3]; simp only [stepsO, stepsT, List.append_nil]; rfl
      have hpre : nodeO_c.pre (l, t', ⟨true, k', v', 0, zeroH, -1, -1, sha (leafT k' v')⟩) := h1
      repeat' (first | (with_reducible refine Unf.h ?_) | fail); all_goals try (conv => whnf)
      refine Or2.l (CallS.mk (c := nodeO_c) ((l, t', ⟨true, k', v', 0, zeroH, -1, -1, sha (leafT k' v')⟩)) ?_)
      repeat' (first | (with_reducible refine Unf.h ?_) | ((conv => whnf); first | (refine Side.mk ?_ ?_; focus (first | with_reducible rfl | assumption | (simp only [*, e]; done))) | refine RetE.mk () trivial ?_ | refine Got.mk (fun _ _ => ?_) | refine retK_r ?_ | exact rfl) | fail); all_goals try (conv => whnf)
    | some (.node p a b), h1, h2, h3, h4 =>
      obtain ⟨h0, x, y, en, ha, hb⟩ := h1
      have hpre : nodeO_c.pre (l, t', ⟨false, zeroH, zeroH, p.len, p.bits, x, y, sha (innerT p.len p.bits a.hash b.hash)⟩) := ⟨h0, en⟩
      have hx : nodeHashO_c.pre (l, x, a.hash) := ⟨den_in ha, den_hash ha⟩
      have hy : nodeHashO_c.pre (l, y, b.hash) := ⟨den_in hb, den_hash hb⟩
      repeat' (first | (with_reducible refine Unf.h ?_) | fail); all_goals try (conv => whnf)
      refine Or2.l (CallS.mk (c := nodeO_c) ((l, t', ⟨false, zeroH, zeroH, p.len, p.bits, x, y, sha (innerT p.len p.bits a.hash b.hash)⟩)) ?_)
      repeat' (first | (with_reducible refine Unf.h ?_) | ((conv => whnf); first | refine Fork.mkn (fun h => ?_) (fun h => ?_) | (refine Side.mk ?_ ?_; focus (first | with_reducible rfl | exact True.intro | assumption)) | refine Got.mk (fun _ _ => ?_) | refine CallS.mk (c := holds_c) ((p, k)) ?_) | fail); all_goals try (conv => whnf)
      · have e : showP k o = ⟨S, 2, zeroH, zeroH, p.len, p.bits, a.hash, b.hash⟩ := by
          unfold showP; rw [← h2, ← h3]; simp only [stepsO, stepsT, lastO, lastT, if_neg h, List.append_nil]; rfl
        refine CallS.mk (c := nodeHashO_c) ((l, x, a.hash)) ?_
        repeat' (first | (with_reducible refine Unf.h ?_) | ((conv => whnf); first | (refine Side.mk ?_ ?_; focus (first | with_reducible rfl | assumption)) | refine Got.mk (fun _ _ => ?_)) | fail); all_goals try (conv => whnf)
        refine CallS.mk (c := nodeHashO_c) ((l, y, b.hash)) ?_
        repeat' (first | (with_reducible refine Unf.h ?_) | ((conv => whnf); first | (refine Side.mk ?_ ?_; focus (first | with_reducible rfl | assumption | (simp only [*, e]; done))) | refine RetE.mk () trivial ?_ | refine Got.mk (fun _ _ => ?_) | refine retK_r ?_ | exact rfl) | fail); all_goals try (conv => whnf)
      · have hh : holdsP p k := h
        clear h
        refine CallS.mk (c := bit_c) ((k, p.len)) ?_
        repeat' (first | (with_reducible refine Unf.h ?_) | ((conv => whnf); first | refine Fork.mk (fun h => ?_) (fun h => ?_) | (refine Side.mk ?_ ?_; focus (first | with_reducible rfl | exact True.intro)) | refine Got.mk (fun _ _ => ?_)) | fail); all_goals try (conv => whnf)
        · have e1 : stepsO k (some (.node p a b)) = ⟨p.len, p.bits, a.hash⟩ :: stepsO k (some b) := by simp only [stepsO, stepsT, if_pos hh, if_pos h]
          have e2 : lastO k (some (.node p a b)) = lastO k (some b) := by simp only [lastO, lastT, if_pos hh, if_pos h]
          rw [e1] at h2
          rw [e2] at h3
          refine CallS.mk (c := nodeHashO_c) ((l, x, a.hash)) ?_
          repeat' (first | (with_reducible refine Unf.h ?_) | ((conv => whnf); first | (refine Side.mk ?_ ?_; focus (first | with_reducible rfl | assumption)) | refine Got.mk (fun _ _ => ?_)) | fail); all_goals try (conv => whnf)
          refine ⟨[⟨p.len, p.bits, a.hash⟩], rfl, ?_⟩
          repeat' (first | (with_reducible first | refine Unf.h ?_ | refine loopK_n ?_) | ((conv => whnf); (refine Side.mk ?_ ?_; focus ((intros; (try simp only [lenS, inR, cutS, loI, hiI] at *); omega)))) | fail); all_goals try (conv => whnf)
          refine ⟨(some b, y, S ++ [⟨p.len, p.bits, a.hash⟩]), ⟨?_, hb, by rw [← h2]; simp, h3, ?_⟩, ?_⟩
          · show b.depth < max a.depth b.depth + 1; omega
          · have : S.length + (max a.depth b.depth + 1) ≤ depthO o := h4
            show (S ++ [_]).length + b.depth ≤ _
            rw [List.length_append, List.length_cons, List.length_nil]; omega
          repeat' (first | (with_reducible refine Unf.h ?_) | ((conv => whnf); first | (refine Side.mk ?_ ?_; focus (with_reducible rfl)) | (with_reducible refine Unf.h ?_) | exact True.intro) | fail); all_goals try (conv => whnf)
        · have e1 : stepsO k (some (.node p a b)) = ⟨p.len, p.bits, b.hash⟩ :: stepsO k (some a) := by simp only [stepsO, stepsT, if_pos hh, if_neg h]
          have e2 : lastO k (some (.node p a b)) = lastO k (some a) := by simp only [lastO, lastT, if_pos hh, if_neg h]
          rw [e1] at h2
          rw [e2] at h3
          refine CallS.mk (c := nodeHashO_c) ((l, y, b.hash)) ?_
          repeat' (first | (with_reducible refine Unf.h ?_) | ((conv => whnf); first | (refine Side.mk ?_ ?_; focus (first | with_reducible rfl | assumption)) | refine Got.mk (fun _ _ => ?_)) | fail); all_goals try (conv => whnf)
          refine ⟨[⟨p.len, p.bits, b.hash⟩], rfl, ?_⟩
          repeat' (first | (with_reducible first | refine Unf.h ?_ | refine loopK_n ?_) | ((conv => whnf); (refine Side.mk ?_ ?_; focus ((intros; (try simp only [lenS, inR, cutS, loI, hiI] at *); omega)))) | fail); all_goals try (conv => whnf)
          refine ⟨(some a, x, S ++ [⟨p.len, p.bits, b.hash⟩]), ⟨?_, ha, by rw [← h2]; simp, h3, ?_⟩, ?_⟩
          · show a.depth < max a.depth b.depth + 1; omega
          · have : S.length + (max a.depth b.depth + 1) ≤ depthO o := h4
            show (S ++ [_]).length + a.depth ≤ _
            rw [List.length_append, List.length_cons, List.length_nil]; omega
          repeat' (first | (with_reducible refine Unf.h ?_) | ((conv => whnf); first | (refine Side.mk ?_ ?_; focus (with_reducible rfl)) | (with_reducible refine Unf.h ?_) | exact True.intro) | fail); all_goals try (conv => whnf)
end Go.Proofs.YtdflndjlnkoliaaGreatDoor

namespace Go.Proofs.YtdflndjlnkoliaaGreatDoor
set_option linter.all false
open Go.RowKit
theorem built_ext (qs : List KV) : ∀ (n : Nat) (rs : List KV), rs.length = n → ∃ m, (builtF (qs ++ rs)).1 = (builtF qs).1 ++ m
  | 0, rs, h => by
    obtain rfl := List.eq_nil_of_length_eq_zero h
    exact ⟨[], by simp⟩
  | n + 1, rs, h => by
    have hne : rs ≠ [] := fun e => by subst e; cases h
    obtain ⟨ss, p, rfl⟩ : ∃ ss p, rs = ss ++ [p] := ⟨rs.dropLast, rs.getLast hne, (List.dropLast_concat_getLast hne).symm⟩
    obtain ⟨m, hm⟩ := built_ext qs n ss (by simpa using h)
    have hb := builtOk (qs ++ ss)
    obtain ⟨_, ⟨m2, h2⟩, _, _⟩ := put_ok' (k := p.1) (v := p.2) hb.closed (treeAt_is hb.tree)
    refine ⟨m ++ m2, ?_⟩
    rw [← List.append_assoc, builtF_snoc, h2, hm, List.append_assoc]
theorem built_old (ps : List KV) (j : Nat) : treeAt (builtF ps).1 (builtF (ps.take j)).2 (treesF (ps.take j)) := by
  obtain ⟨m, hm⟩ := built_ext (ps.take j) _ (ps.drop j) rfl
  rw [List.take_append_drop] at hm
  rw [hm]
  exact treeAt_app (builtOk (ps.take j)).tree
theorem treesD {es : List (List Nws)} {e : Nat} : treeAt (builtF (kvs es)).1 (builtF (kvs (es.take e))).2 (treesF (kvs (es.take e))) := by
  have e1 : kvs (es.take e) = (kvs es).take (kvs (es.take e)).length := by
    conv => rhs; rw [show kvs es = kvs (es.take e) ++ kvs (es.drop e) by rw [kvs, kvs, kvs, ← List.map_append, ← List.flatten_append, List.take_append_drop]]
    simp
  have := built_old (kvs es) (kvs (es.take e)).length
  rwa [← e1] at this
theorem upto_app (l m : List Ver) (e : Int) (hl : ∀ v ∈ l, v.ep ≤ e) (hm : ∀ v ∈ m, ¬ v.ep ≤ e) : uptoL (l ++ m) e = l := by
  unfold uptoL
  induction l with
  | nil =>
    cases m with
    | nil => rfl
    | cons v r => simp [List.takeWhile_cons, hm v (by simp)]
  | cons v r ih =>
    have := hl v (by simp)
    rw [List.cons_append, List.takeWhile_cons, if_pos (by simpa using this), ih (fun w hw => hl w (by simp [hw]))]
theorem chR_split (es : List (List Nws)) (x : Bs) (e : Nat) : chR es x = chR (es.take e) x ++ chR (es.drop e) x := by
  unfold chR
  rw [← List.filterMap_append, ← List.flatten_append, List.take_append_drop]
theorem chR_eps {es : List (List Nws)} {x : Bs} {v : Ver} (h : v ∈ chR es x) : ∃ i, ∃ hi : i < es.length, ∃ p ∈ es[i], p.2 = v := by
  obtain ⟨n, hn, p, hp, e⟩ := chR_mem h
  obtain ⟨i, hi, rfl⟩ := List.mem_iff_getElem.1 hn
  exact ⟨i, hi, p, hp, e⟩
theorem upto_chR {es : List (List Nws)} (h : StOk es) (x : Bs) (e : Nat) : uptoL (chR es x) (e : Int) = chR (es.take e) x := by
  rw [chR_split es x e]
  refine upto_app _ _ _ (fun v hv => ?_) (fun v hv => ?_)
  · obtain ⟨i, hi, p, hp, rfl⟩ := chR_eps hv
    rw [List.length_take] at hi
    rw [List.getElem_take] at hp
    have := h.ep i (by omega) p hp
    omega
  · obtain ⟨i, hi, p, hp, rfl⟩ := chR_eps hv
    rw [List.length_drop] at hi
    rw [List.getElem_drop] at hp
    have := h.ep (e + i) (by omega) p hp
    omega
abbrev zShw : List SV := [.arr8 zeroH, .nils, .int .i64 0, .arr8 zeroH, .arr8 zeroH, .int .i64 0, .arr8 zeroH, .arr8 zeroH, .arr8 zeroH, .nils]
def eshowX_c : Ctr where
  D := DirE × Bs × Int
  pre := fun ((_, es), x, e) => ¬ (1 ≤ x.length ∧ x.length ≤ 32 ∧ 1 ≤ e ∧ e ≤ (es.length : Int))
  args := fun (_, x, e) => [.ptr 0 0, .fs 1 eB x, .int .i64 e]
  objs := fun ((s, es), _, _) => stE s es
  nn := 6
  E := Int
  post := fun _ k => k ≠ 0
  res := fun _ k => .tup [.agg zShw, .int .i64 k]
  out := fun ((s, es), _, _) _ => stE s es
def eshowX_H : Cfg := ⟨[(59, ehas_c), (60, showO_c), (61, ckey_c), (42, chOf_c), (62, cupto_c)], [(8, [3, 5], [7, 8, 12, 13], (.one 0 0 false (.one 1 0 false (.one 2 0 false (.one 3 1 false (.one 4 0 false (.one 5 1 false (.one 6 0 false (.alt 7 true (.alt 8 true (.one 9 0 false (.one 10 0 false (.one 11 0 false (.one 12 2 true (.one 13 2 false (.one 14 0 false .nil)))))) (.one 12 2 true (.one 8 2 false (.one 9 0 false (.one 10 0 false (.one 11 0 false (.one 13 2 false (.one 14 0 false .nil)))))))) (.one 12 2 true (.one 7 2 true (.one 8 2 false (.one 9 0 false (.one 10 0 false (.one 11 0 false (.one 13 2 false (.one 14 0 false .nil)))))))))))))))), [1000000]), (11, [1, 2], [5, 7, 9], (.one 0 0 false (.one 1 1 false (.one 2 1 false (.one 3 0 false (.one 4 0 false (.one 6 0 false (.one 5 2 true (.one 7 2 true (.one 8 0 false (.one 9 2 false (.one 10 0 false .nil))))))))))), [1000000])], [], [], 60, 6, [], [8], []⟩
theorem eshowX_ok : eshowX_c.Ok Tryz.prog 20 := by
  refine fn_ok eshowX_H 6 rfl _ Tryz.func20 rfl rfl ⟨ehas_ok, showO_ok, ckey_ok, chOf_ok, cupto_ok, trivial⟩ rfl rfl (by kernel_rfl) (fun _ => Nat.le_of_ble_eq_true rfl) ?_
  rintro ⟨⟨s, es⟩, x, e⟩ hp hr
  try dsimp only [eshowX_c] at hp
  try simp only [eshowX_c, Rng, RngL, inR, and_true, true_and] at hr
  have hp : ¬ (1 ≤ x.length ∧ x.length ≤ 32 ∧ 1 ≤ e ∧ e ≤ (es.length : Int)) := hp
  by_cases hx : 1 ≤ x.length ∧ x.length ≤ 32
  · repeat' (first | (with_reducible refine Unf.h ?_) | ((conv => whnf); refine Fork.mk (fun h => ?_) (fun h => ?_)) | fail); all_goals try (conv => whnf); all_goals try (exfalso; omega)
    refine CallS.mk (c := ehas_c) (((s, es), e)) ?_
    repeat' (first | (with_reducible refine Unf.h ?_) | ((conv => whnf); first | refine Fork.mkn (fun h => ?_) (fun h => ?_) | (refine Side.mk ?_ ?_; focus (first | with_reducible rfl | exact True.intro)) | refine Got.mk (fun _ _ => ?_) | refine retK_r ?_) | fail); all_goals try (conv => whnf); all_goals try (exfalso; omega)
    refine RetE.mk (c := eshowX_c) (4 : Int) (by show (4 : Int) ≠ 0; decide) ?_
    repeat' (first | (with_reducible refine Unf.h ?_) | ((conv => whnf); first | (refine Side.mk ?_ ?_; focus (with_reducible rfl)) | (with_reducible refine Unf.h ?_) | exact rfl) | fail); all_goals try (conv => whnf); all_goals try (exfalso; omega)
  · repeat' (first | (with_reducible refine Unf.h ?_) | ((conv => whnf); first | refine Fork.mk (fun h => ?_) (fun h => ?_) | refine retK_r ?_) | fail); all_goals try (conv => whnf); all_goals try (exfalso; omega)
    all_goals
      refine RetE.mk (c := eshowX_c) (1 : Int) (by show (1 : Int) ≠ 0; decide) ?_
      repeat' (first | (with_reducible refine Unf.h ?_) | ((conv => whnf); first | (refine Side.mk ?_ ?_; focus (with_reducible rfl)) | (with_reducible refine Unf.h ?_) | exact rfl) | fail); all_goals try (conv => whnf); all_goals try (exfalso; omega)
def shwV (es : List (List Nws)) (x : Bs) (e : Nat) : List SV := .arr8 (rootD es e) :: (ePrf (showP (keyL x) (treesF (kvs (es.take e)))) ++ [.fs 67 eVr (chR (es.take e) x)])
def eshow_c : Ctr where
  D := DirE × Bs × Nat
  pre := fun ((_, es), x, e) => StOk es ∧ (1 ≤ x.length ∧ x.length ≤ 32) ∧ e < es.length
  args := fun (_, x, e) => [.ptr 0 0, .fs 1 eB x, .int .i64 ((e : Int) + 1)]
  objs := fun ((s, es), _, _) => stE s es
  nn := 6
  res := fun ((_, es), x, e) _ => .tup [.agg (shwV es x (e + 1)), .int .i64 0]
  out := fun ((s, es), _, _) _ => stE s es
def eshow_H : Cfg := ⟨[(59, ehas_c), (60, showO_c), (61, ckey_c), (42, chOf_c), (62, cupto_c)], [(8, [5], [3, 7, 8, 12, 13], (.one 0 0 false (.one 1 0 false (.one 2 0 false (.one 4 0 false (.one 5 1 false (.one 6 0 false (.alt 3 true (.alt 7 true (.alt 8 true (.one 9 0 false (.one 10 0 false (.one 11 0 false (.one 12 2 true (.one 13 2 false (.one 14 0 false .nil)))))) (.one 12 2 true (.one 8 2 false (.one 9 0 false (.one 10 0 false (.one 11 0 false (.one 13 2 false (.one 14 0 false .nil)))))))) (.one 12 2 true (.one 7 2 true (.one 8 2 false (.one 9 0 false (.one 10 0 false (.one 11 0 false (.one 13 2 false (.one 14 0 false .nil))))))))) (.alt 7 true (.alt 3 true (.alt 8 true (.one 9 0 false (.one 10 0 false (.one 11 0 false (.one 12 2 true (.one 13 2 false (.one 14 0 false .nil)))))) (.one 12 2 true (.one 8 2 false (.one 9 0 false (.one 10 0 false (.one 11 0 false (.one 13 2 false (.one 14 0 false .nil)))))))) (.one 12 2 true (.one 3 2 true (.one 8 2 false (.one 9 0 false (.one 10 0 false (.one 11 0 false (.one 13 2 false (.one 14 0 false .nil))))))))) (.one 12 2 true (.alt 3 true (.one 7 2 true (.one 8 2 false (.one 9 0 false (.one 10 0 false (.one 11 0 false (.one 13 2 false (.one 14 0 false .nil))))))) (.one 7 2 true (.one 3 2 true (.one 8 2 false (.one 9 0 false (.one 10 0 false (.one 11 0 false (.one 13 2 false (.one 14 0 false .nil)))))))))))))))))), [2000000]), (11, [1], [2, 5, 7, 9], (.one 0 0 false (.one 1 1 false (.one 3 0 false (.one 4 0 false (.one 6 0 false (.alt 2 true (.one 5 2 true (.one 7 2 true (.one 8 0 false (.one 9 2 false (.one 10 0 false .nil))))) (.one 5 2 true (.alt 2 true (.one 7 2 true (.one 8 0 false (.one 9 2 false (.one 10 0 false .nil)))) (.one 7 2 true (.one 2 2 true (.one 8 0 false (.one 9 2 false (.one 10 0 false .nil))))))))))))), [1000000])], [], [], 60, 6, [], [8], []⟩
theorem eshow_ok : eshow_c.Ok Tryz.prog 20 := by
  refine fn_ok eshow_H 6 rfl _ Tryz.func20 rfl rfl ⟨ehas_ok, showO_ok, ckey_ok, chOf_ok, cupto_ok, trivial⟩ rfl rfl (by kernel_rfl) (fun _ => Nat.le_of_ble_eq_true rfl) ?_
  rintro ⟨⟨s, es⟩, x, e⟩ hp hr
  try dsimp only [eshow_c] at hp
  try simp only [eshow_c, Rng, RngL, inR, and_true, true_and] at hr
  obtain ⟨hp1, ⟨hx1, hx2⟩, hp3⟩ := hp
  have hx1 : 1 ≤ x.length := hx1
  have hx2 : x.length ≤ 32 := hx2
  have hp3 : e < es.length := hp3
  have hl := slds_len es
  have hd := (builtOk (kvs (es.take (e + 1)))).depth
  have hk := kvs_few hp1 (e + 1)
  have hch := hp1.chain x
  have hcl := hp1.chainLen x
  have hup : uptoL (chR es x) ((e : Int) + 1) = chR (es.take (e + 1)) x := upto_chR hp1 x (e + 1)
  have hrt : ∀ h, ((slds es)[(((e : Int) + 1) - 1).toNat]'h).root = rootD es (e + 1) := fun h => by
    have e1 : (((e : Int) + 1) - 1).toNat = e := by omega
    simp only [e1]
    exact slds_root (by omega)
  have htr : ∀ h, ((slds es)[(((e : Int) + 1) - 1).toNat]'h).tree = (builtF (kvs (es.take (e + 1)))).2 := fun h => by
    have e1 : (((e : Int) + 1) - 1).toNat = e := by omega
    simp only [e1]
    rw [slds_get]; rfl
  have hqs : showO_c.pre ((builtF (kvs es)).1, (builtF (kvs (es.take (e + 1)))).2, keyL x, treesF (kvs (es.take (e + 1)))) := ⟨treesD, by omega⟩
  have hqk : ckey_c.pre x := by show x.length ≤ 1000000; omega
  have hqc : chOf_c.pre (s, peo es, x) := by show x.length ≤ 1000000; omega
  have hqu : cupto_c.pre (chR es x, (e : Int) + 1) := by show (chR es x).length ≤ 100000; omega
  repeat' (first | (with_reducible refine Unf.h ?_) | ((conv => whnf); refine Fork.mk (fun h => ?_) (fun h => ?_)) | fail); all_goals try (conv => whnf); all_goals try (exfalso; omega)
  refine CallS.mk (c := ehas_c) (((s, es), (e : Int) + 1)) ?_
  repeat' (first | (with_reducible refine Unf.h ?_) | ((conv => whnf); first | refine Fork.mkn (fun h => ?_) (fun h => ?_) | (refine Side.mk ?_ ?_; focus (first | with_reducible rfl | exact True.intro | omega | (intros; (try simp only [lenS, inR, cutS, loI, hiI] at *); omega))) | (refine Idx.mk ?_ ?_; focus (omega)) | refine Got.mk (fun _ _ => ?_)) | fail); all_goals try (conv => whnf); all_goals try (exfalso; omega)
  refine CutS.mk (I := Unit) (fun _ => True) (fun _ => [(6, .ptr 6 0), (10, .int .i64 0), (9, .ptr 8 0), (8, .ptr 7 0), (0, .ptr 0 0), (1, .fs 1 eB x), (2, .int .i64 ((e : Int) + 1))]) (fun _ => stE s es ++ [(6, .box 63 zShw), (7, .box 143 (eSl ((slds es)[((e : Int) + 1 - 1).toNat]'(by omega)))), (8, .box 60 (ePrf (showP (keyL x) (treesF (kvs (es.take (e + 1)))))))]) 9 ?_ ?_
  · repeat' (first | (with_reducible refine Unf.h ?_) | ((conv => whnf); first | refine Both.mk ?_ ?_ | refine Both.mk ?_ ?_) | fail); all_goals try (conv => whnf); all_goals try (exfalso; omega)
    all_goals
      refine CallS.mk (c := ckey_c) (x) ?_
      repeat' (first | (with_reducible refine Unf.h ?_) | ((conv => whnf); first | refine Both.mk ?_ ?_ | refine Both.mk ?_ ?_ | (refine Side.mk ?_ ?_; focus (first | with_reducible rfl | assumption)) | refine Got.mk (fun _ _ => ?_)) | fail); all_goals try (conv => whnf); all_goals try (exfalso; omega)
    all_goals
      rw [htr]
      refine CallS.mk (c := showO_c) (((builtF (kvs es)).1, (builtF (kvs (es.take (e + 1)))).2, keyL x, treesF (kvs (es.take (e + 1))))) ?_
      repeat' (first | (with_reducible first | refine Unf.h ?_ | refine cutK_n ?_) | ((conv => whnf); first | (refine Side.mk ?_ ?_; focus (first | with_reducible rfl | assumption)) | refine Got.mk (fun _ _ => ?_)) | fail); all_goals try (conv => whnf); all_goals try (exfalso; omega)
    all_goals
      refine ⟨(), trivial, ?_⟩
      repeat' (first | (with_reducible refine Unf.h ?_) | ((conv => whnf); first | (refine Side.mk ?_ ?_; focus (first | with_reducible rfl | (simp only [*]; done))) | (with_reducible refine Unf.h ?_) | exact True.intro) | fail); all_goals try (conv => whnf); all_goals try (exfalso; omega)
  · intro _ _
    repeat' (first | (with_reducible refine Unf.h ?_) | ((conv => whnf); first | refine Both.mk ?_ ?_ | refine Both.mk ?_ ?_ | refine Fork.mkn (fun h => ?_) (fun h => ?_)) | fail); all_goals try (conv => whnf); all_goals try (exfalso; omega)
    all_goals
      refine CallS.mk (c := chOf_c) ((s, peo es, x)) ?_
      repeat' (first | (with_reducible refine Unf.h ?_) | ((conv => whnf); first | refine Both.mk ?_ ?_ | refine Both.mk ?_ ?_ | (refine Side.mk ?_ ?_; focus (first | with_reducible rfl | assumption)) | refine Got.mk (fun _ _ => ?_)) | fail); all_goals try (conv => whnf); all_goals try (exfalso; omega)
    all_goals
      rw [hch]
      refine CallS.mk (c := cupto_c) ((chR es x, (e : Int) + 1)) ?_
      repeat' (first | (with_reducible refine Unf.h ?_) | ((conv => whnf); first | (refine Side.mk ?_ ?_; focus (first | with_reducible rfl | assumption | (simp only [*]; done))) | refine RetE.mk () trivial ?_ | refine Got.mk (fun _ _ => ?_) | refine retK_r ?_ | exact rfl) | fail); all_goals try (conv => whnf); all_goals try (exfalso; omega)
end Go.Proofs.YtdflndjlnkoliaaGreatDoor

namespace Go.Proofs.YtdflndjlnkoliaaGreatDoor
set_option linter.all false
open Go.RowKit
def rfits_c : Ctr where
  D := H256 × List (List Nws) × List Nws
  pre := fun (_, es, n) => StOk es ∧ n.length ≤ 1000 ∧ ∀ p ∈ n, p.1.length ≤ 100000 ∧ p.2.val.length ≤ 100000
  args := fun (s, es, n) => [rSt s es, .fs 68 eNw n]
  res := fun (_, es, n) _ => .dec (growOk (peo es) ((es.length : Int) + 1) n) inferInstance
def rfits_H : Cfg := ⟨[(73, same_c), (38, rchain_c), (82, rform14_c)], [(7, [4, 9], [10], (.one 0 0 false (.one 1 0 false (.one 2 0 false (.one 3 0 false (.one 4 1 false (.one 5 0 false (.one 6 0 false (.one 7 0 false (.one 8 0 false (.one 9 1 false (.one 10 2 false .nil))))))))))), []), (9, [5, 9], [11], (.one 0 0 false (.one 1 0 false (.one 2 0 false (.one 3 0 false (.one 4 0 false (.one 5 1 false (.one 6 0 false (.one 7 0 false (.one 8 0 false (.one 9 1 false (.one 10 0 false (.one 11 2 false (.one 12 0 false .nil))))))))))))), []), (11, [5, 9, 18], [20], (.one 0 0 false (.one 1 0 false (.one 2 0 false (.one 3 0 false (.one 4 0 false (.one 5 1 false (.one 6 0 false (.one 7 0 false (.one 8 0 false (.one 9 1 false (.one 10 0 false (.one 11 0 false (.one 12 0 false (.one 13 0 false (.one 14 0 false (.one 15 0 false (.one 16 0 false (.one 17 0 false (.one 18 1 false (.one 19 0 false (.one 20 2 false (.one 21 0 false (.one 22 0 false .nil))))))))))))))))))))))), [])], [], [], 73, 0, [], [], []⟩
theorem rfits_ok : rfits_c.Ok Tryz.prog 39 := by
  refine fn_ok rfits_H 0 rfl _ Tryz.func39 rfl rfl ⟨same_ok, rchain_ok, rform14_ok, trivial⟩ rfl rfl (by kernel_rfl) (fun _ => Nat.le_of_ble_eq_true rfl) ?_
  rintro ⟨s, es, n⟩ hp hr
  try dsimp only [rfits_c] at hp
  try simp only [rfits_c, Rng, RngL, inR, and_true, true_and] at hr
  obtain ⟨hst, hp1, hp2⟩ := hp
  have hp1 : n.length ≤ 1000 := hp1
  have hesl := hst.len
  repeat' (first | (with_reducible refine Unf.h ?_) | fail); all_goals try (conv => whnf); all_goals try (exfalso; omega)
  refine LoopS.autoN (I := Nat) (fun i => i ≤ n.length ∧ growOk (peo es) ((es.length : Int) + 1) (n.take i)) (fun i => [(5, .int .i64 (i : Int))]) (fun _ => []) 0 (fun i => n.length - i) 0 ⟨Nat.zero_le _, by constructor <;> simp⟩ ?_ ?_
  · repeat' (first | (with_reducible refine Unf.h ?_) | ((conv => whnf); first | (refine Side.mk ?_ ?_; focus (first | with_reducible rfl | (refine congrArg (SV.int _) ?_; omega))) | (with_reducible refine Unf.h ?_) | exact True.intro) | fail); all_goals try (conv => whnf); all_goals try (exfalso; omega)
  · rintro i ⟨hi, hg⟩
    have hi : i ≤ n.length := hi
    by_cases hil : i < n.length
    · obtain ⟨hpl, hpv⟩ := hp2 (n[((i : Nat) : Int).toNat]'hil) (List.getElem_mem _)
      have ets : n.take (i + 1) = n.take i ++ [(n[((i : Nat) : Int).toNat]'hil)] := List.take_succ_eq_append_getElem hil
      have hgs := growOk_snoc (ps := peo es) (e := (es.length : Int) + 1) (n := n.take i) (p := (n[((i : Nat) : Int).toNat]'hil))
      rw [← ets, hst.chain] at hgs
      repeat' (first | (with_reducible refine Unf.h ?_) | ((conv => whnf); refine Fork.mk (fun h => ?_) (fun h => ?_)) | fail); all_goals try (conv => whnf); all_goals try (exfalso; omega)
      refine LoopS.autoN (I := Nat) (fun k => k ≤ i ∧ ∀ j, ∀ h : j < k, ∀ h2 : j < n.length, ¬ (n[j]'h2).1 = (n[((i : Nat) : Int).toNat]'hil).1) (fun k => [(6, .int .i64 (k : Int))]) (fun _ => []) 0 (fun k => i - k) 0 ⟨Nat.zero_le _, fun j h => absurd h (by omega)⟩ ?_ ?_
      · repeat' (first | (with_reducible refine Unf.h ?_) | ((conv => whnf); first | (refine Side.mk ?_ ?_; focus (first | with_reducible rfl | (refine congrArg (SV.int _) ?_; omega))) | (with_reducible refine Unf.h ?_) | exact True.intro) | fail); all_goals try (conv => whnf); all_goals try (exfalso; omega)
      · rintro k ⟨hk, hkk⟩
        have hk : k ≤ i := hk
        by_cases hki : k < i
        · have hkn : k < n.length := by omega
          repeat' (first | (with_reducible refine Unf.h ?_) | ((conv => whnf); first | refine Fork.mk (fun h => ?_) (fun h => ?_) | (refine Idx.mk ?_ ?_; focus (omega))) | fail); all_goals try (conv => whnf); all_goals try (exfalso; omega)
          refine CallS.mk (c := same_c) (((n[((i : Nat) : Int).toNat]'hil).1, (n[((k : Nat) : Int).toNat]'hkn).1)) ?_
          repeat' (first | (with_reducible first | refine Unf.h ?_ | refine loopK_n ?_) | ((conv => whnf); first | refine Fork.mk (fun h => ?_) (fun h => ?_) | (refine Side.mk ?_ ?_; focus (first | with_reducible rfl | exact True.intro | (intros; (try simp only [lenS, inR, cutS, loI, hiI] at *); omega))) | refine RetE.mk () trivial ?_ | refine Got.mk (fun _ _ => ?_) | refine retK_r ?_) | fail); all_goals try (conv => whnf); all_goals try (exfalso; omega)
          · have hng : ¬ growOk (peo es) ((es.length : Int) + 1) n := fun hF => by
              have h1 := hF.1
              have h2 := (List.nodup_iff_pairwise_ne.1 h1)
              have h3 := List.pairwise_iff_getElem.1 h2 k i (by simpa using hkn) (by simpa using hil) hki
              simp only [List.getElem_map] at h3
              have h4 : (n[((i : Nat) : Int).toNat]'hil).1 = (n[((k : Nat) : Int).toNat]'hkn).1 := by assumption
              exact h3 h4.symm
            refine Side.mk (iffF hng) ?_
            repeat' (first | (with_reducible refine Unf.h ?_) | ((conv => whnf); exact rfl) | fail); all_goals try (conv => whnf); all_goals try (exfalso; omega)
          · refine ⟨k + 1, ⟨by omega, by omega, fun j h h2 => ?_⟩, ?_⟩
            · rcases Nat.lt_or_ge j k with h' | h'
              · exact hkk j h' h2
              · obtain rfl : j = k := by omega
                have h4 : ¬ (n[((i : Nat) : Int).toNat]'hil).1 = (n[((j : Nat) : Int).toNat]'hkn).1 := by assumption
                exact fun e => h4 e.symm
            · repeat' (first | (with_reducible refine Unf.h ?_) | ((conv => whnf); first | (refine Side.mk ?_ ?_; focus (first | with_reducible rfl | (refine congrArg (SV.int _) ?_; omega))) | (with_reducible refine Unf.h ?_) | exact True.intro) | fail); all_goals try (conv => whnf); all_goals try (exfalso; omega)
        · have hcnt : ((n.take (i + 1)).map Prod.fst).count (n[((i : Nat) : Int).toNat]'hil).1 ≤ 1 := by
            rw [ets, List.map_append, List.count_append]
            have h0 : ((n.take i).map Prod.fst).count (n[((i : Nat) : Int).toNat]'hil).1 = 0 := List.count_eq_zero.2 fun hm => by
              obtain ⟨q, hq, he⟩ := List.mem_map.1 hm
              obtain ⟨j, hj, rfl⟩ := List.mem_iff_getElem.1 hq
              rw [List.length_take] at hj
              rw [List.getElem_take] at he
              exact hkk j (by omega) (by omega) he
            rw [h0]; simp
          have hrd := hst.rd
          have hpc : rchain_c.pre (s, es, (n[((i : Nat) : Int).toNat]'hil).1, es.length) := hrd
          have hcl := hrd.ch (n[((i : Nat) : Int).toNat]'hil).1 es.length
          have etl : es.take es.length = es := List.take_length
          have hpf : rform14_c.pre ((n[((i : Nat) : Int).toNat]'hil).1, chR (es.take es.length) (n[((i : Nat) : Int).toNat]'hil).1 ++ [(n[((i : Nat) : Int).toNat]'hil).2]) := ⟨by show (n[((i : Nat) : Int).toNat]'hil).1.length ≤ 1000000; omega, by show (chR (es.take es.length) (n[((i : Nat) : Int).toNat]'hil).1 ++ [(n[((i : Nat) : Int).toNat]'hil).2]).length ≤ 100000; simp only [List.length_append, List.length_singleton]; omega⟩
          repeat' (first | (with_reducible refine Unf.h ?_) | ((conv => whnf); first | refine Fork.mk (fun h => ?_) (fun h => ?_) | (refine Idx.mk ?_ ?_; focus (omega))) | fail); all_goals try (conv => whnf); all_goals try (exfalso; omega)
          have hgs2 : growOk (peo es) ((es.length : Int) + 1) (n.take (i + 1)) ↔ growOk (peo es) ((es.length : Int) + 1) (n.take i) ∧ ((n.take (i + 1)).map Prod.fst).count (n[((i : Nat) : Int).toNat]'hil).1 ≤ 1 ∧ (n[((i : Nat) : Int).toNat]'hil).2.ep = (es.length : Int) + 1 ∧ formedC cmL zeroH (n[((i : Nat) : Int).toNat]'hil).1 (chR (es.take es.length) (n[((i : Nat) : Int).toNat]'hil).1 ++ [(n[((i : Nat) : Int).toNat]'hil).2]) := by rw [etl]; exact hgs
          refine CallS.mk (c := rchain_c) ((s, es, (n[((i : Nat) : Int).toNat]'hil).1, es.length)) ?_
          repeat' (first | (with_reducible refine Unf.h ?_) | ((conv => whnf); first | refine Fork.mkn (fun h => ?_) (fun h => ?_) | (refine Side.mk ?_ ?_; focus (first | with_reducible rfl | assumption | (intros; (try simp only [lenS, inR, cutS, loI, hiI] at *); omega))) | (refine Idx.mk ?_ ?_; focus (omega)) | refine RetE.mk () trivial ?_ | refine Got.mk (fun _ _ => ?_) | refine Ex.mk [_] rfl ?_ | refine retK_r ?_) | fail); all_goals try (conv => whnf); all_goals try (exfalso; omega)
          · refine Side.mk (iffF fun hF => ?_) ?_
            · have h3 := (hgs2.1 (growOk_take hF _)).2.2.1
              exact absurd h3 (by assumption)
            · repeat' (first | (with_reducible refine Unf.h ?_) | ((conv => whnf); exact rfl) | fail); all_goals try (conv => whnf); all_goals try (exfalso; omega)
          refine CallS.mk (c := rform14_c) (((n[((i : Nat) : Int).toNat]'hil).1, chR (es.take es.length) (n[((i : Nat) : Int).toNat]'hil).1 ++ [(n[((i : Nat) : Int).toNat]'hil).2])) ?_
          repeat' (first | (with_reducible first | refine Unf.h ?_ | refine loopK_n ?_) | ((conv => whnf); first | refine Fork.mkn (fun h => ?_) (fun h => ?_) | (refine Side.mk ?_ ?_; focus (first | with_reducible rfl | assumption | (intros; (try simp only [lenS, inR, cutS, loI, hiI] at *); omega))) | refine RetE.mk () trivial ?_ | refine Got.mk (fun _ _ => ?_) | refine retK_r ?_) | fail); all_goals try (conv => whnf); all_goals try (exfalso; omega)
          · refine Side.mk (iffF fun hF => ?_) ?_
            · have h3 := (hgs2.1 (growOk_take hF _)).2.2.2
              exact absurd h3 (by assumption)
            · repeat' (first | (with_reducible refine Unf.h ?_) | ((conv => whnf); exact rfl) | fail); all_goals try (conv => whnf); all_goals try (exfalso; omega)
          refine ⟨i + 1, ⟨by omega, by omega, hgs2.2 ⟨hg, hcnt, by assumption, by assumption⟩⟩, ?_⟩
          repeat' (first | (with_reducible refine Unf.h ?_) | ((conv => whnf); first | (refine Side.mk ?_ ?_; focus (first | with_reducible rfl | (refine congrArg (SV.int _) ?_; omega))) | (with_reducible refine Unf.h ?_) | exact True.intro) | fail); all_goals try (conv => whnf); all_goals try (exfalso; omega)
    · have e0 : n.take i = n := List.take_of_length_le (by omega)
      rw [e0] at hg
      repeat' (first | (with_reducible refine Unf.h ?_) | ((conv => whnf); first | refine Fork.mk (fun h => ?_) (fun h => ?_) | (refine Side.mk ?_ ?_; focus ((refine ⟨fun h => ?_, fun h => ?_⟩ <;> first | rfl | (cases h; done) | omega | (exfalso; omega) | (simp only [Bool.false_eq_true] at h; done)))) | refine RetE.mk () trivial ?_ | refine retK_r ?_ | exact rfl) | fail); all_goals try (conv => whnf); all_goals try (exfalso; omega)
end Go.Proofs.YtdflndjlnkoliaaGreatDoor

namespace Go.Proofs.YtdflndjlnkoliaaGreatDoor
set_option linter.all false
open Go.RowKit
def rseal_c : Ctr where
  D := H256 × List (List Nws) × List (Bs × Bs)
  pre := fun (_, es, us) => StOk es ∧ es.length < 20 ∧ us.length ≤ 100000 ∧ ∀ u ∈ us, u.1.length ≤ 10000 ∧ u.2.length ≤ 10000
  args := fun (s, es, us) => [rSt s es, .fs 2 eUp us]
  res := fun (s, es, us) _ => .tup [rSt s (sealF s es us).1, .int .i64 (sealF s es us).2]
def rseal_H : Cfg := ⟨[(38, rchain_c), (37, rgrow14_c), (39, rfits_c), (40, rwith19_c)], [(8, [3, 5, 8, 12, 18, 22], [14, 23], (.one 0 0 false (.one 1 0 false (.one 2 0 false (.one 3 1 false (.one 4 0 false (.one 5 1 false (.one 6 0 false (.one 7 0 false (.one 8 1 false (.one 9 0 false (.one 10 0 false (.one 11 0 false (.one 12 1 false (.one 13 0 false (.one 15 0 false (.one 16 0 false (.one 17 0 false (.one 18 1 false (.one 19 0 false (.one 20 0 false (.one 21 0 false (.one 22 1 false (.one 14 2 true (.one 23 2 false (.one 24 0 false (.one 25 0 false (.one 26 0 false (.one 27 0 false (.one 28 0 false .nil))))))))))))))))))))))))))))), []), (11, [2, 8], [10, 11], (.one 0 0 false (.one 1 0 false (.one 2 1 false (.one 3 0 false (.one 4 0 false (.one 5 0 false (.one 6 0 false (.one 7 0 false (.one 8 1 false (.one 9 0 false (.one 10 2 false (.one 11 2 false (.one 12 0 false .nil))))))))))))), [])], [], [], 76, 0, [], [8], []⟩
set_option maxHeartbeats 4000000 in
theorem rseal_ok : rseal_c.Ok Tryz.prog 16 := by
  refine fn_ok rseal_H 0 rfl _ Tryz.func16 rfl rfl ⟨rchain_ok, rgrow14_ok, rfits_ok, rwith19_ok, trivial⟩ rfl rfl (by kernel_rfl) (fun _ => Nat.le_of_ble_eq_true rfl) ?_
  rintro ⟨s, es, us⟩ hp hr
  try dsimp only [rseal_c] at hp
  try simp only [rseal_c, Rng, RngL, inR, and_true, true_and] at hr
  obtain ⟨hst, hp1, hp2, hp3⟩ := hp
  have hp1 : es.length < 20 := hp1
  have hp2 : us.length ≤ 100000 := hp2
  have hrd := hst.rd
  rcases Nat.lt_or_ge 16 us.length with h16 | h16
  · have ef : sealF s es us = (es, 3) := if_pos h16
    repeat' (first | (with_reducible refine Unf.h ?_) | ((conv => whnf); first | refine Fork.mk (fun h => ?_) (fun h => ?_) | (refine Side.mk ?_ ?_; focus ((simp only [*, ef]; done))) | refine RetE.mk () trivial ?_ | refine retK_r ?_ | exact rfl) | fail); all_goals try (conv => whnf); all_goals try (exfalso; omega)
  · have efn : sealF s es us = if (∀ u ∈ us, okU es u) ∧ (us.map Prod.fst).Nodup then (es ++ [us.map (verN s es)], 0) else (es, 1) := if_neg (by omega)
    repeat' (first | (with_reducible refine Unf.h ?_) | ((conv => whnf); refine Fork.mk (fun h => ?_) (fun h => ?_)) | fail); all_goals try (conv => whnf); all_goals try (exfalso; omega)
    refine LoopS.mk (I := Nat) (fun i => i ≤ us.length ∧ ∀ u ∈ us.take i, okU es u) (fun i => [(7, .int .i64 (i : Int)), (6, .own 0), (0, rSt s es), (1, .fs 2 eUp us)]) (fun i => [(0, .row 109 68 eNw ((us.take i).map (verN s es)))]) 1 (fun i => us.length - i) 0 ⟨Nat.zero_le _, fun u hu => by simp at hu⟩ ?_ ?_
    · have e0 : (us.take 0).map (verN s es) = [] := rfl
      repeat' (first | (with_reducible refine Unf.h ?_) | ((conv => whnf); first | (refine Side.mk ?_ ?_; focus (first | with_reducible rfl | assumption | (refine congrArg (SV.int _) ?_; omega))) | (with_reducible refine Unf.h ?_) | exact True.intro) | fail); all_goals try (conv => whnf); all_goals try (exfalso; omega)
    · rintro i ⟨hi, hok⟩
      have hi : i ≤ us.length := hi
      by_cases hil : i < us.length
      · obtain ⟨u, hui⟩ : ∃ u, us[((i : Nat) : Int).toNat]'hil = u := ⟨_, rfl⟩
        have hui2 : us[i]'hil = u := hui
        have hum : u ∈ us := hui ▸ List.getElem_mem _
        obtain ⟨hul, huv⟩ := hp3 u hum
        have etl : es.take es.length = es := List.take_length
        have hcl := hst.chainLen u.1
        have hpg : rgrow14_c.pre (s, u.1, chR es u.1, (es.length : Int) + 1, u.2) := ⟨by show u.1.length ≤ 100000; omega, by show (chR es u.1).length ≤ 10000; omega, by show u.2.length ≤ 100000; omega, fun v hv => by
          obtain ⟨n, hn, p, hp, rfl⟩ := chR_mem hv
          have := (hst.lab n hn p hp).2
          omega⟩
        have hgd : growF s u.1 (chR es u.1) ((es.length : Int) + 1) u.2 = if okU es u then (chR es u.1 ++ [(verN s es u).2], 0) else ([], 1) := rfl
        have ets : (us.take (i + 1)).map (verN s es) = (us.take i).map (verN s es) ++ [verN s es u] := by
          rw [List.take_succ_eq_append_getElem hil, hui2, List.map_append]; rfl
        repeat' (first | (with_reducible refine Unf.h ?_) | ((conv => whnf); first | refine Fork.mk (fun h => ?_) (fun h => ?_) | (refine Idx.mk ?_ ?_; focus (omega))) | fail); all_goals try (conv => whnf); all_goals try (exfalso; omega)
        refine CutS.mk (I := Unit) (fun _ => True) (fun _ => [(9, .fs 67 eVr (growF s u.1 (chR es u.1) ((es.length : Int) + 1) u.2).1), (10, .int .i64 (growF s u.1 (chR es u.1) ((es.length : Int) + 1) u.2).2), (8, .ptr 1 0), (7, .int .i64 (i : Int)), (6, .own 0), (0, rSt s es), (1, .fs 2 eUp us)]) (fun _ => [(0, .row 109 68 eNw ((us.take i).map (verN s es))), (1, .box 80 (eUp u))]) 2 ?_ ?_
        · repeat' (first | (with_reducible refine Unf.h ?_) | ((conv => whnf); (refine Side.mk ?_ ?_; focus ((intros; (try simp only [lenS, inR, cutS, loI, hiI] at *); omega)))) | fail); all_goals try (conv => whnf); all_goals try (exfalso; omega)
          all_goals
            simp only [hui]
            refine CallS.mk (c := rchain_c) ((s, es, u.1, es.length)) ?_
            repeat' (first | (with_reducible refine Unf.h ?_) | ((conv => whnf); first | (refine Side.mk ?_ ?_; focus (first | with_reducible rfl | assumption)) | refine Got.mk (fun _ _ => ?_)) | fail); all_goals try (conv => whnf); all_goals try (exfalso; omega)
          all_goals simp only [etl]
          all_goals
            refine CallS.mk (c := rgrow14_c) ((s, u.1, chR es u.1, (es.length : Int) + 1, u.2)) ?_
            repeat' (first | (with_reducible first | refine Unf.h ?_ | refine cutK_n ?_) | ((conv => whnf); first | (refine Side.mk ?_ ?_; focus (first | with_reducible rfl | assumption)) | refine Got.mk (fun _ _ => ?_)) | fail); all_goals try (conv => whnf); all_goals try (exfalso; omega)
          all_goals
            refine ⟨(), trivial, ?_⟩
            repeat' (first | (with_reducible refine Unf.h ?_) | ((conv => whnf); first | (refine Side.mk ?_ ?_; focus (with_reducible rfl)) | (with_reducible refine Unf.h ?_) | exact True.intro) | fail); all_goals try (conv => whnf); all_goals try (exfalso; omega)
        · intro _ _
          by_cases hoku : okU es u
          · rw [if_pos hoku] at hgd
            have hv : ∀ h, (chR es u.1 ++ [(verN s es u).2])[(((chR es u.1 ++ [(verN s es u).2]).length : Int) - 1).toNat]'h = (verN s es u).2 := fun h => by
              have e : (((chR es u.1 ++ [(verN s es u).2]).length : Int) - 1).toNat = (chR es u.1).length := by simp
              simp only [e]
              exact List.getElem_concat_length rfl _
            rw [hgd]
            repeat' (first | (with_reducible refine Unf.h ?_) | ((conv => whnf); first | refine Fork.mkn (fun h => ?_) (fun h => ?_) | (refine Side.mk ?_ ?_; focus ((intros; (try simp only [lenS, inR, cutS, loI, hiI] at *); omega))) | (refine Idx.mk ?_ ?_; focus ((simp only [lenS, inR, cutS, loI, hiI]; omega)))) | fail); all_goals try (conv => whnf); all_goals try (exfalso; omega)
            refine Ex.mk [verN s es u] (by simp only [hv]; rfl) ?_
            repeat' (first | (with_reducible first | refine Unf.h ?_ | refine loopK_n ?_) | ((conv => whnf); (refine Side.mk ?_ ?_; focus ((intros; (try simp only [lenS, inR, cutS, loI, hiI] at *); omega)))) | fail); all_goals try (conv => whnf); all_goals try (exfalso; omega)
            refine ⟨i + 1, ⟨by omega, by omega, fun w hw => ?_⟩, ?_⟩
            · rw [List.take_succ_eq_append_getElem hil, hui2] at hw
              rcases List.mem_append.1 hw with hw | hw
              · exact hok w hw
              · obtain rfl := List.mem_singleton.1 hw; exact hoku
            · rw [ets]
              repeat' (first | (with_reducible refine Unf.h ?_) | ((conv => whnf); first | (refine Side.mk ?_ ?_; focus (first | with_reducible rfl | (refine congrArg (SV.int _) ?_; omega))) | (with_reducible refine Unf.h ?_) | exact True.intro) | fail); all_goals try (conv => whnf); all_goals try (exfalso; omega)
          · rw [if_neg hoku] at hgd
            have ef : sealF s es us = (es, 1) := by rw [efn, if_neg fun h => hoku (h.1 u hum)]
            rw [hgd]
            repeat' (first | (with_reducible refine Unf.h ?_) | ((conv => whnf); first | refine Fork.mkn (fun h => ?_) (fun h => ?_) | (refine Side.mk ?_ ?_; focus ((simp only [*, ef]; done))) | refine RetE.mk () trivial ?_ | refine retK_r ?_ | exact rfl) | fail); all_goals try (conv => whnf); all_goals try (exfalso; omega)
      · have e0 : us.take i = us := List.take_of_length_le (by omega)
        rw [e0] at hok ⊢
        have hml : (us.map (verN s es)).length = us.length := by simp
        have hgs := growOk_seal (s := s) hst hok
        have hpn : ∀ p ∈ us.map (verN s es), p.1.length ≤ 100000 ∧ p.2.val.length ≤ 100000 := fun p hp => by
          obtain ⟨u, hu, rfl⟩ := List.mem_map.1 hp
          have := hp3 u hu
          exact ⟨by show u.1.length ≤ 100000; omega, by show u.2.length ≤ 100000; omega⟩
        have hpf : rfits_c.pre (s, es, us.map (verN s es)) := ⟨hst, by show (us.map (verN s es)).length ≤ 1000; omega, hpn⟩
        have hpw : rwith19_c.pre (s, es, us.map (verN s es)) := by show es.length ≤ 1000; omega
        by_cases hgo : growOk (peo es) ((es.length : Int) + 1) (us.map (verN s es))
        · have ef : sealF s es us = (es ++ [us.map (verN s es)], 0) := by rw [efn, if_pos ⟨hok, hgs.1 hgo⟩]
          repeat' (first | (with_reducible refine Unf.h ?_) | ((conv => whnf); refine Fork.mk (fun h => ?_) (fun h => ?_)) | fail); all_goals try (conv => whnf); all_goals try (exfalso; omega)
          refine CallS.mk (c := rfits_c) ((s, es, us.map (verN s es))) ?_
          repeat' (first | (with_reducible refine Unf.h ?_) | ((conv => whnf); first | refine Fork.mkn (fun h => ?_) (fun h => ?_) | (refine Side.mk ?_ ?_; focus (first | with_reducible rfl | assumption)) | refine RetE.mk () trivial ?_ | refine Got.mk (fun _ _ => ?_) | refine retK_r ?_) | fail); all_goals try (conv => whnf); all_goals try (exfalso; omega)
          · exact absurd hgo (by assumption)
          refine CallS.mk (c := rwith19_c) ((s, es, us.map (verN s es))) ?_
          repeat' (first | (with_reducible refine Unf.h ?_) | ((conv => whnf); first | (refine Side.mk ?_ ?_; focus (first | with_reducible rfl | assumption | (simp only [*, ef]; done))) | refine RetE.mk () trivial ?_ | refine Got.mk (fun _ _ => ?_) | refine retK_r ?_ | exact rfl) | fail); all_goals try (conv => whnf); all_goals try (exfalso; omega)
        · have ef : sealF s es us = (es, 1) := by rw [efn, if_neg fun h => hgo (hgs.2 h.2)]
          repeat' (first | (with_reducible refine Unf.h ?_) | ((conv => whnf); refine Fork.mk (fun h => ?_) (fun h => ?_)) | fail); all_goals try (conv => whnf); all_goals try (exfalso; omega)
          refine CallS.mk (c := rfits_c) ((s, es, us.map (verN s es))) ?_
          repeat' (first | (with_reducible refine Unf.h ?_) | ((conv => whnf); first | refine Fork.mkn (fun h => ?_) (fun h => ?_) | (refine Side.mk ?_ ?_; focus (first | with_reducible rfl | assumption | (simp only [*, ef]; done))) | refine RetE.mk () trivial ?_ | refine Got.mk (fun _ _ => ?_) | refine retK_r ?_ | exact rfl) | fail); all_goals try (conv => whnf); all_goals try (exfalso; omega)
          exact absurd (by assumption) hgo
end Go.Proofs.YtdflndjlnkoliaaGreatDoor

namespace Go.Proofs.YtdflndjlnkoliaaGreatDoor
set_option linter.all false
open Go.RowKit
def rshow_c : Ctr where
  D := Option PT × H256
  pre := fun (o, _) => wfO o ∧ depthO o < 1000
  args := fun (o, k) => [.fs 64 eKV (listO o), .agg [.arr8 k]]
  res := fun (o, k) _ => .agg (ePrf (showP k o))
def rshow_H : Cfg := ⟨[(91, rover_c), (92, rpart_c), (93, rholds_c), (79, (rroot_c 1000)), (94, rbit_c)], [(12, [1, 2], [6, 8, 9, 11], (.one 0 0 false (.one 1 1 false (.one 2 1 false (.one 3 0 false (.one 4 0 false (.one 5 0 false (.one 6 2 true (.one 7 0 false (.one 8 2 true (.one 9 2 false (.one 10 0 false (.one 11 2 false .nil)))))))))))), []), (14, [1, 2], [6, 8, 9, 11], (.one 0 0 false (.one 1 1 false (.one 2 1 false (.one 3 0 false (.one 4 0 false (.one 5 0 false (.one 6 2 true (.one 7 0 false (.one 8 2 true (.one 9 2 false (.one 10 0 false (.one 11 2 false .nil)))))))))))), [])], [], [], 82, 0, [], [], []⟩
theorem rshow_ok : rshow_c.Ok Tryz.prog 50 := by
  refine fn_ok rshow_H 0 rfl _ Tryz.func50 rfl rfl ⟨rover_ok, rpart_ok, rholds_ok, rroot1000_ok, rbit_ok, trivial⟩ rfl rfl (by kernel_rfl) (fun _ => Nat.le_of_ble_eq_true rfl) ?_
  rintro ⟨o, k⟩ hp hr
  try dsimp only [rshow_c] at hp
  try simp only [rshow_c, Rng, RngL, inR, and_true, true_and] at hr
  obtain ⟨hw, hd⟩ := hp
  repeat' (first | (with_reducible refine Unf.h ?_) | fail); all_goals try (conv => whnf)
  refine LoopS.autoN (I := Option PT × List KV × List Stp) (fun (o', L, S) => L = listO o' ∧ wfO o' ∧ S ++ stepsO k o' = stepsO k o ∧ lastO k o' = lastO k o ∧ S.length + depthO o' ≤ depthO o) (fun (_, L, _) => [(0, .fs 64 eKV L)]) (fun (_, _, S) => [(0, .box 30 [.arr8 k]), (1, .box 130 [.nils, .int .i64 0, .arr8 zeroH, .arr8 zeroH, .int .i64 0, .arr8 zeroH, .arr8 zeroH, .arr8 zeroH]), (2, .box 130 [.own 3, .int .i64 0, .arr8 zeroH, .arr8 zeroH, .int .i64 0, .arr8 zeroH, .arr8 zeroH, .arr8 zeroH]), (3, .row 184 65 eStp S)]) 4 (fun (o', _, _) => depthO o') (o, listO o, []) ⟨rfl, hw, rfl, rfl, by simp⟩ ?_ ?_
  · repeat' (first | (with_reducible refine Unf.h ?_) | ((conv => whnf); first | (refine Side.mk ?_ ?_; focus (with_reducible rfl)) | (with_reducible refine Unf.h ?_) | exact True.intro) | fail); all_goals try (conv => whnf)
  · rintro ⟨o', L, S⟩ ⟨h0, h1, h2, h3, h4⟩
    match o', h0, h1, h2, h3, h4 with
    | none, h0, h1, h2, h3, h4 =>
      have e : showP k o = ⟨S, 0, zeroH, zeroH, 0, zeroH, zeroH, zeroH⟩ := by
        unfold showP; rw [← h2, ← h3]; simp only [stepsO, List.append_nil]; rfl
      obtain rfl : L = [] := h0
      clear h0
      repeat' (first | (with_reducible refine Unf.h ?_) | ((conv => whnf); first | refine Fork.mk (fun h => ?_) (fun h => ?_) | (refine Side.mk ?_ ?_; focus (first | (intros; (try simp only [lenS, inR, cutS, loI, hiI, e] at *); omega) | (simp only [*, e]; done))) | (refine Idx.mk ?_ ?_; focus (omega)) | refine RetE.mk () trivial ?_ | refine retK_r ?_ | exact rfl) | fail); all_goals try (conv => whnf)
      all_goals simp at h
    | some (.leaf k' v'), h0, h1, h2, h3, h4 =>
      have e : showP k o = ⟨S, 1, k', v', 0, zeroH, zeroH, zeroH⟩ := by
        unfold showP; rw [← h2, ← h3]; simp only [stepsO, stepsT, List.append_nil]; rfl
      obtain rfl : L = [(k', v')] := h0
      clear h0
      repeat' (first | (with_reducible refine Unf.h ?_) | ((conv => whnf); first | refine Fork.mk (fun h => ?_) (fun h => ?_) | (refine Side.mk ?_ ?_; focus (first | (intros; (try simp only [lenS, inR, cutS, loI, hiI, e] at *); omega) | (simp only [*, e]; done) | (simp [*, e]; done))) | (refine Idx.mk ?_ ?_; focus (omega)) | refine RetE.mk () trivial ?_ | refine retK_r ?_ | exact rfl) | fail); all_goals try (conv => whnf)
      all_goals simp at h
    | some (.node p a b), h0, h1, h2, h3, h4 =>
      obtain rfl : L = a.list ++ b.list := h0
      clear h0
      have hlen : (a.list ++ b.list).length = a.list.length + b.list.length := List.length_append
      have la := list_pos a
      have lb := list_pos b
      have hw : (PT.node p a b).wf := h1
      have hd4 : S.length + (max a.depth b.depth + 1) ≤ depthO o := h4
      have hpa : (rroot_c 1000).pre (some a) := ⟨hw.2.2.2.1, by show a.depth < 1000; omega⟩
      have hpb : (rroot_c 1000).pre (some b) := ⟨hw.2.2.2.2, by show b.depth < 1000; omega⟩
      have ca : cutL (a.list ++ b.list) none (some (a.list.length : Int)) = a.list := by simp [cutL, loI, hiI]
      have cb : cutL (a.list ++ b.list) (some (a.list.length : Int)) none = b.list := by simp [cutL, loI, hiI]
      repeat' (first | (with_reducible refine Unf.h ?_) | ((conv => whnf); first | refine Fork.mkn (fun h => ?_) (fun h => ?_) | refine Fork.mk (fun h => ?_) (fun h => ?_) | (refine Side.mk ?_ ?_; focus (first | with_reducible rfl | exact True.intro | assumption | omega | (intros; (try simp only [lenS, inR, cutS, loI, hiI] at *); omega))) | (refine Idx.mk ?_ ?_; focus (omega)) | refine RetE.mk () trivial ?_ | refine Got.mk (fun _ _ => ?_) | refine retK_r ?_ | exact rfl | refine CallS.mk (c := rover_c) ((p, a, b)) ?_ | refine CallS.mk (c := rpart_c) ((p, a, b)) ?_ | refine CallS.mk (c := rholds_c) ((p, k)) ?_) | fail); all_goals try (conv => whnf)
      · have e : showP k o = ⟨S, 2, zeroH, zeroH, p.len, p.bits, a.hash, b.hash⟩ := by
          unfold showP; rw [← h2, ← h3]; simp only [stepsO, stepsT, lastO, lastT, if_neg h, List.append_nil]; rfl
        refine CallS.mk (c := rroot_c 1000) (some a) ?_
        repeat' (first | (with_reducible refine Unf.h ?_) | ((conv => whnf); first | (refine Side.mk ?_ ?_; focus (first | assumption | (intros; (try simp only [lenS, inR, cutS, loI, hiI, ca, listO, hashO] at *); omega) | (simp only [*, ca, listO, hashO]; done))) | refine Got.mk (fun _ _ => ?_)) | fail); all_goals try (conv => whnf)
        refine CallS.mk (c := rroot_c 1000) (some b) ?_
        repeat' (first | (with_reducible refine Unf.h ?_) | ((conv => whnf); first | (refine Side.mk ?_ ?_; focus (first | assumption | (simp only [*, cb, listO, hashO, e]; done))) | refine RetE.mk () trivial ?_ | refine Got.mk (fun _ _ => ?_) | refine retK_r ?_ | exact rfl) | fail); all_goals try (conv => whnf)
      · have hh : holdsP p k := h
        clear h
        refine CallS.mk (c := rbit_c) ((k, p.len)) ?_
        repeat' (first | (with_reducible refine Unf.h ?_) | ((conv => whnf); first | refine Fork.mk (fun h => ?_) (fun h => ?_) | (refine Side.mk ?_ ?_; focus (first | with_reducible rfl | exact True.intro | (intros; (try simp only [lenS, inR, cutS, loI, hiI] at *); omega))) | refine Got.mk (fun _ _ => ?_)) | fail); all_goals try (conv => whnf)
        · have hb : ¬ bitI k p.len = 1 := by omega
          have e1 : stepsO k (some (.node p a b)) = ⟨p.len, p.bits, b.hash⟩ :: stepsO k (some a) := by simp only [stepsO, stepsT, if_pos hh, if_neg hb]
          have e2 : lastO k (some (.node p a b)) = lastO k (some a) := by simp only [lastO, lastT, if_pos hh, if_neg hb]
          rw [e1] at h2
          rw [e2] at h3
          refine CallS.mk (c := rroot_c 1000) (some b) ?_
          repeat' (first | (with_reducible refine Unf.h ?_) | ((conv => whnf); first | (refine Side.mk ?_ ?_; focus (first | assumption | (simp only [*, cb, listO, hashO]; done))) | refine Got.mk (fun _ _ => ?_)) | fail); all_goals try (conv => whnf)
          refine ⟨[⟨p.len, p.bits, b.hash⟩], rfl, ?_⟩
          repeat' (first | (with_reducible first | refine Unf.h ?_ | refine loopK_n ?_) | ((conv => whnf); (refine Side.mk ?_ ?_; focus ((intros; (try simp only [lenS, inR, cutS, loI, hiI] at *); omega)))) | fail); all_goals try (conv => whnf)
          refine ⟨(some a, a.list, S ++ [⟨p.len, p.bits, b.hash⟩]), ⟨?_, rfl, hw.2.2.2.1, by rw [← h2]; simp, h3, ?_⟩, ?_⟩
          · show a.depth < max a.depth b.depth + 1; omega
          · show (S ++ [_]).length + a.depth ≤ _
            rw [List.length_append, List.length_cons, List.length_nil]; omega
          repeat' (first | (with_reducible refine Unf.h ?_) | ((conv => whnf); first | (refine Side.mk ?_ ?_; focus (first | with_reducible rfl | (simp only [*, ca]; done))) | (with_reducible refine Unf.h ?_) | exact True.intro) | fail); all_goals try (conv => whnf)
        · have hb : bitI k p.len = 1 := by rcases bitI_01 k p.len with h' | h' <;> omega
          have e1 : stepsO k (some (.node p a b)) = ⟨p.len, p.bits, a.hash⟩ :: stepsO k (some b) := by simp only [stepsO, stepsT, if_pos hh, if_pos hb]
          have e2 : lastO k (some (.node p a b)) = lastO k (some b) := by simp only [lastO, lastT, if_pos hh, if_pos hb]
          rw [e1] at h2
          rw [e2] at h3
          refine CallS.mk (c := rroot_c 1000) (some a) ?_
          repeat' (first | (with_reducible refine Unf.h ?_) | ((conv => whnf); first | (refine Side.mk ?_ ?_; focus (first | assumption | (simp only [*, ca, listO, hashO]; done))) | refine Got.mk (fun _ _ => ?_)) | fail); all_goals try (conv => whnf)
          refine ⟨[⟨p.len, p.bits, a.hash⟩], rfl, ?_⟩
          repeat' (first | (with_reducible first | refine Unf.h ?_ | refine loopK_n ?_) | ((conv => whnf); (refine Side.mk ?_ ?_; focus ((intros; (try simp only [lenS, inR, cutS, loI, hiI] at *); omega)))) | fail); all_goals try (conv => whnf)
          refine ⟨(some b, b.list, S ++ [⟨p.len, p.bits, a.hash⟩]), ⟨?_, rfl, hw.2.2.2.2, by rw [← h2]; simp, h3, ?_⟩, ?_⟩
          · show b.depth < max a.depth b.depth + 1; omega
          · show (S ++ [_]).length + b.depth ≤ _
            rw [List.length_append, List.length_cons, List.length_nil]; omega
          repeat' (first | (with_reducible refine Unf.h ?_) | ((conv => whnf); first | (refine Side.mk ?_ ?_; focus (first | with_reducible rfl | (simp only [*, cb]; done))) | (with_reducible refine Unf.h ?_) | exact True.intro) | fail); all_goals try (conv => whnf)
      all_goals (exfalso; omega)
end Go.Proofs.YtdflndjlnkoliaaGreatDoor

namespace Go.Proofs.YtdflndjlnkoliaaGreatDoor
set_option linter.all false
open Go.RowKit
def tA (p : Prf) : Bs := if p.fin = 1 then leafT p.key p.value else txt 101#8 []
def t0 (p : Prf) : Bs := if p.fin = 2 then innerT p.plen p.bits p.left p.right else tA p
def rpsame_c : Ctr where
  D := Prf
  pre := fun p => p.steps.length ≤ 100000
  args := fun p => [.agg (ePrf p), .agg (ePrf p)]
  res := fun _ _ => .bool true
def rpsame_H : Cfg := ⟨[], [(6, [1, 4, 6, 9], [], (.one 0 0 false (.one 1 1 false (.one 2 0 false (.one 3 0 false (.one 4 1 false (.one 5 0 false (.one 6 1 false (.one 7 0 false (.one 8 0 false (.one 9 1 false (.one 10 0 false .nil))))))))))), [])], [], [], 71, 0, [], [], []⟩
theorem rpsame_ok : rpsame_c.Ok Tryz.prog 53 := by
  refine fn_ok rpsame_H 0 rfl _ Tryz.func53 rfl rfl trivial rfl rfl (by kernel_rfl) (fun _ => Nat.le_of_ble_eq_true rfl) ?_
  intro (p : Prf) hp hr
  try dsimp only [rpsame_c] at hp
  try simp only [rpsame_c, Rng, RngL, inR, and_true, true_and] at hr
  repeat' (first | (with_reducible refine Unf.h ?_) | ((conv => whnf); first | refine Fork.mkn (fun h => ?_) (fun h => ?_) | (refine Side.mk ?_ ?_; focus (omega)) | refine RetE.mk () trivial ?_ | refine retK_r ?_ | exact rfl) | fail); all_goals try (conv => whnf)
  refine LoopS.auto (fun n : Nat => n ≤ p.steps.length) (fun n => [(5, .int .i64 n)]) (fun _ => [(0, .box 130 (ePrf p)), (1, .box 130 (ePrf p))]) (fun n => p.steps.length - n) 0 (Nat.zero_le _) ?_ ?_
  · repeat' (first | (with_reducible refine Unf.h ?_) | ((conv => whnf); first | (refine Side.mk ?_ ?_; focus (first | with_reducible rfl | (refine congrArg (SV.int _) ?_; omega))) | (with_reducible refine Unf.h ?_) | exact True.intro) | fail); all_goals try (conv => whnf)
  · intro n hn
    repeat' (first | (with_reducible first | refine Unf.h ?_ | refine loopK_n ?_) | ((conv => whnf); first | refine Fork.mkn (fun h => ?_) (fun h => ?_) | refine Fork.mk (fun h => ?_) (fun h => ?_) | (refine Side.mk ?_ ?_; focus (first | omega | (intros; (try simp only [lenS, inR, cutS, loI, hiI] at *); omega) | (simp [*]; done))) | (refine Idx.mk ?_ ?_; focus (omega)) | refine RetE.mk () trivial ?_ | refine retK_r ?_ | exact rfl) | fail); all_goals try (conv => whnf)
    all_goals first
      | exact absurd (show _ ∧ _ ∧ _ from ⟨rfl, rfl, rfl⟩) h
      | exact absurd (show _ ∧ _ from ⟨rfl, rfl⟩) h
      | exact absurd rfl h
      | (refine ⟨n + 1, ⟨by omega, by omega⟩, ?_⟩; repeat' (first | (with_reducible refine Unf.h ?_) | ((conv => whnf); first | (refine Side.mk ?_ ?_; focus (first | with_reducible rfl | (refine congrArg (SV.int _) ?_; omega))) | (with_reducible refine Unf.h ?_) | exact True.intro) | fail); all_goals try (conv => whnf))
def toP_c : Ctr where
  D := Prf
  pre := fun p => p.steps.length ≤ 100000
  args := fun p => [.agg (ePrf p)]
  res := fun p _ => .agg (ePrf p)
def toP_H : Cfg := ⟨[], [(5, [1, 3, 6], [7, 8, 10], (.one 0 0 false (.one 1 1 false (.one 2 0 false (.one 3 1 false (.one 4 0 false (.one 5 0 false (.one 6 1 false (.one 7 2 true (.one 8 2 false (.one 9 0 false (.one 10 2 false .nil))))))))))), [])], [], [], 36, 0, [], [], []⟩
theorem toP_ok : toP_c.Ok Tryz.prog 54 := by
  refine fn_ok toP_H 0 rfl _ Tryz.func54 rfl rfl trivial rfl rfl (by kernel_rfl) (fun _ => Nat.le_of_ble_eq_true rfl) ?_
  intro (p : Prf) hp hr
  try dsimp only [toP_c] at hp
  try simp only [toP_c, Rng, RngL, inR, and_true, true_and] at hr
  repeat' (first | (with_reducible refine Unf.h ?_) | fail); all_goals try (conv => whnf)
  refine LoopS.autoN (fun n : Nat => n ≤ p.steps.length) (fun n => [(4, .int .i64 n)]) (fun n => [(0, .box 60 (ePrf p)), (1, .box 130 [.nils, .int .i64 0, .arr8 zeroH, .arr8 zeroH, .int .i64 0, .arr8 zeroH, .arr8 zeroH, .arr8 zeroH]), (2, .box 130 [.own 3, .int .i64 p.fin, .arr8 p.key, .arr8 p.value, .int .i64 p.plen, .arr8 p.bits, .arr8 p.left, .arr8 p.right]), (3, .row 184 65 eStp (p.steps.take n))]) 4 (fun n => p.steps.length - n) 0 (Nat.zero_le _) ?_ ?_
  · repeat' (first | (with_reducible refine Unf.h ?_) | ((conv => whnf); first | (refine Side.mk ?_ ?_; focus (first | with_reducible rfl | (refine congrArg (SV.int _) ?_; omega) | (simp [*]; done))) | (with_reducible refine Unf.h ?_) | exact True.intro) | fail); all_goals try (conv => whnf)
  · intro i hi
    repeat' (first | (with_reducible first | refine Unf.h ?_ | refine loopK_n ?_) | ((conv => whnf); first | refine Fork.mk (fun h => ?_) (fun h => ?_) | (refine Side.mk ?_ ?_; focus ((intros; (try simp only [lenS, inR, cutS, loI, hiI] at *); omega))) | (refine Idx.mk ?_ ?_; focus (omega)) | refine RetE.mk () trivial ?_ | refine Ex.mk [_] rfl ?_ | refine retK_r ?_) | fail); all_goals try (conv => whnf)
    · refine ⟨i + 1, ⟨by omega, by omega⟩, ?_⟩
      have e : p.steps.take (i + 1) = p.steps.take i ++ [p.steps[(i : Int).toNat]'(by omega)] := List.take_succ_eq_append_getElem (by omega)
      repeat' (first | (with_reducible refine Unf.h ?_) | ((conv => whnf); first | (refine Side.mk ?_ ?_; focus (first | with_reducible rfl | (refine congrArg (SV.int _) ?_; omega) | (simp only [*, e]; done))) | (with_reducible refine Unf.h ?_) | exact True.intro) | fail); all_goals try (conv => whnf)
    · have e : p.steps.take i = p.steps := List.take_of_length_le (by omega)
      repeat' (first | (with_reducible refine Unf.h ?_) | ((conv => whnf); first | (refine Side.mk ?_ ?_; focus (first | with_reducible rfl | (simp only [*, e]; done))) | exact rfl) | fail); all_goals try (conv => whnf)
end Go.Proofs.YtdflndjlnkoliaaGreatDoor

import Derived.Test.YtinpcefioadkcaaGreatDoorZLPNone4
import Derived.Stop.LaidErr
import Derived.Lay
namespace Go.Proofs.YtinpcefioadkcaaGreatDoor
set_option linter.all false
open Go.RowKit
abbrev rdO (l : Bs) : SO := .box 285 [.fs 1 eB l, .bool false]
def beV (l : Bs) : BitVec 64 := l.foldl (fun x c => x <<< 8 ||| c.setWidth 64) 0#64
theorem beV_succ (l : Bs) (i : Nat) (h : i < l.length) : beV (l.take (i + 1)) = beV (l.take i) <<< 8 ||| (l[i]).setWidth 64 := by
  rw [List.take_succ_eq_append_getElem h]
  unfold beV
  rw [List.foldl_append]; rfl
theorem beV_zero (n : Nat) : beV (List.replicate n 0#8) = 0#64 := by
  induction n with
  | zero => rfl
  | succ n ih =>
    rw [List.replicate_succ']
    unfold beV at ih ⊢
    rw [List.foldl_append, ih]; rfl
def rnew_c : Ctr where
  D := Bs
  pre := fun l => l.length ≤ 1000000
  args := fun l => [.fs 1 eB l]
  res := fun _ _ => .ptr 0 0
  out := fun l _ => [(0, rdO l)]
  mm := 1
def rnew_H : Cfg := ⟨[(28, cloneB_c)], [], [], [], 7, 0, [], [], []⟩
theorem rnew_ok : rnew_c.Ok Tryz.prog 112 := by
  refine fn_ok rnew_H 0 rfl _ Tryz.func112 rfl rfl ⟨cloneB_ok, trivial⟩ rfl rfl (by kernel_rfl) (fun _ => Nat.le_of_ble_eq_true rfl) ?_
  intro (l : Bs) hp hr
  try dsimp only [rnew_c] at hp
  try simp only [rnew_c, Rng, RngL, inR, and_true, true_and] at hr
  have hp : l.length ≤ 1000000 := hp
  have hpc : cloneB_c.pre l := hp
  repeat' (first | (with_reducible refine Unf.h ?_) | fail); all_goals try (conv => whnf); all_goals try (exfalso; omega)
  refine CallS.mk (c := cloneB_c) (l) ?_
  repeat' (first | (with_reducible refine Unf.h ?_) | ((conv => whnf); first | (refine Side.mk ?_ ?_; focus (first | with_reducible rfl | assumption)) | refine RetE.mk () trivial ?_ | refine Got.mk (fun _ _ => ?_) | refine retK_r ?_ | exact rfl) | fail); all_goals try (conv => whnf); all_goals try (exfalso; omega)
def rtk_c : Ctr where
  D := Bs × Nat
  pre := fun (l, n) => n ≤ l.length ∧ l.length ≤ 1000000
  args := fun (_, n) => [.ptr 0 0, .int .i64 (n : Int)]
  objs := fun (l, _) => [(0, rdO l)]
  nn := 1
  res := fun (l, n) _ => .fs 1 eB (l.take n)
  out := fun (l, n) _ => [(0, rdO (l.drop n))]
def rtk_H : Cfg := ⟨[], [], [], [], 45, 1, [], [], []⟩
theorem rtk_ok : rtk_c.Ok Tryz.prog 180 := by
  refine fn_ok rtk_H 1 rfl _ Tryz.func180 rfl rfl trivial rfl rfl (by kernel_rfl) (fun _ => Nat.le_of_ble_eq_true rfl) ?_
  rintro ⟨l, n⟩ hp hr
  try dsimp only [rtk_c] at hp
  try simp only [rtk_c, Rng, RngL, inR, and_true, true_and] at hr
  obtain ⟨hp1, hp2⟩ := hp
  have hp1 : n ≤ l.length := hp1
  have hp2 : l.length ≤ 1000000 := hp2
  repeat' (first | (with_reducible refine Unf.h ?_) | ((conv => whnf); first | refine Fork.mk (fun h => ?_) (fun h => ?_) | (refine Side.mk ?_ ?_; focus (first | with_reducible rfl | (intros; (try simp only [lenS, inR, cutS, loI, hiI, cutL, Int.toNat_natCast] at *); omega) | (simp only [*, cutL, Int.toNat_natCast]; done))) | refine RetE.mk () trivial ?_ | refine retK_r ?_ | exact rfl) | fail); all_goals try (conv => whnf); all_goals try (exfalso; omega)
def rpk_c : Ctr where
  D := Bs × Nat
  pre := fun (l, n) => n ≤ l.length ∧ n ≤ 8
  args := fun (_, n) => [.ptr 0 0, .int .i64 (n : Int)]
  objs := fun (l, _) => [(0, rdO l)]
  nn := 1
  res := fun (l, n) _ => .tup [.u64 (beV (l.take n)), .bool true]
  out := fun (l, _) _ => [(0, rdO l)]
def rpk_H : Cfg := ⟨[], [], [], [], 44, 1, [], [], []⟩
theorem rpk_ok : rpk_c.Ok Tryz.prog 173 := by
  refine fn_ok rpk_H 1 rfl _ Tryz.func173 rfl rfl trivial rfl rfl (by kernel_rfl) (fun _ => Nat.le_of_ble_eq_true rfl) ?_
  rintro ⟨l, n⟩ hp hr
  try dsimp only [rpk_c] at hp
  try simp only [rpk_c, Rng, RngL, inR, and_true, true_and] at hr
  obtain ⟨hp1, hp2⟩ := hp
  have hp1 : n ≤ l.length := hp1
  have hp2 : n ≤ 8 := hp2
  have hln : (cutL l none (some (n : Int))).length = n := by simp [cutL]; omega
  repeat' (first | (with_reducible refine Unf.h ?_) | ((conv => whnf); first | refine Fork.mk (fun h => ?_) (fun h => ?_) | (refine Side.mk ?_ ?_; focus ((intros; (try simp only [lenS, inR, cutS, loI, hiI, hln] at *); omega)))) | fail); all_goals try (conv => whnf); all_goals try (exfalso; omega)
  refine LoopS.autoN (I := Nat) (fun i => i ≤ n) (fun i => [(33, .int .i64 (i : Int)), (6, .u64 (beV (l.take i)))]) (fun _ => [(0, rdO l)]) 1 (fun i => n - i) 0 (Nat.zero_le _) ?_ ?_
  · have e0 : beV (l.take 0) = 0#64 := rfl
    repeat' (first | (with_reducible refine Unf.h ?_) | ((conv => whnf); first | (refine Side.mk ?_ ?_; focus (first | with_reducible rfl | (refine congrArg (SV.int _) ?_; omega) | (simp only [*, e0]; done))) | (with_reducible refine Unf.h ?_) | exact True.intro) | fail); all_goals try (conv => whnf); all_goals try (exfalso; omega)
  · intro i hi
    rcases Nat.lt_or_ge i n with h | h
    · have es : beV (l.take (i + 1)) = beV (l.take i) <<< (8#64).toNat ||| ((cutL l none (some (n : Int)))[((i : Nat) : Int).toNat]'(by rw [hln]; omega)).setWidth 64 := by
        rw [beV_succ l i (by omega)]; simp [cutL]
      repeat' (first | (with_reducible first | refine Unf.h ?_ | refine loopK_n ?_) | ((conv => whnf); first | refine Fork.mk (fun h => ?_) (fun h => ?_) | (refine Side.mk ?_ ?_; focus ((intros; (try simp only [lenS, inR, cutS, loI, hiI] at *); omega))) | (refine Idx.mk ?_ ?_; focus (omega))) | fail); all_goals try (conv => whnf); all_goals try (exfalso; omega)
      refine ⟨i + 1, ⟨by omega, by omega⟩, ?_⟩
      repeat' (first | (with_reducible refine Unf.h ?_) | ((conv => whnf); first | (refine Side.mk ?_ ?_; focus (first | with_reducible rfl | (refine congrArg (SV.int _) ?_; omega) | (simp only [*, es]; done))) | (with_reducible refine Unf.h ?_) | exact True.intro) | fail); all_goals try (conv => whnf); all_goals try (exfalso; omega)
    · obtain rfl : i = n := by omega
      repeat' (first | (with_reducible refine Unf.h ?_) | ((conv => whnf); first | refine Fork.mk (fun h => ?_) (fun h => ?_) | (refine Side.mk ?_ ?_; focus (with_reducible rfl)) | refine RetE.mk () trivial ?_ | refine retK_r ?_ | exact rfl) | fail); all_goals try (conv => whnf); all_goals try (exfalso; omega)
def rnu_c : Ctr where
  D := Bs × Nat
  pre := fun (l, n) => n ≤ l.length ∧ n ≤ 8 ∧ l.length ≤ 1000000
  args := fun (_, n) => [.ptr 0 0, .int .i64 (n : Int)]
  objs := fun (l, _) => [(0, rdO l)]
  nn := 1
  res := fun (l, n) _ => .u64 (beV (l.take n))
  out := fun (l, n) _ => [(0, rdO (l.drop n))]
def rnu_H : Cfg := ⟨[(173, rpk_c), (180, rtk_c)], [], [], [], 19, 1, [], [], []⟩
theorem rnu_ok : rnu_c.Ok Tryz.prog 175 := by
  refine fn_ok rnu_H 1 rfl _ Tryz.func175 rfl rfl ⟨rpk_ok, rtk_ok, trivial⟩ rfl rfl (by kernel_rfl) (fun _ => Nat.le_of_ble_eq_true rfl) ?_
  rintro ⟨l, n⟩ hp hr
  try dsimp only [rnu_c] at hp
  try simp only [rnu_c, Rng, RngL, inR, and_true, true_and] at hr
  obtain ⟨hp1, hp2, hp3⟩ := hp
  have hpp : rpk_c.pre (l, n) := ⟨hp1, hp2⟩
  have hpt : rtk_c.pre (l, n) := ⟨hp1, hp3⟩
  repeat' (first | (with_reducible refine Unf.h ?_) | ((conv => whnf); first | (refine Side.mk ?_ ?_; focus (first | with_reducible rfl | assumption | (dsimp only [resS, rnu_c]; done))) | refine RetE.mk () trivial ?_ | refine Got.mk (fun _ _ => ?_) | refine retK_r ?_ | exact rfl | refine CallS.mk (c := rpk_c) ((l, n)) ?_ | refine CallS.mk (c := rtk_c) ((l, n)) ?_) | fail); all_goals try (conv => whnf); all_goals try (exfalso; omega)
def rfl_c : Ctr where
  D := Bs
  args := fun _ => [.ptr 0 0]
  objs := fun l => [(0, rdO l)]
  nn := 1
  res := fun _ _ => .bool false
  out := fun l _ => [(0, rdO l)]
def rfl_H : Cfg := ⟨[], [], [], [], 11, 1, [], [], []⟩
theorem rfl_ok : rfl_c.Ok Tryz.prog 123 := by
  refine fn_ok rfl_H 1 rfl _ Tryz.func123 rfl rfl trivial rfl rfl (by kernel_rfl) (fun _ => Nat.le_of_ble_eq_true rfl) ?_
  intro (l : Bs) hp hr
  try dsimp only [rfl_c] at hp
  try simp only [rfl_c, Rng, RngL, inR, and_true, true_and] at hr
  repeat' (first | (with_reducible refine Unf.h ?_) | ((conv => whnf); first | (refine Side.mk ?_ ?_; focus (with_reducible rfl)) | refine RetE.mk () trivial ?_ | refine retK_r ?_ | exact rfl) | fail); all_goals try (conv => whnf); all_goals try (exfalso; omega)
def rlf_c : Ctr where
  D := Bs
  args := fun _ => [.ptr 0 0]
  objs := fun l => [(0, rdO l)]
  nn := 1
  res := fun l _ => .int .i64 (l.length : Int)
  out := fun l _ => [(0, rdO l)]
def rlf_H : Cfg := ⟨[], [], [], [], 10, 1, [], [], []⟩
theorem rlf_ok : rlf_c.Ok Tryz.prog 137 := by
  refine fn_ok rlf_H 1 rfl _ Tryz.func137 rfl rfl trivial rfl rfl (by kernel_rfl) (fun _ => Nat.le_of_ble_eq_true rfl) ?_
  intro (l : Bs) hp hr
  try dsimp only [rlf_c] at hp
  try simp only [rlf_c, Rng, RngL, inR, and_true, true_and] at hr
  repeat' (first | (with_reducible refine Unf.h ?_) | ((conv => whnf); first | (refine Side.mk ?_ ?_; focus (first | with_reducible rfl | (refine congrArg (SV.int _) ?_; omega))) | refine RetE.mk () trivial ?_ | refine retK_r ?_ | exact rfl) | fail); all_goals try (conv => whnf); all_goals try (exfalso; omega)
def rdn_c : Ctr where
  D := Bs
  args := fun _ => [.ptr 0 0]
  objs := fun l => [(0, rdO l)]
  nn := 1
  res := fun l _ => .dec (l = []) inferInstance
  out := fun l _ => [(0, rdO l)]
def rdn_H : Cfg := ⟨[(123, rfl_c), (137, rlf_c)], [], [], [], 11, 1, [], [], []⟩
theorem rdn_ok : rdn_c.Ok Tryz.prog 115 := by
  refine fn_ok rdn_H 1 rfl _ Tryz.func115 rfl rfl ⟨rfl_ok, rlf_ok, trivial⟩ rfl rfl (by kernel_rfl) (fun _ => Nat.le_of_ble_eq_true rfl) ?_
  intro (l : Bs) hp hr
  try dsimp only [rdn_c] at hp
  try simp only [rdn_c, Rng, RngL, inR, and_true, true_and] at hr
  have e : (l.length : Int) = 0 ↔ l = [] := by rw [← List.length_eq_zero_iff]; omega
  repeat' (first | (with_reducible refine Unf.h ?_) | ((conv => whnf); first | (refine Side.mk ?_ ?_; focus (first | with_reducible rfl | exact True.intro | assumption)) | refine RetE.mk () trivial ?_ | refine Got.mk (fun _ _ => ?_) | refine retK_r ?_ | exact rfl | refine CallS.mk (c := rfl_c) (l) ?_ | refine CallS.mk (c := rlf_c) (l) ?_) | fail); all_goals try (conv => whnf); all_goals try (exfalso; omega)
def ru64_c : Ctr where
  D := Bs
  pre := fun l => 8 ≤ l.length ∧ l.length ≤ 1000000
  args := fun _ => [.ptr 0 0]
  objs := fun l => [(0, rdO l)]
  nn := 1
  res := fun l _ => .u64 (beV (l.take 8))
  out := fun l _ => [(0, rdO (l.drop 8))]
def ru64_H : Cfg := ⟨[(175, rnu_c)], [], [], [], 5, 1, [], [], []⟩
theorem ru64_ok : ru64_c.Ok Tryz.prog 172 := by
  refine fn_ok ru64_H 1 rfl _ Tryz.func172 rfl rfl ⟨rnu_ok, trivial⟩ rfl rfl (by kernel_rfl) (fun _ => Nat.le_of_ble_eq_true rfl) ?_
  intro (l : Bs) hp hr
  try dsimp only [ru64_c] at hp
  try simp only [ru64_c, Rng, RngL, inR, and_true, true_and] at hr
  obtain ⟨hp1, hp2⟩ := hp
  have hpn : rnu_c.pre (l, 8) := ⟨hp1, by omega, hp2⟩
  repeat' (first | (with_reducible refine Unf.h ?_) | ((conv => whnf); first | (refine Side.mk ?_ ?_; focus (first | with_reducible rfl | assumption | (refine congrArg (SV.int _) ?_; omega) | (dsimp only [resS, ru64_c]; done))) | refine RetE.mk () trivial ?_ | refine Got.mk (fun _ _ => ?_) | refine retK_r ?_ | exact rfl | refine CallS.mk (c := rnu_c) ((l, 8)) ?_) | fail); all_goals try (conv => whnf); all_goals try (exfalso; omega)
def rpl_c : Ctr where
  D := Bs × Nat
  pre := fun (l, n) => n ≤ l.length ∧ l.length ≤ 1000000
  args := fun (_, n) => [.ptr 0 0, .int .i64 (n : Int)]
  objs := fun (l, _) => [(0, rdO l)]
  nn := 1
  res := fun (l, n) _ => .fs 1 eB (l.take n)
  out := fun (l, n) _ => [(0, rdO (l.drop n))]
def rpl_H : Cfg := ⟨[(180, rtk_c)], [], [], [], 8, 1, [], [], []⟩
theorem rpl_ok : rpl_c.Ok Tryz.prog 121 := by
  refine fn_ok rpl_H 1 rfl _ Tryz.func121 rfl rfl ⟨rtk_ok, trivial⟩ rfl rfl (by kernel_rfl) (fun _ => Nat.le_of_ble_eq_true rfl) ?_
  rintro ⟨l, n⟩ hp hr
  try dsimp only [rpl_c] at hp
  try simp only [rpl_c, Rng, RngL, inR, and_true, true_and] at hr
  have hpt : rtk_c.pre (l, n) := hp
  repeat' (first | (with_reducible refine Unf.h ?_) | ((conv => whnf); first | (refine Side.mk ?_ ?_; focus (first | with_reducible rfl | assumption)) | refine RetE.mk () trivial ?_ | refine Got.mk (fun _ _ => ?_) | refine retK_r ?_ | exact rfl | refine CallS.mk (c := rtk_c) ((l, n)) ?_) | fail); all_goals try (conv => whnf); all_goals try (exfalso; omega)
def rst_c : Ctr where
  D := Bs × Nat
  pre := fun (l, m) => 2 ≤ l.length ∧ l.length ≤ 1000000 ∧ m < 1000000 ∧ (beV (l.take 2)).toNat ≤ m ∧ (beV (l.take 2)).toNat ≤ 8192 ∧ (beV (l.take 2)).toNat + 2 ≤ l.length
  args := fun (_, m) => [.ptr 0 0, .int .i64 (m : Int)]
  objs := fun (l, _) => [(0, rdO l)]
  nn := 1
  res := fun (l, _) _ => .fs 1 eB ((l.drop 2).take (beV (l.take 2)).toNat)
  out := fun (l, _) _ => [(0, rdO ((l.drop 2).drop (beV (l.take 2)).toNat))]
def rst_H : Cfg := ⟨[(173, rpk_c), (175, rnu_c), (180, rtk_c), (137, rlf_c)], [], [], [], 40, 1, [], [], []⟩
theorem rst_ok : rst_c.Ok Tryz.prog 161 := by
  refine fn_ok rst_H 1 rfl _ Tryz.func161 rfl rfl ⟨rpk_ok, rnu_ok, rtk_ok, rlf_ok, trivial⟩ rfl rfl (by kernel_rfl) (fun _ => Nat.le_of_ble_eq_true rfl) ?_
  rintro ⟨l, m⟩ hp hr
  try dsimp only [rst_c] at hp
  try simp only [rst_c, Rng, RngL, inR, and_true, true_and] at hr
  obtain ⟨hp1, hp2, hp3, hp4, hp5, hp6⟩ := hp
  have hp1 : 2 ≤ l.length := hp1
  have hp2 : l.length ≤ 1000000 := hp2
  have hp3 : m < 1000000 := hp3
  have hp4 : (beV (l.take 2)).toNat ≤ m := hp4
  have hp5 : (beV (l.take 2)).toNat ≤ 8192 := hp5
  have hp6 : (beV (l.take 2)).toNat + 2 ≤ l.length := hp6
  have e8 : ¬ (8192#64).toNat < (beV (l.take 2)).toNat := by
    rw [show (8192#64).toNat = 8192 from rfl]; omega
  have hpp : rpk_c.pre (l, 2) := ⟨hp1, by omega⟩
  have hpn : rnu_c.pre (l, 2) := ⟨hp1, by omega, hp2⟩
  have hpt : rtk_c.pre (l.drop 2, (beV (l.take 2)).toNat) := ⟨by simp; omega, by simp; omega⟩
  repeat' (first | (with_reducible refine Unf.h ?_) | ((conv => whnf); first | refine Fork.mk (fun h => ?_) (fun h => ?_) | (refine Side.mk ?_ ?_; focus (first | with_reducible rfl | assumption | omega | (refine congrArg (SV.int _) ?_; omega))) | refine Got.mk (fun _ _ => ?_) | refine CallS.mk (c := rpk_c) ((l, 2)) ?_) | fail); all_goals try (conv => whnf); all_goals try (exfalso; omega)
  repeat' (first | (with_reducible refine Unf.h ?_) | ((conv => whnf); first | refine Fork.mk (fun h => ?_) (fun h => ?_) | (refine Side.mk ?_ ?_; focus (first | with_reducible rfl | exact True.intro | assumption | omega | (refine congrArg (SV.int _) ?_; omega) | (intros; (try simp only [lenS, inR, cutS, loI, hiI] at *); omega))) | refine RetE.mk () trivial ?_ | refine Got.mk (fun _ _ => ?_) | refine retK_r ?_ | exact rfl | refine CallS.mk (c := rlf_c) (l) ?_ | refine CallS.mk (c := rnu_c) ((l, 2)) ?_ | refine CallS.mk (c := rtk_c) ((l.drop 2, (beV (l.take 2)).toNat)) ?_) | fail); all_goals try (conv => whnf); all_goals try (exfalso; omega)
  all_goals exact absurd (by assumption) e8
end Go.Proofs.YtinpcefioadkcaaGreatDoor

namespace Go.Proofs.YtinpcefioadkcaaGreatDoor
set_option linter.all false
open Go.RowKit
def wwi_c : Ctr where
  D := Bs × Int × Int
  pre := fun (_, x, m) => 0 ≤ x ∧ x ≤ m
  args := fun (_, x, m) => [.ptr 0 0, .int .i64 x, .int .i64 m]
  objs := fun (b, _, _) => [(0, .box 233 [.own 1, .bool false]), (1, .row 5 1 eB b)]
  nn := 2
  res := fun _ _ => .bool true
  out := fun (b, _, _) _ => [(0, .box 233 [.own 1, .bool false]), (1, .row 5 1 eB b)]
def wwi_H : Cfg := ⟨[], [], [], [], 24, 2, [], [], []⟩
theorem wwi_ok : wwi_c.Ok Tryz.prog 191 := by
  refine fn_ok wwi_H 2 rfl _ Tryz.func191 rfl rfl trivial rfl rfl (by kernel_rfl) (fun _ => Nat.le_of_ble_eq_true rfl) ?_
  rintro ⟨b, x, m⟩ hp hr
  try dsimp only [wwi_c] at hp
  try simp only [wwi_c, Rng, RngL, inR, and_true, true_and] at hr
  obtain ⟨hp1, hp2⟩ := hp
  have hp1 : 0 ≤ x := hp1
  have hp2 : x ≤ m := hp2
  repeat' (first | (with_reducible refine Unf.h ?_) | ((conv => whnf); first | refine Fork.mk (fun h => ?_) (fun h => ?_) | (refine Side.mk ?_ ?_; focus (first | with_reducible rfl | (simp [*]; done))) | refine RetE.mk () trivial ?_ | refine retK_r ?_ | exact rfl) | fail); all_goals try (conv => whnf); all_goals try (exfalso; omega)
def wu64_c : Ctr where
  D := Bs × BitVec 64
  pre := fun (b, _) => b.length ≤ 1000000
  args := fun (_, x) => [.ptr 0 0, .u64 x]
  objs := fun (b, _) => [(0, .box 233 [.own 1, .bool false]), (1, .row 5 1 eB b)]
  nn := 2
  res := fun _ _ => .tup []
  out := fun (b, x) _ => [(0, .box 233 [.own 2, .bool false]), (2, .row 5 1 eB (b ++ beN 8 x))]
  mm := 1
def wu64_H : Cfg := ⟨[(186, wnum_c)], [], [], [], 7, 2, [], [], []⟩
theorem wu64_ok : wu64_c.Ok Tryz.prog 223 := by
  refine fn_ok wu64_H 2 rfl _ Tryz.func223 rfl rfl ⟨wnum_ok, trivial⟩ rfl rfl (by kernel_rfl) (fun _ => Nat.le_of_ble_eq_true rfl) ?_
  rintro ⟨b, x⟩ hp hr
  try dsimp only [wu64_c] at hp
  try simp only [wu64_c, Rng, RngL, inR, and_true, true_and] at hr
  have hp : b.length ≤ 1000000 := hp
  have hpn : wnum_c.pre (b, x, 8) := ⟨by omega, hp⟩
  repeat' (first | (with_reducible refine Unf.h ?_) | fail); all_goals try (conv => whnf); all_goals try (exfalso; omega)
  refine CallS.mk (c := wnum_c) ((b, x, 8)) ?_
  repeat' (first | (with_reducible refine Unf.h ?_) | ((conv => whnf); first | (refine Side.mk ?_ ?_; focus (first | with_reducible rfl | assumption | (refine congrArg (SV.int _) ?_; omega))) | refine RetE.mk () trivial ?_ | refine Got.mk (fun _ _ => ?_) | refine retK_n ?_ | exact rfl) | fail); all_goals try (conv => whnf); all_goals try (exfalso; omega)
def wflg_c : Ctr where
  D := Bs × Bool
  pre := fun (b, _) => b.length ≤ 1000000
  args := fun (_, x) => [.ptr 0 0, .bool x]
  objs := fun (b, _) => [(0, .box 233 [.own 1, .bool false]), (1, .row 5 1 eB b)]
  nn := 2
  res := fun _ _ => .tup []
  out := fun (b, x) _ => [(0, .box 233 [.own 2, .bool false]), (2, .row 5 1 eB (b ++ beN 1 (if x then 1#64 else 0#64)))]
  mm := 1
def wflg_H : Cfg := ⟨[(186, wnum_c)], [], [], [], 9, 2, [], [], []⟩
theorem wflg_ok : wflg_c.Ok Tryz.prog 179 := by
  refine fn_ok wflg_H 2 rfl _ Tryz.func179 rfl rfl ⟨wnum_ok, trivial⟩ rfl rfl (by kernel_rfl) (fun _ => Nat.le_of_ble_eq_true rfl) ?_
  rintro ⟨b, x⟩ hp hr
  try dsimp only [wflg_c] at hp
  try simp only [wflg_c, Rng, RngL, inR, and_true, true_and] at hr
  have hp : b.length ≤ 1000000 := hp
  have hpn : ∀ y, wnum_c.pre (b, y, 1) := fun _ => ⟨by omega, hp⟩
  cases x
  · have e : (if false = true then 1#64 else 0#64) = 0#64 := rfl
    have hpn := hpn 0#64
    repeat' (first | (with_reducible refine Unf.h ?_) | fail); all_goals try (conv => whnf); all_goals try (exfalso; omega)
    refine CallS.mk (c := wnum_c) ((b, 0#64, 1)) ?_
    repeat' (first | (with_reducible refine Unf.h ?_) | ((conv => whnf); first | (refine Side.mk ?_ ?_; focus (first | with_reducible rfl | assumption | (refine congrArg (SV.int _) ?_; omega) | (simp only [*, e]; done))) | refine RetE.mk () trivial ?_ | refine Got.mk (fun _ _ => ?_) | refine retK_n ?_ | exact rfl) | fail); all_goals try (conv => whnf); all_goals try (exfalso; omega)
  · have e : (if true = true then 1#64 else 0#64) = 1#64 := rfl
    have hpn := hpn 1#64
    repeat' (first | (with_reducible refine Unf.h ?_) | fail); all_goals try (conv => whnf); all_goals try (exfalso; omega)
    refine CallS.mk (c := wnum_c) ((b, 1#64, 1)) ?_
    repeat' (first | (with_reducible refine Unf.h ?_) | ((conv => whnf); first | (refine Side.mk ?_ ?_; focus (first | with_reducible rfl | assumption | (refine congrArg (SV.int _) ?_; omega) | (simp [*, e]; done))) | refine RetE.mk () trivial ?_ | refine Got.mk (fun _ _ => ?_) | refine retK_n ?_ | exact rfl) | fail); all_goals try (conv => whnf); all_goals try (exfalso; omega)
def strB (v : Bs) : Bs := beN 2 (BitVec.ofInt 64 (v.length : Int)) ++ v
def wstr_c : Ctr where
  D := Bs × Bs
  pre := fun (b, v) => b.length ≤ 900000 ∧ v.length ≤ 8192
  args := fun (_, v) => [.ptr 0 0, .fs 1 eB v]
  objs := fun (b, _) => [(0, .box 233 [.own 1, .bool false]), (1, .row 5 1 eB b)]
  nn := 2
  res := fun _ _ => .tup []
  out := fun (b, v) _ => [(0, .box 233 [.own 2, .bool false]), (2, .row 5 1 eB (b ++ strB v))]
  mm := 1
def wstr_H : Cfg := ⟨[(191, wwi_c), (186, wnum_c), (135, wplain_c)], [], [], [], 16, 2, [], [], []⟩
theorem wstr_ok : wstr_c.Ok Tryz.prog 141 := by
  refine fn_ok wstr_H 2 rfl _ Tryz.func141 rfl rfl ⟨wwi_ok, wnum_ok, wplain_ok, trivial⟩ rfl rfl (by kernel_rfl) (fun _ => Nat.le_of_ble_eq_true rfl) ?_
  rintro ⟨b, v⟩ hp hr
  try dsimp only [wstr_c] at hp
  try simp only [wstr_c, Rng, RngL, inR, and_true, true_and] at hr
  obtain ⟨hp1, hp2⟩ := hp
  have hp1 : b.length ≤ 900000 := hp1
  have hp2 : v.length ≤ 8192 := hp2
  have hpi : wwi_c.pre (b, (v.length : Int), 8192) := ⟨by omega, by omega⟩
  have hpn : wnum_c.pre (b, BitVec.ofInt 64 (v.length : Int), 2) := ⟨by omega, by show b.length ≤ 1000000; omega⟩
  have hpp : wplain_c.pre (b ++ beN 2 (BitVec.ofInt 64 (v.length : Int)), v) := ⟨by simp [beN_len]; omega, by show v.length ≤ 1000000; omega⟩
  have es : b ++ strB v = b ++ beN 2 (BitVec.ofInt 64 (v.length : Int)) ++ v := by unfold strB; rw [List.append_assoc]
  repeat' (first | (with_reducible refine Unf.h ?_) | ((conv => whnf); first | (refine Side.mk ?_ ?_; focus (first | with_reducible rfl | assumption | (refine congrArg (SV.int _) ?_; omega) | (simp only [*]; done))) | refine RetE.mk () trivial ?_ | refine Got.mk (fun _ _ => ?_) | refine retK_n ?_ | exact rfl | refine CallS.mk (c := wwi_c) ((b, (v.length : Int), 8192)) ?_ | refine CallS.mk (c := wnum_c) ((b, BitVec.ofInt 64 (v.length : Int), 2)) ?_ | refine CallS.mk (c := wplain_c) ((b ++ beN 2 (BitVec.ofInt 64 (v.length : Int)), v)) ?_) | fail); all_goals try (conv => whnf); all_goals try (exfalso; omega)
  all_goals
    all_goals try (conv => whnf); all_goals try (exfalso; omega)
theorem nilsLL_rep (n : Nat) : nilsLL (List.replicate n [SV.u8 0#8]) = false := by
  induction n with
  | zero => rfl
  | succ n ih => rw [List.replicate_succ]; exact ih
def encS (s : BitVec 64) (v : Bs) : Bs := beN 8 s ++ strB v ++ List.replicate (110 - v.length) 0#8 ++ beN 8 s
def sten_c : Ctr where
  D := BitVec 64 × Bs
  pre := fun (_, v) => v.length ≤ 110
  args := fun (s, v) => [.u64 s, .fs 1 eB v]
  res := fun (s, v) _ => .tup [.fs 1 eB (encS s v), .int .i64 0]
def sten_H : Cfg := ⟨[(223, wu64_c), (141, wstr_c), (135, wplain_c), (136, wout_c)], [], [], [], 28, 0, [], [], []⟩
theorem sten_ok : sten_c.Ok Tryz.prog 176 := by
  refine fn_ok sten_H 0 rfl _ Tryz.func176 rfl rfl ⟨wu64_ok, wstr_ok, wplain_ok, wout_ok, trivial⟩ rfl rfl (by kernel_rfl) (fun _ => Nat.le_of_ble_eq_true rfl) ?_
  rintro ⟨s, v⟩ hp hr
  try dsimp only [sten_c] at hp
  try simp only [sten_c, Rng, RngL, inR, and_true, true_and] at hr
  have hp : v.length ≤ 110 := hp
  have ek : (110 : Int) - (v.length : Int) = ((110 - v.length : Nat) : Int) := by omega
  have hk : 110 - v.length ≤ 110 := by omega
  have es : encS s v = [] ++ beN 8 s ++ strB v ++ List.replicate (110 - v.length) 0#8 ++ beN 8 s := rfl
  have hls : (strB v).length = v.length + 2 := by unfold strB; simp [beN_len]; omega
  have hl8 : (beN 8 s).length = 8 := beN_len s 8
  generalize 110 - v.length = k at *
  have hp1 : wu64_c.pre ([], s) := show 0 ≤ 1000000 by omega
  have hp2 : wstr_c.pre ([] ++ beN 8 s, v) := ⟨by simp [hl8], by omega⟩
  have hp3 : wplain_c.pre ([] ++ beN 8 s ++ strB v, List.replicate k 0#8) := ⟨by simp [hl8, hls]; omega, by simp; omega⟩
  have hp4 : wu64_c.pre ([] ++ beN 8 s ++ strB v ++ List.replicate k 0#8, s) := by
    show ([] ++ beN 8 s ++ strB v ++ List.replicate k 0#8).length ≤ 1000000
    simp [hl8, hls]; omega
  have hp5 : wout_c.pre ([] ++ beN 8 s ++ strB v ++ List.replicate k 0#8 ++ beN 8 s) := by
    show ([] ++ beN 8 s ++ strB v ++ List.replicate k 0#8 ++ beN 8 s).length ≤ 1000000
    simp [hl8, hls]; omega
  repeat' (first | (with_reducible refine Unf.h ?_) | fail); all_goals try (conv => whnf); all_goals try (exfalso; omega)
  refine CallS.mk (c := wu64_c) (([], s)) ?_
  repeat' (first | (with_reducible refine Unf.h ?_) | ((conv => whnf); first | (refine Side.mk ?_ ?_; focus (first | with_reducible rfl | assumption)) | refine Got.mk (fun _ _ => ?_)) | fail); all_goals try (conv => whnf); all_goals try (exfalso; omega)
  refine CallS.mk (c := wstr_c) (([] ++ beN 8 s, v)) ?_
  repeat' (first | (with_reducible refine Unf.h ?_) | ((conv => whnf); first | (refine Side.mk ?_ ?_; focus (first | with_reducible rfl | assumption | (intros; (try simp only [lenS, inR, cutS, loI, hiI] at *); omega))) | refine Got.mk (fun _ _ => ?_)) | fail); all_goals try (conv => whnf); all_goals try (exfalso; omega)
  rw [ek]
  rcases k with _ | k
  · repeat' (first | (with_reducible refine Unf.h ?_) | ((conv => whnf); (refine Side.mk ?_ ?_; focus (omega))) | fail); all_goals try (conv => whnf); all_goals try (exfalso; omega)
    refine CallS.mk (c := wplain_c) (([] ++ beN 8 s ++ strB v, List.replicate 0 0#8)) ?_
    repeat' (first | (with_reducible refine Unf.h ?_) | ((conv => whnf); first | (refine Side.mk ?_ ?_; focus (first | with_reducible rfl | assumption | (simp [*]; done))) | refine Got.mk (fun _ _ => ?_)) | fail); all_goals try (conv => whnf); all_goals try (exfalso; omega)
    refine CallS.mk (c := wu64_c) (([] ++ beN 8 s ++ strB v ++ List.replicate 0 0#8, s)) ?_
    repeat' (first | (with_reducible refine Unf.h ?_) | ((conv => whnf); first | (refine Side.mk ?_ ?_; focus (first | with_reducible rfl | assumption)) | refine Got.mk (fun _ _ => ?_)) | fail); all_goals try (conv => whnf); all_goals try (exfalso; omega)
    refine CallS.mk (c := wout_c) (([] ++ beN 8 s ++ strB v ++ List.replicate 0 0#8 ++ beN 8 s)) ?_
    repeat' (first | (with_reducible refine Unf.h ?_) | ((conv => whnf); (refine Side.mk ?_ ?_; focus (with_reducible rfl))) | fail); all_goals try (conv => whnf); all_goals try (exfalso; omega)
    refine Side.mk rfl ?_
    repeat' (first | (with_reducible refine Unf.h ?_) | ((conv => whnf); first | (refine Side.mk ?_ ?_; focus (assumption)) | refine RetE.mk () trivial ?_ | refine Got.mk (fun _ _ => ?_) | refine retK_r ?_) | fail); all_goals try (conv => whnf); all_goals try (exfalso; omega)
    refine Side.mk (by rw [es]; rfl) ?_
    repeat' (first | (with_reducible refine Unf.h ?_) | ((conv => whnf); first | (refine Side.mk ?_ ?_; focus (with_reducible rfl)) | exact rfl) | fail); all_goals try (conv => whnf); all_goals try (exfalso; omega)
  · repeat' (first | (with_reducible refine Unf.h ?_) | ((conv => whnf); (refine Side.mk ?_ ?_; focus ((dsimp only; omega)))) | fail); all_goals try (conv => whnf); all_goals try (exfalso; omega)
    refine CallS.mk (c := wplain_c) (([] ++ beN 8 s ++ strB v, List.replicate (k + 1) 0#8)) ?_
    repeat' (first | (with_reducible refine Unf.h ?_) | fail); all_goals try (conv => whnf); all_goals try (exfalso; omega)
    rw [nilsLL_rep]
    repeat' (first | (with_reducible refine Unf.h ?_) | ((conv => whnf); first | (refine Side.mk ?_ ?_; focus (first | with_reducible rfl | assumption | (simp only [*, List.map_replicate, Int.toNat_natCast]; done))) | refine Got.mk (fun _ _ => ?_)) | fail); all_goals try (conv => whnf); all_goals try (exfalso; omega)
    refine CallS.mk (c := wu64_c) (([] ++ beN 8 s ++ strB v ++ List.replicate (k + 1) 0#8, s)) ?_
    repeat' (first | (with_reducible refine Unf.h ?_) | ((conv => whnf); first | (refine Side.mk ?_ ?_; focus (first | with_reducible rfl | assumption)) | refine Got.mk (fun _ _ => ?_)) | fail); all_goals try (conv => whnf); all_goals try (exfalso; omega)
    refine CallS.mk (c := wout_c) (([] ++ beN 8 s ++ strB v ++ List.replicate (k + 1) 0#8 ++ beN 8 s)) ?_
    repeat' (first | (with_reducible refine Unf.h ?_) | ((conv => whnf); (refine Side.mk ?_ ?_; focus (with_reducible rfl))) | fail); all_goals try (conv => whnf); all_goals try (exfalso; omega)
    refine Side.mk rfl ?_
    repeat' (first | (with_reducible refine Unf.h ?_) | ((conv => whnf); first | (refine Side.mk ?_ ?_; focus (assumption)) | refine RetE.mk () trivial ?_ | refine Got.mk (fun _ _ => ?_) | refine retK_r ?_) | fail); all_goals try (conv => whnf); all_goals try (exfalso; omega)
    refine Side.mk (by rw [es]; rfl) ?_
    repeat' (first | (with_reducible refine Unf.h ?_) | ((conv => whnf); first | (refine Side.mk ?_ ?_; focus (with_reducible rfl)) | exact rfl) | fail); all_goals try (conv => whnf); all_goals try (exfalso; omega)
end Go.Proofs.YtinpcefioadkcaaGreatDoor

namespace Go.Proofs.YtinpcefioadkcaaGreatDoor
set_option linter.all false
open Go.RowKit
abbrev z128 : Bs := List.replicate 128 0#8
theorem zeroPg_list : zeroPg.toList = z128 := by simp only [zeroPg, Vector.toList_replicate]
theorem zl (n : Nat) : (List.replicate n 0#8).length = n := List.length_replicate
theorem zd (m n : Nat) : List.drop m (List.replicate n 0#8) = List.replicate (n - m) 0#8 := List.drop_replicate
theorem zb (m n : Nat) : beV (List.take m (List.replicate n 0#8)) = 0#64 := by rw [List.take_replicate]; exact beV_zero _
def sdcZ_c : Ctr where
  D := Unit
  args := fun _ => [.fs 1 eB z128]
  res := fun _ _ => .tup [.u64 0#64, .fs 1 eB [], .bool false]
def sdcZ_H : Cfg := ⟨[(112, rnew_c), (172, ru64_c), (161, rst_c), (123, rfl_c), (121, rpl_c), (115, rdn_c)], [], [], [], 35, 0, [], [], []⟩
theorem sdcZ_ok : sdcZ_c.Ok Tryz.prog 111 := by
  refine fn_ok sdcZ_H 0 rfl _ Tryz.func111 rfl rfl ⟨rnew_ok, ru64_ok, rst_ok, rfl_ok, rpl_ok, rdn_ok, trivial⟩ rfl rfl (by kernel_rfl) (fun _ => Nat.le_of_ble_eq_true rfl) ?_
  intro (_ : Unit) hp hr
  try dsimp only [sdcZ_c] at hp
  try simp only [sdcZ_c, Rng, RngL, inR, and_true, true_and] at hr
  have hp1 : rnew_c.pre z128 := by show z128.length ≤ 1000000; rw [zl]; omega
  have hp2 : ru64_c.pre z128 := by exact ⟨by rw [zl]; omega, by rw [zl]; omega⟩
  have e2 : beV (List.take 8 z128) = 0#64 := zb _ _
  have f2 : List.drop 8 z128 = List.replicate 120 0#8 := zd _ _
  have e3 : beV (List.take 2 (List.replicate 120 0#8)) = 0#64 := zb _ _
  have e3n : (beV (List.take 2 (List.replicate 120 0#8))).toNat = 0 := by rw [e3]; rfl
  have hp3 : rst_c.pre (List.replicate 120 0#8, 110) := ⟨by rw [zl]; omega, by rw [zl]; omega, by omega, by rw [e3n]; omega, by rw [e3n]; omega, by rw [e3n, zl]; omega⟩
  have f3 : List.drop (beV (List.take 2 (List.replicate 120 0#8))).toNat (List.drop 2 (List.replicate 120 0#8)) = List.replicate 118 0#8 := by rw [e3n, zd, zd]
  have g3 : List.take (beV (List.take 2 (List.replicate 120 0#8))).toNat (List.drop 2 (List.replicate 120 0#8)) = [] := by rw [e3n]; rfl
  have hp4 : rpl_c.pre (List.replicate 118 0#8, 110) := by exact ⟨by rw [zl]; omega, by rw [zl]; omega⟩
  have f4 : List.drop 110 (List.replicate 118 0#8) = List.replicate 8 0#8 := zd _ _
  have hp5 : ru64_c.pre (List.replicate 8 0#8) := by exact ⟨by rw [zl]; omega, by rw [zl]; omega⟩
  have e5 : beV (List.take 8 (List.replicate 8 0#8)) = 0#64 := zb _ _
  repeat' (first | (with_reducible refine Unf.h ?_) | fail); all_goals try (conv => whnf); all_goals try (exfalso; omega)
  refine CallS.mk (c := rnew_c) (z128) ?_
  repeat' (first | (with_reducible refine Unf.h ?_) | ((conv => whnf); first | (refine Side.mk ?_ ?_; focus (first | with_reducible rfl | assumption)) | refine Got.mk (fun _ _ => ?_)) | fail); all_goals try (conv => whnf); all_goals try (exfalso; omega)
  refine CallS.mk (c := ru64_c) (z128) ?_
  repeat' (first | (with_reducible refine Unf.h ?_) | ((conv => whnf); first | (refine Side.mk ?_ ?_; focus (first | with_reducible rfl | assumption)) | refine Got.mk (fun _ _ => ?_)) | fail); all_goals try (conv => whnf); all_goals try (exfalso; omega)
  refine CallS.mk (c := rst_c) ((List.replicate 120 0#8, 110)) ?_
  repeat' (first | (with_reducible refine Unf.h ?_) | ((conv => whnf); first | (refine Side.mk ?_ ?_; focus (first | with_reducible rfl | assumption | (refine congrArg (SV.int _) ?_; omega) | (simp only [*, f3, g3, f2, e2]; done))) | refine Got.mk (fun _ _ => ?_)) | fail); all_goals try (conv => whnf); all_goals try (exfalso; omega)
  refine CallS.mk (c := rfl_c) ((List.replicate 118 0#8)) ?_
  repeat' (first | (with_reducible refine Unf.h ?_) | fail); all_goals try (conv => whnf); all_goals try (exfalso; omega)
  refine Side.mk (by rw [f3]) ?_
  repeat' (first | (with_reducible refine Unf.h ?_) | ((conv => whnf); first | (refine Side.mk ?_ ?_; focus (first | with_reducible rfl | exact True.intro | (intros; (try simp only [lenS, inR, cutS, loI, hiI] at *); omega))) | refine Got.mk (fun _ _ => ?_)) | fail); all_goals try (conv => whnf); all_goals try (exfalso; omega)
  refine CallS.mk (c := rpl_c) ((List.replicate 118 0#8, 110)) ?_
  repeat' (first | (with_reducible refine Unf.h ?_) | fail); all_goals try (conv => whnf); all_goals try (exfalso; omega)
  refine Side.mk (by rw [g3]; rfl) ?_
  repeat' (first | (with_reducible refine Unf.h ?_) | ((conv => whnf); first | (refine Side.mk ?_ ?_; focus (first | with_reducible rfl | assumption)) | refine Got.mk (fun _ _ => ?_)) | fail); all_goals try (conv => whnf); all_goals try (exfalso; omega)
  refine CallS.mk (c := ru64_c) ((List.replicate 8 0#8)) ?_
  repeat' (first | (with_reducible refine Unf.h ?_) | ((conv => whnf); first | refine Fork.mkn (fun h => ?_) (fun h => ?_) | refine Fork.mk (fun h => ?_) (fun h => ?_) | (refine Side.mk ?_ ?_; focus (first | with_reducible rfl | assumption | (simp only [*]; done))) | refine RetE.mk () trivial ?_ | refine Got.mk (fun _ _ => ?_) | refine retK_r ?_) | fail); all_goals try (conv => whnf); all_goals try (exfalso; omega)
  · exact absurd e2 (by assumption)
  all_goals
    refine Side.mk (by rw [g3]) ?_
    repeat' (first | (with_reducible refine Unf.h ?_) | ((conv => whnf); first | (refine Side.mk ?_ ?_; focus (with_reducible rfl)) | exact rfl) | fail); all_goals try (conv => whnf); all_goals try (exfalso; omega)
def sldZ_c : Ctr where
  D := List Pg × List Pg × List (Nat × Pg)
  pre := fun (L, S, _) => 2 ≤ L.length ∧ S[0]? = some zeroPg ∧ S[1]? = some zeroPg
  args := fun _ => [.ptr 0 0, .int .i64 0]
  objs := fun (L, S, q) => devs L S q
  nn := 4
  res := fun _ _ => .tup [.u64 0#64, .nils, .int .i64 0]
  out := fun (L, S, q) _ => devs L S q
def sldZ_H : Cfg := ⟨[(110, drd_c), (111, sdcZ_c)], [], [], [], 55, 4, [], [], []⟩
theorem sldZ_ok : sldZ_c.Ok Tryz.prog 60 := by
  refine fn_ok sldZ_H 4 rfl _ Tryz.func60 rfl rfl ⟨drd_ok, sdcZ_ok, trivial⟩ rfl rfl (by kernel_rfl) (fun _ => Nat.le_of_ble_eq_true rfl) ?_
  rintro ⟨L, S, q⟩ hp hr
  try dsimp only [sldZ_c] at hp
  try simp only [sldZ_c, Rng, RngL, inR, and_true, true_and] at hr
  obtain ⟨hp1, hp2, hp3⟩ := hp
  have hp1 : 2 ≤ L.length := hp1
  have hp2 : S[0]? = some zeroPg := hp2
  have hp3 : S[1]? = some zeroPg := hp3
  have hr0 : drd_c.pre ((L, S, q), 0, zeroPg) := ⟨by show 0 < L.length; omega, hp2⟩
  have hr1 : drd_c.pre ((L, S, q), 1, zeroPg) := ⟨by show 1 < L.length; omega, hp3⟩
  have el := zeroPg_list
  repeat' (first | (with_reducible refine Unf.h ?_) | fail); all_goals try (conv => whnf); all_goals try (exfalso; omega)
  refine LoopS.autoN (I := Nat) (fun i => i ≤ 2) (fun i => [(17, .int .i64 (i : Int)), (7, .u64 0#64), (8, .nils)]) (fun _ => devs L S q) 4 (fun i => 2 - i) 0 (Nat.zero_le _) ?_ ?_
  · repeat' (first | (with_reducible refine Unf.h ?_) | ((conv => whnf); first | (refine Side.mk ?_ ?_; focus (first | with_reducible rfl | (refine congrArg (SV.int _) ?_; omega))) | (with_reducible refine Unf.h ?_) | exact True.intro) | fail); all_goals try (conv => whnf); all_goals try (exfalso; omega)
  · intro i hi
    have hi3 : i = 0 ∨ i = 1 ∨ i = 2 := by omega
    rcases hi3 with rfl | rfl | rfl
    · repeat' (first | (with_reducible refine Unf.h ?_) | ((conv => whnf); first | refine Fork.mk (fun h => ?_) (fun h => ?_) | (refine Side.mk ?_ ?_; focus ((intros; (try simp only [lenS, inR, cutS, loI, hiI] at *); omega)))) | fail); all_goals try (conv => whnf); all_goals try (exfalso; omega)
      refine CallS.mk (c := drd_c) (((L, S, q), 0, zeroPg)) ?_
      repeat' (first | (with_reducible refine Unf.h ?_) | ((conv => whnf); first | refine Fork.mkn (fun h => ?_) (fun h => ?_) | (refine Side.mk ?_ ?_; focus (first | with_reducible rfl | assumption | (refine congrArg (SV.int _) ?_; omega))) | refine Got.mk (fun _ _ => ?_)) | fail); all_goals try (conv => whnf); all_goals try (exfalso; omega)
      refine CallS.mk (c := sdcZ_c) (()) ?_
      repeat' (first | (with_reducible first | refine Unf.h ?_ | refine loopK_n ?_) | ((conv => whnf); first | (refine Side.mk ?_ ?_; focus (first | exact True.intro | (intros; (try simp only [lenS, inR, cutS, loI, hiI] at *); omega) | (simp only [*]; done))) | refine Got.mk (fun _ _ => ?_)) | fail); all_goals try (conv => whnf); all_goals try (exfalso; omega)
      refine ⟨1, ⟨by omega, by omega⟩, ?_⟩
      repeat' (first | (with_reducible refine Unf.h ?_) | ((conv => whnf); first | (refine Side.mk ?_ ?_; focus (first | with_reducible rfl | (refine congrArg (SV.int _) ?_; omega))) | (with_reducible refine Unf.h ?_) | exact True.intro) | fail); all_goals try (conv => whnf); all_goals try (exfalso; omega)
    · repeat' (first | (with_reducible refine Unf.h ?_) | ((conv => whnf); first | refine Fork.mk (fun h => ?_) (fun h => ?_) | (refine Side.mk ?_ ?_; focus ((intros; (try simp only [lenS, inR, cutS, loI, hiI] at *); omega)))) | fail); all_goals try (conv => whnf); all_goals try (exfalso; omega)
      refine CallS.mk (c := drd_c) (((L, S, q), 1, zeroPg)) ?_
      repeat' (first | (with_reducible refine Unf.h ?_) | ((conv => whnf); first | refine Fork.mkn (fun h => ?_) (fun h => ?_) | (refine Side.mk ?_ ?_; focus (first | with_reducible rfl | assumption | (refine congrArg (SV.int _) ?_; omega))) | refine Got.mk (fun _ _ => ?_)) | fail); all_goals try (conv => whnf); all_goals try (exfalso; omega)
      refine CallS.mk (c := sdcZ_c) (()) ?_
      repeat' (first | (with_reducible first | refine Unf.h ?_ | refine loopK_n ?_) | ((conv => whnf); first | (refine Side.mk ?_ ?_; focus (first | exact True.intro | (intros; (try simp only [lenS, inR, cutS, loI, hiI] at *); omega) | (simp only [*]; done))) | refine Got.mk (fun _ _ => ?_)) | fail); all_goals try (conv => whnf); all_goals try (exfalso; omega)
      refine ⟨2, ⟨by omega, by omega⟩, ?_⟩
      repeat' (first | (with_reducible refine Unf.h ?_) | ((conv => whnf); first | (refine Side.mk ?_ ?_; focus (first | with_reducible rfl | (refine congrArg (SV.int _) ?_; omega))) | (with_reducible refine Unf.h ?_) | exact True.intro) | fail); all_goals try (conv => whnf); all_goals try (exfalso; omega)
    · repeat' (first | (with_reducible refine Unf.h ?_) | ((conv => whnf); first | refine Fork.mk (fun h => ?_) (fun h => ?_) | (refine Side.mk ?_ ?_; focus (with_reducible rfl)) | refine RetE.mk () trivial ?_ | refine retK_r ?_ | exact rfl) | fail); all_goals try (conv => whnf); all_goals try (exfalso; omega)
end Go.Proofs.YtinpcefioadkcaaGreatDoor

namespace Go.Proofs.YtinpcefioadkcaaGreatDoor
set_option linter.all false
open Go.RowKit
def zu8_c : Ctr where
  D := Nat
  pre := fun k => k ≤ 1000
  args := fun _ => [.ptr 0 0]
  objs := fun k => [(0, rdO (List.replicate (k + 1) 0#8))]
  nn := 1
  res := fun _ _ => .int .i64 0
  out := fun k _ => [(0, rdO (List.replicate k 0#8))]
def zu8_H : Cfg := ⟨[(175, rnu_c)], [], [], [], 6, 1, [], [], []⟩
theorem zu8_ok : zu8_c.Ok Tryz.prog 120 := by
  refine fn_ok zu8_H 1 rfl _ Tryz.func120 rfl rfl ⟨rnu_ok, trivial⟩ rfl rfl (by kernel_rfl) (fun _ => Nat.le_of_ble_eq_true rfl) ?_
  intro (k : Nat) hp hr
  try dsimp only [zu8_c] at hp
  try simp only [zu8_c, Rng, RngL, inR, and_true, true_and] at hr
  have hp : k ≤ 1000 := hp
  have hpn : rnu_c.pre (List.replicate (k + 1) 0#8, 1) := ⟨by rw [zl]; omega, by omega, by rw [zl]; omega⟩
  have hb : (beV (List.take 1 (List.replicate (k + 1) 0#8))).toNat = 0 := by rw [zb]; rfl
  repeat' (first | (with_reducible refine Unf.h ?_) | fail); all_goals try (conv => whnf); all_goals try (exfalso; omega)
  refine CallS.mk (c := rnu_c) ((List.replicate (k + 1) 0#8, 1)) ?_
  repeat' (first | (with_reducible refine Unf.h ?_) | ((conv => whnf); first | (refine Side.mk ?_ ?_; focus (first | with_reducible rfl | assumption | omega | (refine congrArg (SV.int _) ?_; omega) | (simp [*, hb]; done))) | refine RetE.mk () trivial ?_ | refine Got.mk (fun _ _ => ?_) | refine retK_r ?_ | exact rfl) | fail); all_goals try (conv => whnf); all_goals try (exfalso; omega)
def zu64_c : Ctr where
  D := Nat
  pre := fun k => k ≤ 1000
  args := fun _ => [.ptr 0 0]
  objs := fun k => [(0, rdO (List.replicate (k + 8) 0#8))]
  nn := 1
  res := fun _ _ => .u64 0#64
  out := fun k _ => [(0, rdO (List.replicate k 0#8))]
def zu64_H : Cfg := ⟨[(175, rnu_c)], [], [], [], 5, 1, [], [], []⟩
theorem zu64_ok : zu64_c.Ok Tryz.prog 172 := by
  refine fn_ok zu64_H 1 rfl _ Tryz.func172 rfl rfl ⟨rnu_ok, trivial⟩ rfl rfl (by kernel_rfl) (fun _ => Nat.le_of_ble_eq_true rfl) ?_
  intro (k : Nat) hp hr
  try dsimp only [zu64_c] at hp
  try simp only [zu64_c, Rng, RngL, inR, and_true, true_and] at hr
  have hp : k ≤ 1000 := hp
  have hpn : rnu_c.pre (List.replicate (k + 8) 0#8, 8) := ⟨by rw [zl]; omega, by omega, by rw [zl]; omega⟩
  have hd : List.drop 8 (List.replicate (k + 8) 0#8) = List.replicate k 0#8 := by rw [zd, Nat.add_sub_cancel]
  repeat' (first | (with_reducible refine Unf.h ?_) | fail); all_goals try (conv => whnf); all_goals try (exfalso; omega)
  refine CallS.mk (c := rnu_c) ((List.replicate (k + 8) 0#8, 8)) ?_
  repeat' (first | (with_reducible refine Unf.h ?_) | ((conv => whnf); first | (refine Side.mk ?_ ?_; focus (first | with_reducible rfl | assumption | (refine congrArg (SV.int _) ?_; omega))) | refine RetE.mk () trivial ?_ | refine Got.mk (fun _ _ => ?_) | refine retK_r ?_) | fail); all_goals try (conv => whnf); all_goals try (exfalso; omega)
  refine Side.mk (by rw [zb]; rfl) ?_
  repeat' (first | (with_reducible refine Unf.h ?_) | ((conv => whnf); first | (refine Side.mk ?_ ?_; focus (first | with_reducible rfl | (simp only [*, hd]; done))) | exact rfl) | fail); all_goals try (conv => whnf); all_goals try (exfalso; omega)
  all_goals rfl
def zpl_c : Ctr where
  D := Nat × Nat
  pre := fun (n, k) => n ≤ 1000 ∧ k ≤ 1000
  args := fun (n, _) => [.ptr 0 0, .int .i64 (n : Int)]
  objs := fun (n, k) => [(0, rdO (List.replicate (k + n) 0#8))]
  nn := 1
  res := fun (n, _) _ => .fs 1 eB (List.replicate n 0#8)
  out := fun (_, k) _ => [(0, rdO (List.replicate k 0#8))]
def zpl_H : Cfg := ⟨[(180, rtk_c)], [], [], [], 8, 1, [], [], []⟩
theorem zpl_ok : zpl_c.Ok Tryz.prog 121 := by
  refine fn_ok zpl_H 1 rfl _ Tryz.func121 rfl rfl ⟨rtk_ok, trivial⟩ rfl rfl (by kernel_rfl) (fun _ => Nat.le_of_ble_eq_true rfl) ?_
  rintro ⟨n, k⟩ hp hr
  try dsimp only [zpl_c] at hp
  try simp only [zpl_c, Rng, RngL, inR, and_true, true_and] at hr
  obtain ⟨hp1, hp2⟩ := hp
  have hp1 : n ≤ 1000 := hp1
  have hp2 : k ≤ 1000 := hp2
  have hpn : rtk_c.pre (List.replicate (k + n) 0#8, n) := ⟨by rw [zl]; omega, by rw [zl]; omega⟩
  have hd : List.drop n (List.replicate (k + n) 0#8) = List.replicate k 0#8 := by rw [zd, Nat.add_sub_cancel]
  have ht : List.take n (List.replicate (k + n) 0#8) = List.replicate n 0#8 := by rw [List.take_replicate, Nat.min_eq_left (by omega)]
  repeat' (first | (with_reducible refine Unf.h ?_) | fail); all_goals try (conv => whnf); all_goals try (exfalso; omega)
  refine CallS.mk (c := rtk_c) ((List.replicate (k + n) 0#8, n)) ?_
  repeat' (first | (with_reducible refine Unf.h ?_) | ((conv => whnf); first | (refine Side.mk ?_ ?_; focus (first | with_reducible rfl | assumption | (simp only [*, hd, ht]; done))) | refine RetE.mk () trivial ?_ | refine Got.mk (fun _ _ => ?_) | refine retK_r ?_ | exact rfl) | fail); all_goals try (conv => whnf); all_goals try (exfalso; omega)
def wpdZ_c : Ctr where
  D := BitVec 32
  args := fun l => [.fs 1 eB z128, .int .i64 1, .u32 l]
  res := fun _ _ => .tup [.agg [.u32 0#32, .int .i64 0, .int .i64 0, .fs 1 eB []], .bool false]
def wpdZ_H : Cfg := ⟨[(112, rnew_c), (172, zu64_c), (120, zu8_c), (121, zpl_c), (115, rdn_c)], [(16, [0, 7, 12, 18], [22], (.one 0 1 false (.one 1 0 false (.one 2 0 false (.one 3 0 false (.one 4 0 false (.one 5 0 false (.one 6 0 false (.one 7 1 false (.one 8 0 false (.one 9 0 false (.one 10 0 false (.one 11 0 false (.one 12 1 false (.one 13 0 false (.one 14 0 false (.one 15 0 false (.one 16 0 false (.one 17 0 false (.one 18 1 false (.one 19 0 false (.one 20 0 false (.one 21 0 false (.one 22 2 true (.one 23 0 false .nil)))))))))))))))))))))))), [6])], [], [], 89, 0, [], [], []⟩
theorem wpdZ_ok : wpdZ_c.Ok Tryz.prog 119 := by
  refine fn_ok wpdZ_H 0 rfl _ Tryz.func119 rfl rfl ⟨rnew_ok, zu64_ok, zu8_ok, zpl_ok, rdn_ok, trivial⟩ rfl rfl (by kernel_rfl) (fun _ => Nat.le_of_ble_eq_true rfl) ?_
  intro (l : BitVec 32) hp hr
  try dsimp only [wpdZ_c] at hp
  try simp only [wpdZ_c, Rng, RngL, inR, and_true, true_and] at hr
  have hp1 : rnew_c.pre z128 := by show z128.length ≤ 1000000; rw [zl]; omega
  have hp2 : zu64_c.pre (120 : Nat) := show 120 ≤ 1000 by omega
  have hp3 : zu8_c.pre (119 : Nat) := show 119 ≤ 1000 by omega
  have hp4 : zu8_c.pre (118 : Nat) := show 118 ≤ 1000 by omega
  have hp5 : zpl_c.pre (0, 118) := ⟨by omega, by omega⟩
  have hp6 : zpl_c.pre (110, 8) := ⟨by omega, by omega⟩
  have hp7 : zu64_c.pre (0 : Nat) := show 0 ≤ 1000 by omega
  repeat' (first | (with_reducible refine Unf.h ?_) | fail); all_goals try (conv => whnf); all_goals try (exfalso; omega)
  refine CallS.mk (c := rnew_c) (z128) ?_
  repeat' (first | (with_reducible refine Unf.h ?_) | ((conv => whnf); first | (refine Side.mk ?_ ?_; focus (first | with_reducible rfl | assumption)) | refine Got.mk (fun _ _ => ?_)) | fail); all_goals try (conv => whnf); all_goals try (exfalso; omega)
  refine CallS.mk (c := zu64_c) ((120 : Nat)) ?_
  repeat' (first | (with_reducible refine Unf.h ?_) | ((conv => whnf); first | (refine Side.mk ?_ ?_; focus (first | with_reducible rfl | assumption)) | refine Got.mk (fun _ _ => ?_)) | fail); all_goals try (conv => whnf); all_goals try (exfalso; omega)
  refine CallS.mk (c := zu8_c) ((119 : Nat)) ?_
  repeat' (first | (with_reducible refine Unf.h ?_) | ((conv => whnf); first | (refine Side.mk ?_ ?_; focus (first | with_reducible rfl | assumption)) | refine Got.mk (fun _ _ => ?_)) | fail); all_goals try (conv => whnf); all_goals try (exfalso; omega)
  refine CallS.mk (c := zu8_c) ((118 : Nat)) ?_
  repeat' (first | (with_reducible refine Unf.h ?_) | ((conv => whnf); first | refine Fork.mk (fun h => ?_) (fun h => ?_) | (refine Side.mk ?_ ?_; focus (first | with_reducible rfl | assumption)) | refine Got.mk (fun _ _ => ?_)) | fail); all_goals try (conv => whnf); all_goals try (exfalso; omega)
  refine CallS.mk (c := zpl_c) ((0, 118)) ?_
  repeat' (first | (with_reducible refine Unf.h ?_) | ((conv => whnf); first | (refine Side.mk ?_ ?_; focus (first | with_reducible rfl | assumption | (refine congrArg (SV.int _) ?_; omega) | (intros; (try simp only [lenS, inR, cutS, loI, hiI] at *); omega))) | refine Got.mk (fun _ _ => ?_)) | fail); all_goals try (conv => whnf); all_goals try (exfalso; omega)
  refine CallS.mk (c := zpl_c) ((110, 8)) ?_
  repeat' (first | (with_reducible refine Unf.h ?_) | ((conv => whnf); first | (refine Side.mk ?_ ?_; focus (first | with_reducible rfl | assumption | (refine congrArg (SV.int _) ?_; omega))) | refine Got.mk (fun _ _ => ?_)) | fail); all_goals try (conv => whnf); all_goals try (exfalso; omega)
  have hl : (List.replicate 110 0#8).length = 110 := zl _
  refine LoopS.autoN (I := Nat) (fun i => i ≤ 110) (fun i => [(43, .int .i64 (i : Int))]) (fun _ => [(0, .box 218 [.u32 0#32, .int .i64 0, .int .i64 0, .nils]), (1, rdO (List.replicate 8 0#8)), (2, .box 218 [.u32 0#32, .int .i64 0, .int .i64 0, .fs 1 eB []])]) 3 (fun i => 110 - i) 0 (Nat.zero_le _) ?_ ?_
  · repeat' (first | (with_reducible refine Unf.h ?_) | ((conv => whnf); first | (refine Side.mk ?_ ?_; focus (first | with_reducible rfl | (refine congrArg (SV.int _) ?_; omega) | (simp [*]; done))) | (with_reducible refine Unf.h ?_) | exact True.intro) | fail); all_goals try (conv => whnf); all_goals try (exfalso; omega)
  · intro i hi
    rcases Nat.lt_or_ge i 110 with h | h
    · have hz0 : (List.replicate 110 0#8)[((i : Nat) : Int).toNat]'(by rw [hl]; omega) = 0#8 := List.getElem_replicate ..
      repeat' (first | (with_reducible first | refine Unf.h ?_ | refine loopK_n ?_) | ((conv => whnf); first | refine Fork.mkn (fun h => ?_) (fun h => ?_) | refine Fork.mk (fun h => ?_) (fun h => ?_) | (refine Side.mk ?_ ?_; focus (first | with_reducible rfl | (intros; (try simp only [lenS, inR, cutS, loI, hiI] at *); omega))) | (refine Idx.mk ?_ ?_; focus (omega)) | refine RetE.mk () trivial ?_ | refine retK_r ?_ | exact rfl) | fail); all_goals try (conv => whnf); all_goals try (exfalso; omega)
      all_goals
        refine ⟨i + 1, ⟨by omega, by omega⟩, ?_⟩
        repeat' (first | (with_reducible refine Unf.h ?_) | ((conv => whnf); first | (refine Side.mk ?_ ?_; focus (first | with_reducible rfl | (refine congrArg (SV.int _) ?_; omega))) | (with_reducible refine Unf.h ?_) | exact True.intro) | fail); all_goals try (conv => whnf); all_goals try (exfalso; omega)
    · repeat' (first | (with_reducible refine Unf.h ?_) | ((conv => whnf); refine Fork.mk (fun h => ?_) (fun h => ?_)) | fail); all_goals try (conv => whnf); all_goals try (exfalso; omega)
      refine CallS.mk (c := zu64_c) ((0 : Nat)) ?_
      repeat' (first | (with_reducible refine Unf.h ?_) | ((conv => whnf); first | refine Fork.mk (fun h => ?_) (fun h => ?_) | (refine Side.mk ?_ ?_; focus (first | with_reducible rfl | assumption | omega)) | refine RetE.mk () trivial ?_ | refine Got.mk (fun _ _ => ?_) | refine retK_r ?_ | exact rfl) | fail); all_goals try (conv => whnf); all_goals try (exfalso; omega)
      all_goals
        refine CallS.mk (c := rdn_c) ((List.replicate 0 0#8)) ?_
        repeat' (first | (with_reducible refine Unf.h ?_) | ((conv => whnf); first | refine Fork.mkn (fun h => ?_) (fun h => ?_) | refine Fork.mk (fun h => ?_) (fun h => ?_) | (refine Side.mk ?_ ?_; focus (first | with_reducible rfl | exact True.intro | omega)) | refine RetE.mk () trivial ?_ | refine Got.mk (fun _ _ => ?_) | refine retK_r ?_ | exact rfl) | fail); all_goals try (conv => whnf); all_goals try (exfalso; omega)
end Go.Proofs.YtinpcefioadkcaaGreatDoor

namespace Go.Proofs.YtinpcefioadkcaaGreatDoor
set_option linter.all false
open Go.RowKit
def ssvZ_c : Ctr where
  D := List Pg × List Pg × Bs
  pre := fun (L, S, v) => 2 ≤ L.length ∧ 2 ≤ S.length ∧ S[0]? = some zeroPg ∧ S[1]? = some zeroPg ∧ v.length ≤ 110
  args := fun (_, _, v) => [.ptr 0 0, .int .i64 0, .fs 1 eB v]
  objs := fun (L, S, _) => devs L S []
  nn := 4
  E := Pg
  post := fun (_, _, v) p => p.toList = encS 1#64 v
  res := fun _ _ => .tup [.u64 1#64, .int .i64 0]
  out := fun (L, S, _) p => devN 4 5 6 (L.set 1 p) (S.set 1 p) []
  mm := 3
theorem encS_len (s : BitVec 64) {v : Bs} (h : v.length ≤ 110) : (encS s v).length = 128 := by
  unfold encS strB
  simp only [List.length_append, beN_len, List.length_replicate]
  omega
def ssvZ_H : Cfg := ⟨[(60, sldZ_c), (176, sten_c), (177, dwr_c), (178, dfl_c)], [], [], [], 59, 4, [], [], []⟩
theorem ssvZ_ok : ssvZ_c.Ok Tryz.prog 116 := by
  refine fn_ok ssvZ_H 4 rfl _ Tryz.func116 rfl rfl ⟨sldZ_ok, sten_ok, dwr_ok, dfl_ok, trivial⟩ rfl rfl (by kernel_rfl) (fun _ => Nat.le_of_ble_eq_true rfl) ?_
  rintro ⟨L, S, v⟩ hp hr
  try dsimp only [ssvZ_c] at hp
  try simp only [ssvZ_c, Rng, RngL, inR, and_true, true_and] at hr
  obtain ⟨hp1, hp2, hp3, hp4, hp5⟩ := hp
  have hp1 : 2 ≤ L.length := hp1
  have hp2 : 2 ≤ S.length := hp2
  have hp5 : v.length ≤ 110 := hp5
  have h1 : sldZ_c.pre (L, S, []) := ⟨hp1, hp3, hp4⟩
  have h2 : sten_c.pre (1#64, v) := hp5
  have h3 : dwr_c.pre ((L, S, []), 1, encS 1#64 v) := ⟨by show 1 < L.length; omega, by show 1 < S.length; omega, encS_len _ hp5, by show ([] : List (Nat × Pg)).length ≤ 100000; simp⟩
  have es : (0#64 + 1#64 : BitVec 64) = 1#64 := by decide
  have en : ¬ (0#64 + 1#64 : BitVec 64) = 0#64 := by decide
  repeat' (first | (with_reducible refine Unf.h ?_) | ((conv => whnf); refine Fork.mk (fun h => ?_) (fun h => ?_)) | fail); all_goals try (conv => whnf); all_goals try (exfalso; omega)
  refine CallS.mk (c := sldZ_c) ((L, S, [])) ?_
  repeat' (first | (with_reducible refine Unf.h ?_) | ((conv => whnf); first | refine Fork.mkn (fun h => ?_) (fun h => ?_) | refine Fork.mk (fun h => ?_) (fun h => ?_) | (refine Side.mk ?_ ?_; focus (first | with_reducible rfl | assumption)) | refine Got.mk (fun _ _ => ?_) | refine retK_r ?_) | fail); all_goals try (conv => whnf); all_goals try (exfalso; omega)
  · exact absurd (by assumption) en
  refine CallS.mk (c := sten_c) ((1#64, v)) ?_
  repeat' (first | (with_reducible refine Unf.h ?_) | ((conv => whnf); first | refine Fork.mkn (fun h => ?_) (fun h => ?_) | (refine Side.mk ?_ ?_; focus (first | with_reducible rfl | assumption | (intros; (try simp only [lenS, inR, cutS, loI, hiI, es] at *); omega) | (simp only [*, es]; done) | (simp [*, es]; done))) | refine Got.mk (fun _ _ => ?_)) | fail); all_goals try (conv => whnf); all_goals try (exfalso; omega)
  refine CallS.mk (c := dwr_c) (((L, S, []), 1, encS 1#64 v)) ?_
  repeat' (first | (with_reducible refine Unf.h ?_) | ((conv => whnf); first | refine Fork.mkn (fun h => ?_) (fun h => ?_) | (refine Side.mk ?_ ?_; focus (first | with_reducible rfl | assumption | (simp [*]; done))) | refine Got.mk (fun _ _ => ?_)) | fail); all_goals try (conv => whnf); all_goals try (exfalso; omega)
  rename_i p hpp
  have hpp : p.toList = encS 1#64 v := hpp
  have h4 : dfl_c.pre (L, S.set 1 p, [] ++ [(1, p)]) := ⟨(by show (1 : Nat) ≤ 100000; omega), fun x hx => by
    have hx : x ∈ [(1, p)] := hx
    obtain rfl := List.mem_singleton.1 hx
    show 1 < L.length; omega⟩
  have hfl : flF L ([] ++ [(1, p)]) = L.set 1 p := rfl
  refine CallS.mk (c := dfl_c) ((L, S.set 1 p, [] ++ [(1, p)])) ?_
  repeat' (first | (with_reducible refine Unf.h ?_) | ((conv => whnf); (refine Side.mk ?_ ?_; focus (with_reducible rfl))) | fail); all_goals try (conv => whnf); all_goals try (exfalso; omega)
  refine Side.mk rfl ?_
  repeat' (first | (with_reducible refine Unf.h ?_) | ((conv => whnf); first | refine Fork.mkn (fun h => ?_) (fun h => ?_) | (refine Side.mk ?_ ?_; focus (assumption)) | refine Got.mk (fun _ _ => ?_) | refine retK_r ?_) | fail); all_goals try (conv => whnf); all_goals try (exfalso; omega)
  refine RetE.mk (c := ssvZ_c) (d := (L, S, v)) (show Pg from p) hpp ?_
  repeat' (first | (with_reducible refine Unf.h ?_) | ((conv => whnf); first | (refine Side.mk ?_ ?_; focus (first | with_reducible rfl | (simp only [*, hfl]; done))) | (with_reducible refine Unf.h ?_) | exact rfl) | fail); all_goals try (conv => whnf); all_goals try (exfalso; omega)
def wmay_c : Ctr where
  D := (List Pg × List Pg × List (Nat × Pg)) × Nat × Nat × BitVec 32 × BitVec 32
  pre := fun ((L, _, _), f, c, l, g) => f + c ≤ L.length ∧ L.length ≤ 100000 ∧ 0 < l.toNat ∧ l.toNat ≤ g.toNat
  args := fun (_, f, c, l, g) => [.ptr 0 0, .int .i64 (f : Int), .int .i64 (c : Int), .u32 l, .u32 g]
  objs := fun ((L, S, q), _) => devs L S q
  nn := 4
  res := fun _ _ => .bool true
  out := fun ((L, S, q), _) _ => devs L S q
def wmay_H : Cfg := ⟨[(59, dpgs_c)], [], [], [], 44, 4, [], [], []⟩
theorem wmay_ok : wmay_c.Ok Tryz.prog 118 := by
  refine fn_ok wmay_H 4 rfl _ Tryz.func118 rfl rfl ⟨dpgs_ok, trivial⟩ rfl rfl (by kernel_rfl) (fun _ => Nat.le_of_ble_eq_true rfl) ?_
  rintro ⟨⟨L, S, q⟩, f, c, l, g⟩ hp hr
  try dsimp only [wmay_c] at hp
  try simp only [wmay_c, Rng, RngL, inR, and_true, true_and] at hr
  obtain ⟨hp1, hp0, hp2, hp3⟩ := hp
  have hp1 : f + c ≤ L.length := hp1
  have hp0 : L.length ≤ 100000 := hp0
  have hp2 : 0 < l.toNat := hp2
  have hp3 : l.toNat ≤ g.toNat := hp3
  have e0 : (0#32).toNat = 0 := rfl
  repeat' (first | (with_reducible refine Unf.h ?_) | ((conv => whnf); first | refine Fork.mk (fun h => ?_) (fun h => ?_) | (refine Side.mk ?_ ?_; focus (first | with_reducible rfl | exact True.intro | (intros; (try simp only [lenS, inR, cutS, loI, hiI] at *); omega) | (simp [*]; done))) | refine RetE.mk () trivial ?_ | refine Got.mk (fun _ _ => ?_) | refine retK_r ?_ | exact rfl | refine CallS.mk (c := dpgs_c) ((L, S, q)) ?_) | fail); all_goals try (conv => whnf); all_goals try (exfalso; omega)
end Go.Proofs.YtinpcefioadkcaaGreatDoor

namespace Go.Proofs.YtinpcefioadkcaaGreatDoor
set_option linter.all false
open Go.RowKit
def wopZ_c : Ctr where
  D := (List Pg × List Pg × List (Nat × Pg)) × Nat × Nat × BitVec 32 × BitVec 32
  pre := fun ((L, S, _), f, c, l, g) => f + c ≤ L.length ∧ L.length ≤ 100000 ∧ 0 < l.toNat ∧ l.toNat ≤ g.toNat ∧ 1 ≤ c ∧ S[f]? = some zeroPg
  args := fun (_, f, c, l, g) => [.ptr 0 0, .int .i64 (f : Int), .int .i64 (c : Int), .u32 l, .u32 g]
  objs := fun ((L, S, q), _) => devs L S q
  nn := 4
  res := fun _ _ => .tup [.ptr 4 0, .nils, .int .i64 0]
  out := fun ((L, S, q), f, c, _, g) _ => devs L S q ++ [(4, .box 216 [.ptr 0 0, .int .i64 (f : Int), .int .i64 (c : Int), .u32 g, .int .i64 0, .bool false])]
  mm := 1
def wopZ_H : Cfg := ⟨[(118, wmay_c), (110, drd_c), (119, wpdZ_c)], [(17, [1, 3], [], (.one 0 0 false (.one 1 1 false (.one 2 0 false (.one 3 1 false (.one 4 0 false (.one 5 0 false .nil)))))), [])], [], [], 106, 4, [], [], []⟩
theorem wopZ_ok : wopZ_c.Ok Tryz.prog 63 := by
  refine fn_ok wopZ_H 4 rfl _ Tryz.func63 rfl rfl ⟨wmay_ok, drd_ok, wpdZ_ok, trivial⟩ rfl rfl (by kernel_rfl) (fun _ => Nat.le_of_ble_eq_true rfl) ?_
  rintro ⟨⟨L, S, q⟩, f, c, l, g⟩ hp hr
  try dsimp only [wopZ_c] at hp
  try simp only [wopZ_c, Rng, RngL, inR, and_true, true_and] at hr
  obtain ⟨hp1, hp0, hp2, hp3, hp4, hp5⟩ := hp
  have hp1 : f + c ≤ L.length := hp1
  have hp0 : L.length ≤ 100000 := hp0
  have hp4 : 1 ≤ c := hp4
  have hm : wmay_c.pre ((L, S, q), f, c, l, g) := ⟨hp1, hp0, hp2, hp3⟩
  have hrd : drd_c.pre ((L, S, q), f, zeroPg) := ⟨by show f < L.length; omega, hp5⟩
  have el := zeroPg_list
  repeat' (first | (with_reducible refine Unf.h ?_) | ((conv => whnf); first | (refine Side.mk ?_ ?_; focus (first | with_reducible rfl | assumption)) | refine Got.mk (fun _ _ => ?_) | refine CallS.mk (c := wmay_c) (((L, S, q), f, c, l, g)) ?_) | fail); all_goals try (conv => whnf); all_goals try (exfalso; omega)
  refine LoopS.autoN (I := Unit) (fun _ => True) (fun _ => [(15, .int .i64 0), (14, .nils), (3, .u32 l)]) (fun _ => devs L S q ++ [(4, .box 216 [.ptr 0 0, .int .i64 (f : Int), .int .i64 (c : Int), .u32 g, .int .i64 0, .bool false])]) 5 (fun _ => 0) () trivial ?_ ?_
  · repeat' (first | (with_reducible refine Unf.h ?_) | ((conv => whnf); first | (refine Side.mk ?_ ?_; focus (with_reducible rfl)) | (with_reducible refine Unf.h ?_) | exact True.intro) | fail); all_goals try (conv => whnf); all_goals try (exfalso; omega)
  · intro _ _
    repeat' (first | (with_reducible refine Unf.h ?_) | ((conv => whnf); refine Fork.mk (fun h => ?_) (fun h => ?_)) | fail); all_goals try (conv => whnf); all_goals try (exfalso; omega)
    refine LoopS.autoN (I := Unit) (fun _ => True) (fun _ => [(15, .int .i64 0), (14, .nils), (3, .u32 l), (16, .nils), (17, .u32 0#32)]) (fun _ => devs L S q ++ [(4, .box 216 [.ptr 0 0, .int .i64 (f : Int), .int .i64 (c : Int), .u32 g, .int .i64 0, .bool false])]) 5 (fun _ => 0) () trivial ?_ ?_
    · repeat' (first | (with_reducible refine Unf.h ?_) | ((conv => whnf); first | (refine Side.mk ?_ ?_; focus (with_reducible rfl)) | (with_reducible refine Unf.h ?_) | exact True.intro) | fail); all_goals try (conv => whnf); all_goals try (exfalso; omega)
    · intro _ _
      repeat' (first | (with_reducible refine Unf.h ?_) | ((conv => whnf); first | refine Fork.mkn (fun h => ?_) (fun h => ?_) | refine Fork.mk (fun h => ?_) (fun h => ?_) | (refine Side.mk ?_ ?_; focus (first | with_reducible rfl | assumption | (refine congrArg (SV.int _) ?_; omega) | (intros; (try simp only [lenS, inR, cutS, loI, hiI] at *); omega))) | refine Got.mk (fun _ _ => ?_) | refine CallS.mk (c := drd_c) (((L, S, q), f, zeroPg)) ?_) | fail); all_goals try (conv => whnf); all_goals try (exfalso; omega)
      refine CallS.mk (c := wpdZ_c) (l) ?_
      repeat' (first | (with_reducible refine Unf.h ?_) | ((conv => whnf); first | (refine Side.mk ?_ ?_; focus (first | with_reducible rfl | exact True.intro | (refine congrArg (SV.int _) ?_; omega) | (simp only [*, el]; done))) | refine RetE.mk () trivial ?_ | refine Got.mk (fun _ _ => ?_) | refine retK_r ?_ | exact rfl) | fail); all_goals try (conv => whnf); all_goals try (exfalso; omega)
end Go.Proofs.YtinpcefioadkcaaGreatDoor

namespace Go.Proofs.YtinpcefioadkcaaGreatDoor
set_option linter.all false
open Go.RowKit
abbrev vltB (l g : BitVec 32) (lg : SV) : SO := .box 143 [.ptr 0 0, .bool false, .u32 l, .u32 g, lg, .bool false]
def vsp_c : Ctr where
  D := (List Pg × List Pg × List (Nat × Pg)) × BitVec 32 × BitVec 32
  pre := fun ((L, _, _), _) => 2 ≤ L.length ∧ L.length ≤ 100000
  args := fun _ => [.ptr 4 0]
  objs := fun ((L, S, q), l, g) => (4, vltB l g .nilp) :: devs L S q
  nn := 5
  res := fun ((L, _, _), _) _ => .int .i64 (((L.length - 2) / 2 : Nat) : Int)
  out := fun ((L, S, q), l, g) _ => (4, vltB l g .nilp) :: devs L S q
def vsp_H : Cfg := ⟨[(59, dpgs_c)], [], [], [], 12, 5, [], [], []⟩
theorem vsp_ok : vsp_c.Ok Tryz.prog 65 := by
  refine fn_ok vsp_H 5 rfl _ Tryz.func65 rfl rfl ⟨dpgs_ok, trivial⟩ rfl rfl (by kernel_rfl) (fun _ => Nat.le_of_ble_eq_true rfl) ?_
  rintro ⟨⟨L, S, q⟩, l, g⟩ hp hr
  try dsimp only [vsp_c] at hp
  try simp only [vsp_c, Rng, RngL, inR, and_true, true_and] at hr
  obtain ⟨hp1, hp2⟩ := hp
  have hp1 : 2 ≤ L.length := hp1
  have hp2 : L.length ≤ 100000 := hp2
  have ed : ((L.length : Int) - 2).tdiv 2 = (((L.length - 2) / 2 : Nat) : Int) := by
    rw [Int.tdiv_eq_ediv_of_nonneg (by omega)]; omega
  repeat' (first | (with_reducible refine Unf.h ?_) | ((conv => whnf); first | (refine Side.mk ?_ ?_; focus (first | with_reducible rfl | exact True.intro | omega | (refine congrArg (SV.int _) ?_; omega) | (intros; (try simp only [lenS, inR, cutS, loI, hiI, ed] at *); omega))) | refine RetE.mk () trivial ?_ | refine Got.mk (fun _ _ => ?_) | refine retK_r ?_ | exact rfl | refine CallS.mk (c := dpgs_c) ((L, S, q)) ?_) | fail); all_goals try (conv => whnf); all_goals try (exfalso; omega)
def vfr_c : Ctr where
  D := (List Pg × List Pg × List (Nat × Pg)) × BitVec 32 × BitVec 32
  args := fun _ => [.ptr 4 0, .bool false]
  objs := fun ((L, S, q), l, g) => (4, vltB l g .nilp) :: devs L S q
  nn := 5
  res := fun _ _ => .int .i64 2
  out := fun ((L, S, q), l, g) _ => (4, vltB l g .nilp) :: devs L S q
def vfr_H : Cfg := ⟨[], [], [], [], 9, 5, [], [], []⟩
theorem vfr_ok : vfr_c.Ok Tryz.prog 64 := by
  refine fn_ok vfr_H 5 rfl _ Tryz.func64 rfl rfl trivial rfl rfl (by kernel_rfl) (fun _ => Nat.le_of_ble_eq_true rfl) ?_
  rintro ⟨⟨L, S, q⟩, l, g⟩ hp hr
  try dsimp only [vfr_c] at hp
  try simp only [vfr_c, Rng, RngL, inR, and_true, true_and] at hr
  repeat' (first | (with_reducible refine Unf.h ?_) | ((conv => whnf); first | (refine Side.mk ?_ ?_; focus (first | with_reducible rfl | (refine congrArg (SV.int _) ?_; omega))) | refine RetE.mk () trivial ?_ | refine retK_r ?_ | exact rfl) | fail); all_goals try (conv => whnf); all_goals try (exfalso; omega)
def vsB (l g : BitVec 32) : Bs := [] ++ beN 1 0#64 ++ beN 4 (l.setWidth 64) ++ beN 4 (g.setWidth 64)
theorem vsB_len (l g : BitVec 32) : (vsB l g).length = 9 := by
  unfold vsB
  simp only [List.length_append, beN_len, List.length_nil]
def venc_c : Ctr where
  D := BitVec 32 × BitVec 32
  args := fun (l, g) => [.agg [.bool false, .u32 l, .u32 g]]
  res := fun (l, g) _ => .fs 1 eB (vsB l g)
def venc_H : Cfg := ⟨[(179, wflg_c), (134, wu32_c), (136, wout_c)], [], [], [], 26, 0, [], [], []⟩
theorem venc_ok : venc_c.Ok Tryz.prog 117 := by
  refine fn_ok venc_H 0 rfl _ Tryz.func117 rfl rfl ⟨wflg_ok, wu32_ok, wout_ok, trivial⟩ rfl rfl (by kernel_rfl) (fun _ => Nat.le_of_ble_eq_true rfl) ?_
  rintro ⟨l, g⟩ hp hr
  try dsimp only [venc_c] at hp
  try simp only [venc_c, Rng, RngL, inR, and_true, true_and] at hr
  have e : (if false = true then 1#64 else 0#64) = 0#64 := rfl
  have h1 : wflg_c.pre ([], false) := show 0 ≤ 1000000 by omega
  have h2 : wu32_c.pre ([] ++ beN 1 0#64, l) := by show 1 ≤ 1000000; omega
  have h3 : wu32_c.pre ([] ++ beN 1 0#64 ++ beN 4 (l.setWidth 64), g) := by
    show ([] ++ beN 1 0#64 ++ beN 4 (l.setWidth 64)).length ≤ 1000000
    simp only [List.length_append, beN_len, List.length_nil]; omega
  have h4 : wout_c.pre (vsB l g) := by show (vsB l g).length ≤ 1000000; rw [vsB_len]; omega
  repeat' (first | (with_reducible refine Unf.h ?_) | fail); all_goals try (conv => whnf); all_goals try (exfalso; omega)
  refine CallS.mk (c := wflg_c) (([], false)) ?_
  repeat' (first | (with_reducible refine Unf.h ?_) | ((conv => whnf); first | (refine Side.mk ?_ ?_; focus (first | with_reducible rfl | assumption)) | refine Got.mk (fun _ _ => ?_)) | fail); all_goals try (conv => whnf); all_goals try (exfalso; omega)
  refine CallS.mk (c := wu32_c) (([] ++ beN 1 0#64, l)) ?_
  repeat' (first | (with_reducible refine Unf.h ?_) | ((conv => whnf); first | (refine Side.mk ?_ ?_; focus (first | with_reducible rfl | assumption | (simp only [*, e]; done))) | refine Got.mk (fun _ _ => ?_)) | fail); all_goals try (conv => whnf); all_goals try (exfalso; omega)
  refine CallS.mk (c := wu32_c) (([] ++ beN 1 0#64 ++ beN 4 (l.setWidth 64), g)) ?_
  repeat' (first | (with_reducible refine Unf.h ?_) | ((conv => whnf); first | (refine Side.mk ?_ ?_; focus (first | with_reducible rfl | assumption)) | refine Got.mk (fun _ _ => ?_)) | fail); all_goals try (conv => whnf); all_goals try (exfalso; omega)
  refine CallS.mk (c := wout_c) ((vsB l g)) ?_
  repeat' (first | (with_reducible refine Unf.h ?_) | ((conv => whnf); first | (refine Side.mk ?_ ?_; focus (first | with_reducible rfl | assumption | (dsimp only [resS, venc_c, vsB]; done))) | refine RetE.mk () trivial ?_ | refine Got.mk (fun _ _ => ?_) | refine retK_r ?_ | exact rfl) | fail); all_goals try (conv => whnf); all_goals try (exfalso; omega)
def vsv_c : Ctr where
  D := List Pg × List Pg × (BitVec 32 × BitVec 32) × BitVec 32 × BitVec 32
  pre := fun (L, S, _) => 2 ≤ L.length ∧ 2 ≤ S.length ∧ S[0]? = some zeroPg ∧ S[1]? = some zeroPg
  args := fun (_, _, _, l, g) => [.ptr 4 0, .agg [.bool false, .u32 l, .u32 g]]
  objs := fun (L, S, (l0, g0), _) => (4, vltB l0 g0 .nilp) :: devs L S []
  nn := 5
  E := Pg
  post := fun (_, _, _, l, g) p => p.toList = encS 1#64 (vsB l g)
  res := fun _ _ => .int .i64 0
  out := fun (L, S, _, l, g) p => devN 5 6 7 (L.set 1 p) (S.set 1 p) [] ++ [(4, vltB l g .nilp)]
  mm := 3
def vsv_H : Cfg := ⟨[(117, venc_c), (116, ssvZ_c)], [(1, [], [3, 4, 5, 6], (.one 0 0 false (.one 1 0 false (.one 2 0 false (.alt 3 false (.one 4 2 false (.one 5 2 false (.one 6 2 false (.one 7 0 false (.one 8 0 false (.one 9 0 false (.one 10 0 false (.one 11 0 false .nil)))))))) (.one 4 2 false (.alt 3 false (.one 5 2 false (.one 6 2 false (.one 7 0 false (.one 8 0 false (.one 9 0 false (.one 10 0 false (.one 11 0 false .nil))))))) (.one 5 2 false (.one 3 2 false (.one 6 2 false (.one 7 0 false (.one 8 0 false (.one 9 0 false (.one 10 0 false (.one 11 0 false .nil)))))))))))))), [])], [], [], 26, 5, [], [], []⟩
theorem vsv_ok : vsv_c.Ok Tryz.prog 62 := by
  refine fn_ok vsv_H 5 rfl _ Tryz.func62 rfl rfl ⟨venc_ok, ssvZ_ok, trivial⟩ rfl rfl (by kernel_rfl) (fun _ => Nat.le_of_ble_eq_true rfl) ?_
  rintro ⟨L, S, ⟨l0, g0⟩, l, g⟩ hp hr
  try dsimp only [vsv_c] at hp
  try simp only [vsv_c, Rng, RngL, inR, and_true, true_and] at hr
  obtain ⟨hp1, hp2, hp3, hp4⟩ := hp
  have hp1 : 2 ≤ L.length := hp1
  have hp2 : 2 ≤ S.length := hp2
  have h1 : ssvZ_c.pre (L, S, vsB l g) := ⟨hp1, hp2, hp3, hp4, by rw [vsB_len]; omega⟩
  repeat' (first | (with_reducible refine Unf.h ?_) | ((conv => whnf); first | refine Both.mk ?_ ?_ | refine Both.mk ?_ ?_ | (refine Side.mk ?_ ?_; focus (first | with_reducible rfl | exact True.intro)) | refine Got.mk (fun _ _ => ?_) | refine CallS.mk (c := venc_c) ((l, g)) ?_) | fail); all_goals try (conv => whnf); all_goals try (exfalso; omega)
  all_goals
    refine CallS.mk (c := ssvZ_c) ((L, S, vsB l g)) ?_
    repeat' (first | (with_reducible refine Unf.h ?_) | ((conv => whnf); first | refine Fork.mkn (fun h => ?_) (fun h => ?_) | (refine Side.mk ?_ ?_; focus (first | with_reducible rfl | assumption)) | refine Got.mk (fun _ _ => ?_) | refine retK_r ?_) | fail); all_goals try (conv => whnf); all_goals try (exfalso; omega)
  all_goals
    rename_i p hpp
    refine RetE.mk (c := vsv_c) (d := (L, S, (l0, g0), l, g)) (show Pg from p) hpp ?_
    repeat' (first | (with_reducible refine Unf.h ?_) | ((conv => whnf); first | (refine Side.mk ?_ ?_; focus (first | with_reducible rfl | (refine congrArg (SV.int _) ?_; omega))) | exact rfl) | fail); all_goals try (conv => whnf); all_goals try (exfalso; omega)
end Go.Proofs.YtinpcefioadkcaaGreatDoor

namespace Go.Proofs.YtinpcefioadkcaaGreatDoor
set_option linter.all false
open Go.RowKit
def vopZ_c : Ctr where
  D := List Pg × List Pg
  pre := fun (L, S) => 4 ≤ L.length ∧ L.length ≤ 4096 ∧ S.length = L.length ∧ S[0]? = some zeroPg ∧ S[1]? = some zeroPg ∧ S[2]? = some zeroPg
  args := fun _ => [.ptr 0 0]
  objs := fun (L, S) => devs L S []
  nn := 4
  E := Pg
  post := fun _ p => p.toList = encS 1#64 (vsB 1#32 1#32)
  res := fun _ _ => .tup [.ptr 7 0, .nils, .int .i64 0]
  out := fun (L, S) p => devN 4 5 6 (L.set 1 p) (S.set 1 p) [] ++ [(7, vltB 1#32 1#32 (.ptr 8 0)), (8, .box 216 [.ptr 0 0, .int .i64 2, .int .i64 (((L.length - 2) / 2 : Nat) : Int), .u32 1#32, .int .i64 0, .bool false])]
  mm := 5
def vopZ_H : Cfg := ⟨[(59, dpgs_c), (60, sldZ_c), (62, vsv_c), (64, vfr_c), (65, vsp_c), (63, wopZ_c)], [(17, [3, 8, 10], [4, 6, 11], (.one 0 0 false (.one 1 0 false (.one 2 0 false (.one 3 1 false (.one 5 0 false (.one 7 0 false (.one 8 1 false (.one 9 0 false (.one 10 1 false (.one 4 2 true (.one 6 2 true (.one 11 2 false (.one 12 0 false (.one 13 0 false (.one 14 0 false (.one 15 0 false (.one 16 0 false (.one 17 0 false (.one 18 0 false .nil))))))))))))))))))), [2000011, 1000000])], [], [], 76, 4, [], [], []⟩
theorem vopZ_ok : vopZ_c.Ok Tryz.prog 27 := by
  refine fn_ok vopZ_H 4 rfl _ Tryz.func27 rfl rfl ⟨dpgs_ok, sldZ_ok, vsv_ok, vfr_ok, vsp_ok, wopZ_ok, trivial⟩ rfl rfl (by kernel_rfl) (fun _ => Nat.le_of_ble_eq_true rfl) ?_
  rintro ⟨L, S⟩ hp hr
  try dsimp only [vopZ_c] at hp
  try simp only [vopZ_c, Rng, RngL, inR, and_true, true_and] at hr
  obtain ⟨hp1, hp2, hp3, hp4, hp5, hp6⟩ := hp
  have hp1 : 4 ≤ L.length := hp1
  have hp2 : L.length ≤ 4096 := hp2
  have hp3 : S.length = L.length := hp3
  have h1 : sldZ_c.pre (L, S, []) := ⟨by show 2 ≤ L.length; omega, hp4, hp5⟩
  have h2 : vsv_c.pre (L, S, (0#32, 0#32), 1#32, 1#32) := ⟨by show 2 ≤ L.length; omega, by show 2 ≤ S.length; omega, hp4, hp5⟩
  have h3 : ∀ p, vsp_c.pre ((L.set 1 p, S.set 1 p, []), 1#32, 1#32) := fun p => ⟨by show 2 ≤ (L.set 1 p).length; rw [List.length_set]; omega, by show (L.set 1 p).length ≤ 100000; rw [List.length_set]; omega⟩
  have hS : ∀ p : Pg, (S.set 1 p)[2]? = some zeroPg := fun p => by rw [List.getElem?_set_ne (by omega)]; exact hp6
  have es : (0#32 + 1#32 : BitVec 32) = 1#32 := by decide
  repeat' (first | (with_reducible refine Unf.h ?_) | ((conv => whnf); first | refine Fork.mk (fun h => ?_) (fun h => ?_) | (refine Side.mk ?_ ?_; focus (first | with_reducible rfl | exact True.intro)) | refine Got.mk (fun _ _ => ?_) | refine CallS.mk (c := dpgs_c) ((L, S, [])) ?_) | fail); all_goals try (conv => whnf); all_goals try (exfalso; omega)
  refine CallS.mk (c := sldZ_c) ((L, S, [])) ?_
  repeat' (first | (with_reducible refine Unf.h ?_) | ((conv => whnf); first | refine Fork.mkn (fun h => ?_) (fun h => ?_) | refine Fork.mk (fun h => ?_) (fun h => ?_) | (refine Side.mk ?_ ?_; focus (first | with_reducible rfl | assumption)) | refine Got.mk (fun _ _ => ?_)) | fail); all_goals try (conv => whnf); all_goals try (exfalso; omega)
  · exact absurd (by assumption) (Nat.lt_irrefl (0#64).toNat)
  refine CallS.mk (c := vsv_c) ((L, S, (0#32, 0#32), 1#32, 1#32)) ?_
  repeat' (first | (with_reducible refine Unf.h ?_) | ((conv => whnf); first | refine Fork.mkn (fun h => ?_) (fun h => ?_) | (refine Side.mk ?_ ?_; focus (first | with_reducible rfl | assumption | (simp only [*, es]; done))) | refine Got.mk (fun _ _ => ?_)) | fail); all_goals try (conv => whnf); all_goals try (exfalso; omega)
  rename_i p hpp
  have hpp : p.toList = encS 1#64 (vsB 1#32 1#32) := hpp
  have hl : (L.set 1 p).length = L.length := List.length_set ..
  have h4 : wopZ_c.pre ((L.set 1 p, S.set 1 p, []), 2, ((L.set 1 p).length - 2) / 2, 1#32, 1#32) := ⟨by show 2 + ((L.set 1 p).length - 2) / 2 ≤ (L.set 1 p).length; omega, by show (L.set 1 p).length ≤ 100000; omega, by decide, by decide, by show 1 ≤ ((L.set 1 p).length - 2) / 2; omega, hS p⟩
  have h3 := h3 p
  refine CallS.mk (c := vfr_c) (((L.set 1 p, S.set 1 p, []), 1#32, 1#32)) ?_
  repeat' (first | (with_reducible refine Unf.h ?_) | ((conv => whnf); first | (refine Side.mk ?_ ?_; focus (first | with_reducible rfl | exact True.intro)) | refine Got.mk (fun _ _ => ?_)) | fail); all_goals try (conv => whnf); all_goals try (exfalso; omega)
  refine CallS.mk (c := vsp_c) (((L.set 1 p, S.set 1 p, []), 1#32, 1#32)) ?_
  repeat' (first | (with_reducible refine Unf.h ?_) | ((conv => whnf); first | (refine Side.mk ?_ ?_; focus (first | with_reducible rfl | assumption)) | refine Got.mk (fun _ _ => ?_)) | fail); all_goals try (conv => whnf); all_goals try (exfalso; omega)
  refine CallS.mk (c := wopZ_c) (((L.set 1 p, S.set 1 p, []), 2, ((L.set 1 p).length - 2) / 2, 1#32, 1#32)) ?_
  repeat' (first | (with_reducible refine Unf.h ?_) | ((conv => whnf); first | refine Fork.mkn (fun h => ?_) (fun h => ?_) | (refine Side.mk ?_ ?_; focus (first | with_reducible rfl | assumption | (refine congrArg (SV.int _) ?_; omega) | (simp only [*, es]; done))) | refine Got.mk (fun _ _ => ?_) | refine retK_r ?_) | fail); all_goals try (conv => whnf); all_goals try (exfalso; omega)
  refine RetE.mk (c := vopZ_c) (d := (L, S)) (show Pg from p) hpp ?_
  repeat' (first | (with_reducible refine Unf.h ?_) | ((conv => whnf); first | (refine Side.mk ?_ ?_; focus (first | with_reducible rfl | (refine congrArg (SV.int _) ?_; omega))) | (with_reducible refine Unf.h ?_) | exact rfl) | fail); all_goals try (conv => whnf); all_goals try (exfalso; omega)
end Go.Proofs.YtinpcefioadkcaaGreatDoor

namespace Go.Proofs.YtinpcefioadkcaaGreatDoor
set_option linter.all false
open Go.RowKit
abbrev Ppl := List (Bs × List Ver)
abbrev eS : Bs → SV := fun s => .str s
abbrev eZ : Int → SV := fun n => .int .i64 n
abbrev nmO (ps : Ppl) : SO := .mp 9 3 inferInstance eS eZ (numsL 0 ps)
abbrev stG (seed : H256) (l : Fo) (ss : List Sld) (ps : Ppl) : List Ob := [(0, .box 156 [.arr8 seed, .ptr 1 0, .own 3, .own 4, .own 5]), (1, .box 151 [.own 2]), (2, .row 270 132 eNd l), (3, .row 201 67 eSl ss), (4, .row 281 2 ePn ps), (5, nmO ps)]
abbrev Dir := H256 × Fo × List Sld × Ppl
def enew_c : Ctr where
  D := H256
  args := fun s => [.agg [.arr8 s]]
  res := fun _ _ => .ptr 0 0
  out := fun s _ => stG s [] [] []
  mm := 6
def enew_H : Cfg := ⟨[], [], [], [], 9, 0, [], [], []⟩
theorem enew_ok : enew_c.Ok Tryz.prog 29 := by
  refine fn_ok enew_H 0 rfl _ Tryz.func29 rfl rfl trivial rfl rfl (by kernel_rfl) (fun _ => Nat.le_of_ble_eq_true rfl) ?_
  intro (s : H256) hp hr
  try dsimp only [enew_c] at hp
  try simp only [enew_c, Rng, RngL, inR, and_true, true_and] at hr
  repeat' (first | (with_reducible refine Unf.h ?_) | fail); all_goals try (conv => whnf); all_goals try (exfalso; omega)
  refine MkS.mk inferInstance eS eZ ?_
  repeat' (first | (with_reducible refine Unf.h ?_) | ((conv => whnf); first | (refine Side.mk ?_ ?_; focus (with_reducible rfl)) | refine RetE.mk () trivial ?_ | refine retK_r ?_) | fail); all_goals try (conv => whnf); all_goals try (exfalso; omega)
  refine Side.mk rfl ?_
  repeat' (first | (with_reducible refine Unf.h ?_) | ((conv => whnf); exact rfl) | fail); all_goals try (conv => whnf); all_goals try (exfalso; omega)
def eps_c : Ctr where
  D := Dir
  args := fun _ => [.ptr 0 0]
  objs := fun (s, l, ss, ps) => stG s l ss ps
  nn := 6
  res := fun (_, _, ss, _) _ => .int .i64 (ss.length : Int)
  out := fun (s, l, ss, ps) _ => stG s l ss ps
def eps_H : Cfg := ⟨[], [], [], [], 10, 6, [], [], []⟩
theorem eps_ok : eps_c.Ok Tryz.prog 38 := by
  refine fn_ok eps_H 6 rfl _ Tryz.func38 rfl rfl trivial rfl rfl (by kernel_rfl) (fun _ => Nat.le_of_ble_eq_true rfl) ?_
  rintro ⟨s, l, ss, ps⟩ hp hr
  try dsimp only [eps_c] at hp
  try simp only [eps_c, Rng, RngL, inR, and_true, true_and] at hr
  repeat' (first | (with_reducible refine Unf.h ?_) | ((conv => whnf); first | (refine Side.mk ?_ ?_; focus (first | with_reducible rfl | (refine congrArg (SV.int _) ?_; omega))) | refine RetE.mk () trivial ?_ | refine retK_r ?_ | exact rfl) | fail); all_goals try (conv => whnf); all_goals try (exfalso; omega)
end Go.Proofs.YtinpcefioadkcaaGreatDoor

namespace Go.Proofs.YtinpcefioadkcaaGreatDoor
set_option linter.all false
open Go.RowKit
theorem Ctr.Ok.kept {P : Program} [TabC P] {f : Nat} {c : Ctr} (h : c.Ok P f) (ho : ∀ d, c.objs d = []) : ({ c with kp := true } : Ctr).Ok P f := by
  intro d hpre A0 w σ vs hA hobs hargs hdom hgl
  refine (h d hpre A0 w σ vs hA hobs hargs hdom hgl).mono ?_
  rintro en w' ⟨e', v, σ', rfl, hpost, hsame, hdom', hres, hm, hobs', hnew⟩
  refine ⟨e', v, σ', rfl, hpost, hsame, hdom', hres, hm.mono fun b hb => ?_, hobs', hnew⟩
  have := hb.2
  rw [ho d] at this
  exact this.elim
def lendS (nx : Nat) : SV → Bool
  | .ptr o _ => Nat.blt o nx
  | .own o => Nat.blt o nx
  | .agg ps => flatL ps
  | s => flatS s
def lendOk (nx : Nat) (e : Env) : Env → Prop
  | [] => True
  | (t, s) :: r => lk e t = some s ∧ lendS nx s = true ∧ lendOk nx e r
theorem lendOk_spec {nx : Nat} {e : Env} : ∀ {L : Env}, lendOk nx e L → ∀ t s, lk L t = some s → lk e t = some s ∧ lendS nx s = true
  | [], _, t, s, h => by simp [lk] at h
  | (u, x) :: r, ⟨h1, h2, h3⟩, t, s, h => by
    unfold lk at h
    split at h
    · rename_i hb
      obtain rfl := Nat.eq_of_beq_eq_true hb
      cases h
      exact ⟨h1, h2⟩
    · exact lendOk_spec h3 t s h
theorem lendS_hv {nx : Nat} {s : SV} (hs : lendS nx s = true) {w w' : World} {A A' : Own} {σ σ' : Sg} {v : Value} (hb : ∀ k, k < nx → ∀ v, σ' k = some v → σ k = some v) (h : s.hv w' A' σ' v) : s.hv w A σ v := by
  cases s with
  | ptr o off =>
    have hlt : o < nx := by simpa [lendS, Nat.blt_eq] using hs
    simp only [SV.hv, SV.h1, SV.hc, List.cons.injEq, and_true] at h ⊢
    obtain ⟨b, c, h1, h2⟩ := h
    exact ⟨b, c, hb o hlt _ h1, h2⟩
  | own o =>
    have hlt : o < nx := by simpa [lendS, Nat.blt_eq] using hs
    simp only [SV.hv, SV.h1, SV.hc, List.cons.injEq, and_true] at h ⊢
    obtain ⟨u, h1, h2, h3⟩ := h
    exact ⟨u, hb o hlt _ h1, h2, h3⟩
  | agg ps =>
    obtain ⟨cs, h1, h2⟩ := h
    exact ⟨cs, h1, flatL_hL hs h2⟩
  | tup vs => simp [lendS, flatS] at hs
  | undef => simp [lendS, flatS] at hs
  | rptr o q z off => simp [lendS, flatS] at hs
  | cptr o off q => simp [lendS, flatS] at hs
  | bsl o off lo hi => simp [lendS, flatS] at hs
  | fs z enc xs => simp [lendS, flatS] at hs
  | fpt ps => simp [lendS, flatS] at hs
  | arrG z enc xs => simp [lendS, flatS] at hs
  | _ => (simp only [SV.hv, SV.h1] at h ⊢; exact flatS_hc rfl h)
section
variable {P : Program} [TabC P] {S : Sig} {σ : Sg} {env : Env} {objs : List Ob} {nx : Nat} {a : Act} {w : World}
theorem St.back {σ1 : Sg} {e1 : Env} {o1 : List Ob} {n1 : Nat} {a1 : Act} {w1 : World} {S1 : Sig} {L : Env} (h : St P S σ env objs nx a w) (h1 : St P S1 σ1 e1 o1 n1 a1 w1) (hn : S1.n = S.n) (hd : S1.ds = S.ds) (hs : S1.s0 = σ) (hnn : S1.nn = nx) (hk : Kept w w1) (hl : lendOk nx e1 L) : St P S σ L objs nx a1 w1 := by
  have hlat : Later w (S.A σ objs) w1 (S.A σ objs) := hk.later _ fun b _ hb => hb
  refine { slots := fun t s ht => ?_, dom := h.dom, size := by rw [h1.size, hn], defers := by rw [h1.defers, hd], obs := ⟨fun o ho => ?_, h.obs.disj, fun b hb => ?_⟩, hist := h.hist.step hk fun b hb => hb.elim, own0 := h.own0, a0 := fun b hb => ?_, mks := fun D hD => ?_, glob := h.glob.later hlat, base := h.base, nnx := h.nnx }
  · obtain ⟨e1', e2⟩ := lendOk_spec hl t s ht
    exact lendS_hv e2 (fun k hk' v hv => by have := h1.base k (by rw [hnn]; exact hk') v hv; rw [hs] at this; exact this) (h1.slots t s e1')
  · exact (h.obs.holds o ho).later hlat fun b hb => hk.block b ((h.obs.lt b (owns_mem ho hb)).1) (fun x => x)
  · have := h.obs.lt b hb
    exact ⟨Nat.lt_of_lt_of_le this.1 hk.size, this.2⟩
  · exact Nat.lt_of_lt_of_le (h.a0 b hb) hk.size
  · obtain ⟨m1, m2⟩ := h.mks D hD
    refine ⟨m1, ?_⟩
    rw [hk.block D (Array.getElem?_eq_some_iff.1 m2).1 (fun x => x)]; exact m2
theorem OrdK.lend {H : Cfg} {all : List Oper} {o0 : List Ob} {N : List Nat} {i j : Nat} {n1 n2 : Bool} {r : Ord} {ph : Bool} {K : KS} (o1 o2 : Oper) (L : Env) (h1 : opAt all i = some o1) (g1 : o1.guard = none) (h2 : opAt all j = some o2) (g2 : o2.guard = none) (k1 : keptB H.cs o1.op = true) (k2 : keptB H.cs o2.op = true)
    (h : vcEff P H.cs H.n o1 env objs nx fun e o n => vcEff P H.cs H.n o2 e o n fun e _ _ => lendOk nx e L ∧ OrdK P H all o0 N r false true K L objs nx) : OrdK P H all o0 N (.one i 2 n1 (.one j 2 n2 r)) ph true K env objs nx := ⟨fun {S Q ops} hcs hn ha hN hK => by
  subst ha
  intro σ a w w0 e0 a0 hst0 hS hst hph hk
  let S1 : Sig := { S with s0 := σ, nn := nx, w0 := w, M0 := fun _ => True }
  have hst1 : St P S1 σ env objs nx a w := { slots := hst.slots, dom := hst.dom, size := hst.size, defers := hst.defers, obs := hst.obs, hist := Mod.refl _ _, own0 := fun _ _ => .inl trivial, a0 := hst.a0, mks := hst.mks, glob := hst.glob, base := fun k _ v hv => hv, nnx := Nat.le_refl _ }
  have hn1 : H.n = S1.n := hn
  refine tree_loud h1 (by simp [Region.wanted, g1]) fun X hX => ?_
  rw [hn1] at h
  refine vcEff_sound hcs h σ a w hst1 X Q fun σ2 e2 ob2 m2 a2 w2 h3 hst2 hk2 => hX _ _ ⟨fun _ => (hk rfl).trans ((hk2 k1).mono fun _ x => x.elim), ?_⟩
  refine tree_loud h2 (by simp [Region.wanted, g2]) fun Y hY => ?_
  refine vcEff_sound hcs h3 σ2 a2 w2 hst2 Y Q fun σ3 e3 ob3 m3 a3 w3 h4 hst3 hk3 => hY _ _ ?_
  have hkk : Kept w w3 := (hk2 k1).trans (hk3 k2)
  have hmm : Mod (MN S.s0 N) w0 w3 := (hk rfl).trans (hkk.mono fun _ x => x.elim)
  exact ⟨fun _ => hmm, h4.2.h hcs hn rfl hN hK σ a3 w3 w0 e0 a0 hst0 hS (hst.back hst3 rfl rfl rfl rfl hkk h4.1) (fun e => by cases e) (fun _ => hmm)⟩⟩
end
end Go.Proofs.YtinpcefioadkcaaGreatDoor

namespace Go.Proofs.YtinpcefioadkcaaGreatDoor
set_option linter.all false
open Go.RowKit
abbrev Bs0 := List (BitVec 8)
def rowB' (e : Nat) (w : World) (v : Value) (b : Bs0) : Prop := b.length ≤ 140737488355328 ∧ w.ownsRow 0 e 1 v b.length (b.map (bV .u8))
theorem rowB'.lt {e : Nat} {w : World} {v : Value} {b : Bs0} (h : rowB' e w v b) {k : Nat} (hk : blkO v = some k) : k < w.heap.size := by
  rw [(own_blk h.2).1] at hk
  exact (h.2.lt k hk).2
theorem rowB'.later {e : Nat} {w w' : World} {v : Value} {b : Bs0} (h : rowB' e w v b) (hb : ∀ k, blkO v = some k → w'.heap[k]? = w.heap[k]?) : rowB' e w' v b := by
  refine ⟨h.1, h.2.1, ?_⟩
  rcases h.2.2 with hn | ⟨g, cap, cur, rfl, hb0, hg, rest⟩
  · exact .inl hn
  · exact .inr ⟨g, cap, cur, rfl, hb0, (hb g rfl).trans hg, rest⟩
abbrev VB := Value × Bs0
def apartL (l : List VB) : Prop := l.Pairwise fun p q => ∀ k, blkO p.1 = some k → blkO q.1 ≠ some k
def subsAO (e : Nat) (l : List VB) : AO where
  own := fun k => ∃ p ∈ l, blkO p.1 = some k
  holds := fun w _ => (∀ p ∈ l, rowB' e w p.1 p.2) ∧ apartL l
  plain := True
  lt := fun h ⟨p, hp, hk⟩ => (h.1 p hp).lt hk
  later := fun h _ hb => ⟨fun p hp => (h.1 p hp).later fun k hk => hb k ⟨p, hp, hk⟩, h.2⟩
  any := fun _ h => h
section
variable {P : Program} [TabC P] {S : Sig} {σ : Sg} {env : Env} {objs : List Ob} {nx : Nat} {a : Act} {w : World} {A : Own}
theorem St.re {S' : Sig} {σ' : Sg} {env' : Env} {objs' : List Ob} {nx' : Nat} (h : St P S σ env objs nx a w) (hA0 : S'.A0 = S.A0) (hn : S'.n = S.n) (hs : Sg.le σ σ') (hown : ∀ b, owns σ' objs' b ↔ owns σ objs b)
    (hslots : ∀ t s, lk env' t = some s → s.hv w (S.A σ objs) σ' (a.tmps.getD t undef)) (hdom : ∀ k, nx' ≤ k → σ' k = none)
    (hholds : ∀ o ∈ objs', o.2.holds w (S.A σ objs) σ' o.1) (hdisj : Disj σ' objs') (hist : Mod S'.M0 S'.w0 w) (own0 : ∀ b, owns σ objs b → S'.M0 b ∨ S'.w0.heap.size ≤ b) (a0 : ∀ b, S.A0 b → b < w.heap.size)
    (base : ∀ k, k < S'.nn → ∀ v, σ' k = some v → S'.s0 k = some v) (nnx : S'.nn ≤ nx') (hds : S'.ds = S.ds := by rfl) : St P S' σ' env' objs' nx' a w := by
  have hA : ∀ b, S'.A σ' objs' b ↔ S.A σ objs b := fun b => by simp only [Sig.A, hA0, hown b]
  have hl : Later w (S.A σ objs) w (S'.A σ' objs') := Later.own fun b hb => (hA b).1 hb
  exact { slots := fun t s ht => (hslots t s ht).later hl, dom := hdom, size := by rw [hn]; exact h.size, defers := by rw [hds]; exact h.defers
          obs := ⟨fun o ho => (hholds o ho).later hl (fun _ _ => rfl), hdisj, fun b hb => by rw [hA0]; exact h.obs.lt b ((hown b).1 hb)⟩
          hist := hist, own0 := fun b hb => own0 b ((hown b).1 hb), a0 := by rw [hA0]; exact a0, mks := by rw [hds, hA0]; exact h.mks, glob := h.glob.later hl, base := base, nnx := nnx }
inductive CloseS (j e : Nat) (l1 l2 : List VB) (v : Value) (m : Nat) (K : KS) (env : Env) (objs : List Ob) (nx : Nat) : Prop
  | mk (b : Bs0) (o3 o4 : List Ob) (so : SO) (h3 : rmO objs m = some (.row e 1 eB b, o3)) (hj : lk o3 j = some (.ab (subsAO e (l1 ++ l2)))) (h4 : setO o3 j j (.ab (subsAO e (l1 ++ (v, b) :: l2))) = some o4) (k : K env o4 nx)
end
section
variable {P : Program} [TabC P] {fn : Nat} {D : Type} {pre : D → Prop} {arg f : D → Bs0} {e : Nat}
end
def soSame (s s' : SO) : Prop := (∀ σ k, SO.own σ k s = SO.own σ k s') ∧ ∀ w A σ k, s.holds w A σ k = s'.holds w A σ k
def oSame : List Ob → List Ob → Prop
  | [], [] => True
  | (k, s) :: r, (k', s') :: r' => k = k' ∧ soSame s s' ∧ oSame r r'
  | _, _ => False
theorem soSame.row {e z : Nat} {α β : Type} {enc : α → List SV} {enc' : β → List SV} {xs : List α} {ys : List β} (h : xs.map enc = ys.map enc') : soSame (.row e z enc xs) (.row e z enc' ys) :=
  ⟨fun _ _ => rfl, fun w A σ k => by show rowH w A σ k e z (xs.map enc) = rowH w A σ k e z (ys.map enc'); rw [h]⟩
theorem oSame.owns {σ : Sg} : ∀ {a b : List Ob}, oSame a b → owns σ a = owns σ b
  | [], [], _ => rfl
  | (k, s) :: r, (k', s') :: r', ⟨h1, h2, h3⟩ => by
    subst h1
    funext x
    show (SO.own σ k s x ∨ Go.Proofs.YtinpcefioadkcaaGreatDoor.owns σ r x) = (SO.own σ k s' x ∨ Go.Proofs.YtinpcefioadkcaaGreatDoor.owns σ r' x)
    rw [h2.1, oSame.owns h3]
theorem oSame.disj {σ : Sg} : ∀ {a b : List Ob}, oSame a b → Disj σ a → Disj σ b
  | [], [], _, h => h
  | (k, s) :: r, (k', s') :: r', ⟨h1, h2, h3⟩, h => by
    subst h1
    refine ⟨fun b hb => ?_, oSame.disj h3 h.2⟩
    have hb' : SO.own σ k s' b := hb
    rw [← h2.1] at hb'
    rw [← oSame.owns h3]
    exact h.1 b hb'
theorem oSame.mem : ∀ {a b : List Ob}, oSame a b → ∀ o ∈ b, ∃ o' ∈ a, o'.1 = o.1 ∧ soSame o'.2 o.2
  | [], [], _, o, h => by cases h
  | (k, s) :: r, (k', s') :: r', ⟨h1, h2, h3⟩, o, h => by
    rcases List.mem_cons.1 h with rfl | h
    · exact ⟨(k, s), List.mem_cons_self, h1, h2⟩
    · obtain ⟨o', ho', e⟩ := oSame.mem h3 o h
      exact ⟨o', List.mem_cons_of_mem _ ho', e⟩
theorem oSame.obs {σ : Sg} {A0 : Own} {a b : List Ob} {w : World} (h : oSame a b) (ho : Obs σ A0 a w) : Obs σ A0 b w :=
  ⟨fun o hm => by
    obtain ⟨o', hm', h1, h2⟩ := h.mem o hm
    have := ho.holds o' hm'
    rw [h1, h2.2, h.owns] at this
    exact this, h.disj ho.disj, fun x hx => ho.lt x (by rw [h.owns]; exact hx)⟩
theorem Ctr.Ok.out {P : Program} [TabC P] {f : Nat} {c : Ctr} (h : c.Ok P f) {out' : c.D → c.E → List Ob} (hs : ∀ d e, c.pre d → c.post d e → oSame (c.out d e) (out' d e)) : ({ c with out := out' } : Ctr).Ok P f := by
  intro d hpre A0 w σ vs hA hobs hargs hdom hgl
  refine (h d hpre A0 w σ vs hA hobs hargs hdom hgl).mono ?_
  rintro en w' ⟨e', v, σ', rfl, hp, hsame, hdom', hres, hm, hobs', hnew⟩
  have hh := hs d e' hpre hp
  refine ⟨e', v, σ', rfl, hp, hsame, hdom', ?_, hm, hh.obs hobs', ?_⟩
  · show (c.res d e').hv w' (Av A0 σ' (out' d e')) σ' v
    unfold Av at hres ⊢
    rw [← hh.owns]; exact hres
  · intro b hb
    have hb' : owns σ' (out' d e') b := hb
    rw [← hh.owns] at hb'
    exact hnew b hb'
def soSub (s s' : SO) : Prop := (∀ σ k x, SO.own σ k s' x → SO.own σ k s x) ∧ ∀ w A σ k, s.holds w A σ k → s'.holds w A σ k
def oSub : List Ob → List Ob → Prop
  | [], [] => True
  | (k, s) :: r, (k', s') :: r' => k = k' ∧ soSub s s' ∧ oSub r r'
  | _, _ => False
theorem oSub.owns {σ : Sg} {x : Nat} : ∀ {a b : List Ob}, oSub a b → Go.Proofs.YtinpcefioadkcaaGreatDoor.owns σ b x → Go.Proofs.YtinpcefioadkcaaGreatDoor.owns σ a x
  | [], [], _, h => h
  | (k, s) :: r, (k', s') :: r', ⟨h1, h2, h3⟩, h => by
    subst h1
    exact h.imp (h2.1 σ k x) (oSub.owns h3)
theorem oSub.disj {σ : Sg} : ∀ {a b : List Ob}, oSub a b → Disj σ a → Disj σ b
  | [], [], _, h => h
  | (k, s) :: r, (k', s') :: r', ⟨h1, h2, h3⟩, h => by
    subst h1
    exact ⟨fun b hb hr => h.1 b (h2.1 σ k b hb) (oSub.owns h3 hr), oSub.disj h3 h.2⟩
theorem oSub.mem : ∀ {a b : List Ob}, oSub a b → ∀ o ∈ b, ∃ o' ∈ a, o'.1 = o.1 ∧ soSub o'.2 o.2
  | [], [], _, o, h => by cases h
  | (k, s) :: r, (k', s') :: r', ⟨h1, h2, h3⟩, o, h => by
    rcases List.mem_cons.1 h with rfl | h
    · exact ⟨(k, s), List.mem_cons_self, h1, h2⟩
    · obtain ⟨o', ho', e⟩ := oSub.mem h3 o h
      exact ⟨o', List.mem_cons_of_mem _ ho', e⟩
theorem oSub.obs {σ : Sg} {A0 : Own} {a b : List Ob} {w : World} (h : oSub a b) (ho : Obs σ A0 a w) : Obs σ A0 b w :=
  ⟨fun o hm => by
    obtain ⟨o', hm', h1, h2⟩ := h.mem o hm
    have := ho.holds o' hm'
    rw [h1] at this
    exact (h2.2 _ _ _ _ this).later (Later.own fun k hk => hk.imp id h.owns) (fun _ _ => rfl), h.disj ho.disj, fun x hx => ho.lt x (h.owns hx)⟩
theorem Ctr.Ok.sub {P : Program} [TabC P] {f : Nat} {c : Ctr} (h : c.Ok P f) {out' : c.D → c.E → List Ob} (hs : ∀ d e, c.pre d → c.post d e → oSub (c.out d e) (out' d e)) : ({ c with out := out' } : Ctr).Ok P f := by
  intro d hpre A0 w σ vs hA hobs hargs hdom hgl
  refine (h d hpre A0 w σ vs hA hobs hargs hdom hgl).mono ?_
  rintro en w' ⟨e', v, σ', rfl, hp, hsame, hdom', hres, hm, hobs', hnew⟩
  have hh := hs d e' hpre hp
  exact ⟨e', v, σ', rfl, hp, hsame, hdom', hres.later (Later.own fun k hk => hk.imp id hh.owns), hm, hh.obs hobs', fun b hb => hnew b (hh.owns hb)⟩
end Go.Proofs.YtinpcefioadkcaaGreatDoor

namespace Go.Proofs.YtinpcefioadkcaaGreatDoor
set_option linter.all false
open Go.RowKit
section
variable {P : Program} [TabC P] {S : Sig} {σ : Sg} {env : Env} {objs : List Ob} {nx : Nat} {a : Act} {w : World}
theorem OpsK.bslA {H : Cfg} {all r : List Oper} {K : KS} (t k off lo hi : Nat) (ht : lk env t = some (.bsl k off lo hi)) (h : nn1 objs (.bsl k off lo hi) fun o s => ∃ l : List (BitVec 8), s = .fs 1 eB l ∧ OpsK P H all r K ((t, .fs 1 eB l) :: env) o nx) : OpsK P H all r K env objs nx := ⟨fun {S Q ops} hcs hn ha hK => by
  obtain ⟨o', s', ⟨l, rfl, h⟩, g, e⟩ := nn1_sound (P := P) h
  intro σ a w hst
  have hst1 := g.1 S env nx σ a w hst
  refine h.h hcs hn ha hK σ a w (hst1.re (S' := S) rfl rfl (Sg.le.refl _) (fun k => Iff.rfl) (fun t' s' hx => ?_) hst1.dom hst1.obs.holds hst1.obs.disj hst1.hist (fun k hk => hst1.own0 k hk) hst1.a0 hst1.base hst1.nnx)
  unfold lk at hx
  split at hx
  · rename_i hb
    obtain rfl := Nat.eq_of_beq_eq_true hb
    cases hx
    have h1 := hst.slots t _ ht
    exact hv_up (e hst h1)
  · exact hst1.slots t' s' hx⟩
theorem OrdK.bslA {H : Cfg} {all : List Oper} {o0 : List Ob} {N : List Nat} {r : Ord} {ph q : Bool} {K : KS} (t k off lo hi : Nat) (ht : lk env t = some (.bsl k off lo hi)) (h : nn1 objs (.bsl k off lo hi) fun o s => ∃ l : List (BitVec 8), s = .fs 1 eB l ∧ OrdK P H all o0 N r ph q K ((t, .fs 1 eB l) :: env) o nx) : OrdK P H all o0 N r ph q K env objs nx := ⟨fun {S Q ops} hcs hn ha hN hK => by
  obtain ⟨o', s', ⟨l, rfl, h⟩, g, e⟩ := nn1_sound (P := P) h
  intro σ a w w0 e0 a0 hst0 hS hst hph hk
  have hst1 := g.1 S env nx σ a w hst
  refine h.h hcs hn ha hN hK σ a w w0 e0 a0 hst0 hS (hst1.re (S' := S) rfl rfl (Sg.le.refl _) (fun k => Iff.rfl) (fun t' s' hx => ?_) hst1.dom hst1.obs.holds hst1.obs.disj hst1.hist (fun k hk => hst1.own0 k hk) hst1.a0 hst1.base hst1.nnx) hph hk
  unfold lk at hx
  split at hx
  · rename_i hb
    obtain rfl := Nat.eq_of_beq_eq_true hb
    cases hx
    have h1 := hst.slots t _ ht
    exact hv_up (e hst h1)
  · exact hst1.slots t' s' hx⟩
end
end Go.Proofs.YtinpcefioadkcaaGreatDoor

namespace Go.Proofs.YtinpcefioadkcaaGreatDoor
set_option linter.all false
open Go.RowKit
abbrev ID16 := Vector (BitVec 8) 16
def q4 (q : BitVec 32) : Bs := [(q >>> 24).setWidth 8, (q >>> 16).setWidth 8, (q >>> 8).setWidth 8, q.setWidth 8]
def undP (id : ID16) (q : BitVec 32) (i : Int) : Bs := id.toList ++ (q4 q ++ [BitVec.ofInt 8 (i / 256), BitVec.ofInt 8 i])
def undF (id : ID16) (q : BitVec 32) (i : Int) (ps : List Bs) : H256 := sha (undP id q i ++ ps.flatten)
def und_c : Ctr where
  D := ID16 × BitVec 32 × Int × List Bs
  pre := fun (_, _, i, ps) => 0 ≤ i ∧ i < 65536 ∧ ps.length ≤ 10000 ∧ ∀ p ∈ ps, p.length ≤ 10000
  args := fun (id, q, i, ps) => [.agg [.arr8 id], .u32 q, .int .i64 i, .fs 1 eP ps]
  res := fun (id, q, i, ps) _ => .agg [.arr8 (undF id q i ps)]
def und_H : Cfg := ⟨[(96, sum_c)], [], [], [], 47, 0, [], [], []⟩
theorem und_ok : und_c.Ok Tryz.prog 228 := by
  refine fn_ok und_H 0 rfl _ Tryz.func228 rfl rfl ⟨sum_ok, trivial⟩ rfl rfl (by kernel_rfl) (fun _ => Nat.le_of_ble_eq_true rfl) ?_
  rintro ⟨id, q, i, ps⟩ hp hr
  try dsimp only [und_c] at hp
  try simp only [und_c, Rng, RngL, inR, and_true, true_and] at hr
  obtain ⟨hp0, hp1, hp2, hp3⟩ := hp
  have hp0 : 0 ≤ i := hp0
  have hp1 : i < 65536 := hp1
  have hp2 : ps.length ≤ 10000 := hp2
  have hbd : ∀ k, (ps.take k).flatten.length ≤ 100000000 := fun k => by
    have h1 := flatB (ps.take k) 10000 fun p hp => hp3 p (List.mem_of_mem_take hp)
    have h2 : (ps.take k).length ≤ ps.length := by simp; omega
    omega
  have hid : List.drop (loI none).toNat (List.take (hiI 16 none).toNat (Vector.toList id)) = id.toList := by
    simp only [loI, hiI, Int.toNat_zero, List.drop_zero]
    exact List.take_of_length_le (by simp)
  have hq : (q4 q).length = 4 := rfl
  have hidl : id.toList.length = 16 := by simp
  have hu : (undP id q i).length = 22 := by simp [undP, q4]
  repeat' (first | (with_reducible refine Unf.h ?_) | ((conv => whnf); (refine Side.mk ?_ ?_; focus (first | exact True.intro | (dsimp only; omega) | (intros; (try simp only [lenS, inR, cutS, loI, hiI] at *); omega) | exact nnS (by decide)))) | fail); all_goals try (conv => whnf); all_goals try (exfalso; omega)
  refine Ex.mk (q4 q ++ [BitVec.ofInt 8 (i / 256), BitVec.ofInt 8 i]) rfl ?_
  repeat' (first | (with_reducible refine Unf.h ?_) | ((conv => whnf); (refine Side.mk ?_ ?_; focus ((intros; (try simp only [lenS, inR, cutS, loI, hiI, hid, hq, hidl] at *); omega)))) | fail); all_goals try (conv => whnf); all_goals try (exfalso; omega)
  refine LoopS.autoN (I := Nat) (fun k => k ≤ ps.length) (fun k => [(37, .int .i64 (k : Int)), (9, .own 2)]) (fun k => [(0, .box 188 [.arr8 id]), (1, .box 25 [.arr8 zeroH]), (2, .row 5 1 eB (undP id q i ++ (ps.take k).flatten))]) 3 (fun k => ps.length - k) 0 (Nat.zero_le _) ?_ ?_
  · have e0 : undP id q i ++ (ps.take 0).flatten = List.drop (loI none).toNat (List.take (hiI 16 none).toNat (Vector.toList id)) ++ (q4 q ++ [BitVec.ofInt 8 (i / 256), BitVec.ofInt 8 i]) := by rw [hid]; simp [undP]
    repeat' (first | (with_reducible refine Unf.h ?_) | ((conv => whnf); first | (refine Side.mk ?_ ?_; focus (first | with_reducible rfl | (refine congrArg (SV.int _) ?_; omega) | (simp only [*, e0]; done))) | (with_reducible refine Unf.h ?_) | exact True.intro) | fail); all_goals try (conv => whnf); all_goals try (exfalso; omega)
  · intro k hk
    have hbk := hbd k
    rcases Nat.lt_or_ge k ps.length with hkl | hkl
    · have hb : (ps[((k : Nat) : Int).toNat]'hkl).length ≤ 10000 := hp3 _ (List.getElem_mem _)
      have es : undP id q i ++ (ps.take (k + 1)).flatten = undP id q i ++ (ps.take k).flatten ++ ps[((k : Nat) : Int).toNat]'hkl := by
        rw [flat_step ps k hkl, ← List.append_assoc]; rfl
      repeat' (first | (with_reducible first | refine Unf.h ?_ | refine loopK_n ?_) | ((conv => whnf); first | refine Fork.mk (fun h => ?_) (fun h => ?_) | (refine Side.mk ?_ ?_; focus ((intros; (try simp only [lenS, inR, cutS, loI, hiI, eP] at *); omega))) | (refine Idx.mk ?_ ?_; focus (omega)) | refine Ex.mk _ rfl ?_) | fail); all_goals try (conv => whnf); all_goals try (exfalso; omega)
      refine ⟨k + 1, ⟨by omega, by omega⟩, ?_⟩
      repeat' (first | (with_reducible refine Unf.h ?_) | ((conv => whnf); first | (refine Side.mk ?_ ?_; focus (first | with_reducible rfl | (refine congrArg (SV.int _) ?_; omega) | (simp only [*, es]; done))) | (with_reducible refine Unf.h ?_) | exact True.intro) | fail); all_goals try (conv => whnf); all_goals try (exfalso; omega)
    · have e : ps.take k = ps := List.take_of_length_le (by omega)
      rw [e]
      repeat' (first | (with_reducible refine Unf.h ?_) | ((conv => whnf); refine Fork.mk (fun h => ?_) (fun h => ?_)) | fail); all_goals try (conv => whnf); all_goals try (exfalso; omega)
      refine CallS.mk (c := sum_c) ((undP id q i ++ ps.flatten)) ?_
      repeat' (first | (with_reducible refine Unf.h ?_) | ((conv => whnf); first | (refine Side.mk ?_ ?_; focus (first | with_reducible rfl | exact True.intro | (simp only [*, undF]; done))) | refine RetE.mk () trivial ?_ | refine Got.mk (fun _ _ => ?_) | refine retK_r ?_ | exact rfl) | fail); all_goals try (conv => whnf); all_goals try (exfalso; omega)
end Go.Proofs.YtinpcefioadkcaaGreatDoor

namespace Go.Proofs.YtinpcefioadkcaaGreatDoor
set_option linter.all false
open Go.RowKit
def undk_c : Ctr := { und_c with kp := true }
theorem undk_ok : undk_c.Ok Tryz.prog 228 := und_ok.kept fun _ => rfl
def secF (id : ID16) (q : BitVec 32) (i : Int) (seed : H256) : H256 := undF id q i [[255#8], seed.toList]
def lsec_c : Ctr where
  D := ID16 × BitVec 32 × Int × H256
  pre := fun (_, _, i, _) => 0 ≤ i ∧ i < 65536
  args := fun (id, q, i, s) => [.agg [.arr8 id], .u32 q, .int .i64 i, .agg [.arr8 s]]
  res := fun (id, q, i, s) _ => .agg [.arr8 (secF id q i s)]
def lsec_H : Cfg := ⟨[(228, undk_c)], [(1, [], [0, 3, 5, 6, 7], (.one 1 0 false (.one 2 0 false (.one 4 0 false (.alt 0 false (.one 3 2 false (.one 5 2 false (.one 6 2 false (.one 7 2 false .nil)))) (.one 3 2 false (.alt 0 false (.one 5 2 false (.one 6 2 false (.one 7 2 false .nil))) (.one 5 2 false (.one 0 2 false (.one 6 2 false (.one 7 2 false .nil)))))))))), [])], [], [], 16, 0, [], [], []⟩
theorem lsec_ok : lsec_c.Ok Tryz.prog 212 := by
  refine fn_ok lsec_H 0 rfl _ Tryz.func212 rfl rfl ⟨undk_ok, trivial⟩ rfl rfl (by kernel_rfl) (fun _ => Nat.le_of_ble_eq_true rfl) ?_
  rintro ⟨id, q, i, s⟩ hp hr
  try dsimp only [lsec_c] at hp
  try simp only [lsec_c, Rng, RngL, inR, and_true, true_and] at hr
  obtain ⟨hp0, hp1⟩ := hp
  have hpu : undk_c.pre (id, q, i, [[255#8], s.toList]) := ⟨hp0, hp1, by show 2 ≤ 10000; omega, fun p hp => by
    have hp : p ∈ [[255#8], s.toList] := hp
    simp only [List.mem_cons, List.not_mem_nil, or_false] at hp
    rcases hp with rfl | rfl <;> simp⟩
  repeat' (first | (with_reducible refine Unf.h ?_) | ((conv => whnf); first | refine Both.mk ?_ ?_ | refine Both.mk ?_ ?_ | (refine Side.mk ?_ ?_; focus (first | exact True.intro | (intros; (try simp only [lenS, inR, cutS, loI, hiI] at *); omega))) | refine Ex.mk [_] rfl ?_) | fail); all_goals try (conv => whnf); all_goals try (exfalso; omega)
  all_goals
    refine CallS.mk (c := undk_c) ((id, q, i, [[255#8], s.toList])) ?_
    repeat' (first | (with_reducible refine Unf.h ?_) | ((conv => whnf); first | (refine Side.mk ?_ ?_; focus (first | with_reducible rfl | assumption | (simp only [*, secF, cutv2, eP, List.map_cons, List.map_nil]; done))) | refine RetE.mk () trivial ?_ | refine Got.mk (fun _ _ => ?_) | refine retK_r ?_ | exact rfl) | fail); all_goals try (conv => whnf); all_goals try (exfalso; omega)
def chnU (id : ID16) (q : BitVec 32) (i : Int) (a : Nat) (h : H256) : Nat → H256
  | 0 => h
  | k + 1 => undF id q i [[BitVec.ofInt 8 ((a + k : Nat) : Int)], (chnU id q i a h k).toList]
def lchn_c : Ctr where
  D := ID16 × BitVec 32 × Int × H256 × Nat × Nat
  pre := fun (_, _, i, _, a, b) => 0 ≤ i ∧ i < 65536 ∧ a ≤ 100000 ∧ b ≤ 100000
  args := fun (id, q, i, h, a, b) => [.agg [.arr8 id], .u32 q, .int .i64 i, .agg [.arr8 h], .int .i64 (a : Int), .int .i64 (b : Int)]
  res := fun (id, q, i, h, a, b) _ => .agg [.arr8 (chnU id q i a h (b - a))]
def lchn_H : Cfg := ⟨[(228, undk_c)], [(4, [0], [5, 7, 8, 9], (.one 0 1 false (.one 1 0 false (.one 2 0 false (.one 3 0 false (.one 4 0 false (.one 6 0 false (.one 5 2 true (.one 7 2 true (.one 8 2 false (.one 9 2 false .nil)))))))))), [])], [], [], 30, 0, [], [], [27]⟩
theorem lchn_ok : lchn_c.Ok Tryz.prog 211 := by
  refine fn_ok lchn_H 0 rfl _ Tryz.func211 rfl rfl ⟨undk_ok, trivial⟩ rfl rfl (by kernel_rfl) (fun _ => Nat.le_of_ble_eq_true rfl) ?_
  rintro ⟨id, q, i, h0, a, b⟩ hp hr
  try dsimp only [lchn_c] at hp
  try simp only [lchn_c, Rng, RngL, inR, and_true, true_and] at hr
  obtain ⟨hp0, hp1, hp2, hp3⟩ := hp
  have hp2 : a ≤ 100000 := hp2
  have hp3 : b ≤ 100000 := hp3
  repeat' (first | (with_reducible refine Unf.h ?_) | fail); all_goals try (conv => whnf); all_goals try (exfalso; omega)
  refine LoopS.autoN (I := Nat) (fun k => k ≤ b - a) (fun k => [(13, .int .i64 ((a + k : Nat) : Int))]) (fun k => [(0, .box 188 [.arr8 id]), (1, .box 25 [.arr8 (chnU id q i a h0 k)]), (2, .box 25 [.arr8 zeroH])]) 3 (fun k => b - a - k) 0 (Nat.zero_le _) ?_ ?_
  · have e0 : chnU id q i a h0 0 = h0 := rfl
    repeat' (first | (with_reducible refine Unf.h ?_) | ((conv => whnf); first | (refine Side.mk ?_ ?_; focus (first | with_reducible rfl | (refine congrArg (SV.int _) ?_; omega) | (simp only [*, e0]; done))) | (with_reducible refine Unf.h ?_) | exact True.intro) | fail); all_goals try (conv => whnf); all_goals try (exfalso; omega)
  · intro k hk
    rcases Nat.lt_or_ge k (b - a) with hkl | hkl
    · have hpu : undk_c.pre (id, q, i, [[BitVec.ofInt 8 ((a + k : Nat) : Int)], (chnU id q i a h0 k).toList]) := ⟨hp0, hp1, by show 2 ≤ 10000; omega, fun p hp => by
        have hp : p ∈ [[BitVec.ofInt 8 ((a + k : Nat) : Int)], (chnU id q i a h0 k).toList] := hp
        simp only [List.mem_cons, List.not_mem_nil, or_false] at hp
        rcases hp with rfl | rfl <;> simp⟩
      have es : chnU id q i a h0 (k + 1) = undF id q i [[BitVec.ofInt 8 ((a + k : Nat) : Int)], (chnU id q i a h0 k).toList] := rfl
      generalize chnU id q i a h0 k = hk0 at *
      repeat' (first | (with_reducible refine Unf.h ?_) | ((conv => whnf); first | refine Fork.mk (fun h => ?_) (fun h => ?_) | (refine Side.mk ?_ ?_; focus (exact True.intro))) | fail); all_goals try (conv => whnf); all_goals try (exfalso; omega)
      all_goals
        refine ValS.mk (OrdK.lend _ _ [(28, .agg [.arr8 (undF id q i [[BitVec.ofInt 8 ((a + k : Nat) : Int)], hk0.toList])]), (6, .ptr 0 0), (9, .ptr 1 0), (12, .ptr 2 0), (14, .int .i64 (a : Int)), (0, .agg [.arr8 id]), (1, .u32 q), (2, .int .i64 i), (3, .agg [.arr8 h0]), (4, .int .i64 (a : Int)), (5, .int .i64 (b : Int)), (13, .int .i64 ((a + k : Nat) : Int))] rfl rfl rfl rfl rfl rfl ?_)
        repeat' (first | ((conv => whnf); first | (refine Side.mk ?_ ?_; focus ((intros; (try simp only [lenS, inR, cutS, loI, hiI] at *); omega))) | refine Ex.mk [_] rfl ?_) | fail); all_goals try (conv => whnf); all_goals try (exfalso; omega)
        refine CallS.mk (c := undk_c) ((id, q, i, [[BitVec.ofInt 8 ((a + k : Nat) : Int)], hk0.toList])) ?_
        repeat' (first | (with_reducible refine Unf.h ?_) | ((conv => whnf); first | (refine Side.mk ?_ ?_; focus (first | with_reducible rfl | assumption | (simp only [*, cutv2, eP, List.map_cons, List.map_nil]; done))) | refine Got.mk (fun _ _ => ?_)) | fail); all_goals try (conv => whnf); all_goals try (exfalso; omega)
        refine ⟨by repeat (first | exact trivial | refine ⟨rfl, rfl, ?_⟩), ?_⟩
        repeat' (first | (with_reducible first | refine Unf.h ?_ | refine loopK_n ?_) | ((conv => whnf); (refine Side.mk ?_ ?_; focus ((intros; (try simp only [lenS, inR, cutS, loI, hiI] at *); omega)))) | fail); all_goals try (conv => whnf); all_goals try (exfalso; omega)
        refine ⟨k + 1, ⟨by omega, by omega⟩, ?_⟩
        repeat' (first | (with_reducible refine Unf.h ?_) | ((conv => whnf); first | (refine Side.mk ?_ ?_; focus (first | with_reducible rfl | (refine congrArg (SV.int _) ?_; omega) | (simp only [*, es]; done))) | (with_reducible refine Unf.h ?_) | exact True.intro) | fail); all_goals try (conv => whnf); all_goals try (exfalso; omega)
    · obtain rfl : k = b - a := by omega
      repeat' (first | (with_reducible refine Unf.h ?_) | ((conv => whnf); first | refine Fork.mk (fun h => ?_) (fun h => ?_) | (refine Side.mk ?_ ?_; focus (with_reducible rfl)) | refine RetE.mk () trivial ?_ | refine retK_r ?_ | exact rfl) | fail); all_goals try (conv => whnf); all_goals try (exfalso; omega)
end Go.Proofs.YtinpcefioadkcaaGreatDoor

namespace Go.Proofs.YtinpcefioadkcaaGreatDoor
set_option linter.all false
open Go.RowKit
def frm (k : Int) : Int × Int × Int := if 1 ≤ k ∧ k ≤ 4 then gv2.getD k.toNat (0, 0, 0) else (0, 0, 0)
theorem frm_get {k : Int} (h : 1 ≤ k ∧ k ≤ 4) (hb : k.toNat < gv2.length) : gv2[k.toNat]'hb = frm k := by
  unfold frm
  rw [if_pos h, List.getD_eq_getElem?_getD, List.getElem?_eq_getElem hb]; rfl
theorem frm_cases (k : Int) : frm k = (0, 0, 0) ∧ ¬ (1 ≤ k ∧ k ≤ 4) ∨ frm k = (1, 265, 7) ∧ k = 1 ∨ frm k = (2, 133, 6) ∧ k = 2 ∨ frm k = (4, 67, 4) ∧ k = 3 ∨ frm k = (8, 34, 0) ∧ k = 4 := by
  by_cases h : 1 ≤ k ∧ k ≤ 4
  · have : k = 1 ∨ k = 2 ∨ k = 3 ∨ k = 4 := by omega
    rcases this with rfl | rfl | rfl | rfl
    · exact .inr (.inl ⟨rfl, rfl⟩)
    · exact .inr (.inr (.inl ⟨rfl, rfl⟩))
    · exact .inr (.inr (.inr (.inl ⟨rfl, rfl⟩)))
    · exact .inr (.inr (.inr (.inr ⟨rfl, rfl⟩)))
  · exact .inl ⟨if_neg h, h⟩
abbrev eFm (p : Int × Int × Int) : List SV := [.int .i64 p.1, .int .i64 p.2.1, .int .i64 p.2.2]
def lof_c : Ctr where
  D := Int
  args := fun k => [.int .i64 k]
  res := fun k _ => .tup [.agg (eFm (frm k)), .dec (1 ≤ k ∧ k ≤ 4) inferInstance]
def lof_H : Cfg := ⟨[], [], [], [], 14, 0, [], [], []⟩
theorem lof_ok : lof_c.Ok Tryz.prog 210 := by
  refine fn_ok lof_H 0 rfl _ Tryz.func210 rfl rfl trivial rfl rfl (by kernel_rfl) (fun _ => Nat.le_of_ble_eq_true rfl) ?_
  intro (k : Int) hp hr
  try dsimp only [lof_c] at hp
  try simp only [lof_c, Rng, RngL, inR, and_true, true_and] at hr
  by_cases h : 1 ≤ k ∧ k ≤ 4
  · have hg : ∀ hb, gv2[k.toNat]'hb = frm k := fun hb => frm_get h hb
    have hlen : gv2.length = 5 := rfl
    repeat' (first | (with_reducible refine Unf.h ?_) | ((conv => whnf); first | refine Fork.mk (fun h => ?_) (fun h => ?_) | (refine Idx.mk ?_ ?_; focus (omega))) | fail); all_goals try (conv => whnf); all_goals try (exfalso; omega)
    refine Side.mk rfl ?_
    repeat' (first | (with_reducible refine Unf.h ?_) | ((conv => whnf); first | (refine Side.mk ?_ ?_; focus (first | (refine ⟨fun h => ?_, fun h => ?_⟩ <;> first | rfl | (cases h; done) | omega | (exfalso; omega) | (simp only [Bool.false_eq_true] at h; done)) | (simp only [*, hg, e3I]; done))) | refine RetE.mk () trivial ?_ | refine retK_r ?_ | exact rfl) | fail); all_goals try (conv => whnf); all_goals try (exfalso; omega)
  · have hf : frm k = (0, 0, 0) := if_neg h
    repeat' (first | (with_reducible refine Unf.h ?_) | ((conv => whnf); first | refine Fork.mk (fun h => ?_) (fun h => ?_) | (refine Side.mk ?_ ?_; focus (first | (refine ⟨fun h => ?_, fun h => ?_⟩ <;> first | rfl | (cases h; done) | omega | (exfalso; omega) | (simp only [Bool.false_eq_true] at h; done)) | (simp only [*, hf]; done))) | refine RetE.mk () trivial ?_ | refine retK_r ?_ | exact rfl) | fail); all_goals try (conv => whnf); all_goals try (exfalso; omega)
def lchs_c : Ctr where
  D := Int
  args := fun k => [.int .i64 k]
  res := fun k _ => .int .i64 (frm k).2.1
def lchs_H : Cfg := ⟨[(210, lof_c)], [], [], [], 12, 0, [], [], []⟩
theorem lchs_ok : lchs_c.Ok Tryz.prog 209 := by
  refine fn_ok lchs_H 0 rfl _ Tryz.func209 rfl rfl ⟨lof_ok, trivial⟩ rfl rfl (by kernel_rfl) (fun _ => Nat.le_of_ble_eq_true rfl) ?_
  intro (k : Int) hp hr
  try dsimp only [lchs_c] at hp
  try simp only [lchs_c, Rng, RngL, inR, and_true, true_and] at hr
  repeat' (first | (with_reducible refine Unf.h ?_) | ((conv => whnf); first | (refine Side.mk ?_ ?_; focus (first | with_reducible rfl | exact True.intro | (refine congrArg (SV.int _) ?_; omega))) | refine RetE.mk () trivial ?_ | refine Got.mk (fun _ _ => ?_) | refine retK_r ?_ | exact rfl | refine CallS.mk (c := lof_c) (k) ?_) | fail); all_goals try (conv => whnf); all_goals try (exfalso; omega)
def lszF (k : Int) : Int := if 1 ≤ k ∧ k ≤ 4 then 4 + 32 * (1 + (frm k).2.1) else 0
def lsz_c : Ctr where
  D := Int
  args := fun k => [.int .i64 k]
  res := fun k _ => .int .i64 (lszF k)
def lsz_H : Cfg := ⟨[(210, lof_c)], [], [], [], 17, 0, [], [], []⟩
theorem lsz_ok : lsz_c.Ok Tryz.prog 156 := by
  refine fn_ok lsz_H 0 rfl _ Tryz.func156 rfl rfl ⟨lof_ok, trivial⟩ rfl rfl (by kernel_rfl) (fun _ => Nat.le_of_ble_eq_true rfl) ?_
  intro (k : Int) hp hr
  try dsimp only [lsz_c] at hp
  try simp only [lsz_c, Rng, RngL, inR, and_true, true_and] at hr
  have hc := frm_cases k
  by_cases h : 1 ≤ k ∧ k ≤ 4
  · have e : lszF k = 4 + 32 * (1 + (frm k).2.1) := if_pos h
    have hb : 0 ≤ (frm k).2.1 ∧ (frm k).2.1 ≤ 265 := by rcases hc with ⟨h1, _⟩ | ⟨h1, _⟩ | ⟨h1, _⟩ | ⟨h1, _⟩ | ⟨h1, _⟩ <;> rw [h1] <;> decide
    repeat' (first | (with_reducible refine Unf.h ?_) | ((conv => whnf); first | refine Fork.mkn (fun h => ?_) (fun h => ?_) | (refine Side.mk ?_ ?_; focus (first | with_reducible rfl | exact True.intro | (refine congrArg (SV.int _) ?_; omega) | (intros; (try simp only [lenS, inR, cutS, loI, hiI, e] at *); omega))) | refine RetE.mk () trivial ?_ | refine Got.mk (fun _ _ => ?_) | refine retK_r ?_ | exact rfl | refine CallS.mk (c := lof_c) (k) ?_) | fail); all_goals try (conv => whnf); all_goals try (exfalso; omega)
  · have e : lszF k = 0 := if_neg h
    repeat' (first | (with_reducible refine Unf.h ?_) | ((conv => whnf); first | refine Fork.mkn (fun h => ?_) (fun h => ?_) | (refine Side.mk ?_ ?_; focus (first | with_reducible rfl | exact True.intro | (refine congrArg (SV.int _) ?_; omega))) | refine RetE.mk () trivial ?_ | refine Got.mk (fun _ _ => ?_) | refine retK_r ?_ | exact rfl | refine CallS.mk (c := lof_c) (k) ?_) | fail); all_goals try (conv => whnf); all_goals try (exfalso; omega)
def lmst_c : Ctr where
  D := Nat × Int × Int
  pre := fun (b, _, _) => b ≤ 8
  args := fun (b, c, s) => [.agg [.int .i64 (b : Int), .int .i64 c, .int .i64 s]]
  res := fun (b, _, _) _ => .int .i64 ((2 ^ b - 1 : Nat) : Int)
def lmst_H : Cfg := ⟨[], [], [], [], 7, 0, [], [], []⟩
theorem lmst_ok : lmst_c.Ok Tryz.prog 213 := by
  refine fn_ok lmst_H 0 rfl _ Tryz.func213 rfl rfl trivial rfl rfl (by kernel_rfl) (fun _ => Nat.le_of_ble_eq_true rfl) ?_
  rintro ⟨b, c, s⟩ hp hr
  try dsimp only [lmst_c] at hp
  try simp only [lmst_c, Rng, RngL, inR, and_true, true_and] at hr
  have hp : b ≤ 8 := hp
  have h2 : (2 : Nat) ^ b ≤ 2 ^ 8 := Nat.pow_le_pow_right (by decide) hp
  have h1 : 1 ≤ (2 : Nat) ^ b := Nat.one_le_two_pow
  have hb2 : (1 : Int) * 2 ^ ((((b : Nat) : Int).toNat : Nat) : Int).toNat = ((2 ^ b : Nat) : Int) := by simp
  have hb3 : ((2 ^ b : Nat) : Int) - 1 = ((2 ^ b - 1 : Nat) : Int) := by omega
  repeat' (first | (with_reducible refine Unf.h ?_) | ((conv => whnf); first | (refine Side.mk ?_ ?_; focus (first | omega | (refine congrArg (SV.int _) ?_; omega) | (intros; (try simp only [lenS, inR, cutS, loI, hiI] at *); omega))) | refine RetE.mk () trivial ?_ | refine retK_r ?_ | exact rfl) | fail); all_goals try (conv => whnf); all_goals try (exfalso; omega)
end Go.Proofs.YtinpcefioadkcaaGreatDoor

namespace Go.Proofs.YtinpcefioadkcaaGreatDoor
set_option linter.all false
open Go.RowKit
abbrev eHv (v : H256) : List SV := [.arr8 v]
def catH (l : List H256) : Bs := (l.map fun h => h.toList).flatten
theorem catH_succ (l : List H256) (i : Nat) (h : i < l.length) : catH (l.take (i + 1)) = catH (l.take i) ++ l[i].toList := by
  unfold catH
  rw [List.take_succ_eq_append_getElem h, List.map_append, List.flatten_append]; simp
theorem catH_len (l : List H256) : (catH l).length = 32 * l.length := by
  induction l with
  | nil => rfl
  | cons a r ih =>
    unfold catH at ih ⊢
    rw [List.map_cons, List.flatten_cons, List.length_append, ih, List.length_cons]
    simp; omega
def fldF (id : ID16) (q : BitVec 32) (ends : List H256) : H256 := undF id q 32896 [catH ends]
def lfld_c : Ctr where
  D := ID16 × BitVec 32 × List H256
  pre := fun (_, _, l) => l.length ≤ 300
  args := fun (id, q, l) => [.agg [.arr8 id], .u32 q, .fs 32 eHv l]
  res := fun (id, q, l) _ => .agg [.arr8 (fldF id q l)]
def lfld_H : Cfg := ⟨[(228, und_c)], [], [], [], 29, 0, [], [], []⟩
theorem lfld_ok : lfld_c.Ok Tryz.prog 214 := by
  refine fn_ok lfld_H 0 rfl _ Tryz.func214 rfl rfl ⟨und_ok, trivial⟩ rfl rfl (by kernel_rfl) (fun _ => Nat.le_of_ble_eq_true rfl) ?_
  rintro ⟨id, q, l⟩ hp hr
  try dsimp only [lfld_c] at hp
  try simp only [lfld_c, Rng, RngL, inR, and_true, true_and] at hr
  have hp : l.length ≤ 300 := hp
  have hcl := catH_len l
  have hpu : und_c.pre (id, q, 32896, [catH l]) := ⟨by omega, by omega, by show 1 ≤ 10000; omega, fun p hp => by
    have hp : p ∈ [catH l] := hp
    obtain rfl := List.mem_singleton.1 hp
    omega⟩
  repeat' (first | (with_reducible refine Unf.h ?_) | ((conv => whnf); (refine Side.mk ?_ ?_; focus (first | (dsimp only; omega) | (intros; (try simp only [lenS, inR, cutS, loI, hiI] at *); omega)))) | fail); all_goals try (conv => whnf); all_goals try (exfalso; omega)
  refine LoopS.autoN (I := Nat) (fun k => k ≤ l.length) (fun k => [(16, .int .i64 (k : Int)), (7, .own 2)]) (fun k => [(0, .box 188 [.arr8 id]), (1, .box 25 [.arr8 zeroH]), (2, .row 5 1 eB (catH (l.take k)))]) 3 (fun k => l.length - k) 0 (Nat.zero_le _) ?_ ?_
  · have e0 : catH (l.take 0) = [] := rfl
    repeat' (first | (with_reducible refine Unf.h ?_) | ((conv => whnf); first | (refine Side.mk ?_ ?_; focus (first | with_reducible rfl | (refine congrArg (SV.int _) ?_; omega) | (simp only [*, e0, List.map_cons, List.map_nil, eB]; done))) | (with_reducible refine Unf.h ?_) | exact True.intro) | fail); all_goals try (conv => whnf); all_goals try (exfalso; omega)
  · intro k hk
    have hbk := catH_len (l.take k)
    have hbt : (l.take k).length ≤ 300 := by simp; omega
    rcases Nat.lt_or_ge k l.length with hkl | hkl
    · have es : catH (l.take (k + 1)) = catH (l.take k) ++ (l[((k : Nat) : Int).toNat]'hkl).toList := catH_succ l k hkl
      repeat' (first | (with_reducible first | refine Unf.h ?_ | refine loopK_n ?_) | ((conv => whnf); first | refine Fork.mk (fun h => ?_) (fun h => ?_) | (refine Side.mk ?_ ?_; focus (first | exact True.intro | (intros; (try simp only [lenS, inR, cutS, loI, hiI, cutv2] at *); omega))) | (refine Idx.mk ?_ ?_; focus (omega)) | refine Ex.mk _ rfl ?_) | fail); all_goals try (conv => whnf); all_goals try (exfalso; omega)
      refine ⟨k + 1, ⟨by omega, by omega⟩, ?_⟩
      repeat' (first | (with_reducible refine Unf.h ?_) | ((conv => whnf); first | (refine Side.mk ?_ ?_; focus (first | with_reducible rfl | (refine congrArg (SV.int _) ?_; omega) | (simp only [*, es, cutv2]; done))) | (with_reducible refine Unf.h ?_) | exact True.intro) | fail); all_goals try (conv => whnf); all_goals try (exfalso; omega)
    · have e : l.take k = l := List.take_of_length_le (by omega)
      rw [e]
      repeat' (first | (with_reducible refine Unf.h ?_) | ((conv => whnf); refine Fork.mk (fun h => ?_) (fun h => ?_)) | fail); all_goals try (conv => whnf); all_goals try (exfalso; omega)
      refine CallS.mk (c := und_c) ((id, q, 32896, [catH l])) ?_
      repeat' (first | (with_reducible refine Unf.h ?_) | ((conv => whnf); first | (refine Side.mk ?_ ?_; focus (first | with_reducible rfl | assumption | (simp only [*, eP, List.map_cons, List.map_nil, fldF]; done))) | refine RetE.mk () trivial ?_ | refine Got.mk (fun _ _ => ?_) | refine retK_r ?_ | exact rfl) | fail); all_goals try (conv => whnf); all_goals try (exfalso; omega)
end Go.Proofs.YtinpcefioadkcaaGreatDoor

namespace Go.Proofs.YtinpcefioadkcaaGreatDoor
set_option linter.all false
open Go.RowKit
theorem frm_nat {k : Int} (h : 1 ≤ k ∧ k ≤ 4) : ∃ b c : Nat, ∃ s : Int, frm k = ((b : Int), ((c + 1 : Nat) : Int), s) ∧ b ≤ 8 ∧ c + 1 ≤ 299 := by
  rcases frm_cases k with ⟨_, h1⟩ | ⟨h1, _⟩ | ⟨h1, _⟩ | ⟨h1, _⟩ | ⟨h1, _⟩
  · exact absurd h h1
  · exact ⟨1, 264, 7, h1, by decide, by decide⟩
  · exact ⟨2, 132, 6, h1, by decide, by decide⟩
  · exact ⟨4, 66, 4, h1, by decide, by decide⟩
  · exact ⟨8, 33, 0, h1, by decide, by decide⟩
def endF (id : ID16) (q : BitVec 32) (seed : H256) (b i : Nat) : H256 := chnU id q (i : Int) 0 (secF id q (i : Int) seed) (2 ^ b - 1)
def endsF (id : ID16) (q : BitVec 32) (seed : H256) (b n : Nat) : List H256 := (List.range n).map (endF id q seed b)
def pubF (k : Int) (id : ID16) (q : BitVec 32) (seed : H256) : H256 := fldF id q (endsF id q seed (frm k).1.toNat (frm k).2.1.toNat)
def part0 (f : Nat → H256) (n i : Nat) : List H256 := (List.range n).map fun j => if j < i then f j else zeroH
theorem part0_zero (f : Nat → H256) (n : Nat) : part0 f n 0 = List.replicate n zeroH := by
  unfold part0
  apply List.ext_getElem (by simp)
  intro j h1 h2; simp
theorem part0_all (f : Nat → H256) (n : Nat) : part0 f n n = (List.range n).map f := by
  unfold part0
  apply List.map_congr_left
  intro j hj
  rw [if_pos (List.mem_range.1 hj)]
theorem part0_len (f : Nat → H256) (n i : Nat) : (part0 f n i).length = n := by simp [part0]
theorem part0_set (f : Nat → H256) (n i : Nat) (h : i < n) : (part0 f n i).set i (f i) = part0 f n (i + 1) := by
  apply List.ext_getElem (by simp [part0])
  intro j h1 h2
  rw [List.getElem_set]
  simp only [part0, List.getElem_map, List.getElem_range]
  by_cases hj : i = j
  · subst hj; simp
  · rw [if_neg hj]
    by_cases h3 : j < i
    · rw [if_pos h3, if_pos (by omega)]
    · rw [if_neg h3, if_neg (by omega)]
theorem end_set {id : ID16} {q : BitVec 32} {s : H256} {b n i m : Nat} (hm : 2 ^ b - 1 = m) (h : i < n) : part0 (endF id q s b) n (i + 1) = (part0 (endF id q s b) n i).set ((i : Nat) : Int).toNat (chnU id q (i : Int) 0 (secF id q (i : Int) s) (m - 0)) := by
  subst hm
  exact (part0_set (endF id q s b) n i h).symm
def lpub_c : Ctr where
  D := Int × ID16 × BitVec 32 × H256
  pre := fun (k, _, _, _) => 1 ≤ k ∧ k ≤ 4
  args := fun (k, id, q, s) => [.int .i64 k, .agg [.arr8 id], .u32 q, .agg [.arr8 s]]
  res := fun (k, id, q, s) _ => .tup [.agg [.arr8 (pubF k id q s)], .int .i64 0]
def lpub_H : Cfg := ⟨[(210, lof_c), (212, lsec_c), (213, lmst_c), (211, lchn_c), (214, lfld_c)], [(8, [2, 5, 8, 10], [9, 11, 12, 14], (.one 0 0 false (.one 1 0 false (.one 2 1 false (.one 3 0 false (.one 4 0 false (.one 5 1 false (.one 6 0 false (.one 7 0 false (.one 8 1 false (.one 10 1 false (.one 9 2 true (.one 11 2 true (.one 12 2 false (.one 13 0 false (.one 14 2 false .nil))))))))))))))), [])], [], [], 49, 0, [], [], []⟩
theorem lpub_ok : lpub_c.Ok Tryz.prog 157 := by
  refine fn_ok lpub_H 0 rfl _ Tryz.func157 rfl rfl ⟨lof_ok, lsec_ok, lmst_ok, lchn_ok, lfld_ok, trivial⟩ rfl rfl (by kernel_rfl) (fun _ => Nat.le_of_ble_eq_true rfl) ?_
  rintro ⟨k, id, q, s⟩ hp hr
  try dsimp only [lpub_c] at hp
  try simp only [lpub_c, Rng, RngL, inR, and_true, true_and] at hr
  have hk : 1 ≤ k ∧ k ≤ 4 := hp
  obtain ⟨b, c, sh, hf, hb, hc⟩ := frm_nat hk
  have ep : pubF k id q s = fldF id q (endsF id q s b (c + 1)) := by unfold pubF; rw [hf]; rfl
  have hm : lmst_c.pre (b, ((c + 1 : Nat) : Int), sh) := hb
  have hl : lfld_c.pre (id, q, endsF id q s b (c + 1)) := by show (endsF id q s b (c + 1)).length ≤ 300; simp [endsF]; omega
  repeat' (first | (with_reducible refine Unf.h ?_) | ((conv => whnf); first | refine Fork.mkn (fun h => ?_) (fun h => ?_) | (refine Side.mk ?_ ?_; focus (first | with_reducible rfl | exact True.intro)) | refine Got.mk (fun _ _ => ?_) | refine CallS.mk (c := lof_c) (k) ?_) | fail); all_goals try (conv => whnf); all_goals try (exfalso; omega)
  rw [hf]
  repeat' (first | (with_reducible refine Unf.h ?_) | ((conv => whnf); (refine Side.mk ?_ ?_; focus ((dsimp only; omega)))) | fail); all_goals try (conv => whnf); all_goals try (exfalso; omega)
  have e00 : List.replicate (((c + 1 : Nat) : Int)).toNat [SV.arr8 zeroH] = (part0 (endF id q s b) (c + 1) 0).map eHv := by
    rw [part0_zero, List.map_replicate]; rfl
  refine LoopS.autoN (I := Nat) (fun i => i ≤ c + 1) (fun i => [(27, .int .i64 (i : Int)), (26, .int .i64 ((c + 1 : Nat) : Int)), (12, .own 4)]) (fun i => [(0, .box 188 [.arr8 id]), (1, .box 25 [.arr8 s]), (2, .box 25 [.arr8 zeroH]), (3, .box 323 [.int .i64 (b : Int), .int .i64 ((c + 1 : Nat) : Int), .int .i64 sh]), (4, .row 25 32 eHv (part0 (endF id q s b) (c + 1) i))]) 5 (fun i => c + 1 - i) 0 (Nat.zero_le _) ?_ ?_
  · have hlen : (List.replicate (((b : Int), ((c + 1 : Nat) : Int), sh) : Int × Int × Int).snd.fst.toNat [SV.arr8 (Vector.replicate 32 0#8)]).length = c + 1 := by simp
    repeat' (first | (with_reducible refine Unf.h ?_) | ((conv => whnf); first | (refine Side.mk ?_ ?_; focus (first | with_reducible rfl | assumption | (refine congrArg (SV.int _) ?_; omega))) | (with_reducible refine Unf.h ?_) | exact True.intro) | fail); all_goals try (conv => whnf); all_goals try (exfalso; omega)
  · intro i hi
    have hpl := part0_len (endF id q s b) (c + 1) i
    rcases Nat.lt_or_ge i (c + 1) with h | h
    · have h1 : lsec_c.pre (id, q, (i : Int), s) := ⟨by omega, by omega⟩
      have h2 : lchn_c.pre (id, q, (i : Int), secF id q (i : Int) s, 0, 2 ^ b - 1) := ⟨by omega, by omega, by omega, by
        show 2 ^ b - 1 ≤ 100000
        have : (2 : Nat) ^ b ≤ 2 ^ 8 := Nat.pow_le_pow_right (by decide) hb
        omega⟩
      repeat' (first | (with_reducible refine Unf.h ?_) | ((conv => whnf); refine Fork.mk (fun h => ?_) (fun h => ?_)) | fail); all_goals try (conv => whnf); all_goals try (exfalso; omega)
      all_goals
        refine CallS.mk (c := lsec_c) ((id, q, (i : Int), s)) ?_
        repeat' (first | (with_reducible refine Unf.h ?_) | ((conv => whnf); first | (refine Side.mk ?_ ?_; focus (first | with_reducible rfl | assumption)) | refine Got.mk (fun _ _ => ?_)) | fail); all_goals try (conv => whnf); all_goals try (exfalso; omega)
      all_goals
        refine CallS.mk (c := lmst_c) ((b, ((c + 1 : Nat) : Int), sh)) ?_
        repeat' (first | (with_reducible refine Unf.h ?_) | ((conv => whnf); first | (refine Side.mk ?_ ?_; focus (first | with_reducible rfl | assumption)) | refine Got.mk (fun _ _ => ?_)) | fail); all_goals try (conv => whnf); all_goals try (exfalso; omega)
      all_goals
        generalize hmm : 2 ^ b - 1 = m at *
        have hz0 : SV.int .i64 0 = SV.int .i64 ((0 : Nat) : Int) := rfl
        refine CallS.mk (c := lchn_c) ((id, q, (i : Int), secF id q (i : Int) s, 0, m)) ?_
        repeat (first | (with_reducible refine Unf.h ?_) | (with_reducible refine Side.mk hz0 ?_) | (with_reducible refine Side.mk h2 ?_) | (with_reducible refine Side.mk rfl ?_) | ((conv => whnf); (with_reducible first | refine Unf.h ?_ | refine Side.mk hz0 ?_ | refine Side.mk h2 ?_ | refine Side.mk rfl ?_)))
        clear h1 h2
        repeat' (first | (with_reducible first | refine Unf.h ?_ | refine loopK_n ?_) | ((conv => whnf); first | (refine Side.mk ?_ ?_; focus (first | omega | (intros; (try simp only [lenS, inR, cutS, loI, hiI] at *); omega))) | (refine Idx.mk ?_ ?_; focus (omega)) | refine Got.mk (fun _ _ => ?_) | refine Ex.mk _ rfl ?_) | fail); all_goals try (conv => whnf); all_goals try (exfalso; omega)
      all_goals
        refine ⟨i + 1, ⟨by omega, by omega⟩, ?_⟩
        have hlen : (List.replicate (((b : Int), ((c + 1 : Nat) : Int), sh) : Int × Int × Int).snd.fst.toNat [SV.arr8 (Vector.replicate 32 0#8)]).length = c + 1 := by simp
        repeat' (first | (with_reducible refine Unf.h ?_) | ((conv => whnf); first | (refine Side.mk ?_ ?_; focus (first | with_reducible rfl | (refine congrArg (SV.int _) ?_; omega) | (simp only [*, end_set hmm (by assumption), hlen]; done))) | (with_reducible refine Unf.h ?_) | exact True.intro) | fail); all_goals try (conv => whnf); all_goals try (exfalso; omega)
    · obtain rfl : i = c + 1 := by omega
      rw [part0_all]
      have ee : (List.range (c + 1)).map (endF id q s b) = endsF id q s b (c + 1) := rfl
      rw [ee]
      repeat' (first | (with_reducible refine Unf.h ?_) | ((conv => whnf); refine Fork.mk (fun h => ?_) (fun h => ?_)) | fail); all_goals try (conv => whnf); all_goals try (exfalso; omega)
      refine CallS.mk (c := lfld_c) ((id, q, endsF id q s b (c + 1))) ?_
      repeat' (first | (with_reducible refine Unf.h ?_) | ((conv => whnf); first | (refine Side.mk ?_ ?_; focus (first | with_reducible rfl | assumption | (simp only [*, ep]; done))) | refine RetE.mk () trivial ?_ | refine Got.mk (fun _ _ => ?_) | refine retK_r ?_ | exact rfl) | fail); all_goals try (conv => whnf); all_goals try (exfalso; omega)
end Go.Proofs.YtinpcefioadkcaaGreatDoor

namespace Go.Proofs.YtinpcefioadkcaaGreatDoor
set_option linter.all false
open Go.RowKit
def wu16_c : Ctr where
  D := Bs × Int
  pre := fun (b, x) => b.length ≤ 1000000 ∧ 0 ≤ x ∧ x ≤ 65535
  args := fun (_, x) => [.ptr 0 0, .int .i64 x]
  objs := fun (b, _) => [(0, .box 233 [.own 1, .bool false]), (1, .row 5 1 eB b)]
  nn := 2
  res := fun _ _ => .tup []
  out := fun (b, x) _ => [(0, .box 233 [.own 2, .bool false]), (2, .row 5 1 eB (b ++ beN 2 (BitVec.ofInt 64 x)))]
  mm := 1
def wu16_H : Cfg := ⟨[(191, wwi_c), (186, wnum_c)], [], [], [], 11, 2, [], [], []⟩
theorem wu16_ok : wu16_c.Ok Tryz.prog 244 := by
  refine fn_ok wu16_H 2 rfl _ Tryz.func244 rfl rfl ⟨wwi_ok, wnum_ok, trivial⟩ rfl rfl (by kernel_rfl) (fun _ => Nat.le_of_ble_eq_true rfl) ?_
  rintro ⟨b, x⟩ hp hr
  try dsimp only [wu16_c] at hp
  try simp only [wu16_c, Rng, RngL, inR, and_true, true_and] at hr
  obtain ⟨hp1, hp2, hp3⟩ := hp
  have hp1 : b.length ≤ 1000000 := hp1
  have hpi : wwi_c.pre (b, x, 65535) := ⟨hp2, hp3⟩
  have hpn : wnum_c.pre (b, BitVec.ofInt 64 x, 2) := ⟨by omega, hp1⟩
  repeat' (first | (with_reducible refine Unf.h ?_) | ((conv => whnf); first | (refine Side.mk ?_ ?_; focus (first | with_reducible rfl | assumption | (refine congrArg (SV.int _) ?_; omega))) | refine RetE.mk () trivial ?_ | refine Got.mk (fun _ _ => ?_) | refine retK_n ?_ | exact rfl | refine CallS.mk (c := wwi_c) ((b, x, 65535)) ?_ | refine CallS.mk (c := wnum_c) ((b, BitVec.ofInt 64 x, 2)) ?_) | fail); all_goals try (conv => whnf); all_goals try (exfalso; omega)
def nodP (id : ID16) (r u : Int) : Bs := [] ++ id.toList ++ beN 4 ((BitVec.ofInt 32 r).setWidth 64) ++ beN 2 (BitVec.ofInt 64 u)
def nodF (id : ID16) (r u : Int) (ps : List Bs) : H256 := sha (nodP id r u ++ ps.flatten)
theorem nodP_len (id : ID16) (r u : Int) : (nodP id r u).length = 22 := by
  unfold nodP
  simp only [List.length_append, beN_len, List.length_nil, Vector.length_toList]
def lnod_c : Ctr where
  D := ID16 × Int × Int × List Bs
  pre := fun (_, _, u, ps) => 0 ≤ u ∧ u ≤ 65535 ∧ ps.length ≤ 100 ∧ ∀ p ∈ ps, p.length ≤ 1000
  args := fun (id, r, u, ps) => [.agg [.arr8 id], .int .i64 r, .int .i64 u, .fs 1 eP ps]
  res := fun (id, r, u, ps) _ => .agg [.arr8 (nodF id r u ps)]
def lnod_H : Cfg := ⟨[(135, wplain_c), (134, wu32_c), (244, wu16_c), (136, wout_c), (96, sum_c)], [], [], [], 43, 0, [], [], []⟩
theorem lnod_ok : lnod_c.Ok Tryz.prog 215 := by
  refine fn_ok lnod_H 0 rfl _ Tryz.func215 rfl rfl ⟨wplain_ok, wu32_ok, wu16_ok, wout_ok, sum_ok, trivial⟩ rfl rfl (by kernel_rfl) (fun _ => Nat.le_of_ble_eq_true rfl) ?_
  rintro ⟨id, r, u, ps⟩ hp hr
  try dsimp only [lnod_c] at hp
  try simp only [lnod_c, Rng, RngL, inR, and_true, true_and] at hr
  obtain ⟨hp0, hp1, hp2, hp3⟩ := hp
  have hp0 : 0 ≤ u := hp0
  have hp1 : u ≤ 65535 := hp1
  have hp2 : ps.length ≤ 100 := hp2
  have hbd : ∀ k, (ps.take k).flatten.length ≤ 100000 := fun k => by
    have h1 := flatB (ps.take k) 1000 fun p hp => hp3 p (List.mem_of_mem_take hp)
    have h2 : (ps.take k).length ≤ ps.length := by simp; omega
    omega
  have hnl := nodP_len id r u
  have hidl : id.toList.length = 16 := by simp
  have h1 : wplain_c.pre ([], id.toList) := ⟨by show 0 ≤ 1000000; omega, by show id.toList.length ≤ 1000000; omega⟩
  have h2 : wu32_c.pre ([] ++ id.toList, BitVec.ofInt 32 r) := by show ([] ++ id.toList).length ≤ 1000000; simp
  have h3 : wu16_c.pre ([] ++ id.toList ++ beN 4 ((BitVec.ofInt 32 r).setWidth 64), u) := ⟨by show ([] ++ id.toList ++ beN 4 ((BitVec.ofInt 32 r).setWidth 64)).length ≤ 1000000; simp [beN_len], hp0, hp1⟩
  repeat' (first | (with_reducible refine Unf.h ?_) | ((conv => whnf); (refine Side.mk ?_ ?_; focus (exact True.intro))) | fail); all_goals try (conv => whnf); all_goals try (exfalso; omega)
  refine CallS.mk (c := wplain_c) (([], id.toList)) ?_
  repeat' (first | (with_reducible refine Unf.h ?_) | ((conv => whnf); first | (refine Side.mk ?_ ?_; focus (first | with_reducible rfl | assumption | (intros; (try simp only [lenS, inR, cutS, loI, hiI, cutv2] at *); omega) | (simp only [*, cutv2]; done))) | refine Got.mk (fun _ _ => ?_)) | fail); all_goals try (conv => whnf); all_goals try (exfalso; omega)
  refine CallS.mk (c := wu32_c) (([] ++ id.toList, BitVec.ofInt 32 r)) ?_
  repeat' (first | (with_reducible refine Unf.h ?_) | ((conv => whnf); first | (refine Side.mk ?_ ?_; focus (first | with_reducible rfl | assumption)) | refine Got.mk (fun _ _ => ?_)) | fail); all_goals try (conv => whnf); all_goals try (exfalso; omega)
  refine CallS.mk (c := wu16_c) (([] ++ id.toList ++ beN 4 ((BitVec.ofInt 32 r).setWidth 64), u)) ?_
  repeat' (first | (with_reducible refine Unf.h ?_) | ((conv => whnf); first | (refine Side.mk ?_ ?_; focus (first | with_reducible rfl | assumption)) | refine Got.mk (fun _ _ => ?_)) | fail); all_goals try (conv => whnf); all_goals try (exfalso; omega)
  clear h1 h2 h3
  refine LoopS.autoN (I := Nat) (fun k => k ≤ ps.length) (fun k => [(28, .int .i64 (k : Int)), (9, .ptr 2 0)]) (fun k => [(1, .box 25 [.arr8 zeroH]), (2, .box 233 [.own 3, .bool false]), (3, .row 5 1 eB (nodP id r u ++ (ps.take k).flatten))]) 4 (fun k => ps.length - k) 0 (Nat.zero_le _) ?_ ?_
  · have e0 : nodP id r u ++ (ps.take 0).flatten = nodP id r u := by simp
    repeat' (first | (with_reducible refine Unf.h ?_) | ((conv => whnf); first | (refine Side.mk ?_ ?_; focus (first | with_reducible rfl | (refine congrArg (SV.int _) ?_; omega) | (dsimp only [resS, lnod_c, nodP]; (simp [*, e0]; done)))) | (with_reducible refine Unf.h ?_) | exact True.intro) | fail); all_goals try (conv => whnf); all_goals try (exfalso; omega)
  · intro k hk
    have hbk := hbd k
    rcases Nat.lt_or_ge k ps.length with hkl | hkl
    · have hb : (ps[((k : Nat) : Int).toNat]'hkl).length ≤ 1000 := hp3 _ (List.getElem_mem _)
      have es : nodP id r u ++ (ps.take (k + 1)).flatten = nodP id r u ++ (ps.take k).flatten ++ ps[((k : Nat) : Int).toNat]'hkl := by
        rw [flat_step ps k hkl, ← List.append_assoc]; rfl
      have hpw : wplain_c.pre (nodP id r u ++ (ps.take k).flatten, ps[((k : Nat) : Int).toNat]'hkl) := ⟨by show (nodP id r u ++ (ps.take k).flatten).length ≤ 1000000; rw [List.length_append]; omega, by show (ps[((k : Nat) : Int).toNat]'hkl).length ≤ 1000000; omega⟩
      repeat' (first | (with_reducible refine Unf.h ?_) | ((conv => whnf); first | refine Fork.mk (fun h => ?_) (fun h => ?_) | (refine Idx.mk ?_ ?_; focus (omega))) | fail); all_goals try (conv => whnf); all_goals try (exfalso; omega)
      refine CallS.mk (c := wplain_c) ((nodP id r u ++ (ps.take k).flatten, ps[((k : Nat) : Int).toNat]'hkl)) ?_
      repeat' (first | (with_reducible first | refine Unf.h ?_ | refine loopK_n ?_) | ((conv => whnf); first | (refine Side.mk ?_ ?_; focus (first | with_reducible rfl | assumption | (intros; (try simp only [lenS, inR, cutS, loI, hiI] at *); omega))) | refine Got.mk (fun _ _ => ?_)) | fail); all_goals try (conv => whnf); all_goals try (exfalso; omega)
      clear hpw
      refine ⟨k + 1, ⟨by omega, by omega⟩, ?_⟩
      repeat' (first | (with_reducible refine Unf.h ?_) | ((conv => whnf); first | (refine Side.mk ?_ ?_; focus (first | with_reducible rfl | (refine congrArg (SV.int _) ?_; omega) | (simp only [*, es]; done))) | (with_reducible refine Unf.h ?_) | exact True.intro) | fail); all_goals try (conv => whnf); all_goals try (exfalso; omega)
    · have e : ps.take k = ps := List.take_of_length_le (by omega)
      rw [e] at hbk ⊢
      have hpo : wout_c.pre (nodP id r u ++ ps.flatten) := by show (nodP id r u ++ ps.flatten).length ≤ 1000000; rw [List.length_append]; omega
      repeat' (first | (with_reducible refine Unf.h ?_) | ((conv => whnf); refine Fork.mk (fun h => ?_) (fun h => ?_)) | fail); all_goals try (conv => whnf); all_goals try (exfalso; omega)
      refine CallS.mk (c := wout_c) ((nodP id r u ++ ps.flatten)) ?_
      repeat' (first | (with_reducible refine Unf.h ?_) | ((conv => whnf); first | (refine Side.mk ?_ ?_; focus (first | with_reducible rfl | assumption)) | refine Got.mk (fun _ _ => ?_)) | fail); all_goals try (conv => whnf); all_goals try (exfalso; omega)
      refine CallS.mk (c := sum_c) ((nodP id r u ++ ps.flatten)) ?_
      repeat' (first | (with_reducible refine Unf.h ?_) | ((conv => whnf); first | (refine Side.mk ?_ ?_; focus (first | with_reducible rfl | exact True.intro | (simp only [*, nodF]; done))) | refine RetE.mk () trivial ?_ | refine Got.mk (fun _ _ => ?_) | refine retK_r ?_ | exact rfl) | fail); all_goals try (conv => whnf); all_goals try (exfalso; omega)
end Go.Proofs.YtinpcefioadkcaaGreatDoor

namespace Go.Proofs.YtinpcefioadkcaaGreatDoor
set_option linter.all false
open Go.RowKit
def lnodk_c : Ctr := { lnod_c with kp := true }
theorem lnodk_ok : lnodk_c.Ok Tryz.prog 215 := lnod_ok.kept fun _ => rfl
def leaF (id : ID16) (r : Int) (p : H256) : H256 := nodF id r 33410 [p.toList]
def innF (id : ID16) (r : Int) (a b : H256) : H256 := nodF id r 33667 [a.toList, b.toList]
def llea_c : Ctr where
  D := ID16 × Int × H256
  args := fun (id, r, p) => [.agg [.arr8 id], .int .i64 r, .agg [.arr8 p]]
  res := fun (id, r, p) _ => .agg [.arr8 (leaF id r p)]
def llea_H : Cfg := ⟨[(215, lnodk_c)], [(1, [0], [3, 4, 5], (.one 0 1 false (.one 1 0 false (.one 2 0 false (.one 3 2 true (.one 4 2 false (.one 5 2 false .nil)))))), [])], [], [], 12, 0, [], [], []⟩
theorem llea_ok : llea_c.Ok Tryz.prog 158 := by
  refine fn_ok llea_H 0 rfl _ Tryz.func158 rfl rfl ⟨lnodk_ok, trivial⟩ rfl rfl (by kernel_rfl) (fun _ => Nat.le_of_ble_eq_true rfl) ?_
  rintro ⟨id, r, p⟩ hp hr
  try dsimp only [llea_c] at hp
  try simp only [llea_c, Rng, RngL, inR, and_true, true_and] at hr
  have hpu : lnodk_c.pre (id, r, 33410, [p.toList]) := ⟨by omega, by omega, by show 1 ≤ 100; omega, fun x hx => by
    have hx : x ∈ [p.toList] := hx
    obtain rfl := List.mem_singleton.1 hx
    simp⟩
  repeat' (first | (with_reducible refine Unf.h ?_) | ((conv => whnf); (refine Side.mk ?_ ?_; focus (first | exact True.intro | (intros; (try simp only [lenS, inR, cutS, loI, hiI] at *); omega)))) | fail); all_goals try (conv => whnf); all_goals try (exfalso; omega)
  all_goals
    refine CallS.mk (c := lnodk_c) ((id, r, 33410, [p.toList])) ?_
    repeat' (first | (with_reducible refine Unf.h ?_) | ((conv => whnf); first | (refine Side.mk ?_ ?_; focus (first | with_reducible rfl | assumption | (simp only [*, leaF, cutv2, eP, List.map_cons, List.map_nil]; done))) | refine RetE.mk () trivial ?_ | refine Got.mk (fun _ _ => ?_) | refine retK_r ?_ | exact rfl) | fail); all_goals try (conv => whnf); all_goals try (exfalso; omega)
def linn_c : Ctr where
  D := ID16 × Int × H256 × H256
  args := fun (id, r, a, b) => [.agg [.arr8 id], .int .i64 r, .agg [.arr8 a], .agg [.arr8 b]]
  res := fun (id, r, a, b) _ => .agg [.arr8 (innF id r a b)]
def linn_H : Cfg := ⟨[(215, lnodk_c)], [(1, [0], [4, 5, 6], (.one 0 1 false (.one 1 0 false (.one 2 0 false (.one 3 0 false (.one 4 2 true (.one 5 2 false (.one 6 2 false .nil))))))), [])], [], [], 15, 0, [], [], []⟩
theorem linn_ok : linn_c.Ok Tryz.prog 159 := by
  refine fn_ok linn_H 0 rfl _ Tryz.func159 rfl rfl ⟨lnodk_ok, trivial⟩ rfl rfl (by kernel_rfl) (fun _ => Nat.le_of_ble_eq_true rfl) ?_
  rintro ⟨id, r, a, b⟩ hp hr
  try dsimp only [linn_c] at hp
  try simp only [linn_c, Rng, RngL, inR, and_true, true_and] at hr
  have hpu : lnodk_c.pre (id, r, 33667, [a.toList, b.toList]) := ⟨by omega, by omega, by show 2 ≤ 100; omega, fun x hx => by
    have hx : x ∈ [a.toList, b.toList] := hx
    simp only [List.mem_cons, List.not_mem_nil, or_false] at hx
    rcases hx with rfl | rfl <;> simp⟩
  repeat' (first | (with_reducible refine Unf.h ?_) | ((conv => whnf); (refine Side.mk ?_ ?_; focus (first | exact True.intro | (intros; (try simp only [lenS, inR, cutS, loI, hiI] at *); omega)))) | fail); all_goals try (conv => whnf); all_goals try (exfalso; omega)
  all_goals
    refine CallS.mk (c := lnodk_c) ((id, r, 33667, [a.toList, b.toList])) ?_
    repeat' (first | (with_reducible refine Unf.h ?_) | ((conv => whnf); first | (refine Side.mk ?_ ?_; focus (first | with_reducible rfl | assumption | (simp only [*, innF, cutv2, eP, List.map_cons, List.map_nil]; done))) | refine RetE.mk () trivial ?_ | refine Got.mk (fun _ _ => ?_) | refine retK_r ?_ | exact rfl) | fail); all_goals try (conv => whnf); all_goals try (exfalso; omega)
def lmay_c : Ctr where
  D := Int × Int
  args := fun (h, k) => [.int .i64 h, .int .i64 k]
  res := fun (h, k) _ => .dec (1 ≤ h ∧ h ≤ 4 ∧ 1 ≤ k ∧ k ≤ 4) inferInstance
def lmay_H : Cfg := ⟨[(209, lchs_c)], [], [], [], 16, 0, [], [], []⟩
theorem lmay_ok : lmay_c.Ok Tryz.prog 155 := by
  refine fn_ok lmay_H 0 rfl _ Tryz.func155 rfl rfl ⟨lchs_ok, trivial⟩ rfl rfl (by kernel_rfl) (fun _ => Nat.le_of_ble_eq_true rfl) ?_
  rintro ⟨h, k⟩ hp hr
  try dsimp only [lmay_c] at hp
  try simp only [lmay_c, Rng, RngL, inR, and_true, true_and] at hr
  have hc : 0 < (frm k).2.1 ↔ 1 ≤ k ∧ k ≤ 4 := by
    rcases frm_cases k with ⟨h1, h2⟩ | ⟨h1, rfl⟩ | ⟨h1, rfl⟩ | ⟨h1, rfl⟩ | ⟨h1, rfl⟩ <;> rw [h1] <;> simp
    omega
  repeat' (first | (with_reducible refine Unf.h ?_) | ((conv => whnf); first | refine Fork.mk (fun h => ?_) (fun h => ?_) | (refine Side.mk ?_ ?_; focus (first | with_reducible rfl | exact True.intro | omega | (refine ⟨fun h => ?_, fun h => ?_⟩ <;> first | rfl | (cases h; done) | omega | (exfalso; omega) | (simp only [Bool.false_eq_true] at h; done)))) | refine RetE.mk () trivial ?_ | refine Got.mk (fun _ _ => ?_) | refine retK_r ?_ | exact rfl | refine CallS.mk (c := lchs_c) (k) ?_) | fail); all_goals try (conv => whnf); all_goals try (exfalso; omega)
def tszF (h k : Int) : Int := if 1 ≤ h ∧ h ≤ 4 ∧ 1 ≤ k ∧ k ≤ 4 then 8 + lszF k + 32 * h else 0
def ltsz_c : Ctr where
  D := Int × Int
  args := fun (h, k) => [.int .i64 h, .int .i64 k]
  res := fun (h, k) _ => .int .i64 (tszF h k)
theorem lszF_le (k : Int) : 0 ≤ lszF k ∧ lszF k ≤ 9000 := by
  unfold lszF
  rcases frm_cases k with ⟨h1, h2⟩ | ⟨h1, rfl⟩ | ⟨h1, rfl⟩ | ⟨h1, rfl⟩ | ⟨h1, rfl⟩ <;> rw [h1] <;> (try rw [if_neg h2]) <;> decide
def ltsz_H : Cfg := ⟨[(155, lmay_c), (156, lsz_c)], [], [], [], 15, 0, [], [], []⟩
theorem ltsz_ok : ltsz_c.Ok Tryz.prog 93 := by
  refine fn_ok ltsz_H 0 rfl _ Tryz.func93 rfl rfl ⟨lmay_ok, lsz_ok, trivial⟩ rfl rfl (by kernel_rfl) (fun _ => Nat.le_of_ble_eq_true rfl) ?_
  rintro ⟨h, k⟩ hp hr
  try dsimp only [ltsz_c] at hp
  try simp only [ltsz_c, Rng, RngL, inR, and_true, true_and] at hr
  have hb := lszF_le k
  by_cases hm : 1 ≤ h ∧ h ≤ 4 ∧ 1 ≤ k ∧ k ≤ 4
  · have e : tszF h k = 8 + lszF k + 32 * h := if_pos hm
    repeat' (first | (with_reducible refine Unf.h ?_) | ((conv => whnf); first | refine Fork.mkn (fun h => ?_) (fun h => ?_) | (refine Side.mk ?_ ?_; focus (first | with_reducible rfl | exact True.intro | (refine congrArg (SV.int _) ?_; omega) | (intros; (try simp only [lenS, inR, cutS, loI, hiI, e] at *); omega))) | refine RetE.mk () trivial ?_ | refine Got.mk (fun _ _ => ?_) | refine retK_r ?_ | exact rfl | refine CallS.mk (c := lmay_c) ((h, k)) ?_ | refine CallS.mk (c := lsz_c) (k) ?_) | fail); all_goals try (conv => whnf); all_goals try (exfalso; omega)
  · have e : tszF h k = 0 := if_neg hm
    repeat' (first | (with_reducible refine Unf.h ?_) | ((conv => whnf); first | refine Fork.mkn (fun h => ?_) (fun h => ?_) | (refine Side.mk ?_ ?_; focus (first | with_reducible rfl | exact True.intro | (refine congrArg (SV.int _) ?_; omega))) | refine RetE.mk () trivial ?_ | refine Got.mk (fun _ _ => ?_) | refine retK_r ?_ | exact rfl | refine CallS.mk (c := lmay_c) ((h, k)) ?_) | fail); all_goals try (conv => whnf); all_goals try (exfalso; omega)
end Go.Proofs.YtinpcefioadkcaaGreatDoor

namespace Go.Proofs.YtinpcefioadkcaaGreatDoor
set_option linter.all false
open Go.RowKit
abbrev eTr (h : Nat) (k : Int) (id : ID16) (s : H256) (l : List H256) : List SV := [.int .i64 (h : Int), .int .i64 k, .arr8 id, .arr8 s, .fs 32 eHv l]
def ltnX_c : Ctr where
  D := Int × Int × ID16 × H256
  pre := fun (h, k, _, _) => ¬ (1 ≤ h ∧ h ≤ 4 ∧ 1 ≤ k ∧ k ≤ 4)
  args := fun (h, k, id, s) => [.int .i64 h, .int .i64 k, .agg [.arr8 id], .agg [.arr8 s]]
  res := fun _ _ => .tup [.nilp, .int .i64 1]
def ltnX_H : Cfg := ⟨[(155, lmay_c)], [(4, [2, 3], [6, 8], (.one 0 0 false (.one 1 0 false (.one 2 1 false (.one 3 1 false (.one 4 0 false (.one 5 0 false (.one 6 2 true (.one 7 0 false (.one 8 2 false (.one 9 0 false .nil)))))))))), []), (11, [7, 11], [3, 12, 14], (.one 0 0 false (.one 1 0 false (.one 2 0 false (.one 4 0 false (.one 5 0 false (.one 6 0 false (.one 7 1 false (.one 8 0 false (.one 9 0 false (.one 10 0 false (.one 11 1 false (.alt 3 true (.one 12 2 false (.one 13 0 false (.one 14 2 false .nil))) (.one 12 2 true (.one 3 2 true (.one 13 0 false (.one 14 2 false .nil)))))))))))))))), []), (16, [5, 14, 23], [3, 10, 18, 24, 26], (.one 0 0 false (.one 1 0 false (.one 2 0 false (.one 4 0 false (.one 5 1 false (.one 6 0 false (.one 7 0 false (.one 8 0 false (.one 9 0 false (.one 11 0 false (.one 12 0 false (.one 15 0 false (.one 16 0 false (.one 17 0 false (.one 19 0 false (.one 20 0 false (.one 21 0 false (.alt 3 true (.alt 10 true (.one 13 0 false (.one 14 1 false (.one 18 2 true (.one 22 0 false (.one 23 1 false (.one 24 2 false (.one 25 0 false (.one 26 2 false .nil)))))))) (.one 18 2 true (.one 22 0 false (.one 23 1 false (.one 10 2 true (.one 13 0 false (.one 14 1 false (.one 24 2 false (.one 25 0 false (.one 26 2 false .nil)))))))))) (.alt 10 true (.one 13 0 false (.one 14 1 false (.alt 3 true (.one 18 2 true (.one 22 0 false (.one 23 1 false (.one 24 2 false (.one 25 0 false (.one 26 2 false .nil)))))) (.one 18 2 true (.one 22 0 false (.one 23 1 false (.alt 3 true (.one 24 2 false (.one 25 0 false (.one 26 2 false .nil))) (.one 24 2 true (.one 3 2 true (.one 25 0 false (.one 26 2 false .nil))))))))))) (.one 18 2 true (.one 22 0 false (.one 23 1 false (.alt 3 true (.one 10 2 true (.one 13 0 false (.one 14 1 false (.one 24 2 false (.one 25 0 false (.one 26 2 false .nil)))))) (.one 10 2 true (.one 13 0 false (.one 14 1 false (.alt 3 true (.one 24 2 false (.one 25 0 false (.one 26 2 false .nil))) (.one 24 2 true (.one 3 2 true (.one 25 0 false (.one 26 2 false .nil))))))))))))))))))))))))))))))), [])], [], [], 95, 0, [], [], []⟩
theorem ltnX_ok : ltnX_c.Ok Tryz.prog 95 := by
  refine fn_ok ltnX_H 0 rfl _ Tryz.func95 rfl rfl ⟨lmay_ok, trivial⟩ rfl rfl (by kernel_rfl) (fun _ => Nat.le_of_ble_eq_true rfl) ?_
  rintro ⟨h, k, id, s⟩ hp hr
  try dsimp only [ltnX_c] at hp
  try simp only [ltnX_c, Rng, RngL, inR, and_true, true_and] at hr
  have hp : ¬ (1 ≤ h ∧ h ≤ 4 ∧ 1 ≤ k ∧ k ≤ 4) := hp
  repeat' (first | (with_reducible refine Unf.h ?_) | ((conv => whnf); first | refine Fork.mkn (fun h => ?_) (fun h => ?_) | (refine Side.mk ?_ ?_; focus (first | with_reducible rfl | exact True.intro)) | refine RetE.mk () trivial ?_ | refine Got.mk (fun _ _ => ?_) | refine retK_r ?_ | exact rfl | refine CallS.mk (c := lmay_c) ((h, k)) ?_) | fail); all_goals try (conv => whnf); all_goals try (exfalso; omega)
def ltn_c : Ctr where
  D := Nat × Int × ID16 × H256
  pre := fun (h, k, _, _) => 1 ≤ h ∧ h ≤ 4 ∧ 1 ≤ k ∧ k ≤ 4
  args := fun (h, k, id, s) => [.int .i64 (h : Int), .int .i64 k, .agg [.arr8 id], .agg [.arr8 s]]
  E := List H256
  post := fun (h, _, _, _) l => l.length = 2 * 2 ^ h
  res := fun (h, k, id, s) l => .tup [.fpt (eTr h k id s l), .int .i64 0]
def ltn_H : Cfg := ⟨[(155, lmay_c), (157, lpub_c), (158, llea_c), (159, linn_c)], [(4, [2, 3], [6, 8], (.one 0 0 false (.one 1 0 false (.one 2 1 false (.one 3 1 false (.one 4 0 false (.one 5 0 false (.one 6 2 true (.one 7 0 false (.one 8 2 false (.one 9 0 false .nil)))))))))), []), (11, [7, 11], [3, 12, 14], (.one 0 0 false (.one 1 0 false (.one 2 0 false (.one 4 0 false (.one 5 0 false (.one 6 0 false (.one 7 1 false (.one 8 0 false (.one 9 0 false (.one 10 0 false (.one 11 1 false (.alt 3 true (.one 12 2 false (.one 13 0 false (.one 14 2 false .nil))) (.one 12 2 true (.one 3 2 true (.one 13 0 false (.one 14 2 false .nil)))))))))))))))), []), (16, [5, 14, 23], [3, 10, 18, 24, 26], (.one 0 0 false (.one 1 0 false (.one 2 0 false (.one 4 0 false (.one 5 1 false (.one 6 0 false (.one 7 0 false (.one 8 0 false (.one 9 0 false (.one 11 0 false (.one 12 0 false (.one 15 0 false (.one 16 0 false (.one 17 0 false (.one 19 0 false (.one 20 0 false (.one 21 0 false (.alt 3 true (.alt 10 true (.one 13 0 false (.one 14 1 false (.one 18 2 true (.one 22 0 false (.one 23 1 false (.one 24 2 false (.one 25 0 false (.one 26 2 false .nil)))))))) (.one 18 2 true (.one 22 0 false (.one 23 1 false (.one 10 2 true (.one 13 0 false (.one 14 1 false (.one 24 2 false (.one 25 0 false (.one 26 2 false .nil)))))))))) (.alt 10 true (.one 13 0 false (.one 14 1 false (.alt 3 true (.one 18 2 true (.one 22 0 false (.one 23 1 false (.one 24 2 false (.one 25 0 false (.one 26 2 false .nil)))))) (.one 18 2 true (.one 22 0 false (.one 23 1 false (.alt 3 true (.one 24 2 false (.one 25 0 false (.one 26 2 false .nil))) (.one 24 2 true (.one 3 2 true (.one 25 0 false (.one 26 2 false .nil))))))))))) (.one 18 2 true (.one 22 0 false (.one 23 1 false (.alt 3 true (.one 10 2 true (.one 13 0 false (.one 14 1 false (.one 24 2 false (.one 25 0 false (.one 26 2 false .nil)))))) (.one 10 2 true (.one 13 0 false (.one 14 1 false (.alt 3 true (.one 24 2 false (.one 25 0 false (.one 26 2 false .nil))) (.one 24 2 true (.one 3 2 true (.one 25 0 false (.one 26 2 false .nil))))))))))))))))))))))))))))))), [])], [], [], 95, 0, [], [], []⟩
set_option maxHeartbeats 8000000 in
theorem ltn_ok : ltn_c.Ok Tryz.prog 95 := by
  refine fn_ok ltn_H 0 rfl _ Tryz.func95 rfl rfl ⟨lmay_ok, lpub_ok, llea_ok, linn_ok, trivial⟩ rfl rfl (by kernel_rfl) (fun _ => Nat.le_of_ble_eq_true rfl) ?_
  rintro ⟨ht, k, id, s⟩ hp hr
  try dsimp only [ltn_c] at hp
  try simp only [ltn_c, Rng, RngL, inR, and_true, true_and] at hr
  obtain ⟨hp1, hp2, hk⟩ := hp
  have hp1 : 1 ≤ ht := hp1
  have hp2 : ht ≤ 4 := hp2
  have h2 : (2 : Nat) ^ ht ≤ 2 ^ 4 := Nat.pow_le_pow_right (by decide) hp2
  have h1 : 2 ^ 1 ≤ (2 : Nat) ^ ht := Nat.pow_le_pow_right (by decide) hp1
  have hb2 : (1 : Int) * 2 ^ ((((ht : Nat) : Int).toNat : Nat) : Int).toNat = ((2 ^ ht : Nat) : Int) := by simp
  have hpp : lpub_c.pre (k, id, 0#32, s) := hk
  repeat' (first | (with_reducible refine Unf.h ?_) | ((conv => whnf); first | refine Fork.mkn (fun h => ?_) (fun h => ?_) | (refine Side.mk ?_ ?_; focus (first | with_reducible rfl | exact True.intro | omega | (intros; (try simp only [lenS, inR, cutS, loI, hiI] at *); omega))) | refine Got.mk (fun _ _ => ?_) | refine CallS.mk (c := lmay_c) (((ht : Int), k)) ?_) | fail); all_goals try (conv => whnf); all_goals try (exfalso; omega)
  rw [hb2]
  generalize hn : 2 ^ ht = n at *
  have h2 : n ≤ 16 := h2
  have h1 : 2 ≤ n := h1
  obtain ⟨m, hm⟩ : ∃ m, 2 * n = m + 1 := ⟨2 * n - 1, by omega⟩
  have em : (2 : Int) * (n : Int) = ((m + 1 : Nat) : Int) := by omega
  rw [em]
  repeat' (first | (with_reducible refine Unf.h ?_) | ((conv => whnf); (refine Side.mk ?_ ?_; focus ((dsimp only; omega)))) | fail); all_goals try (conv => whnf); all_goals try (exfalso; omega)
  all_goals
    have e00 : List.replicate (((m + 1 : Nat) : Int)).toNat [SV.arr8 zeroH] = (List.replicate (m + 1) zeroH).map eHv := by
      rw [List.map_replicate]; rfl
    refine LoopS.autoN (I := Nat × List H256) (fun p => p.1 ≤ n ∧ p.2.length = m + 1) (fun p => [(32, .int .i64 (p.1 : Int))]) (fun p => [(0, .box 188 [.arr8 id]), (1, .box 25 [.arr8 s]), (3, .box 243 [.int .i64 (ht : Int), .int .i64 k, .arr8 id, .arr8 s, .own 2]), (2, .row 25 32 eHv p.2)]) 4 (fun p => n - p.1) (0, List.replicate (m + 1) zeroH) ⟨Nat.zero_le _, List.length_replicate⟩ ?_ ?_
  · repeat' (first | (with_reducible refine Unf.h ?_) | ((conv => whnf); first | (refine Side.mk ?_ ?_; focus (first | with_reducible rfl | assumption | (refine congrArg (SV.int _) ?_; omega))) | (with_reducible refine Unf.h ?_) | exact True.intro) | fail); all_goals try (conv => whnf); all_goals try (exfalso; omega)
  · rintro ⟨i, l⟩ ⟨hi, hll⟩
    have hi : i ≤ n := hi
    have hll : l.length = m + 1 := hll
    rcases Nat.lt_or_ge i n with h | h
    · have hpq : lpub_c.pre (k, id, BitVec.ofInt 32 (i : Int), s) := hk
      repeat' (first | (with_reducible refine Unf.h ?_) | ((conv => whnf); first | refine Both.mk ?_ ?_ | refine Both.mk ?_ ?_ | refine Fork.mkn (fun h => ?_) (fun h => ?_) | refine Fork.mk (fun h => ?_) (fun h => ?_) | (refine Side.mk ?_ ?_; focus (first | with_reducible rfl | assumption | (intros; (try simp only [lenS, inR, cutS, loI, hiI] at *); omega))) | refine Got.mk (fun _ _ => ?_) | refine CallS.mk (c := lpub_c) ((k, id, BitVec.ofInt 32 (i : Int), s)) ?_) | fail); all_goals try (conv => whnf); all_goals try (exfalso; omega)
      all_goals
        refine CallS.mk (c := llea_c) ((id, (n : Int) + (i : Int), pubF k id (BitVec.ofInt 32 (i : Int)) s)) ?_
        repeat' (first | (with_reducible first | refine Unf.h ?_ | refine loopK_n ?_) | ((conv => whnf); first | (refine Side.mk ?_ ?_; focus (first | with_reducible rfl | exact True.intro | omega | (intros; (try simp only [lenS, inR, cutS, loI, hiI] at *); omega))) | (refine Idx.mk ?_ ?_; focus (omega)) | refine Got.mk (fun _ _ => ?_) | refine Ex.mk _ rfl ?_) | fail); all_goals try (conv => whnf); all_goals try (exfalso; omega)
      all_goals
        refine ⟨(i + 1, l.set ((n : Int) + (i : Int)).toNat (leaF id ((n : Int) + (i : Int)) (pubF k id (BitVec.ofInt 32 (i : Int)) s))), ⟨by show n - (i + 1) < n - i; omega, by show i + 1 ≤ n; omega, by show (l.set _ _).length = m + 1; rw [List.length_set]; exact hll⟩, ?_⟩
        repeat' (first | (with_reducible refine Unf.h ?_) | ((conv => whnf); first | (refine Side.mk ?_ ?_; focus (first | with_reducible rfl | (refine congrArg (SV.int _) ?_; omega))) | (with_reducible refine Unf.h ?_) | exact True.intro) | fail); all_goals try (conv => whnf); all_goals try (exfalso; omega)
    · repeat' (first | (with_reducible refine Unf.h ?_) | ((conv => whnf); first | refine Fork.mk (fun h => ?_) (fun h => ?_) | (refine Side.mk ?_ ?_; focus ((intros; (try simp only [lenS, inR, cutS, loI, hiI] at *); omega)))) | fail); all_goals try (conv => whnf); all_goals try (exfalso; omega)
      refine LoopS.autoN (I := Nat × List H256) (fun p => p.1 ≤ n - 1 ∧ p.2.length = m + 1) (fun p => [(15, .int .i64 ((n : Int) - 1 - (p.1 : Int)))]) (fun p => [(0, .box 188 [.arr8 id]), (3, .box 243 [.int .i64 (ht : Int), .int .i64 k, .arr8 id, .arr8 s, .own 2]), (2, .row 25 32 eHv p.2)]) 4 (fun p => n - 1 - p.1) (0, l) ⟨Nat.zero_le _, hll⟩ ?_ ?_
      · repeat' (first | (with_reducible refine Unf.h ?_) | ((conv => whnf); first | (refine Side.mk ?_ ?_; focus (first | with_reducible rfl | (refine congrArg (SV.int _) ?_; omega))) | (with_reducible refine Unf.h ?_) | exact True.intro) | fail); all_goals try (conv => whnf); all_goals try (exfalso; omega)
      · rintro ⟨j, l⟩ ⟨hj, hll⟩
        have hj : j ≤ n - 1 := hj
        have hll : l.length = m + 1 := hll
        rcases Nat.lt_or_ge j (n - 1) with h | h
        · have b1 : (2 * ((n : Int) - 1 - (j : Int))).toNat < l.length := by omega
          have b2 : (2 * ((n : Int) - 1 - (j : Int)) + 1).toNat < l.length := by omega
          repeat' (first | (with_reducible refine Unf.h ?_) | ((conv => whnf); first | refine Both.mk ?_ ?_ | refine Both.mk ?_ ?_ | refine Fork.mk (fun h => ?_) (fun h => ?_) | (refine Side.mk ?_ ?_; focus (first | omega | (intros; (try simp only [lenS, inR, cutS, loI, hiI] at *); omega))) | (refine Idx.mk ?_ ?_; focus (omega))) | fail); all_goals try (conv => whnf); all_goals try (exfalso; omega)
          all_goals
            refine CallS.mk (c := linn_c) ((id, (n : Int) - 1 - (j : Int), l[(2 * ((n : Int) - 1 - (j : Int))).toNat]'b1, l[(2 * ((n : Int) - 1 - (j : Int)) + 1).toNat]'b2)) ?_
            repeat' (first | (with_reducible first | refine Unf.h ?_ | refine loopK_n ?_) | ((conv => whnf); first | (refine Side.mk ?_ ?_; focus (first | with_reducible rfl | exact True.intro | omega | (intros; (try simp only [lenS, inR, cutS, loI, hiI] at *); omega))) | (refine Idx.mk ?_ ?_; focus (omega)) | refine Got.mk (fun _ _ => ?_) | refine Ex.mk _ rfl ?_) | fail); all_goals try (conv => whnf); all_goals try (exfalso; omega)
          all_goals
            refine ⟨(j + 1, l.set ((n : Int) - 1 - (j : Int)).toNat (innF id ((n : Int) - 1 - (j : Int)) (l[(2 * ((n : Int) - 1 - (j : Int))).toNat]'b1) (l[(2 * ((n : Int) - 1 - (j : Int)) + 1).toNat]'b2))), ⟨by show n - 1 - (j + 1) < n - 1 - j; omega, by show j + 1 ≤ n - 1; omega, by show (l.set _ _).length = m + 1; rw [List.length_set]; exact hll⟩, ?_⟩
            repeat' (first | (with_reducible refine Unf.h ?_) | ((conv => whnf); first | (refine Side.mk ?_ ?_; focus (first | with_reducible rfl | (refine congrArg (SV.int _) ?_; omega))) | (with_reducible refine Unf.h ?_) | exact True.intro) | fail); all_goals try (conv => whnf); all_goals try (exfalso; omega)
        · repeat' (first | (with_reducible refine Unf.h ?_) | ((conv => whnf); first | refine Fork.mk (fun h => ?_) (fun h => ?_) | refine retK_r ?_) | fail); all_goals try (conv => whnf); all_goals try (exfalso; omega)
          all_goals
            refine RetE.mk (c := ltn_c) (d := (ht, k, id, s)) (show List H256 from l) (by show l.length = 2 * 2 ^ ht; rw [hn]; omega) ?_
            repeat' (first | (with_reducible refine Unf.h ?_) | ((conv => whnf); first | (refine Side.mk ?_ ?_; focus (with_reducible rfl)) | (with_reducible refine Unf.h ?_) | exact rfl) | fail); all_goals try (conv => whnf); all_goals try (exfalso; omega)
end Go.Proofs.YtinpcefioadkcaaGreatDoor

namespace Go.Proofs.YtinpcefioadkcaaGreatDoor
set_option linter.all false
open Go.RowKit
def pubT (h : Nat) (k : Int) (id : ID16) (v : H256) : Bs := [] ++ beN 4 ((BitVec.ofInt 32 (h : Int)).setWidth 64) ++ beN 4 ((BitVec.ofInt 32 k).setWidth 64) ++ id.toList ++ v.toList
theorem pubT_len (h : Nat) (k : Int) (id : ID16) (v : H256) : (pubT h k id v).length = 56 := by
  unfold pubT
  simp only [List.length_append, beN_len, List.length_nil, Vector.length_toList]
def ltpu_c : Ctr where
  D := (Nat × Int × ID16 × H256) × List H256 × H256
  pre := fun (_, l, v) => l[1]? = some v
  args := fun ((h, k, id, s), l, _) => [.fpt (eTr h k id s l)]
  res := fun ((h, k, id, _), _, v) _ => .fs 1 eB (pubT h k id v)
def ltpu_H : Cfg := ⟨[(134, wu32_c), (135, wplain_c), (136, wout_c)], [], [], [], 44, 0, [], [], []⟩
theorem ltpu_ok : ltpu_c.Ok Tryz.prog 101 := by
  refine fn_ok ltpu_H 0 rfl _ Tryz.func101 rfl rfl ⟨wu32_ok, wplain_ok, wout_ok, trivial⟩ rfl rfl (by kernel_rfl) (fun _ => Nat.le_of_ble_eq_true rfl) ?_
  rintro ⟨⟨h, k, id, s⟩, l, v⟩ hp hr
  try dsimp only [ltpu_c] at hp
  try simp only [ltpu_c, Rng, RngL, inR, and_true, true_and] at hr
  have hp : l[1]? = some v := hp
  obtain ⟨hb, hv⟩ := List.getElem?_eq_some_iff.1 hp
  have hidl : id.toList.length = 16 := by simp
  have h1 : wu32_c.pre ([], BitVec.ofInt 32 (h : Int)) := show 0 ≤ 1000000 by omega
  have h2 : wu32_c.pre ([] ++ beN 4 ((BitVec.ofInt 32 (h : Int)).setWidth 64), BitVec.ofInt 32 k) := by show ([] ++ beN 4 ((BitVec.ofInt 32 (h : Int)).setWidth 64)).length ≤ 1000000; simp [beN_len]
  have h3 : wplain_c.pre ([] ++ beN 4 ((BitVec.ofInt 32 (h : Int)).setWidth 64) ++ beN 4 ((BitVec.ofInt 32 k).setWidth 64), id.toList) := ⟨by show ([] ++ beN 4 ((BitVec.ofInt 32 (h : Int)).setWidth 64) ++ beN 4 ((BitVec.ofInt 32 k).setWidth 64)).length ≤ 1000000; simp [beN_len], by show id.toList.length ≤ 1000000; omega⟩
  have h4 : wplain_c.pre ([] ++ beN 4 ((BitVec.ofInt 32 (h : Int)).setWidth 64) ++ beN 4 ((BitVec.ofInt 32 k).setWidth 64) ++ id.toList, v.toList) := ⟨by show ([] ++ beN 4 ((BitVec.ofInt 32 (h : Int)).setWidth 64) ++ beN 4 ((BitVec.ofInt 32 k).setWidth 64) ++ id.toList).length ≤ 1000000; simp [beN_len], by show v.toList.length ≤ 1000000; simp⟩
  have h5 : wout_c.pre (pubT h k id v) := by show (pubT h k id v).length ≤ 1000000; rw [pubT_len]; omega
  repeat' (first | (with_reducible refine Unf.h ?_) | fail); all_goals try (conv => whnf); all_goals try (exfalso; omega)
  refine CallS.mk (c := wu32_c) (([], BitVec.ofInt 32 (h : Int))) ?_
  repeat' (first | (with_reducible refine Unf.h ?_) | ((conv => whnf); first | (refine Side.mk ?_ ?_; focus (first | with_reducible rfl | assumption)) | refine Got.mk (fun _ _ => ?_)) | fail); all_goals try (conv => whnf); all_goals try (exfalso; omega)
  refine CallS.mk (c := wu32_c) (([] ++ beN 4 ((BitVec.ofInt 32 (h : Int)).setWidth 64), BitVec.ofInt 32 k)) ?_
  repeat' (first | (with_reducible refine Unf.h ?_) | ((conv => whnf); first | (refine Side.mk ?_ ?_; focus (first | with_reducible rfl | exact True.intro | assumption)) | refine Got.mk (fun _ _ => ?_)) | fail); all_goals try (conv => whnf); all_goals try (exfalso; omega)
  refine CallS.mk (c := wplain_c) (([] ++ beN 4 ((BitVec.ofInt 32 (h : Int)).setWidth 64) ++ beN 4 ((BitVec.ofInt 32 k).setWidth 64), id.toList)) ?_
  repeat' (first | (with_reducible refine Unf.h ?_) | ((conv => whnf); first | (refine Side.mk ?_ ?_; focus (first | with_reducible rfl | exact True.intro | assumption | (simp only [*, cutL]; done))) | (refine Idx.mk ?_ ?_; focus (omega)) | refine Got.mk (fun _ _ => ?_)) | fail); all_goals try (conv => whnf); all_goals try (exfalso; omega)
  have hv1 : ∀ hq, l[((1 : Int)).toNat]'hq = v := fun hq => hv
  refine CallS.mk (c := wplain_c) (([] ++ beN 4 ((BitVec.ofInt 32 (h : Int)).setWidth 64) ++ beN 4 ((BitVec.ofInt 32 k).setWidth 64) ++ id.toList, v.toList)) ?_
  repeat' (first | (with_reducible refine Unf.h ?_) | ((conv => whnf); first | (refine Side.mk ?_ ?_; focus (first | with_reducible rfl | assumption | (simp only [*, cutL, hv1]; done))) | refine Got.mk (fun _ _ => ?_)) | fail); all_goals try (conv => whnf); all_goals try (exfalso; omega)
  refine CallS.mk (c := wout_c) ((pubT h k id v)) ?_
  repeat' (first | (with_reducible refine Unf.h ?_) | ((conv => whnf); first | (refine Side.mk ?_ ?_; focus (first | with_reducible rfl | assumption | (dsimp only [resS, ltpu_c, pubT]; done))) | refine RetE.mk () trivial ?_ | refine Got.mk (fun _ _ => ?_) | refine retK_r ?_ | exact rfl) | fail); all_goals try (conv => whnf); all_goals try (exfalso; omega)
end Go.Proofs.YtinpcefioadkcaaGreatDoor

namespace Go.Proofs.YtinpcefioadkcaaGreatDoor
set_option linter.all false
open Go.RowKit
def htaggedk_c : Ctr := { htagged_c with kp := true }
theorem htaggedk_ok : htaggedk_c.Ok Tryz.prog 51 := htagged_ok.kept fun _ => rfl
def chId (seed : H256) : ID16 := vecT (List.drop (loI none).toNat (List.take (hiI 32 (some 16)).toNat (sha (txt 105#8 [seed.toList])).toList)) (by simp [loI, hiI])
def chSd (seed : H256) : H256 := sha (txt 115#8 [seed.toList])
def hch_c : Ctr where
  D := H256
  args := fun s => [.agg [.arr8 s], .nils]
  res := fun s _ => .tup [.agg [.arr8 (chId s)], .agg [.arr8 (chSd s)]]
def hch_H : Cfg := ⟨[(51, htaggedk_c)], [(5, [2], [4, 5, 6], (.one 0 0 false (.one 1 0 false (.one 2 1 false (.one 3 0 false (.one 4 2 true (.one 5 2 false (.one 6 2 false .nil))))))), [])], [], [], 24, 0, [], [], [20]⟩
theorem hch_ok : hch_c.Ok Tryz.prog 94 := by
  refine fn_ok hch_H 0 rfl _ Tryz.func94 rfl rfl ⟨htaggedk_ok, trivial⟩ rfl rfl (by kernel_rfl) (fun _ => Nat.le_of_ble_eq_true rfl) ?_
  intro (s : H256) hp hr
  try dsimp only [hch_c] at hp
  try simp only [hch_c, Rng, RngL, inR, and_true, true_and] at hr
  have hpt : ∀ t, htaggedk_c.pre (t, [s.toList]) := fun t => ⟨by show 1 ≤ 900; omega, fun p hp => by
    have hp : p ∈ [s.toList] := hp
    obtain rfl := List.mem_singleton.1 hp
    simp⟩
  have h1 := hpt 105#8
  have h2 := hpt 115#8
  repeat' (first | (with_reducible refine Unf.h ?_) | ((conv => whnf); first | refine Fork.mk (fun h => ?_) (fun h => ?_) | (refine Side.mk ?_ ?_; focus (first | exact True.intro | (intros; (try simp only [lenS, inR, cutS, loI, hiI, cutv2, eP, List.map_cons, List.map_nil] at *); omega)))) | fail); all_goals try (conv => whnf); all_goals try (exfalso; omega)
  refine CallS.mk (c := htaggedk_c) ((105#8, [s.toList])) ?_
  repeat' (first | (with_reducible refine Unf.h ?_) | ((conv => whnf); first | (refine Side.mk ?_ ?_; focus (first | with_reducible rfl | assumption | (intros; (try simp only [lenS, inR, cutS, loI, hiI, cutv2, eP, List.map_cons, List.map_nil] at *); omega) | (simp only [*, cutv2, eP, List.map_cons, List.map_nil]; done))) | refine Got.mk (fun _ _ => ?_)) | fail); all_goals try (conv => whnf); all_goals try (exfalso; omega)
  refine ValS.mk (OrdK.bslA 19 4 0 _ _ rfl ?_)
  repeat (first | (with_reducible refine Unf.h ?_) | ((conv => whnf); (with_reducible first | refine Unf.h ?_ | refine loopK_n ?_ | refine cutK_n ?_)))
  conv => whnf
  refine Side.mk (by simp [hiI]) ?_
  refine ⟨_, rfl, ?_⟩
  repeat' (first | (with_reducible refine Unf.h ?_) | ((conv => whnf); first | (refine Idx.mk ?_ ?_; focus ((simp only [lenS, inR, cutS, loI, hiI]; omega))) | refine Ex.mk _ rfl ?_) | fail); all_goals try (conv => whnf); all_goals try (exfalso; omega)
  refine CallS.mk (c := htaggedk_c) ((115#8, [s.toList])) ?_
  repeat' (first | (with_reducible refine Unf.h ?_) | ((conv => whnf); first | (refine Side.mk ?_ ?_; focus (first | with_reducible rfl | assumption | (simp only [*, chId, chSd]; done))) | refine RetE.mk () trivial ?_ | refine Got.mk (fun _ _ => ?_) | refine retK_r ?_ | exact rfl) | fail); all_goals try (conv => whnf); all_goals try (exfalso; omega)
abbrev signB (b k : Int) (s : H256) (ps : List SV) : SO := .box 178 [.int .i64 b, .int .i64 k, .arr8 s, .fpt ps, .nilp, .int .i64 (-1)]
def hnewX_c : Ctr where
  D := Int × Int × Int × H256
  pre := fun (t, b, k, _) => ¬ (1 ≤ b ∧ b ≤ 4 ∧ 1 ≤ k ∧ k ≤ 4) ∨ ¬ (1 ≤ t ∧ t ≤ 4 ∧ 1 ≤ k ∧ k ≤ 4)
  args := fun (t, b, k, s) => [.int .i64 t, .int .i64 b, .int .i64 k, .agg [.arr8 s]]
  res := fun _ _ => .tup [.nilp, .int .i64 1]
def hnewX_H : Cfg := ⟨[(93, ltsz_c), (94, hch_c), (95, ltnX_c)], [], [], [], 40, 0, [], [], []⟩
theorem hnewX_ok : hnewX_c.Ok Tryz.prog 50 := by
  refine fn_ok hnewX_H 0 rfl _ Tryz.func50 rfl rfl ⟨ltsz_ok, hch_ok, ltnX_ok, trivial⟩ rfl rfl (by kernel_rfl) (fun _ => Nat.le_of_ble_eq_true rfl) ?_
  rintro ⟨t, b, k, s⟩ hp hr
  try dsimp only [hnewX_c] at hp
  try simp only [hnewX_c, Rng, RngL, inR, and_true, true_and] at hr
  have hp : ¬ (1 ≤ b ∧ b ≤ 4 ∧ 1 ≤ k ∧ k ≤ 4) ∨ ¬ (1 ≤ t ∧ t ≤ 4 ∧ 1 ≤ k ∧ k ≤ 4) := hp
  have hz := lszF_le k
  by_cases hb : 1 ≤ b ∧ b ≤ 4 ∧ 1 ≤ k ∧ k ≤ 4
  · have e : tszF b k = 8 + lszF k + 32 * b := if_pos hb
    have ht : ¬ (1 ≤ t ∧ t ≤ 4 ∧ 1 ≤ k ∧ k ≤ 4) := hp.resolve_left (fun h => h hb)
    have hpx : ltnX_c.pre (t, k, chId s, chSd s) := ht
    clear hp
    repeat' (first | (with_reducible refine Unf.h ?_) | ((conv => whnf); first | refine Fork.mkn (fun h => ?_) (fun h => ?_) | refine Fork.mk (fun h => ?_) (fun h => ?_) | (refine Side.mk ?_ ?_; focus (first | with_reducible rfl | exact True.intro | assumption)) | refine RetE.mk () trivial ?_ | refine Got.mk (fun _ _ => ?_) | refine retK_r ?_ | exact rfl | refine CallS.mk (c := ltsz_c) ((b, k)) ?_ | refine CallS.mk (c := hch_c) (s) ?_ | refine CallS.mk (c := ltnX_c) ((t, k, chId s, chSd s)) ?_) | fail); all_goals try (conv => whnf); all_goals try (exfalso; omega)
  · have e : tszF b k = 0 := if_neg hb
    clear hp
    repeat' (first | (with_reducible refine Unf.h ?_) | ((conv => whnf); first | refine Fork.mk (fun h => ?_) (fun h => ?_) | (refine Side.mk ?_ ?_; focus (first | with_reducible rfl | exact True.intro)) | refine RetE.mk () trivial ?_ | refine Got.mk (fun _ _ => ?_) | refine retK_r ?_ | exact rfl | refine CallS.mk (c := ltsz_c) ((b, k)) ?_) | fail); all_goals try (conv => whnf); all_goals try (exfalso; omega)
def hnew_c : Ctr where
  D := Nat × Int × Int × H256
  pre := fun (t, b, k, _) => 1 ≤ t ∧ t ≤ 4 ∧ 1 ≤ b ∧ b ≤ 4 ∧ 1 ≤ k ∧ k ≤ 4
  args := fun (t, b, k, s) => [.int .i64 (t : Int), .int .i64 b, .int .i64 k, .agg [.arr8 s]]
  E := List H256
  post := fun (t, _, _, _) l => l.length = 2 * 2 ^ t
  res := fun _ _ => .tup [.ptr 0 0, .int .i64 0]
  out := fun (t, b, k, s) l => [(0, signB b k s (eTr t k (chId s) (chSd s) l))]
  mm := 1
def hnew_H : Cfg := ⟨[(93, ltsz_c), (94, hch_c), (95, ltn_c)], [], [], [], 40, 0, [], [], []⟩
theorem hnew_ok : hnew_c.Ok Tryz.prog 50 := by
  refine fn_ok hnew_H 0 rfl _ Tryz.func50 rfl rfl ⟨ltsz_ok, hch_ok, ltn_ok, trivial⟩ rfl rfl (by kernel_rfl) (fun _ => Nat.le_of_ble_eq_true rfl) ?_
  rintro ⟨t, b, k, s⟩ hp hr
  try dsimp only [hnew_c] at hp
  try simp only [hnew_c, Rng, RngL, inR, and_true, true_and] at hr
  obtain ⟨hp1, hp2, hp3, hp4, hp5, hp6⟩ := hp
  have hp1 : 1 ≤ t := hp1
  have hp2 : t ≤ 4 := hp2
  have hz := lszF_le k
  have e : tszF b k = 8 + lszF k + 32 * b := if_pos ⟨hp3, hp4, hp5, hp6⟩
  have hpx : ltn_c.pre (t, k, chId s, chSd s) := ⟨hp1, hp2, hp5, hp6⟩
  repeat' (first | (with_reducible refine Unf.h ?_) | ((conv => whnf); first | refine Fork.mkn (fun h => ?_) (fun h => ?_) | refine Fork.mk (fun h => ?_) (fun h => ?_) | (refine Side.mk ?_ ?_; focus (first | with_reducible rfl | exact True.intro | assumption)) | refine Got.mk (fun _ _ => ?_) | refine retK_r ?_ | refine CallS.mk (c := ltsz_c) ((b, k)) ?_ | refine CallS.mk (c := hch_c) (s) ?_ | refine CallS.mk (c := ltn_c) ((t, k, chId s, chSd s)) ?_) | fail); all_goals try (conv => whnf); all_goals try (exfalso; omega)
  rename_i l hll
  refine RetE.mk (c := hnew_c) (d := (t, b, k, s)) (show List H256 from l) hll ?_
  repeat' (first | (with_reducible refine Unf.h ?_) | ((conv => whnf); first | (refine Side.mk ?_ ?_; focus (with_reducible rfl)) | (with_reducible refine Unf.h ?_) | exact rfl) | fail); all_goals try (conv => whnf); all_goals try (exfalso; omega)
def hpub_c : Ctr where
  D := (Int × Int × H256) × (Nat × Int × ID16 × H256) × List H256 × H256
  pre := fun (_, _, l, v) => l[1]? = some v
  args := fun _ => [.ptr 0 0]
  objs := fun ((b, k, s), (h, k2, id, s2), l, _) => [(0, signB b k s (eTr h k2 id s2 l))]
  nn := 1
  res := fun _ _ => .own 1
  out := fun ((b, k, s), (h, k2, id, s2), l, v) _ => [(0, signB b k s (eTr h k2 id s2 l)), (1, .row 5 1 eB ([0#8, 0#8, 0#8, 2#8] ++ pubT h k2 id v))]
  mm := 1
def hpub_H : Cfg := ⟨[(101, ltpu_c), (100, concat_c)], [], [], [], 13, 1, [], [], []⟩
theorem hpub_ok : hpub_c.Ok Tryz.prog 55 := by
  refine fn_ok hpub_H 1 rfl _ Tryz.func55 rfl rfl ⟨ltpu_ok, concat_ok, trivial⟩ rfl rfl (by kernel_rfl) (fun _ => Nat.le_of_ble_eq_true rfl) ?_
  rintro ⟨⟨b, k, s⟩, ⟨h, k2, id, s2⟩, l, v⟩ hp hr
  try dsimp only [hpub_c] at hp
  try simp only [hpub_c, Rng, RngL, inR, and_true, true_and] at hr
  have hpl : ltpu_c.pre ((h, k2, id, s2), l, v) := hp
  have hlen := pubT_len h k2 id v
  have hpc : concat_c.pre [[0#8, 0#8, 0#8, 2#8], pubT h k2 id v] := ⟨by show 1 ≤ ([[0#8, 0#8, 0#8, 2#8], pubT h k2 id v] : List Bs).flatten.length; simp, by show 2 ≤ 100; omega, fun p hp => by
    have hp : p ∈ [[0#8, 0#8, 0#8, 2#8], pubT h k2 id v] := hp
    simp only [List.mem_cons, List.not_mem_nil, or_false] at hp
    rcases hp with rfl | rfl
    · simp
    · omega⟩
  repeat' (first | (with_reducible refine Unf.h ?_) | fail); all_goals try (conv => whnf); all_goals try (exfalso; omega)
  refine CallS.mk (c := ltpu_c) (((h, k2, id, s2), l, v)) ?_
  repeat' (first | (with_reducible refine Unf.h ?_) | ((conv => whnf); first | (refine Side.mk ?_ ?_; focus (first | with_reducible rfl | assumption)) | refine Got.mk (fun _ _ => ?_) | refine Ex.mk [_, _, _, _] rfl ?_) | fail); all_goals try (conv => whnf); all_goals try (exfalso; omega)
  have ef : [0#8, 0#8, 0#8, 2#8] ++ pubT h k2 id v = ([[0#8, 0#8, 0#8, 2#8], pubT h k2 id v] : List Bs).flatten := by simp
  refine CallS.mk (c := concat_c) ([[0#8, 0#8, 0#8, 2#8], pubT h k2 id v]) ?_
  repeat' (first | (with_reducible refine Unf.h ?_) | ((conv => whnf); first | (refine Side.mk ?_ ?_; focus (first | with_reducible rfl | assumption | (simp only [*, eP, List.map_cons, List.map_nil, ef]; done))) | refine RetE.mk () trivial ?_ | refine Got.mk (fun _ _ => ?_) | refine retK_r ?_ | exact rfl) | fail); all_goals try (conv => whnf); all_goals try (exfalso; omega)
end Go.Proofs.YtinpcefioadkcaaGreatDoor

namespace Go.Proofs.YtinpcefioadkcaaGreatDoor
set_option linter.all false
open Go.RowKit
abbrev zMsg0 : List SV := [.int .i64 0, .int .i64 0, .int .i64 0, .int .i64 0, .int .i64 0, .int .i64 0, .int .i64 0, .nils, .nils, .int .i64 0, .int .i64 0, .arr8 zH, .arr8 zH, .nils, .nils, .nils, .nils, .nils, .arr8 zH, .nils, .int .i64 0, .arr8 zH, .arr8 zH, .int .i64 0, .arr8 zH, .arr8 zH, .arr8 zH, .nils, .nils, .nils, .nils]
def psubN_c : Ctr where
  D := Msg
  args := fun m => [.nilp, .agg (eMsg m)]
  res := fun _ _ => .tup [.agg zMsg0, .bool false]
def psubN_H : Cfg := ⟨[], [(3, [3, 5], [6, 10, 11], (.one 0 0 false (.one 1 0 false (.one 2 0 false (.one 3 1 false (.one 4 0 false (.one 5 1 false (.alt 6 true (.one 7 0 false (.one 8 0 false (.one 9 0 false (.one 10 2 true (.one 11 2 false (.one 12 0 false .nil)))))) (.one 10 2 true (.one 6 2 false (.one 7 0 false (.one 8 0 false (.one 9 0 false (.one 11 2 false (.one 12 0 false .nil)))))))))))))), []), (20, [4, 6, 8, 10, 13], [11, 14, 16, 17, 20], (.one 0 0 false (.one 1 0 false (.one 2 0 false (.one 3 0 false (.one 4 1 false (.one 5 0 false (.one 6 1 false (.one 7 0 false (.one 8 1 false (.one 9 0 false (.one 10 1 false (.one 12 0 false (.one 13 1 false (.one 11 2 true (.one 14 2 true (.one 15 0 false (.one 16 2 true (.one 17 2 false (.one 18 0 false (.one 19 0 false (.one 20 2 false .nil))))))))))))))))))))), [])], [], [], 142, 0, [], [], []⟩
theorem psubN_ok : psubN_c.Ok Tryz.prog 16 := by
  refine fn_ok psubN_H 0 rfl _ Tryz.func16 rfl rfl trivial rfl rfl (by kernel_rfl) (fun _ => Nat.le_of_ble_eq_true rfl) ?_
  intro (m : Msg) hp hr
  try dsimp only [psubN_c] at hp
  try simp only [psubN_c, Rng, RngL, inR, and_true, true_and] at hr
  clear hr
  repeat' (first | (with_reducible refine Unf.h ?_) | ((conv => whnf); first | (refine Side.mk ?_ ?_; focus (with_reducible rfl)) | refine RetE.mk () trivial ?_ | refine retK_r ?_ | exact rfl) | fail); all_goals try (conv => whnf); all_goals try (exfalso; omega)
def pseaN_c : Ctr where
  D := Int
  args := fun n => [.nilp, .int .i64 n]
  res := fun _ _ => .tup [.nils, .int .i64 1]
def pseaN_H : Cfg := ⟨[], [(4, [3], [], (.one 0 0 false (.one 1 0 false (.one 2 0 false (.one 3 1 false (.one 4 0 false (.one 5 0 false .nil)))))), []), (5, [5], [1, 6], (.one 0 0 false (.one 2 0 false (.one 3 0 false (.one 4 0 false (.one 5 1 false (.one 1 2 true (.one 6 2 false (.one 7 0 false (.one 8 0 false .nil))))))))), []), (23, [1, 3], [6, 7, 11, 12], (.one 0 0 false (.one 1 1 false (.one 2 0 false (.one 3 1 false (.one 4 0 false (.one 5 0 false (.alt 6 true (.alt 7 true (.one 8 0 false (.one 9 0 false (.one 10 0 false (.one 11 2 true (.one 12 2 false (.one 13 0 false .nil)))))) (.one 11 2 true (.one 7 2 false (.one 8 0 false (.one 9 0 false (.one 10 0 false (.one 12 2 false (.one 13 0 false .nil)))))))) (.one 11 2 true (.one 6 2 true (.one 7 2 false (.one 8 0 false (.one 9 0 false (.one 10 0 false (.one 12 2 false (.one 13 0 false .nil))))))))))))))), [])], [], [], 111, 0, [], [], []⟩
theorem pseaN_ok : pseaN_c.Ok Tryz.prog 17 := by
  refine fn_ok pseaN_H 0 rfl _ Tryz.func17 rfl rfl trivial rfl rfl (by kernel_rfl) (fun _ => Nat.le_of_ble_eq_true rfl) ?_
  intro (n : Int) hp hr
  try dsimp only [pseaN_c] at hp
  try simp only [pseaN_c, Rng, RngL, inR, and_true, true_and] at hr
  repeat' (first | (with_reducible refine Unf.h ?_) | ((conv => whnf); first | (refine Side.mk ?_ ?_; focus (with_reducible rfl)) | refine RetE.mk () trivial ?_ | refine retK_r ?_ | exact rfl) | fail); all_goals try (conv => whnf); all_goals try (exfalso; omega)
def psgnN_c : Ctr where
  D := Int
  args := fun n => [.nilp, .int .i64 n]
  res := fun _ _ => .tup [.agg [.int .i64 0, .int .i64 0, .arr8 zH, .arr8 zH, .nils], .int .i64 1]
def psgnN_H : Cfg := ⟨[], [(5, [3], [8, 9, 12], (.one 0 0 false (.one 1 0 false (.one 2 0 false (.one 3 1 false (.one 4 0 false (.one 5 0 false (.one 6 0 false (.one 7 0 false (.one 8 2 true (.one 9 2 false (.one 10 0 false (.one 11 0 false (.one 12 2 false (.one 13 0 false .nil)))))))))))))), [])], [], [], 32, 0, [], [], []⟩
theorem psgnN_ok : psgnN_c.Ok Tryz.prog 18 := by
  refine fn_ok psgnN_H 0 rfl _ Tryz.func18 rfl rfl trivial rfl rfl (by kernel_rfl) (fun _ => Nat.le_of_ble_eq_true rfl) ?_
  intro (n : Int) hp hr
  try dsimp only [psgnN_c] at hp
  try simp only [psgnN_c, Rng, RngL, inR, and_true, true_and] at hr
  repeat' (first | (with_reducible refine Unf.h ?_) | ((conv => whnf); first | (refine Side.mk ?_ ?_; focus (with_reducible rfl)) | refine RetE.mk () trivial ?_ | refine retK_r ?_ | exact rfl) | fail); all_goals try (conv => whnf); all_goals try (exfalso; omega)
def psrvN_c : Ctr where
  D := Msg
  args := fun m => [.nilp, .agg (eMsg m)]
  res := fun _ _ => .nils
def psrvN_H : Cfg := ⟨[], [], [], [], 51, 0, [], [], []⟩
theorem psrvN_ok : psrvN_c.Ok Tryz.prog 21 := by
  refine fn_ok psrvN_H 0 rfl _ Tryz.func21 rfl rfl trivial rfl rfl (by kernel_rfl) (fun _ => Nat.le_of_ble_eq_true rfl) ?_
  intro (m : Msg) hp hr
  try dsimp only [psrvN_c] at hp
  try simp only [psrvN_c, Rng, RngL, inR, and_true, true_and] at hr
  clear hr
  repeat' (first | (with_reducible refine Unf.h ?_) | ((conv => whnf); first | (refine Side.mk ?_ ?_; focus ((dsimp only [resS, psrvN_c]; done))) | refine RetE.mk () trivial ?_ | refine retK_r ?_ | exact rfl) | fail); all_goals try (conv => whnf); all_goals try (exfalso; omega)
def pepsN_c : Ctr where
  D := Unit
  args := fun _ => [.nilp]
  res := fun _ _ => .int .i64 0
def pepsN_H : Cfg := ⟨[], [], [], [], 10, 0, [], [], []⟩
theorem pepsN_ok : pepsN_c.Ok Tryz.prog 22 := by
  refine fn_ok pepsN_H 0 rfl _ Tryz.func22 rfl rfl trivial rfl rfl (by kernel_rfl) (fun _ => Nat.le_of_ble_eq_true rfl) ?_
  intro (_ : Unit) hp hr
  try dsimp only [pepsN_c] at hp
  try simp only [pepsN_c, Rng, RngL, inR, and_true, true_and] at hr
  repeat' (first | (with_reducible refine Unf.h ?_) | ((conv => whnf); first | (refine Side.mk ?_ ?_; focus ((refine congrArg (SV.int _) ?_; omega))) | refine RetE.mk () trivial ?_ | refine retK_r ?_ | exact rfl) | fail); all_goals try (conv => whnf); all_goals try (exfalso; omega)
def pwaiN_c : Ctr where
  D := Unit
  args := fun _ => [.nilp]
  res := fun _ _ => .int .i64 0
def pwaiN_H : Cfg := ⟨[], [], [], [], 10, 0, [], [], []⟩
theorem pwaiN_ok : pwaiN_c.Ok Tryz.prog 23 := by
  refine fn_ok pwaiN_H 0 rfl _ Tryz.func23 rfl rfl trivial rfl rfl (by kernel_rfl) (fun _ => Nat.le_of_ble_eq_true rfl) ?_
  intro (_ : Unit) hp hr
  try dsimp only [pwaiN_c] at hp
  try simp only [pwaiN_c, Rng, RngL, inR, and_true, true_and] at hr
  repeat' (first | (with_reducible refine Unf.h ?_) | ((conv => whnf); first | (refine Side.mk ?_ ?_; focus ((refine congrArg (SV.int _) ?_; omega))) | refine RetE.mk () trivial ?_ | refine retK_r ?_ | exact rfl) | fail); all_goals try (conv => whnf); all_goals try (exfalso; omega)
def pstaN_c : Ctr where
  D := Unit
  args := fun _ => [.nilp]
  res := fun _ _ => .nilp
def pstaN_H : Cfg := ⟨[], [], [], [], 9, 0, [], [], []⟩
theorem pstaN_ok : pstaN_c.Ok Tryz.prog 24 := by
  refine fn_ok pstaN_H 0 rfl _ Tryz.func24 rfl rfl trivial rfl rfl (by kernel_rfl) (fun _ => Nat.le_of_ble_eq_true rfl) ?_
  intro (_ : Unit) hp hr
  try dsimp only [pstaN_c] at hp
  try simp only [pstaN_c, Rng, RngL, inR, and_true, true_and] at hr
  repeat' (first | (with_reducible refine Unf.h ?_) | ((conv => whnf); first | (refine Side.mk ?_ ?_; focus ((dsimp only [resS, pstaN_c]; done))) | refine RetE.mk () trivial ?_ | refine retK_r ?_ | exact rfl) | fail); all_goals try (conv => whnf); all_goals try (exfalso; omega)
def ppubN_c : Ctr where
  D := Unit
  args := fun _ => [.nilp]
  res := fun _ _ => .nils
def ppubN_H : Cfg := ⟨[], [], [], [], 10, 0, [], [], []⟩
theorem ppubN_ok : ppubN_c.Ok Tryz.prog 25 := by
  refine fn_ok ppubN_H 0 rfl _ Tryz.func25 rfl rfl trivial rfl rfl (by kernel_rfl) (fun _ => Nat.le_of_ble_eq_true rfl) ?_
  intro (_ : Unit) hp hr
  try dsimp only [ppubN_c] at hp
  try simp only [ppubN_c, Rng, RngL, inR, and_true, true_and] at hr
  repeat' (first | (with_reducible refine Unf.h ?_) | ((conv => whnf); first | (refine Side.mk ?_ ?_; focus ((dsimp only [resS, ppubN_c]; done))) | refine RetE.mk () trivial ?_ | refine retK_r ?_ | exact rfl) | fail); all_goals try (conv => whnf); all_goals try (exfalso; omega)
def seed42 : H256 := (Vector.replicate 32 0#8).setIfInBounds 0 42#8
def pfrm_c : Ctr where
  D := Unit
  args := fun _ => []
  res := fun _ _ => .agg [.int .i64 1, .int .i64 2, .int .i64 3, .arr8 seed42]
def pfrm_H : Cfg := ⟨[], [], [], [], 3, 0, [], [], []⟩
theorem pfrm_ok : pfrm_c.Ok Tryz.prog 20 := by
  refine fn_ok pfrm_H 0 rfl _ Tryz.func20 rfl rfl trivial rfl rfl (by kernel_rfl) (fun _ => Nat.le_of_ble_eq_true rfl) ?_
  intro (_ : Unit) hp hr
  try dsimp only [pfrm_c] at hp
  try simp only [pfrm_c, Rng, RngL, inR, and_true, true_and] at hr
  repeat' (first | (with_reducible refine Unf.h ?_) | ((conv => whnf); first | (refine Side.mk ?_ ?_; focus (first | with_reducible rfl | (simp only [*, seed42]; done))) | refine RetE.mk () trivial ?_ | refine retK_r ?_ | exact rfl) | fail); all_goals try (conv => whnf); all_goals try (exfalso; omega)
end Go.Proofs.YtinpcefioadkcaaGreatDoor

namespace Go.Proofs.YtinpcefioadkcaaGreatDoor
set_option linter.all false
open Go.RowKit
abbrev eFo (t b k : Int) (s : H256) : List SV := [.int .i64 t, .int .i64 b, .int .i64 k, .arr8 s]
def pSeed (s : H256) : H256 := sha (txt 112#8 [s.toList])
theorem ptag_pre (s : H256) : htaggedk_c.pre (112#8, [s.toList]) := ⟨by show 1 ≤ 900; omega, fun p hp => by
  have hp : p ∈ [s.toList] := hp
  obtain rfl := List.mem_singleton.1 hp
  simp⟩
def vopQ_c : Ctr where
  D := Unit
  args := fun _ => [.nilp]
  res := fun _ _ => .tup [.nilp, .nils, .int .i64 1]
def vopQ_H : Cfg := ⟨[(59, dpgsN_c)], [(17, [3, 8, 10], [4, 6, 11], (.one 0 0 false (.one 1 0 false (.one 2 0 false (.one 3 1 false (.one 5 0 false (.one 7 0 false (.one 8 1 false (.one 9 0 false (.one 10 1 false (.one 4 2 true (.one 6 2 true (.one 11 2 false (.one 12 0 false (.one 13 0 false (.one 14 0 false (.one 15 0 false (.one 16 0 false (.one 17 0 false (.one 18 0 false .nil))))))))))))))))))), [])], [], [], 76, 0, [], [], []⟩
theorem vopQ_ok : vopQ_c.Ok Tryz.prog 27 := by
  refine fn_ok vopQ_H 0 rfl _ Tryz.func27 rfl rfl ⟨dpgsN_ok, trivial⟩ rfl rfl (by kernel_rfl) (fun _ => Nat.le_of_ble_eq_true rfl) ?_
  intro (_ : Unit) hp hr
  try dsimp only [vopQ_c] at hp
  try simp only [vopQ_c, Rng, RngL, inR, and_true, true_and] at hr
  repeat' (first | (with_reducible refine Unf.h ?_) | ((conv => whnf); first | refine Fork.mk (fun h => ?_) (fun h => ?_) | (refine Side.mk ?_ ?_; focus (first | with_reducible rfl | exact True.intro)) | refine RetE.mk () trivial ?_ | refine Got.mk (fun _ _ => ?_) | refine retK_r ?_ | exact rfl | refine CallS.mk (c := dpgsN_c) (()) ?_) | fail); all_goals try (conv => whnf); all_goals try (exfalso; omega)
def popX_c : Ctr where
  D := (List Pg × List Pg) × Int × Int × Int × H256
  pre := fun (_, t, b, k, _) => ¬ (1 ≤ b ∧ b ≤ 4 ∧ 1 ≤ k ∧ k ≤ 4) ∨ ¬ (1 ≤ t ∧ t ≤ 4 ∧ 1 ≤ k ∧ k ≤ 4)
  args := fun (_, t, b, k, s) => [.ptr 0 0, .agg (eFo t b k s)]
  objs := fun ((L, S), _) => devs L S []
  nn := 4
  res := fun _ _ => .tup [.nilp, .int .i64 1]
  out := fun ((L, S), _) _ => devs L S []
def popX_H : Cfg := ⟨[(51, htaggedk_c), (50, hnewX_c)], [(1, [1, 3, 5], [8, 9, 10], (.one 0 0 false (.one 1 1 false (.one 2 0 false (.one 3 1 false (.one 4 0 false (.one 5 1 false (.one 6 0 false (.one 7 0 false (.one 8 2 true (.one 9 2 true (.one 10 2 false (.one 11 0 false (.one 12 0 false (.one 13 0 false (.one 14 0 false (.one 15 0 false .nil)))))))))))))))), [])], [], [], 59, 4, [], [], []⟩
theorem popX_ok : popX_c.Ok Tryz.prog 19 := by
  refine fn_ok popX_H 4 rfl _ Tryz.func19 rfl rfl ⟨htaggedk_ok, hnewX_ok, trivial⟩ rfl rfl (by kernel_rfl) (fun _ => Nat.le_of_ble_eq_true rfl) ?_
  rintro ⟨⟨L, S⟩, t, b, k, s⟩ hp hr
  try dsimp only [popX_c] at hp
  try simp only [popX_c, Rng, RngL, inR, and_true, true_and] at hr
  have hpx : hnewX_c.pre (t, b, k, pSeed s) := hp
  have hpt := ptag_pre s
  clear hp
  repeat' (first | (with_reducible refine Unf.h ?_) | ((conv => whnf); (refine Side.mk ?_ ?_; focus (first | exact True.intro | (intros; (try simp only [lenS, inR, cutS, loI, hiI, cutv2, eP, List.map_cons, List.map_nil] at *); omega)))) | fail); all_goals try (conv => whnf); all_goals try (exfalso; omega)
  all_goals
    refine CallS.mk (c := htaggedk_c) ((112#8, [s.toList])) ?_
    repeat' (first | (with_reducible refine Unf.h ?_) | ((conv => whnf); first | (refine Side.mk ?_ ?_; focus (first | with_reducible rfl | assumption | (simp only [*, cutv2, eP, List.map_cons, List.map_nil]; done))) | refine Got.mk (fun _ _ => ?_)) | fail); all_goals try (conv => whnf); all_goals try (exfalso; omega)
  all_goals
    refine CallS.mk (c := hnewX_c) ((t, b, k, pSeed s)) ?_
    repeat' (first | (with_reducible refine Unf.h ?_) | ((conv => whnf); first | refine Fork.mkn (fun h => ?_) (fun h => ?_) | (refine Side.mk ?_ ?_; focus (first | with_reducible rfl | assumption | (simp only [*, pSeed]; done))) | refine RetE.mk () trivial ?_ | refine Got.mk (fun _ _ => ?_) | refine retK_r ?_ | exact rfl) | fail); all_goals try (conv => whnf); all_goals try (exfalso; omega)
def popN_c : Ctr where
  D := Nat × Int × Int × H256
  pre := fun (t, b, k, _) => 1 ≤ t ∧ t ≤ 4 ∧ 1 ≤ b ∧ b ≤ 4 ∧ 1 ≤ k ∧ k ≤ 4
  args := fun (t, b, k, s) => [.nilp, .agg (eFo (t : Int) b k s)]
  res := fun _ _ => .tup [.nilp, .int .i64 1]
def popN_H : Cfg := ⟨[(51, htaggedk_c), (50, hnew_c), (27, vopQ_c)], [(1, [1, 3, 5], [8, 9, 10], (.one 0 0 false (.one 1 1 false (.one 2 0 false (.one 3 1 false (.one 4 0 false (.one 5 1 false (.one 6 0 false (.one 7 0 false (.one 8 2 true (.one 9 2 true (.one 10 2 false (.one 11 0 false (.one 12 0 false (.one 13 0 false (.one 14 0 false (.one 15 0 false .nil)))))))))))))))), [])], [], [], 59, 0, [], [], []⟩
theorem popN_ok : popN_c.Ok Tryz.prog 19 := by
  refine fn_ok popN_H 0 rfl _ Tryz.func19 rfl rfl ⟨htaggedk_ok, hnew_ok, vopQ_ok, trivial⟩ rfl rfl (by kernel_rfl) (fun _ => Nat.le_of_ble_eq_true rfl) ?_
  rintro ⟨t, b, k, s⟩ hp hr
  try dsimp only [popN_c] at hp
  try simp only [popN_c, Rng, RngL, inR, and_true, true_and] at hr
  have hpx : hnew_c.pre (t, b, k, pSeed s) := hp
  have hpt := ptag_pre s
  clear hp
  repeat' (first | (with_reducible refine Unf.h ?_) | ((conv => whnf); (refine Side.mk ?_ ?_; focus (first | exact True.intro | (intros; (try simp only [lenS, inR, cutS, loI, hiI, cutv2, eP, List.map_cons, List.map_nil] at *); omega)))) | fail); all_goals try (conv => whnf); all_goals try (exfalso; omega)
  all_goals
    refine CallS.mk (c := htaggedk_c) ((112#8, [s.toList])) ?_
    repeat' (first | (with_reducible refine Unf.h ?_) | ((conv => whnf); first | (refine Side.mk ?_ ?_; focus (first | with_reducible rfl | assumption | (simp only [*, cutv2, eP, List.map_cons, List.map_nil]; done))) | refine Got.mk (fun _ _ => ?_)) | fail); all_goals try (conv => whnf); all_goals try (exfalso; omega)
  all_goals
    refine CallS.mk (c := hnew_c) ((t, b, k, pSeed s)) ?_
    repeat' (first | (with_reducible refine Unf.h ?_) | ((conv => whnf); first | refine Fork.mkn (fun h => ?_) (fun h => ?_) | (refine Side.mk ?_ ?_; focus (first | with_reducible rfl | assumption | (simp only [*, pSeed]; done))) | refine Got.mk (fun _ _ => ?_)) | fail); all_goals try (conv => whnf); all_goals try (exfalso; omega)
  all_goals
    refine CallS.mk (c := vopQ_c) (()) ?_
    repeat' (first | (with_reducible refine Unf.h ?_) | ((conv => whnf); first | refine Fork.mkn (fun h => ?_) (fun h => ?_) | (refine Side.mk ?_ ?_; focus (first | with_reducible rfl | exact True.intro)) | refine RetE.mk () trivial ?_ | refine Got.mk (fun _ _ => ?_) | refine retK_r ?_ | exact rfl) | fail); all_goals try (conv => whnf); all_goals try (exfalso; omega)
end Go.Proofs.YtinpcefioadkcaaGreatDoor

namespace Go.Proofs.YtinpcefioadkcaaGreatDoor
set_option linter.all false
open Go.RowKit
abbrev eDn : Int × Int → SV := fun p => .agg [.int .i64 p.1, .int .i64 p.2]
abbrev priB (v sg st mp : SV) : SO := .box 108 [v, sg, st, .nils, mp, .nils, .int .i64 0]
def pop_c : Ctr where
  D := (List Pg × List Pg) × Nat × Int × Int × H256
  pre := fun ((L, S), t, b, k, _) => (4 ≤ L.length ∧ L.length ≤ 4096 ∧ S.length = L.length ∧ S[0]? = some zeroPg ∧ S[1]? = some zeroPg ∧ S[2]? = some zeroPg) ∧ 1 ≤ t ∧ t ≤ 4 ∧ 1 ≤ b ∧ b ≤ 4 ∧ 1 ≤ k ∧ k ≤ 4
  args := fun (_, t, b, k, s) => [.ptr 0 0, .agg (eFo (t : Int) b k s)]
  objs := fun ((L, S), _) => devs L S []
  nn := 4
  E := List H256
  post := fun (_, t, _, _, _) l => l.length = 2 * 2 ^ t
  res := fun _ _ => .tup [.ptr 4 0, .int .i64 0]
  out := fun (_, t, b, k, s) l => [(4, priB (.ptr 5 0) (.ptr 6 0) (.ptr 7 0) (.own 13)), (6, signB b k (pSeed s) (eTr t k (chId (pSeed s)) (chSd (pSeed s)) l)), (7, .box 156 [.arr8 s, .ptr 8 0, .own 10, .own 11, .own 12]), (8, .box 151 [.own 9]), (9, .row 270 132 eNd []), (10, .row 201 67 eSl []), (11, .row 281 2 ePn []), (12, nmO [])]
  mm := 10
def pop_H : Cfg := ⟨[(51, htaggedk_c), (50, hnew_c), (27, vopZ_c), (29, enew_c)], [(1, [1, 3, 5], [8, 9, 10], (.one 0 0 false (.one 1 1 false (.one 2 0 false (.one 3 1 false (.one 4 0 false (.one 5 1 false (.one 6 0 false (.one 7 0 false (.one 8 2 true (.one 9 2 true (.one 10 2 false (.one 11 0 false (.one 12 0 false (.one 13 0 false (.one 14 0 false (.one 15 0 false .nil)))))))))))))))), [])], [], [], 59, 4, [], [], []⟩
theorem pop_ok : pop_c.Ok Tryz.prog 19 := by
  refine fn_ok pop_H 4 rfl _ Tryz.func19 rfl rfl ⟨htaggedk_ok, hnew_ok, vopZ_ok, enew_ok, trivial⟩ rfl rfl (by kernel_rfl) (fun _ => Nat.le_of_ble_eq_true rfl) ?_
  rintro ⟨⟨L, S⟩, t, b, k, s⟩ hp hr
  try dsimp only [pop_c] at hp
  try simp only [pop_c, Rng, RngL, inR, and_true, true_and] at hr
  obtain ⟨hpv, hpx⟩ := hp
  have hpx : hnew_c.pre (t, b, k, pSeed s) := hpx
  have hpt := ptag_pre s
  have hpv : vopZ_c.pre (L, S) := hpv
  repeat' (first | (with_reducible refine Unf.h ?_) | ((conv => whnf); (refine Side.mk ?_ ?_; focus (first | exact True.intro | (intros; (try simp only [lenS, inR, cutS, loI, hiI, cutv2, eP, List.map_cons, List.map_nil] at *); omega)))) | fail); all_goals try (conv => whnf); all_goals try (exfalso; omega)
  all_goals
    refine CallS.mk (c := htaggedk_c) ((112#8, [s.toList])) ?_
    repeat' (first | (with_reducible refine Unf.h ?_) | ((conv => whnf); first | (refine Side.mk ?_ ?_; focus (first | with_reducible rfl | assumption | (simp only [*, cutv2, eP, List.map_cons, List.map_nil]; done))) | refine Got.mk (fun _ _ => ?_)) | fail); all_goals try (conv => whnf); all_goals try (exfalso; omega)
  all_goals
    refine CallS.mk (c := hnew_c) ((t, b, k, pSeed s)) ?_
    repeat' (first | (with_reducible refine Unf.h ?_) | ((conv => whnf); first | refine Fork.mkn (fun h => ?_) (fun h => ?_) | (refine Side.mk ?_ ?_; focus (first | with_reducible rfl | assumption | (simp only [*, pSeed]; done))) | refine Got.mk (fun _ _ => ?_)) | fail); all_goals try (conv => whnf); all_goals try (exfalso; omega)
  all_goals
    rename_i l hll
    refine CallS.mk (c := vopZ_c) ((L, S)) ?_
    repeat' (first | (with_reducible refine Unf.h ?_) | ((conv => whnf); first | refine Fork.mkn (fun h => ?_) (fun h => ?_) | (refine Side.mk ?_ ?_; focus (first | with_reducible rfl | assumption)) | refine Got.mk (fun _ _ => ?_)) | fail); all_goals try (conv => whnf); all_goals try (exfalso; omega)
  all_goals
    refine CallS.mk (c := enew_c) (s) ?_
    repeat' (first | (with_reducible refine Unf.h ?_) | ((conv => whnf); first | (refine Side.mk ?_ ?_; focus (first | with_reducible rfl | exact True.intro)) | refine Got.mk (fun _ _ => ?_)) | fail); all_goals try (conv => whnf); all_goals try (exfalso; omega)
  all_goals
    refine MkS.mk inferInstance eZ eDn ?_
    repeat' (first | (with_reducible refine Unf.h ?_) | fail); all_goals try (conv => whnf); all_goals try (exfalso; omega)
  all_goals
    refine LoopS.mk (I := Unit) (fun _ => True) (fun _ => [(49, .int .i64 0), (48, .int .i64 0), (10, .ptr 4 0)]) (fun _ => [(4, priB (.ptr 5 0) (.ptr 6 0) (.ptr 7 0) (.own 13)), (6, signB b k (pSeed s) (eTr t k (chId (pSeed s)) (chSd (pSeed s)) l)), (7, .box 156 [.arr8 s, .ptr 8 0, .own 10, .own 11, .own 12]), (8, .box 151 [.own 9]), (9, .row 270 132 eNd []), (10, .row 201 67 eSl []), (11, .row 281 2 ePn []), (12, nmO [])]) 14 (fun _ => 0) () trivial ?_ ?_
    · repeat' (first | (with_reducible refine Unf.h ?_) | ((conv => whnf); first | (refine Side.mk ?_ ?_; focus (with_reducible rfl)) | (with_reducible refine Unf.h ?_) | exact True.intro) | fail); all_goals try (conv => whnf); all_goals try (exfalso; omega)
    · intro _ _
      repeat' (first | (with_reducible refine Unf.h ?_) | ((conv => whnf); first | refine Fork.mk (fun h => ?_) (fun h => ?_) | refine retK_r ?_) | fail); all_goals try (conv => whnf); all_goals try (exfalso; omega)
      all_goals
        refine RetE.mk (c := pop_c) (d := ((L, S), t, b, k, s)) (show List H256 from l) hll ?_
        repeat' (first | (with_reducible refine Unf.h ?_) | ((conv => whnf); first | (refine Side.mk ?_ ?_; focus (with_reducible rfl)) | (with_reducible refine Unf.h ?_) | exact rfl) | fail); all_goals try (conv => whnf); all_goals try (exfalso; omega)
end Go.Proofs.YtinpcefioadkcaaGreatDoor

namespace Go.Proofs.YtinpcefioadkcaaGreatDoor
set_option linter.all false
open Go.RowKit
theorem zAtP {n i : Nat} (h : i < n) : (List.replicate n zeroPg)[i]? = some zeroPg := by rw [List.getElem?_replicate, if_pos h]
def peps_c : Ctr where
  D := Dir
  args := fun _ => [.ptr 0 0]
  objs := fun (s, l, ss, ps) => [(0, priB (.ptr 1 0) (.ptr 2 0) (.ptr 3 0) (.own 9)), (3, .box 156 [.arr8 s, .ptr 4 0, .own 6, .own 7, .own 8]), (4, .box 151 [.own 5]), (5, .row 270 132 eNd l), (6, .row 201 67 eSl ss), (7, .row 281 2 ePn ps), (8, nmO ps)]
  nn := 10
  res := fun (_, _, ss, _) _ => .int .i64 (ss.length : Int)
  out := fun (s, l, ss, ps) _ => [(0, priB (.ptr 1 0) (.ptr 2 0) (.ptr 3 0) (.own 9)), (3, .box 156 [.arr8 s, .ptr 4 0, .own 6, .own 7, .own 8]), (4, .box 151 [.own 5]), (5, .row 270 132 eNd l), (6, .row 201 67 eSl ss), (7, .row 281 2 ePn ps), (8, nmO ps)]
def peps_H : Cfg := ⟨[(38, eps_c)], [], [], [], 10, 10, [], [], []⟩
theorem peps_ok : peps_c.Ok Tryz.prog 22 := by
  refine fn_ok peps_H 10 rfl _ Tryz.func22 rfl rfl ⟨eps_ok, trivial⟩ rfl rfl (by kernel_rfl) (fun _ => Nat.le_of_ble_eq_true rfl) ?_
  rintro ⟨s, l, ss, ps⟩ hp hr
  try dsimp only [peps_c] at hp
  try simp only [peps_c, Rng, RngL, inR, and_true, true_and] at hr
  repeat' (first | (with_reducible refine Unf.h ?_) | fail); all_goals try (conv => whnf); all_goals try (exfalso; omega)
  refine CallS.mk (c := eps_c) ((s, l, ss, ps)) ?_
  repeat' (first | (with_reducible refine Unf.h ?_) | ((conv => whnf); first | (refine Side.mk ?_ ?_; focus (first | with_reducible rfl | exact True.intro | (refine congrArg (SV.int _) ?_; omega))) | refine RetE.mk () trivial ?_ | refine Got.mk (fun _ _ => ?_) | refine retK_r ?_ | exact rfl) | fail); all_goals try (conv => whnf); all_goals try (exfalso; omega)
def ppub_c : Ctr where
  D := (Int × Int × H256) × (Nat × Int × ID16 × H256) × List H256 × H256
  pre := fun (_, _, l, v) => l[1]? = some v
  args := fun _ => [.ptr 0 0]
  objs := fun ((b, k, s), (h, k2, id, s2), l, _) => [(0, priB (.ptr 1 0) (.ptr 2 0) (.ptr 3 0) (.own 4)), (2, signB b k s (eTr h k2 id s2 l))]
  nn := 5
  res := fun _ _ => .own 5
  out := fun ((b, k, s), (h, k2, id, s2), l, v) _ => [(0, priB (.ptr 1 0) (.ptr 2 0) (.ptr 3 0) (.own 4)), (2, signB b k s (eTr h k2 id s2 l)), (5, .row 5 1 eB ([0#8, 0#8, 0#8, 2#8] ++ pubT h k2 id v))]
  mm := 1
def ppub_H : Cfg := ⟨[(55, hpub_c)], [], [], [], 10, 5, [], [], []⟩
theorem ppub_ok : ppub_c.Ok Tryz.prog 25 := by
  refine fn_ok ppub_H 5 rfl _ Tryz.func25 rfl rfl ⟨hpub_ok, trivial⟩ rfl rfl (by kernel_rfl) (fun _ => Nat.le_of_ble_eq_true rfl) ?_
  rintro ⟨⟨b, k, s⟩, ⟨h, k2, id, s2⟩, l, v⟩ hp hr
  try dsimp only [ppub_c] at hp
  try simp only [ppub_c, Rng, RngL, inR, and_true, true_and] at hr
  have hpp : hpub_c.pre ((b, k, s), (h, k2, id, s2), l, v) := hp
  repeat' (first | (with_reducible refine Unf.h ?_) | fail); all_goals try (conv => whnf); all_goals try (exfalso; omega)
  refine CallS.mk (c := hpub_c) (((b, k, s), (h, k2, id, s2), l, v)) ?_
  repeat' (first | (with_reducible refine Unf.h ?_) | ((conv => whnf); first | (refine Side.mk ?_ ?_; focus (first | with_reducible rfl | assumption)) | refine RetE.mk () trivial ?_ | refine Got.mk (fun _ _ => ?_) | refine retK_r ?_ | exact rfl) | fail); all_goals try (conv => whnf); all_goals try (exfalso; omega)
def awk20_c : Ctr where
  D := Unit
  args := fun _ => []
  res := fun _ _ => .bool true
def awk20_H : Cfg := ⟨[(9, dnew_c), (20, pfrm_c), (19, pop_c), (22, peps_c), (25, ppub_c)], [], [], [], 28, 0, [], [], []⟩
theorem awk20_ok : awk20_c.Ok Tryz.prog 15 := by
  refine fn_ok awk20_H 0 rfl _ Tryz.func15 rfl rfl ⟨dnew_ok, pfrm_ok, pop_ok, peps_ok, ppub_ok, trivial⟩ rfl rfl (by kernel_rfl) (fun _ => Nat.le_of_ble_eq_true rfl) ?_
  intro (_ : Unit) hp hr
  try dsimp only [awk20_c] at hp
  try simp only [awk20_c, Rng, RngL, inR, and_true, true_and] at hr
  have h1 : dnew_c.pre (20 : Nat) := show 20 ≤ 4096 by omega
  have hl : (List.replicate 20 zeroPg).length = 20 := List.length_replicate
  have h2 : pop_c.pre ((List.replicate 20 zeroPg, List.replicate 20 zeroPg), 1, 2, 3, seed42) := ⟨⟨by rw [hl]; omega, by rw [hl]; omega, rfl, zAtP (by omega), zAtP (by omega), zAtP (by omega)⟩, by omega, by omega, by omega, by omega, by omega, by omega⟩
  repeat' (first | (with_reducible refine Unf.h ?_) | fail); all_goals try (conv => whnf); all_goals try (exfalso; omega)
  refine CallS.mk (c := dnew_c) ((20 : Nat)) ?_
  repeat' (first | (with_reducible refine Unf.h ?_) | ((conv => whnf); first | (refine Side.mk ?_ ?_; focus (first | exact True.intro | assumption | (refine congrArg (SV.int _) ?_; omega))) | refine Got.mk (fun _ _ => ?_) | refine CallS.mk (c := pfrm_c) (()) ?_) | fail); all_goals try (conv => whnf); all_goals try (exfalso; omega)
  refine CallS.mk (c := pop_c) (((List.replicate 20 zeroPg, List.replicate 20 zeroPg), 1, 2, 3, seed42)) ?_
  repeat' (first | (with_reducible refine Unf.h ?_) | ((conv => whnf); first | refine Fork.mk (fun h => ?_) (fun h => ?_) | (refine Side.mk ?_ ?_; focus (first | with_reducible rfl | assumption | (refine congrArg (SV.int _) ?_; omega))) | refine Got.mk (fun _ _ => ?_)) | fail); all_goals try (conv => whnf); all_goals try (exfalso; omega)
  rename_i l hll
  have hll : l.length = 4 := hll
  obtain ⟨v, hv⟩ : ∃ v, (show List H256 from l)[1]? = some v := ⟨_, List.getElem?_eq_getElem (by show 1 < l.length; omega)⟩
  have hpp : ppub_c.pre ((2, 3, pSeed seed42), (1, 3, chId (pSeed seed42), chSd (pSeed seed42)), l, v) := hv
  have h60 : ([0#8, 0#8, 0#8, 2#8] ++ pubT 1 3 (chId (pSeed seed42)) v).length = 60 := by rw [List.length_append, pubT_len]; rfl
  refine CallS.mk (c := peps_c) ((seed42, [], [], [])) ?_
  repeat' (first | (with_reducible refine Unf.h ?_) | ((conv => whnf); first | refine Fork.mk (fun h => ?_) (fun h => ?_) | (refine Side.mk ?_ ?_; focus (first | with_reducible rfl | exact True.intro | (intros; (try simp only [lenS, inR, cutS, loI, hiI] at *); omega))) | refine RetE.mk () trivial ?_ | refine Got.mk (fun _ _ => ?_) | refine retK_r ?_ | exact rfl) | fail); all_goals try (conv => whnf); all_goals try (exfalso; omega)
  refine CallS.mk (c := ppub_c) (((2, 3, pSeed seed42), (1, 3, chId (pSeed seed42), chSd (pSeed seed42)), l, v)) ?_
  repeat' (first | (with_reducible refine Unf.h ?_) | ((conv => whnf); first | (refine Side.mk ?_ ?_; focus (first | with_reducible rfl | assumption)) | refine RetE.mk () trivial ?_ | refine Got.mk (fun _ _ => ?_) | refine retK_r ?_) | fail); all_goals try (conv => whnf); all_goals try (exfalso; omega)
  all_goals
    refine Side.mk (decide_eq_true (congrArg (fun n : Nat => (n : Int)) h60)) ?_
    repeat' (first | (with_reducible refine Unf.h ?_) | ((conv => whnf); exact rfl) | fail); all_goals try (conv => whnf); all_goals try (exfalso; omega)
def pnone_c : Ctr where
  D := (Int × Int × Int × H256) × Msg × Int
  args := fun ((t, b, k, s), m, n) => [.agg (eFo t b k s), .agg (eMsg m), .int .i64 n]
  res := fun _ _ => .bool true
def pnone_H : Cfg := ⟨[(15, awk20_c), (16, psubN_c), (17, pseaN_c), (18, psgnN_c), (20, pfrm_c), (19, popN_c), (19, popX_c), (9, dnew_c), (21, psrvN_c), (22, pepsN_c), (23, pwaiN_c), (24, pstaN_c), (25, ppubN_c)], [], [], [], 117, 0, [], [], []⟩
set_option maxHeartbeats 4000000 in
theorem pnone_ok : pnone_c.Ok Tryz.prog 4 := by
  refine fn_ok pnone_H 0 rfl _ Tryz.func4 rfl rfl ⟨awk20_ok, psubN_ok, pseaN_ok, psgnN_ok, pfrm_ok, popN_ok, popX_ok, dnew_ok, psrvN_ok, pepsN_ok, pwaiN_ok, pstaN_ok, ppubN_ok, trivial⟩ rfl rfl (by kernel_rfl) (fun _ => Nat.le_of_ble_eq_true rfl) ?_
  rintro ⟨⟨t, b, k, s⟩, m, n⟩ hp hr
  try dsimp only [pnone_c] at hp
  try simp only [pnone_c, Rng, RngL, inR, and_true, true_and] at hr
  clear hr
  have hpn : popN_c.pre (1, 2, 3, seed42) := ⟨by omega, by omega, by omega, by omega, by omega, by omega⟩
  have hd : dnew_c.pre (20 : Nat) := show 20 ≤ 4096 by omega
  repeat' (first | (with_reducible refine Unf.h ?_) | ((conv => whnf); first | refine Fork.mk (fun h => ?_) (fun h => ?_) | (refine Side.mk ?_ ?_; focus (first | with_reducible rfl | exact True.intro)) | refine RetE.mk () trivial ?_ | refine Got.mk (fun _ _ => ?_) | refine retK_r ?_ | exact rfl | refine CallS.mk (c := awk20_c) (()) ?_) | fail); all_goals try (conv => whnf); all_goals try (exfalso; omega)
  repeat' (first | (with_reducible refine Unf.h ?_) | ((conv => whnf); first | (refine Side.mk ?_ ?_; focus (first | with_reducible rfl | exact True.intro)) | refine Got.mk (fun _ _ => ?_) | refine CallS.mk (c := psubN_c) (m) ?_ | refine CallS.mk (c := pseaN_c) (n) ?_ | refine CallS.mk (c := psgnN_c) (n) ?_ | refine CallS.mk (c := pfrm_c) (()) ?_) | fail); all_goals try (conv => whnf); all_goals try (exfalso; omega)
  refine Or2.l (CallS.mk (c := popN_c) ((1, 2, 3, seed42)) ?_)
  repeat' (first | (with_reducible refine Unf.h ?_) | ((conv => whnf); first | (refine Side.mk ?_ ?_; focus (first | with_reducible rfl | assumption | (refine congrArg (SV.int _) ?_; omega))) | refine Got.mk (fun _ _ => ?_) | refine CallS.mk (c := dnew_c) ((20 : Nat)) ?_) | fail); all_goals try (conv => whnf); all_goals try (exfalso; omega)
  have hpx : popX_c.pre ((List.replicate 20 zeroPg, List.replicate 20 zeroPg), max t 5, b, k, s) := .inr (fun h => by omega)
  refine Or2.r (CallS.mk (c := popX_c) (((List.replicate 20 zeroPg, List.replicate 20 zeroPg), max t 5, b, k, s)) ?_)
  repeat' (first | (with_reducible refine Unf.h ?_) | ((conv => whnf); first | refine Fork.mk (fun h => ?_) (fun h => ?_) | (refine Side.mk ?_ ?_; focus (first | with_reducible rfl | exact True.intro | assumption | exact dT (by omega))) | refine RetE.mk () trivial ?_ | refine Got.mk (fun _ _ => ?_) | refine retK_r ?_ | exact rfl | refine CallS.mk (c := psrvN_c) (m) ?_ | refine CallS.mk (c := pepsN_c) (()) ?_ | refine CallS.mk (c := pstaN_c) (()) ?_ | refine CallS.mk (c := ppubN_c) (()) ?_) | fail); all_goals try (conv => whnf); all_goals try (exfalso; omega)
end Go.Proofs.YtinpcefioadkcaaGreatDoor

namespace Go.Proofs.YtinpcefioadkcaaGreatDoor
set_option linter.all false
open Go.RowKit Go.ChangeShapes Go.WideShapes Go.ChangeAt
section
variable {H : Type} {enc : TypeId × Value → H} {W : World} {spare : Nat → Bool} {held : Bool}
theorem o_MHd : Opens Tryz.prog enc W spare held 27 eMHd :=
  (o_struct (i := ⟨.st [(0, 3), (1, 3), (2, 25), (34, 25)], 66, 80⟩) rfl rfl
    (o_field (off := 0) (off2 := 1) (j := ⟨.int .i64, 1, 8⟩) rfl (o_i64 (t := 3) (i := ⟨.int .i64, 1, 8⟩) rfl rfl) (fun _ => sizQ_spec rfl) rfl
    (o_field (off := 1) (off2 := 2) (j := ⟨.int .i64, 1, 8⟩) rfl (o_i64 (t := 3) (i := ⟨.int .i64, 1, 8⟩) rfl rfl) (fun _ => sizQ_spec rfl) rfl
    (o_field (off := 2) (off2 := 34) (j := ⟨.ar 32 5, 32, 32⟩) rfl (o_arr8 (t := 25) (i := ⟨.ar 32 5, 32, 32⟩) (j := ⟨.int .u8, 1, 1⟩) rfl rfl rfl rfl rfl rfl) (fun _ => sizQ_spec rfl) rfl
    (o_last (off := 34) (j := ⟨.ar 32 5, 32, 32⟩) rfl (o_arr8 (t := 25) (i := ⟨.ar 32 5, 32, 32⟩) (j := ⟨.int .u8, 1, 1⟩) rfl rfl rfl rfl rfl rfl) (fun _ => sizQ_spec rfl))))) (fun _ => sizQ_spec rfl) (by kernel_rfl)).map (fun p => (⟨p.1, p.2.1, p.2.2.1, p.2.2.2⟩ : MHd)) (fun _ => rfl)
theorem o_Sgd : Opens Tryz.prog enc W spare held 29 eSgd :=
  (o_struct (i := ⟨.st [(0, 27), (66, 23)], 67, 104⟩) rfl rfl
    (o_field (off := 0) (off2 := 66) (j := ⟨.st [(0, 3), (1, 3), (2, 25), (34, 25)], 66, 80⟩) rfl (o_MHd) (fun _ => sizQ_spec rfl) rfl
    (o_last (off := 66) (j := ⟨.sl 5, 1, 24⟩) rfl (o_slice (t := 23) (i := ⟨.sl 5, 1, 24⟩) (j := ⟨.int .u8, 1, 1⟩) (f := eB) rfl rfl rfl rfl rfl (o_uns (t := 5) (i := ⟨.int .u8, 1, 1⟩) (k := .u8) (w := 8) (mk := .u8) rfl rfl rfl rfl (fun _ _ => hc8)) (fun _ => sizQ_spec rfl)) (fun _ => sizQ_spec rfl))) (fun _ => sizQ_spec rfl) (by kernel_rfl)).map (fun p => (⟨p.1, p.2⟩ : Sgd)) (fun _ => rfl)
theorem o_Trl : Opens Tryz.prog enc W spare held 32 eTrl :=
  (o_struct (i := ⟨.st [(0, 30), (1, 30)], 2, 48⟩) rfl rfl
    (o_field (off := 0) (off2 := 1) (j := ⟨.sl 25, 1, 24⟩) rfl (o_slice (t := 30) (i := ⟨.sl 25, 1, 24⟩) (j := ⟨.ar 32 5, 32, 32⟩) (f := (fun v : Vector (BitVec 8) 32 => [.arr8 v])) rfl rfl rfl rfl rfl (o_arr8 (t := 25) (i := ⟨.ar 32 5, 32, 32⟩) (j := ⟨.int .u8, 1, 1⟩) rfl rfl rfl rfl rfl rfl) (fun _ => sizQ_spec rfl)) (fun _ => sizQ_spec rfl) rfl
    (o_last (off := 1) (j := ⟨.sl 25, 1, 24⟩) rfl (o_slice (t := 30) (i := ⟨.sl 25, 1, 24⟩) (j := ⟨.ar 32 5, 32, 32⟩) (f := (fun v : Vector (BitVec 8) 32 => [.arr8 v])) rfl rfl rfl rfl rfl (o_arr8 (t := 25) (i := ⟨.ar 32 5, 32, 32⟩) (j := ⟨.int .u8, 1, 1⟩) rfl rfl rfl rfl rfl rfl) (fun _ => sizQ_spec rfl)) (fun _ => sizQ_spec rfl))) (fun _ => sizQ_spec rfl) (by kernel_rfl)).map (fun p => (⟨p.1, p.2⟩ : Trl)) (fun _ => rfl)
theorem o_Pfz : Opens Tryz.prog enc W spare held 35 ePfz :=
  (o_struct (i := ⟨.st [(0, 3), (1, 25)], 33, 40⟩) rfl rfl
    (o_field (off := 0) (off2 := 1) (j := ⟨.int .i64, 1, 8⟩) rfl (o_i64 (t := 3) (i := ⟨.int .i64, 1, 8⟩) rfl rfl) (fun _ => sizQ_spec rfl) rfl
    (o_last (off := 1) (j := ⟨.ar 32 5, 32, 32⟩) rfl (o_arr8 (t := 25) (i := ⟨.ar 32 5, 32, 32⟩) (j := ⟨.int .u8, 1, 1⟩) rfl rfl rfl rfl rfl rfl) (fun _ => sizQ_spec rfl))) (fun _ => sizQ_spec rfl) (by kernel_rfl)).map (fun p => (⟨p.1, p.2⟩ : Pfz)) (fun _ => rfl)
theorem o_Stpz : Opens Tryz.prog enc W spare held 277 eStpz :=
  (o_struct (i := ⟨.st [(0, 35), (33, 25)], 65, 72⟩) rfl rfl
    (o_field (off := 0) (off2 := 33) (j := ⟨.st [(0, 3), (1, 25)], 33, 40⟩) rfl (o_Pfz) (fun _ => sizQ_spec rfl) rfl
    (o_last (off := 33) (j := ⟨.ar 32 5, 32, 32⟩) rfl (o_arr8 (t := 25) (i := ⟨.ar 32 5, 32, 32⟩) (j := ⟨.int .u8, 1, 1⟩) rfl rfl rfl rfl rfl rfl) (fun _ => sizQ_spec rfl))) (fun _ => sizQ_spec rfl) (by kernel_rfl)).map (fun p => (⟨p.1, p.2⟩ : Stpz)) (fun _ => rfl)
theorem o_Prfz : Opens Tryz.prog enc W spare held 37 ePrfz :=
  (o_struct (i := ⟨.st [(0, 33), (1, 3), (2, 25), (34, 25), (66, 35), (99, 25), (131, 25)], 163, 200⟩) rfl rfl
    (o_field (off := 0) (off2 := 1) (j := ⟨.sl 277, 1, 24⟩) rfl (o_slice (t := 33) (i := ⟨.sl 277, 1, 24⟩) (j := ⟨.st [(0, 35), (33, 25)], 65, 72⟩) (f := eStpz) rfl rfl rfl rfl rfl (o_Stpz) (fun _ => sizQ_spec rfl)) (fun _ => sizQ_spec rfl) rfl
    (o_field (off := 1) (off2 := 2) (j := ⟨.int .i64, 1, 8⟩) rfl (o_i64 (t := 3) (i := ⟨.int .i64, 1, 8⟩) rfl rfl) (fun _ => sizQ_spec rfl) rfl
    (o_field (off := 2) (off2 := 34) (j := ⟨.ar 32 5, 32, 32⟩) rfl (o_arr8 (t := 25) (i := ⟨.ar 32 5, 32, 32⟩) (j := ⟨.int .u8, 1, 1⟩) rfl rfl rfl rfl rfl rfl) (fun _ => sizQ_spec rfl) rfl
    (o_field (off := 34) (off2 := 66) (j := ⟨.ar 32 5, 32, 32⟩) rfl (o_arr8 (t := 25) (i := ⟨.ar 32 5, 32, 32⟩) (j := ⟨.int .u8, 1, 1⟩) rfl rfl rfl rfl rfl rfl) (fun _ => sizQ_spec rfl) rfl
    (o_field (off := 66) (off2 := 99) (j := ⟨.st [(0, 3), (1, 25)], 33, 40⟩) rfl (o_Pfz) (fun _ => sizQ_spec rfl) rfl
    (o_field (off := 99) (off2 := 131) (j := ⟨.ar 32 5, 32, 32⟩) rfl (o_arr8 (t := 25) (i := ⟨.ar 32 5, 32, 32⟩) (j := ⟨.int .u8, 1, 1⟩) rfl rfl rfl rfl rfl rfl) (fun _ => sizQ_spec rfl) rfl
    (o_last (off := 131) (j := ⟨.ar 32 5, 32, 32⟩) rfl (o_arr8 (t := 25) (i := ⟨.ar 32 5, 32, 32⟩) (j := ⟨.int .u8, 1, 1⟩) rfl rfl rfl rfl rfl rfl) (fun _ => sizQ_spec rfl)))))))) (fun _ => sizQ_spec rfl) (by kernel_rfl)).map (fun p => (⟨p.1, p.2.1, p.2.2.1, p.2.2.2.1, p.2.2.2.2.1, p.2.2.2.2.2.1, p.2.2.2.2.2.2⟩ : Prfz)) (fun _ => rfl)
theorem o_MVer : Opens Tryz.prog enc W spare held 75 eMVer :=
  (o_struct (i := ⟨.st [(0, 3), (1, 3), (2, 25), (34, 25), (66, 23)], 67, 104⟩) rfl rfl
    (o_field (off := 0) (off2 := 1) (j := ⟨.int .i64, 1, 8⟩) rfl (o_i64 (t := 3) (i := ⟨.int .i64, 1, 8⟩) rfl rfl) (fun _ => sizQ_spec rfl) rfl
    (o_field (off := 1) (off2 := 2) (j := ⟨.int .i64, 1, 8⟩) rfl (o_i64 (t := 3) (i := ⟨.int .i64, 1, 8⟩) rfl rfl) (fun _ => sizQ_spec rfl) rfl
    (o_field (off := 2) (off2 := 34) (j := ⟨.ar 32 5, 32, 32⟩) rfl (o_arr8 (t := 25) (i := ⟨.ar 32 5, 32, 32⟩) (j := ⟨.int .u8, 1, 1⟩) rfl rfl rfl rfl rfl rfl) (fun _ => sizQ_spec rfl) rfl
    (o_field (off := 34) (off2 := 66) (j := ⟨.ar 32 5, 32, 32⟩) rfl (o_arr8 (t := 25) (i := ⟨.ar 32 5, 32, 32⟩) (j := ⟨.int .u8, 1, 1⟩) rfl rfl rfl rfl rfl rfl) (fun _ => sizQ_spec rfl) rfl
    (o_last (off := 66) (j := ⟨.sl 5, 1, 24⟩) rfl (o_slice (t := 23) (i := ⟨.sl 5, 1, 24⟩) (j := ⟨.int .u8, 1, 1⟩) (f := eB) rfl rfl rfl rfl rfl (o_uns (t := 5) (i := ⟨.int .u8, 1, 1⟩) (k := .u8) (w := 8) (mk := .u8) rfl rfl rfl rfl (fun _ _ => hc8)) (fun _ => sizQ_spec rfl)) (fun _ => sizQ_spec rfl)))))) (fun _ => sizQ_spec rfl) (by kernel_rfl)).map (fun p => (⟨p.1, p.2.1, p.2.2.1, p.2.2.2.1, p.2.2.2.2⟩ : MVer)) (fun _ => rfl)
theorem o_Drow : Opens Tryz.prog enc W spare held 314 eDrow :=
  (o_struct (i := ⟨.st [(0, 4), (1, 25), (33, 25), (65, 35), (98, 25), (130, 25)], 162, 176⟩) rfl rfl
    (o_field (off := 0) (off2 := 1) (j := ⟨.bool, 1, 1⟩) rfl (o_bool (t := 4) (i := ⟨.bool, 1, 1⟩) rfl rfl) (fun _ => sizQ_spec rfl) rfl
    (o_field (off := 1) (off2 := 33) (j := ⟨.ar 32 5, 32, 32⟩) rfl (o_arr8 (t := 25) (i := ⟨.ar 32 5, 32, 32⟩) (j := ⟨.int .u8, 1, 1⟩) rfl rfl rfl rfl rfl rfl) (fun _ => sizQ_spec rfl) rfl
    (o_field (off := 33) (off2 := 65) (j := ⟨.ar 32 5, 32, 32⟩) rfl (o_arr8 (t := 25) (i := ⟨.ar 32 5, 32, 32⟩) (j := ⟨.int .u8, 1, 1⟩) rfl rfl rfl rfl rfl rfl) (fun _ => sizQ_spec rfl) rfl
    (o_field (off := 65) (off2 := 98) (j := ⟨.st [(0, 3), (1, 25)], 33, 40⟩) rfl (o_Pfz) (fun _ => sizQ_spec rfl) rfl
    (o_field (off := 98) (off2 := 130) (j := ⟨.ar 32 5, 32, 32⟩) rfl (o_arr8 (t := 25) (i := ⟨.ar 32 5, 32, 32⟩) (j := ⟨.int .u8, 1, 1⟩) rfl rfl rfl rfl rfl rfl) (fun _ => sizQ_spec rfl) rfl
    (o_last (off := 130) (j := ⟨.ar 32 5, 32, 32⟩) rfl (o_arr8 (t := 25) (i := ⟨.ar 32 5, 32, 32⟩) (j := ⟨.int .u8, 1, 1⟩) rfl rfl rfl rfl rfl rfl) (fun _ => sizQ_spec rfl))))))) (fun _ => sizQ_spec rfl) (by kernel_rfl)).map (fun p => (⟨p.1, p.2.1, p.2.2.1, p.2.2.2.1, p.2.2.2.2.1, p.2.2.2.2.2⟩ : Drow)) (fun _ => rfl)
theorem o_MNws : Opens Tryz.prog enc W spare held 77 eMNws :=
  (o_struct (i := ⟨.st [(0, 23), (1, 75)], 68, 128⟩) rfl rfl
    (o_field (off := 0) (off2 := 1) (j := ⟨.sl 5, 1, 24⟩) rfl (o_slice (t := 23) (i := ⟨.sl 5, 1, 24⟩) (j := ⟨.int .u8, 1, 1⟩) (f := eB) rfl rfl rfl rfl rfl (o_uns (t := 5) (i := ⟨.int .u8, 1, 1⟩) (k := .u8) (w := 8) (mk := .u8) rfl rfl rfl rfl (fun _ _ => hc8)) (fun _ => sizQ_spec rfl)) (fun _ => sizQ_spec rfl) rfl
    (o_last (off := 1) (j := ⟨.st [(0, 3), (1, 3), (2, 25), (34, 25), (66, 23)], 67, 104⟩) rfl (o_MVer) (fun _ => sizQ_spec rfl))) (fun _ => sizQ_spec rfl) (by kernel_rfl)).map (fun p => (⟨p.1, p.2⟩ : MNws)) (fun _ => rfl)
set_option maxHeartbeats 8000000 in
theorem o_Msg : Opens Tryz.prog enc W spare held 42 eMsg :=
  (o_struct (i := ⟨.st [(0, 3), (1, 3), (2, 3), (3, 3), (4, 3), (5, 3), (6, 22), (7, 23), (8, 23), (9, 29), (76, 32), (78, 32), (80, 25), (112, 37), (275, 38), (276, 39), (277, 40), (278, 30)], 279, 632⟩) rfl rfl
    (o_field (off := 0) (off2 := 1) (j := ⟨.int .i64, 1, 8⟩) rfl (o_i64 (t := 3) (i := ⟨.int .i64, 1, 8⟩) rfl rfl) (fun _ => sizQ_spec rfl) rfl
    (o_field (off := 1) (off2 := 2) (j := ⟨.int .i64, 1, 8⟩) rfl (o_i64 (t := 3) (i := ⟨.int .i64, 1, 8⟩) rfl rfl) (fun _ => sizQ_spec rfl) rfl
    (o_field (off := 2) (off2 := 3) (j := ⟨.int .i64, 1, 8⟩) rfl (o_i64 (t := 3) (i := ⟨.int .i64, 1, 8⟩) rfl rfl) (fun _ => sizQ_spec rfl) rfl
    (o_field (off := 3) (off2 := 4) (j := ⟨.int .i64, 1, 8⟩) rfl (o_i64 (t := 3) (i := ⟨.int .i64, 1, 8⟩) rfl rfl) (fun _ => sizQ_spec rfl) rfl
    (o_field (off := 4) (off2 := 5) (j := ⟨.int .i64, 1, 8⟩) rfl (o_i64 (t := 3) (i := ⟨.int .i64, 1, 8⟩) rfl rfl) (fun _ => sizQ_spec rfl) rfl
    (o_field (off := 5) (off2 := 6) (j := ⟨.int .i64, 1, 8⟩) rfl (o_i64 (t := 3) (i := ⟨.int .i64, 1, 8⟩) rfl rfl) (fun _ => sizQ_spec rfl) rfl
    (o_field (off := 6) (off2 := 7) (j := ⟨.int .i64, 1, 8⟩) rfl (o_i64 (t := 22) (i := ⟨.int .i64, 1, 8⟩) rfl rfl) (fun _ => sizQ_spec rfl) rfl
    (o_field (off := 7) (off2 := 8) (j := ⟨.sl 5, 1, 24⟩) rfl (o_slice (t := 23) (i := ⟨.sl 5, 1, 24⟩) (j := ⟨.int .u8, 1, 1⟩) (f := eB) rfl rfl rfl rfl rfl (o_uns (t := 5) (i := ⟨.int .u8, 1, 1⟩) (k := .u8) (w := 8) (mk := .u8) rfl rfl rfl rfl (fun _ _ => hc8)) (fun _ => sizQ_spec rfl)) (fun _ => sizQ_spec rfl) rfl
    (o_field (off := 8) (off2 := 9) (j := ⟨.sl 5, 1, 24⟩) rfl (o_slice (t := 23) (i := ⟨.sl 5, 1, 24⟩) (j := ⟨.int .u8, 1, 1⟩) (f := eB) rfl rfl rfl rfl rfl (o_uns (t := 5) (i := ⟨.int .u8, 1, 1⟩) (k := .u8) (w := 8) (mk := .u8) rfl rfl rfl rfl (fun _ _ => hc8)) (fun _ => sizQ_spec rfl)) (fun _ => sizQ_spec rfl) rfl
    (o_field (off := 9) (off2 := 76) (j := ⟨.st [(0, 27), (66, 23)], 67, 104⟩) rfl (o_Sgd) (fun _ => sizQ_spec rfl) rfl
    (o_field (off := 76) (off2 := 78) (j := ⟨.st [(0, 30), (1, 30)], 2, 48⟩) rfl (o_Trl) (fun _ => sizQ_spec rfl) rfl
    (o_field (off := 78) (off2 := 80) (j := ⟨.st [(0, 30), (1, 30)], 2, 48⟩) rfl (o_Trl) (fun _ => sizQ_spec rfl) rfl
    (o_field (off := 80) (off2 := 112) (j := ⟨.ar 32 5, 32, 32⟩) rfl (o_arr8 (t := 25) (i := ⟨.ar 32 5, 32, 32⟩) (j := ⟨.int .u8, 1, 1⟩) rfl rfl rfl rfl rfl rfl) (fun _ => sizQ_spec rfl) rfl
    (o_field (off := 112) (off2 := 275) (j := ⟨.st [(0, 33), (1, 3), (2, 25), (34, 25), (66, 35), (99, 25), (131, 25)], 163, 200⟩) rfl (o_Prfz) (fun _ => sizQ_spec rfl) rfl
    (o_field (off := 275) (off2 := 276) (j := ⟨.sl 75, 1, 24⟩) rfl (o_slice (t := 38) (i := ⟨.sl 75, 1, 24⟩) (j := ⟨.st [(0, 3), (1, 3), (2, 25), (34, 25), (66, 23)], 67, 104⟩) (f := eMVer) rfl rfl rfl rfl rfl (o_MVer) (fun _ => sizQ_spec rfl)) (fun _ => sizQ_spec rfl) rfl
    (o_field (off := 276) (off2 := 277) (j := ⟨.sl 314, 1, 24⟩) rfl (o_slice (t := 39) (i := ⟨.sl 314, 1, 24⟩) (j := ⟨.st [(0, 4), (1, 25), (33, 25), (65, 35), (98, 25), (130, 25)], 162, 176⟩) (f := eDrow) rfl rfl rfl rfl rfl (o_Drow) (fun _ => sizQ_spec rfl)) (fun _ => sizQ_spec rfl) rfl
    (o_field (off := 277) (off2 := 278) (j := ⟨.sl 77, 1, 24⟩) rfl (o_slice (t := 40) (i := ⟨.sl 77, 1, 24⟩) (j := ⟨.st [(0, 23), (1, 75)], 68, 128⟩) (f := eMNws) rfl rfl rfl rfl rfl (o_MNws) (fun _ => sizQ_spec rfl)) (fun _ => sizQ_spec rfl) rfl
    (o_last (off := 278) (j := ⟨.sl 25, 1, 24⟩) rfl (o_slice (t := 30) (i := ⟨.sl 25, 1, 24⟩) (j := ⟨.ar 32 5, 32, 32⟩) (f := (fun v : Vector (BitVec 8) 32 => [.arr8 v])) rfl rfl rfl rfl rfl (o_arr8 (t := 25) (i := ⟨.ar 32 5, 32, 32⟩) (j := ⟨.int .u8, 1, 1⟩) rfl rfl rfl rfl rfl rfl) (fun _ => sizQ_spec rfl)) (fun _ => sizQ_spec rfl))))))))))))))))))) (fun _ => sizQ_spec rfl) (by kernel_rfl)).map (fun p => (⟨p.1, p.2.1, p.2.2.1, p.2.2.2.1, p.2.2.2.2.1, p.2.2.2.2.2.1, p.2.2.2.2.2.2.1, p.2.2.2.2.2.2.2.1, p.2.2.2.2.2.2.2.2.1, p.2.2.2.2.2.2.2.2.2.1, p.2.2.2.2.2.2.2.2.2.2.1, p.2.2.2.2.2.2.2.2.2.2.2.1, p.2.2.2.2.2.2.2.2.2.2.2.2.1, p.2.2.2.2.2.2.2.2.2.2.2.2.2.1, p.2.2.2.2.2.2.2.2.2.2.2.2.2.2.1, p.2.2.2.2.2.2.2.2.2.2.2.2.2.2.2.1, p.2.2.2.2.2.2.2.2.2.2.2.2.2.2.2.2.1, p.2.2.2.2.2.2.2.2.2.2.2.2.2.2.2.2.2⟩ : Msg)) (fun _ => rfl)
end
end Go.Proofs.YtinpcefioadkcaaGreatDoor

namespace Go.Proofs.YtinpcefioadkcaaGreatDoor
set_option linter.all false
open Go.RowKit Go.ChangeShapes Go.WideShapes Go.ChangeAt
theorem Tryz.own : ownKnob Tryz.prog.godebug = none := by kernel_rfl
theorem Tryz.laidOut : laidOutB Tryz.prog = true := by kernel_rfl
def laidL {H : Type} : List (String × DataW H) := [("math/bits.deBruijn32tab", Rows.laid_math_bits_deBruijn32tab), ("math/bits.deBruijn64tab", Rows.laid_math_bits_deBruijn64tab), ("rolodex/hash.begin", Rows.laid_rolodex_hash_begin), ("rolodex/hash.rounds", Rows.laid_rolodex_hash_rounds), ("rolodex/lmots.forms", Rows.laid_rolodex_lmots_forms)]
theorem gBegin : Tryz.prog.globalNamed "rolodex/hash.begin" = some 0 := by kernel_rfl
theorem gForms : Tryz.prog.globalNamed "rolodex/lmots.forms" = some 2 := by kernel_rfl
theorem tForms : (Tryz.prog.globals[2]?).map (·.type) = some 360 := by kernel_rfl
theorem dForms : (Rows.laid_rolodex_lmots_forms : DataW Unit) = .agg (gv2.map fun b => .agg [.lit (.int .i64 b.1), .lit (.int .i64 b.2.1), .lit (.int .i64 b.2.2)]) := by kernel_rfl
theorem gRounds : Tryz.prog.globalNamed "rolodex/hash.rounds" = some 1 := by kernel_rfl
theorem tBegin : (Tryz.prog.globals[0]?).map (·.type) = some 262 := by kernel_rfl
theorem tRounds : (Tryz.prog.globals[1]?).map (·.type) = some 330 := by kernel_rfl
theorem dBegin : (Rows.laid_rolodex_hash_begin : DataW Unit) = .agg (gv0.toList.map fun b => .lit (.int .u32 (b.toNat : Int))) := by kernel_rfl
theorem dRounds : (Rows.laid_rolodex_hash_rounds : DataW Unit) = .agg (gv1.toList.map fun b => .lit (.int .u32 (b.toNat : Int))) := by kernel_rfl
theorem glob_arr32s {P : Program} [TabC P] {H : Type} {enc : TypeId × Value → H} {W : World} {spare : Nat → Bool} {held : Bool} {n : String} {g t e m f : Nat} {i j : TI} {cs : Array Value} {p : List MemPlace} {v : Vector (BitVec 32) m} (hg : P.globalNamed n = some g) (hv : W.var? P n = some cs) (ht : ty P t = some i) (hk : i.k = .ar m e) (hj : ty P e = some j) (hjk : j.k = .int .u32) (hj1 : j.size = 1) (hi : i.size = m)
    (hd : DataW.trod enc P W 0 spare held f t cs.toList = some (.agg (v.toList.map fun b => .lit (.int .u32 (b.toNat : Int))), p)) : (SV.fpt [.arr32 v]).hc W none0 sg0 [.pointer (some ⟨g, 0, none⟩)] ∧ ∃ C T fr, W.heap[g]? = some (.cells C T fr) ∧ C.size = szL [SV.arr32 v] := by
  refine ⟨glob_arr32 hg hv ht hk hj hjk hj1 hi hd, ?_⟩
  obtain ⟨u, hcs, hx⟩ := arr_cells (w := 32) ht hk hj hjk hj1 hi rfl rfl hd
  simp only [World.var?, hg, Option.bind_some] at hv
  split at hv
  · rename_i C T fr hh
    have e := Option.some.inj hv
    refine ⟨C, T, fr, hh, ?_⟩
    have hl := congrArg List.length hcs
    rw [e]
    simpa [szL, SV.sz] using hl
  · cases hv
theorem trip_cells {P : Program} [TabC P] {H : Type} {enc : TypeId × Value → H} {W : World} {spare : Nat → Bool} {held : Bool} {e s : Nat} {j q : TI} (hj : ty P e = some j) (hjk : j.k = .st [(0, s), (1, s), (2, s)]) (hj3 : j.size = 3) (hq : ty P s = some q) (hqk : q.k = .int .i64) (hq1 : q.size = 1) {fuel : Nat} {cs : List Value} {x : DataW H × List MemPlace} {a b c : Int}
    (hx : DataW.trod enc P W 0 spare held fuel e cs = some x) (he : x.1 = .agg [.lit (.int .i64 a), .lit (.int .i64 b), .lit (.int .i64 c)]) : cs = [.int .i64 a, .int .i64 b, .int .i64 c] ∧ inR a ∧ inR b ∧ inR c := by
  obtain ⟨gs, hu, hm⟩ := ty_struct hj hjk
  obtain ⟨xs, n, _, rfl, hlen, hxl, hel⟩ := DataW.trod_struct hu hx
  rw [ty_cells hj, hj3] at hlen
  obtain ⟨g0, g1, g2, hgs⟩ : ∃ g0 g1 g2, gs.toList = [g0, g1, g2] := by
    have := congrArg List.length hm
    rw [List.length_map] at this
    match hh : gs.toList, this with
    | [g0, g1, g2], _ => exact ⟨g0, g1, g2, rfl⟩
  rw [hgs] at hm
  simp only [List.map_cons, List.map_nil, List.cons.injEq, Prod.mk.injEq, and_true] at hm
  obtain ⟨⟨o0, t0⟩, ⟨o1, t1⟩, o2, t2⟩ := hm
  have hsz : gs.size = 3 := by rw [← Array.length_toList, hgs]; rfl
  rw [hsz] at hxl
  obtain ⟨x0, x1, x2, rfl⟩ : ∃ x0 x1 x2, xs = [x0, x1, x2] := by
    match xs, hxl with
    | [x0, x1, x2], _ => exact ⟨x0, x1, x2, rfl⟩
  obtain ⟨c0, c1, c2, rfl⟩ : ∃ c0 c1 c2, cs = [c0, c1, c2] := by
    match cs, hlen with
    | [c0, c1, c2], _ => exact ⟨c0, c1, c2, rfl⟩
  have h0 := hel 0 g0 (by rw [← Array.getElem?_toList, hgs]; rfl)
  have h1 := hel 1 g1 (by rw [← Array.getElem?_toList, hgs]; rfl)
  have h2 := hel 2 g2 (by rw [← Array.getElem?_toList, hgs]; rfl)
  rw [o0, t0, ty_cells hq, hq1] at h0
  rw [o1, t1, ty_cells hq, hq1] at h1
  rw [o2, t2, ty_cells hq, hq1] at h2
  obtain ⟨s0, e0, e0', w0⟩ := DataW.trod_int (ty_int hq hqk) h0
  obtain ⟨s1, e1, e1', w1⟩ := DataW.trod_int (ty_int hq hqk) h1
  obtain ⟨s2, e2, e2', w2⟩ := DataW.trod_int (ty_int hq hqk) h2
  simp only [List.map_cons, List.map_nil, DataW.agg.injEq, List.cons.injEq, and_true] at he
  rw [e0', e1', e2'] at he
  simp only [DataW.lit.injEq, Lit.int.injEq, true_and] at he
  obtain ⟨rfl, rfl, rfl⟩ := he
  simp only [List.drop_zero, List.take_succ_cons, List.take_zero, List.drop_succ_cons, List.cons.injEq, and_true] at e0 e1 e2
  rw [e0, e1, e2]
  have rg : ∀ z : Int, (Lit.int IntKind.i64 z).wf = true → inR z := fun z hz => by
    simp [Lit.wf, IntKind.min, IntKind.max, IntKind.signed, IntKind.bits] at hz
    unfold inR; omega
  exact ⟨rfl, rg _ w0, rg _ w1, rg _ w2⟩
theorem glob_arr3I {P : Program} [TabC P] {H : Type} {enc : TypeId × Value → H} {W : World} {spare : Nat → Bool} {held : Bool} {n : String} {g t e s m f : Nat} {i j q : TI} {cs : Array Value} {p : List MemPlace} {gv : List (Int × Int × Int)} (hg : P.globalNamed n = some g) (hv : W.var? P n = some cs) (ht : ty P t = some i) (hk : i.k = .ar m e) (hj : ty P e = some j) (hjk : j.k = .st [(0, s), (1, s), (2, s)]) (hj3 : j.size = 3) (hq : ty P s = some q) (hqk : q.k = .int .i64) (hq1 : q.size = 1) (hi : i.size = m * 3) (hl : gv.length = m)
    (hd : DataW.trod enc P W 0 spare held f t cs.toList = some (.agg (gv.map fun b => .agg [.lit (.int .i64 b.1), .lit (.int .i64 b.2.1), .lit (.int .i64 b.2.2)]), p)) : (SV.fpt [.arrG 3 e3I gv]).hc W none0 sg0 [.pointer (some ⟨g, 0, none⟩)] ∧ ∃ C T fr, W.heap[g]? = some (.cells C T fr) ∧ C.size = szL [SV.arrG 3 e3I gv] := by
  obtain ⟨xs, k, _, hx1, hlen, hxl, hel⟩ := DataW.trod_array (ty_array ht hk) hd
  rw [ty_cells ht, hi] at hlen
  simp only [Prod.mk.injEq, DataW.agg.injEq] at hx1
  simp only [World.var?, hg, Option.bind_some] at hv
  split at hv
  · rename_i C T fr hh
    have e := Option.some.inj hv
    refine ⟨?_, C, T, fr, hh, by rw [e]; simp [szL, SV.sz] at hlen ⊢; omega⟩
    simp only [SV.hc]
    refine ⟨g, 0, rfl, fun h => h, C, T, fr, hh, ?_⟩
    rw [List.drop_zero, e]
    refine ⟨cs.toList, [], ?_, ?_, rfl⟩
    · rw [List.append_nil, List.take_of_length_le (by rw [hlen, ← hl]; simp [szL, SV.sz])]
    · simp only [SV.hc]
      refine ⟨by rw [hlen, hl], fun r hr => ?_⟩
      have h1 := hel r (by omega)
      rw [ty_cells hj, hj3] at h1
      have hr' : r < xs.length := by omega
      rw [List.getElem?_eq_getElem hr'] at h1
      have h2 : (xs[r]).1 = .agg [.lit (.int .i64 gv[r].1), .lit (.int .i64 gv[r].2.1), .lit (.int .i64 gv[r].2.2)] := by
        have := congrArg (fun l => l[r]?) hx1.1
        simp only [List.getElem?_map, List.getElem?_eq_getElem hr', List.getElem?_eq_getElem hr, Option.map_some, Option.some.injEq] at this
        exact this.symm
      obtain ⟨h3, r1, r2, r3⟩ := trip_cells hj hjk hj3 hq hqk hq1 h1 h2
      rw [h3]
      exact ⟨[_], [_, _], rfl, by simp only [SV.hc]; exact ⟨trivial, fun _ => r1⟩, [_], [_], rfl, by simp only [SV.hc]; exact ⟨trivial, fun _ => r2⟩, [_], [], rfl, by simp only [SV.hc]; exact ⟨trivial, fun _ => r3⟩, rfl⟩
  · cases hv
theorem glob_of_laid {W : World} (h : laidMetH Tryz.prog laidL W) : Glob Tryz.prog W none0 := by
  rw [MakeChecks.laidMetH_plain _ _ _ (by kernel_rfl)] at h
  have h : laidMet Tryz.prog [("rolodex/hash.begin", Rows.laid_rolodex_hash_begin), ("rolodex/hash.rounds", Rows.laid_rolodex_hash_rounds), ("rolodex/lmots.forms", Rows.laid_rolodex_lmots_forms)] W := laidMet.tail (laidMet.tail h)
  obtain ⟨ps, ⟨g0, t0, cs0, f0, p0, q0, hg0, ht0, hv0, hd0, ⟨g1, t1, cs1, f1, p1, q1, hg1, ht1, hv1, hd1, ⟨g2, t2, cs2, f2, p2, q2, hg2, ht2, hv2, hd2, _, _⟩, _⟩, _⟩, _, _⟩ := h
  obtain rfl := Option.some.inj (gBegin.symm.trans hg0)
  obtain rfl := Option.some.inj (gRounds.symm.trans hg1)
  obtain rfl := Option.some.inj (tBegin.symm.trans ht0)
  obtain rfl := Option.some.inj (tRounds.symm.trans ht1)
  obtain rfl := Option.some.inj (gForms.symm.trans hg2)
  obtain rfl := Option.some.inj (tForms.symm.trans ht2)
  rw [dForms] at hd2
  rw [dBegin] at hd0
  rw [dRounds] at hd1
  intro g ps hm
  have hm' : (g, ps) = (0, [SV.arr32 gv0]) ∨ (g, ps) = (1, [SV.arr32 gv1]) ∨ (g, ps) = (2, [SV.arrG 3 e3I gv2]) := by
    have e : TabC.gl Tryz.prog = [(0, [SV.arr32 gv0]), (1, [SV.arr32 gv1]), (2, [SV.arrG 3 e3I gv2])] := rfl
    rw [e] at hm
    simpa using hm
  rcases hm' with e | e | e
  · cases e
    exact glob_arr32s (i := ⟨.ar 8 136, 8, 32⟩) (j := ⟨.int .u32, 1, 4⟩) hg0 hv0 rfl rfl rfl rfl rfl rfl hd0
  · cases e
    exact glob_arr32s (i := ⟨.ar 64 136, 64, 256⟩) (j := ⟨.int .u32, 1, 4⟩) hg1 hv1 rfl rfl rfl rfl rfl rfl hd1
  · cases e
    exact glob_arr3I (i := ⟨.ar 5 323, 15, 120⟩) (j := ⟨.st [(0, 3), (1, 3), (2, 3)], 3, 24⟩) (q := ⟨.int .i64, 1, 8⟩) hg2 hv2 rfl rfl rfl rfl rfl rfl rfl rfl rfl rfl hd2
theorem door_met (os : Os) (args : Array Value) : laidMetH Tryz.prog laidL ((World.doorLaid Tryz.prog 400 os).forCall (fun _ _ => 0) ⟨#[], args, []⟩).memory :=
  laidMetH_of_parts3 (fuel := 8) (laidMet_of_run' 8 (by kernel_rfl) (by kernel_rfl)) (by kernel_rfl) (by kernel_rfl)
section
variable {H : Type} {enc : TypeId × Value → H} {W : World} {spare : Nat → Bool} {held : Bool}
theorem o_form20 : Opens Tryz.prog enc W spare held 60 (fun p : Int × Int × Int × Vector (BitVec 8) 32 => [.int .i64 p.1, .int .i64 p.2.1, .int .i64 p.2.2.1, .arr8 p.2.2.2]) :=
  (o_struct (i := ⟨.st [(0, 3), (1, 3), (2, 3), (3, 25)], 35, 56⟩) rfl rfl
    (o_field (off := 0) (off2 := 1) (j := ⟨.int .i64, 1, 8⟩) rfl (o_i64 (t := 3) (i := ⟨.int .i64, 1, 8⟩) rfl rfl) (fun _ => sizQ_spec rfl) rfl
    (o_field (off := 1) (off2 := 2) (j := ⟨.int .i64, 1, 8⟩) rfl (o_i64 (t := 3) (i := ⟨.int .i64, 1, 8⟩) rfl rfl) (fun _ => sizQ_spec rfl) rfl
    (o_field (off := 2) (off2 := 3) (j := ⟨.int .i64, 1, 8⟩) rfl (o_i64 (t := 3) (i := ⟨.int .i64, 1, 8⟩) rfl rfl) (fun _ => sizQ_spec rfl) rfl
    (o_last (off := 3) (j := ⟨.ar 32 5, 32, 32⟩) rfl (o_arr8 (t := 25) (i := ⟨.ar 32 5, 32, 32⟩) (j := ⟨.int .u8, 1, 1⟩) rfl rfl rfl rfl rfl rfl) (fun _ => sizQ_spec rfl))))) (fun _ => sizQ_spec rfl) (by kernel_rfl)).map (fun p => p) (fun _ => rfl)
end
end Go.Proofs.YtinpcefioadkcaaGreatDoor

import Derived.Test.YtinpcefioadkcaaGreatDoorZLRNone24
import Derived.Stop.LaidErr
import Derived.Lay
namespace Go.Proofs.YtinpcefioadkcaaGreatDoor
set_option linter.all false
open Go.RowKit
def vopZ_c : Ctr where
  D := List Pg × List Pg
  pre := fun (L, S) => 4 ≤ L.length ∧ L.length ≤ 4096 ∧ S.length = L.length ∧ S[0]? = some zeroPg ∧ S[1]? = some zeroPg ∧ S[2]? = some zeroPg
  args := fun _ => [.ptr 0 0]
  objs := fun (L, S) => devs L S []
  nn := 4
  E := Pg
  post := fun _ p => p.toList = encS 1#64 (vsB 1#32 1#32)
  res := fun _ _ => .tup [.ptr 7 0, .nils, .int .i64 0]
  out := fun (L, S) p => devN 4 5 6 (L.set 1 p) (S.set 1 p) [] ++ [(7, vltB 1#32 1#32 (.ptr 8 0)), (8, .box 216 [.ptr 0 0, .int .i64 2, .int .i64 (((L.length - 2) / 2 : Nat) : Int), .u32 1#32, .int .i64 0, .bool false])]
  mm := 5
def vopZ_H : Cfg := ⟨[(59, dpgs_c), (60, sldZ_c), (62, vsv_c), (64, vfr_c), (65, vsp_c), (63, wopZ_c)], [(17, [3, 8, 10], [4, 6, 11], (.one 0 0 false (.one 1 0 false (.one 2 0 false (.one 3 1 false (.one 5 0 false (.one 7 0 false (.one 8 1 false (.one 9 0 false (.one 10 1 false (.one 4 2 true (.one 6 2 true (.one 11 2 false (.one 12 0 false (.one 13 0 false (.one 14 0 false (.one 15 0 false (.one 16 0 false (.one 17 0 false (.one 18 0 false .nil))))))))))))))))))), [2000011, 1000000])], [], [], 76, 4, [], [], []⟩
theorem vopZ_ok : vopZ_c.Ok Tryz.prog 27 := by
  refine fn_ok vopZ_H 4 rfl _ Tryz.func27 rfl rfl ⟨dpgs_ok, sldZ_ok, vsv_ok, vfr_ok, vsp_ok, wopZ_ok, trivial⟩ rfl rfl (by kernel_rfl) (fun _ => Nat.le_of_ble_eq_true rfl) ?_
  rintro ⟨L, S⟩ hp hr
  try dsimp only [vopZ_c] at hp
  try simp only [vopZ_c, Rng, RngL, inR, and_true, true_and] at hr
  obtain ⟨hp1, hp2, hp3, hp4, hp5, hp6⟩ := hp
  have hp1 : 4 ≤ L.length := hp1
  have hp2 : L.length ≤ 4096 := hp2
  have hp3 : S.length = L.length := hp3
  have h1 : sldZ_c.pre (L, S, []) := ⟨by show 2 ≤ L.length; omega, hp4, hp5⟩
  have h2 : vsv_c.pre (L, S, (0#32, 0#32), 1#32, 1#32) := ⟨by show 2 ≤ L.length; omega, by show 2 ≤ S.length; omega, hp4, hp5⟩
  have h3 : ∀ p, vsp_c.pre ((L.set 1 p, S.set 1 p, []), 1#32, 1#32) := fun p => ⟨by show 2 ≤ (L.set 1 p).length; rw [List.length_set]; omega, by show (L.set 1 p).length ≤ 100000; rw [List.length_set]; omega⟩
  have hS : ∀ p : Pg, (S.set 1 p)[2]? = some zeroPg := fun p => by rw [List.getElem?_set_ne (by omega)]; exact hp6
  have es : (0#32 + 1#32 : BitVec 32) = 1#32 := by decide
  repeat' (first | (with_reducible refine Unf.h ?_) | ((conv => whnf); first | refine Fork.mk (fun h => ?_) (fun h => ?_) | (refine Side.mk ?_ ?_; focus (first | with_reducible rfl | exact True.intro)) | refine Got.mk (fun _ _ => ?_) | refine CallS.mk (c := dpgs_c) ((L, S, [])) ?_) | fail); all_goals try (conv => whnf); all_goals try (exfalso; omega)
  refine CallS.mk (c := sldZ_c) ((L, S, [])) ?_
  repeat' (first | (with_reducible refine Unf.h ?_) | ((conv => whnf); first | refine Fork.mkn (fun h => ?_) (fun h => ?_) | refine Fork.mk (fun h => ?_) (fun h => ?_) | (refine Side.mk ?_ ?_; focus (first | with_reducible rfl | assumption)) | refine Got.mk (fun _ _ => ?_)) | fail); all_goals try (conv => whnf); all_goals try (exfalso; omega)
  · exact absurd (by assumption) (Nat.lt_irrefl (0#64).toNat)
  refine CallS.mk (c := vsv_c) ((L, S, (0#32, 0#32), 1#32, 1#32)) ?_
  repeat' (first | (with_reducible refine Unf.h ?_) | ((conv => whnf); first | refine Fork.mkn (fun h => ?_) (fun h => ?_) | (refine Side.mk ?_ ?_; focus (first | with_reducible rfl | assumption | (simp only [*, es]; done))) | refine Got.mk (fun _ _ => ?_)) | fail); all_goals try (conv => whnf); all_goals try (exfalso; omega)
  rename_i p hpp
  have hpp : p.toList = encS 1#64 (vsB 1#32 1#32) := hpp
  have hl : (L.set 1 p).length = L.length := List.length_set ..
  have h4 : wopZ_c.pre ((L.set 1 p, S.set 1 p, []), 2, ((L.set 1 p).length - 2) / 2, 1#32, 1#32) := ⟨by show 2 + ((L.set 1 p).length - 2) / 2 ≤ (L.set 1 p).length; omega, by show (L.set 1 p).length ≤ 100000; omega, by decide, by decide, by show 1 ≤ ((L.set 1 p).length - 2) / 2; omega, hS p⟩
  have h3 := h3 p
  refine CallS.mk (c := vfr_c) (((L.set 1 p, S.set 1 p, []), 1#32, 1#32)) ?_
  repeat' (first | (with_reducible refine Unf.h ?_) | ((conv => whnf); first | (refine Side.mk ?_ ?_; focus (first | with_reducible rfl | exact True.intro)) | refine Got.mk (fun _ _ => ?_)) | fail); all_goals try (conv => whnf); all_goals try (exfalso; omega)
  refine CallS.mk (c := vsp_c) (((L.set 1 p, S.set 1 p, []), 1#32, 1#32)) ?_
  repeat' (first | (with_reducible refine Unf.h ?_) | ((conv => whnf); first | (refine Side.mk ?_ ?_; focus (first | with_reducible rfl | assumption)) | refine Got.mk (fun _ _ => ?_)) | fail); all_goals try (conv => whnf); all_goals try (exfalso; omega)
  refine CallS.mk (c := wopZ_c) (((L.set 1 p, S.set 1 p, []), 2, ((L.set 1 p).length - 2) / 2, 1#32, 1#32)) ?_
  repeat' (first | (with_reducible refine Unf.h ?_) | ((conv => whnf); first | refine Fork.mkn (fun h => ?_) (fun h => ?_) | (refine Side.mk ?_ ?_; focus (first | with_reducible rfl | assumption | (refine congrArg (SV.int _) ?_; omega) | (simp only [*, es]; done))) | refine Got.mk (fun _ _ => ?_) | refine retK_r ?_) | fail); all_goals try (conv => whnf); all_goals try (exfalso; omega)
  refine RetE.mk (c := vopZ_c) (d := (L, S)) (show Pg from p) hpp ?_
  repeat' (first | (with_reducible refine Unf.h ?_) | ((conv => whnf); first | (refine Side.mk ?_ ?_; focus (first | with_reducible rfl | (refine congrArg (SV.int _) ?_; omega))) | (with_reducible refine Unf.h ?_) | exact rfl) | fail); all_goals try (conv => whnf); all_goals try (exfalso; omega)
end Go.Proofs.YtinpcefioadkcaaGreatDoor

namespace Go.Proofs.YtinpcefioadkcaaGreatDoor
set_option linter.all false
open Go.RowKit
abbrev Ppl := List (Bs × List Ver)
abbrev eS : Bs → SV := fun s => .str s
abbrev eZ : Int → SV := fun n => .int .i64 n
abbrev nmO (ps : Ppl) : SO := .mp 9 3 inferInstance eS eZ (numsL 0 ps)
abbrev stG (seed : H256) (l : Fo) (ss : List Sld) (ps : Ppl) : List Ob := [(0, .box 156 [.arr8 seed, .ptr 1 0, .own 3, .own 4, .own 5]), (1, .box 151 [.own 2]), (2, .row 270 132 eNd l), (3, .row 201 67 eSl ss), (4, .row 281 2 ePn ps), (5, nmO ps)]
abbrev Dir := H256 × Fo × List Sld × Ppl
def enew_c : Ctr where
  D := H256
  args := fun s => [.agg [.arr8 s]]
  res := fun _ _ => .ptr 0 0
  out := fun s _ => stG s [] [] []
  mm := 6
def enew_H : Cfg := ⟨[], [], [], [], 9, 0, [], [], []⟩
theorem enew_ok : enew_c.Ok Tryz.prog 29 := by
  refine fn_ok enew_H 0 rfl _ Tryz.func29 rfl rfl trivial rfl rfl (by kernel_rfl) (fun _ => Nat.le_of_ble_eq_true rfl) ?_
  intro (s : H256) hp hr
  try dsimp only [enew_c] at hp
  try simp only [enew_c, Rng, RngL, inR, and_true, true_and] at hr
  repeat' (first | (with_reducible refine Unf.h ?_) | fail); all_goals try (conv => whnf); all_goals try (exfalso; omega)
  refine MkS.mk inferInstance eS eZ ?_
  repeat' (first | (with_reducible refine Unf.h ?_) | ((conv => whnf); first | (refine Side.mk ?_ ?_; focus (with_reducible rfl)) | refine RetE.mk () trivial ?_ | refine retK_r ?_) | fail); all_goals try (conv => whnf); all_goals try (exfalso; omega)
  refine Side.mk rfl ?_
  repeat' (first | (with_reducible refine Unf.h ?_) | ((conv => whnf); exact rfl) | fail); all_goals try (conv => whnf); all_goals try (exfalso; omega)
def eps_c : Ctr where
  D := Dir
  args := fun _ => [.ptr 0 0]
  objs := fun (s, l, ss, ps) => stG s l ss ps
  nn := 6
  res := fun (_, _, ss, _) _ => .int .i64 (ss.length : Int)
  out := fun (s, l, ss, ps) _ => stG s l ss ps
def eps_H : Cfg := ⟨[], [], [], [], 10, 6, [], [], []⟩
theorem eps_ok : eps_c.Ok Tryz.prog 38 := by
  refine fn_ok eps_H 6 rfl _ Tryz.func38 rfl rfl trivial rfl rfl (by kernel_rfl) (fun _ => Nat.le_of_ble_eq_true rfl) ?_
  rintro ⟨s, l, ss, ps⟩ hp hr
  try dsimp only [eps_c] at hp
  try simp only [eps_c, Rng, RngL, inR, and_true, true_and] at hr
  repeat' (first | (with_reducible refine Unf.h ?_) | ((conv => whnf); first | (refine Side.mk ?_ ?_; focus (first | with_reducible rfl | (refine congrArg (SV.int _) ?_; omega))) | refine RetE.mk () trivial ?_ | refine retK_r ?_ | exact rfl) | fail); all_goals try (conv => whnf); all_goals try (exfalso; omega)
end Go.Proofs.YtinpcefioadkcaaGreatDoor

namespace Go.Proofs.YtinpcefioadkcaaGreatDoor
set_option linter.all false
open Go.RowKit
def few18_c : Ctr where
  D := Msg
  args := fun m => [.agg (eMsg m)]
  E := Bool
  res := fun _ b => .bool b
def few18_H : Cfg := ⟨[], [], [], [], 120, 0, [], [], []⟩
set_option maxHeartbeats 4000000 in
theorem few18_ok : few18_c.Ok Tryz.prog 6 := by
  refine fn_ok few18_H 0 rfl _ Tryz.func6 rfl rfl trivial rfl rfl (by kernel_rfl) (fun _ => Nat.le_of_ble_eq_true rfl) ?_
  intro (m : Msg) hp hr
  try dsimp only [few18_c] at hp
  try simp only [few18_c, Rng, RngL, inR, and_true, true_and] at hr
  repeat' (first | (with_reducible refine Unf.h ?_) | ((conv => whnf); first | refine Fork.mk (fun h => ?_) (fun h => ?_) | refine retK_r ?_) | fail); all_goals try (conv => whnf)
  all_goals first
    | (refine RetE.mk false trivial ?_; repeat' (first | (with_reducible refine Unf.h ?_) | ((conv => whnf); first | (refine Side.mk ?_ ?_; focus (with_reducible rfl)) | exact rfl) | fail); all_goals try (conv => whnf); done)
    | skip
  refine LoopS.autoN (fun i : Nat => i ≤ m.a14.length) (fun i => [(3, .int .i64 i)]) (fun i => [(0, .box 42 (eMsg m))]) 1 (fun i => m.a14.length - i) 0 (Nat.zero_le _) ?_ ?_
  · repeat' (first | (with_reducible refine Unf.h ?_) | ((conv => whnf); first | (refine Side.mk ?_ ?_; focus (first | with_reducible rfl | (refine congrArg (SV.int _) ?_; omega))) | (with_reducible refine Unf.h ?_) | exact True.intro) | fail); all_goals try (conv => whnf)
  · intro i hi
    repeat' (first | (with_reducible first | refine Unf.h ?_ | refine loopK_n ?_) | ((conv => whnf); first | refine Fork.mk (fun h => ?_) (fun h => ?_) | (refine Side.mk ?_ ?_; focus ((intros; (try simp only [lenS, inR, cutS, loI, hiI] at *); omega))) | (refine Idx.mk ?_ ?_; focus (omega)) | refine retK_r ?_) | fail); all_goals try (conv => whnf)
    · refine RetE.mk false trivial ?_
      repeat' (first | (with_reducible refine Unf.h ?_) | ((conv => whnf); first | (refine Side.mk ?_ ?_; focus (with_reducible rfl)) | exact rfl) | fail); all_goals try (conv => whnf)
    · refine ⟨i + 1, ⟨by omega, by omega⟩, ?_⟩
      repeat' (first | (with_reducible refine Unf.h ?_) | ((conv => whnf); first | (refine Side.mk ?_ ?_; focus (first | with_reducible rfl | (refine congrArg (SV.int _) ?_; omega))) | (with_reducible refine Unf.h ?_) | exact True.intro) | fail); all_goals try (conv => whnf)
    · refine LoopS.autoN (fun i : Nat => i ≤ m.a16.length) (fun i => [(4, .int .i64 i)]) (fun i => [(0, .box 42 (eMsg m))]) 1 (fun i => m.a16.length - i) 0 (Nat.zero_le _) ?_ ?_
      · repeat' (first | (with_reducible refine Unf.h ?_) | ((conv => whnf); first | (refine Side.mk ?_ ?_; focus (first | with_reducible rfl | (refine congrArg (SV.int _) ?_; omega))) | (with_reducible refine Unf.h ?_) | exact True.intro) | fail); all_goals try (conv => whnf)
      · intro j hj
        repeat' (first | (with_reducible first | refine Unf.h ?_ | refine loopK_n ?_) | ((conv => whnf); first | refine Fork.mk (fun h => ?_) (fun h => ?_) | (refine Side.mk ?_ ?_; focus ((intros; (try simp only [lenS, inR, cutS, loI, hiI] at *); omega))) | (refine Idx.mk ?_ ?_; focus (omega)) | refine retK_r ?_) | fail); all_goals try (conv => whnf)
        · refine RetE.mk false trivial ?_
          repeat' (first | (with_reducible refine Unf.h ?_) | ((conv => whnf); first | (refine Side.mk ?_ ?_; focus (with_reducible rfl)) | exact rfl) | fail); all_goals try (conv => whnf)
        · refine RetE.mk false trivial ?_
          repeat' (first | (with_reducible refine Unf.h ?_) | ((conv => whnf); first | (refine Side.mk ?_ ?_; focus (with_reducible rfl)) | exact rfl) | fail); all_goals try (conv => whnf)
        · refine ⟨j + 1, ⟨by omega, by omega⟩, ?_⟩
          repeat' (first | (with_reducible refine Unf.h ?_) | ((conv => whnf); first | (refine Side.mk ?_ ?_; focus (first | with_reducible rfl | (refine congrArg (SV.int _) ?_; omega))) | (with_reducible refine Unf.h ?_) | exact True.intro) | fail); all_goals try (conv => whnf)
        · refine RetE.mk true trivial ?_
          repeat' (first | (with_reducible refine Unf.h ?_) | ((conv => whnf); first | (refine Side.mk ?_ ?_; focus (with_reducible rfl)) | exact rfl) | fail); all_goals try (conv => whnf)
abbrev zMz : List SV := [.int .i64 0, .int .i64 0, .int .i64 0, .int .i64 0, .int .i64 0, .int .i64 0, .nils, .nils, .int .i64 0, .int .i64 0, .arr8 zH, .arr8 zH, .nils, .nils, .nils, .nils, .nils, .arr8 zH, .nils, .int .i64 0, .arr8 zH, .arr8 zH, .int .i64 0, .arr8 zH, .arr8 zH, .arr8 zH, .nils, .nils, .nils, .nils]
def wshN_c : Ctr where
  D := Int
  args := fun n => [.nilp, .int .i64 n]
  res := fun _ _ => .tup [.agg (.int .i64 0 :: zMz), .bool false]
def wshN_H : Cfg := ⟨[], [(1, [6], [8], (.one 0 0 false (.one 1 0 false (.one 2 0 false (.one 3 0 false (.one 4 0 false (.one 5 0 false (.one 6 1 false (.one 7 0 false (.one 8 2 true (.one 9 0 false (.one 10 0 false .nil))))))))))), []), (8, [3], [5], (.one 0 0 false (.one 1 0 false (.one 2 0 false (.one 3 1 false (.one 4 0 false (.one 5 2 true (.one 6 0 false (.one 7 0 false .nil)))))))), []), (10, [3, 7], [9], (.one 0 0 false (.one 1 0 false (.one 2 0 false (.one 3 1 false (.one 4 0 false (.one 5 0 false (.one 6 0 false (.one 7 1 false (.one 8 0 false (.one 9 2 false (.one 10 0 false .nil))))))))))), []), (11, [3, 7], [9, 13], (.one 0 0 false (.one 1 0 false (.one 2 0 false (.one 3 1 false (.one 4 0 false (.one 5 0 false (.one 6 0 false (.one 7 1 false (.one 8 0 false (.one 11 0 false (.one 9 2 true (.one 10 0 false (.one 12 0 false (.one 13 2 false (.one 14 0 false .nil))))))))))))))), [])], [], [], 84, 0, [], [], []⟩
theorem wshN_ok : wshN_c.Ok Tryz.prog 7 := by
  refine fn_ok wshN_H 0 rfl _ Tryz.func7 rfl rfl trivial rfl rfl (by kernel_rfl) (fun _ => Nat.le_of_ble_eq_true rfl) ?_
  intro (n : Int) hp hr
  try dsimp only [wshN_c] at hp
  try simp only [wshN_c, Rng, RngL, inR, and_true, true_and] at hr
  repeat' (first | (with_reducible refine Unf.h ?_) | ((conv => whnf); first | (refine Side.mk ?_ ?_; focus (with_reducible rfl)) | refine RetE.mk () trivial ?_ | refine retK_r ?_ | exact rfl) | fail); all_goals try (conv => whnf); all_goals try (exfalso; omega)
def answN_c : Ctr where
  D := Msg
  args := fun m => [.nilp, .agg (eMsg m)]
  res := fun _ _ => .tup [.agg (.int .i64 0 :: zMz), .bool false]
def answN_H : Cfg := ⟨[], [], [], [], 32, 0, [], [], []⟩
theorem answN_ok : answN_c.Ok Tryz.prog 8 := by
  refine fn_ok answN_H 0 rfl _ Tryz.func8 rfl rfl trivial rfl rfl (by kernel_rfl) (fun _ => Nat.le_of_ble_eq_true rfl) ?_
  intro (m : Msg) hp hr
  try dsimp only [answN_c] at hp
  try simp only [answN_c, Rng, RngL, inR, and_true, true_and] at hr
  clear hr
  repeat' (first | (with_reducible refine Unf.h ?_) | ((conv => whnf); first | (refine Side.mk ?_ ?_; focus (with_reducible rfl)) | refine RetE.mk () trivial ?_ | refine retK_r ?_ | exact rfl) | fail); all_goals try (conv => whnf); all_goals try (exfalso; omega)
def rcvN_c : Ctr where
  D := Msg
  args := fun m => [.nilp, .agg (eMsg m)]
  res := fun _ _ => .int .i64 1
def rcvN_H : Cfg := ⟨[], [(4, [1, 5], [6], (.one 0 0 false (.one 1 1 false (.one 2 0 false (.one 3 0 false (.one 4 0 false (.one 5 1 false (.one 6 2 false (.one 7 0 false (.one 8 0 false .nil))))))))), []), (9, [4, 8], [12], (.one 0 0 false (.one 1 0 false (.one 2 0 false (.one 3 0 false (.one 4 1 false (.one 5 0 false (.one 6 0 false (.one 7 0 false (.one 8 1 false (.one 9 0 false (.one 10 0 false (.one 11 0 false (.one 12 2 false .nil))))))))))))), []), (10, [3], [5], (.one 0 0 false (.one 1 0 false (.one 2 0 false (.one 3 1 false (.one 4 0 false (.one 5 2 true (.one 6 0 false .nil))))))), []), (14, [3], [5], (.one 0 0 false (.one 1 0 false (.one 2 0 false (.one 3 1 false (.one 4 0 false (.one 5 2 true (.one 6 0 false (.one 7 0 false .nil)))))))), [])], [], [], 80, 0, [], [], []⟩
theorem rcvN_ok : rcvN_c.Ok Tryz.prog 11 := by
  refine fn_ok rcvN_H 0 rfl _ Tryz.func11 rfl rfl trivial rfl rfl (by kernel_rfl) (fun _ => Nat.le_of_ble_eq_true rfl) ?_
  intro (m : Msg) hp hr
  try dsimp only [rcvN_c] at hp
  try simp only [rcvN_c, Rng, RngL, inR, and_true, true_and] at hr
  clear hr
  repeat' (first | (with_reducible refine Unf.h ?_) | ((conv => whnf); first | (refine Side.mk ?_ ?_; focus ((refine congrArg (SV.int _) ?_; omega))) | refine RetE.mk () trivial ?_ | refine retK_r ?_ | exact rfl) | fail); all_goals try (conv => whnf); all_goals try (exfalso; omega)
def repsN_c : Ctr where
  D := Unit
  args := fun _ => [.nilp]
  res := fun _ _ => .int .i64 0
def repsN_H : Cfg := ⟨[], [], [], [], 10, 0, [], [], []⟩
theorem repsN_ok : repsN_c.Ok Tryz.prog 12 := by
  refine fn_ok repsN_H 0 rfl _ Tryz.func12 rfl rfl trivial rfl rfl (by kernel_rfl) (fun _ => Nat.le_of_ble_eq_true rfl) ?_
  intro (_ : Unit) hp hr
  try dsimp only [repsN_c] at hp
  try simp only [repsN_c, Rng, RngL, inR, and_true, true_and] at hr
  repeat' (first | (with_reducible refine Unf.h ?_) | ((conv => whnf); first | (refine Side.mk ?_ ?_; focus ((refine congrArg (SV.int _) ?_; omega))) | refine RetE.mk () trivial ?_ | refine retK_r ?_ | exact rfl) | fail); all_goals try (conv => whnf); all_goals try (exfalso; omega)
def rerlN_c : Ctr where
  D := Unit
  args := fun _ => [.nilp]
  res := fun _ _ => .int .i64 0
def rerlN_H : Cfg := ⟨[], [], [], [], 10, 0, [], [], []⟩
theorem rerlN_ok : rerlN_c.Ok Tryz.prog 13 := by
  refine fn_ok rerlN_H 0 rfl _ Tryz.func13 rfl rfl trivial rfl rfl (by kernel_rfl) (fun _ => Nat.le_of_ble_eq_true rfl) ?_
  intro (_ : Unit) hp hr
  try dsimp only [rerlN_c] at hp
  try simp only [rerlN_c, Rng, RngL, inR, and_true, true_and] at hr
  repeat' (first | (with_reducible refine Unf.h ?_) | ((conv => whnf); first | (refine Side.mk ?_ ?_; focus ((refine congrArg (SV.int _) ?_; omega))) | refine RetE.mk () trivial ?_ | refine retK_r ?_ | exact rfl) | fail); all_goals try (conv => whnf); all_goals try (exfalso; omega)
def rstaN_c : Ctr where
  D := Unit
  args := fun _ => [.nilp]
  res := fun _ _ => .nilp
def rstaN_H : Cfg := ⟨[], [], [], [], 9, 0, [], [], []⟩
theorem rstaN_ok : rstaN_c.Ok Tryz.prog 14 := by
  refine fn_ok rstaN_H 0 rfl _ Tryz.func14 rfl rfl trivial rfl rfl (by kernel_rfl) (fun _ => Nat.le_of_ble_eq_true rfl) ?_
  intro (_ : Unit) hp hr
  try dsimp only [rstaN_c] at hp
  try simp only [rstaN_c, Rng, RngL, inR, and_true, true_and] at hr
  repeat' (first | (with_reducible refine Unf.h ?_) | ((conv => whnf); first | (refine Side.mk ?_ ?_; focus ((dsimp only [resS, rstaN_c]; done))) | refine RetE.mk () trivial ?_ | refine retK_r ?_ | exact rfl) | fail); all_goals try (conv => whnf); all_goals try (exfalso; omega)
end Go.Proofs.YtinpcefioadkcaaGreatDoor

namespace Go.Proofs.YtinpcefioadkcaaGreatDoor
set_option linter.all false
open Go.RowKit
abbrev repB (pr nu kn : Int) (v st : SV) : SO := .box 80 [v, .fs 1 eB [], .int .i64 pr, .int .i64 nu, st, .int .i64 0, .int .i64 0, .arr8 zH, .arr8 zH, .nils, .nils, .int .i64 kn, .int .i64 0, .int .i64 0, .bool false]
abbrev stTwo (seed : H256) (l : Fo) (ss : List Sld) (ps : Ppl) : List Ob := [(2, .box 156 [.arr8 seed, .ptr 3 0, .own 5, .own 6, .own 7]), (3, .box 151 [.own 4]), (4, .row 270 132 eNd l), (5, .row 201 67 eSl ss), (6, .row 281 2 ePn ps), (7, nmO ps)]
def reps_c : Ctr where
  D := Dir × Int × Int × Int
  args := fun _ => [.ptr 0 0]
  objs := fun ((s, l, ss, ps), pr, nu, kn) => (0, repB pr nu kn (.ptr 1 0) (.ptr 2 0)) :: stTwo s l ss ps
  nn := 8
  res := fun ((_, _, ss, _), _) _ => .int .i64 (ss.length : Int)
  out := fun ((s, l, ss, ps), pr, nu, kn) _ => (0, repB pr nu kn (.ptr 1 0) (.ptr 2 0)) :: stTwo s l ss ps
def reps_H : Cfg := ⟨[(38, eps_c)], [], [], [], 10, 8, [], [], []⟩
theorem reps_ok : reps_c.Ok Tryz.prog 12 := by
  refine fn_ok reps_H 8 rfl _ Tryz.func12 rfl rfl ⟨eps_ok, trivial⟩ rfl rfl (by kernel_rfl) (fun _ => Nat.le_of_ble_eq_true rfl) ?_
  rintro ⟨⟨s, l, ss, ps⟩, pr, nu, kn⟩ hp hr
  try dsimp only [reps_c] at hp
  try simp only [reps_c, Rng, RngL, inR, and_true, true_and] at hr
  repeat' (first | (with_reducible refine Unf.h ?_) | fail); all_goals try (conv => whnf); all_goals try (exfalso; omega)
  refine CallS.mk (c := eps_c) ((s, l, ss, ps)) ?_
  repeat' (first | (with_reducible refine Unf.h ?_) | ((conv => whnf); first | (refine Side.mk ?_ ?_; focus (first | with_reducible rfl | exact True.intro | (refine congrArg (SV.int _) ?_; omega))) | refine RetE.mk () trivial ?_ | refine Got.mk (fun _ _ => ?_) | refine retK_r ?_ | exact rfl) | fail); all_goals try (conv => whnf); all_goals try (exfalso; omega)
def rsta_c : Ctr where
  D := Int × Int × Int
  args := fun _ => [.ptr 0 0]
  objs := fun (pr, nu, kn) => [(0, repB pr nu kn (.ptr 1 0) (.ptr 2 0))]
  nn := 3
  res := fun _ _ => .ptr 2 0
  out := fun (pr, nu, kn) _ => [(0, repB pr nu kn (.ptr 1 0) (.ptr 2 0))]
def rsta_H : Cfg := ⟨[], [], [], [], 9, 3, [], [], []⟩
theorem rsta_ok : rsta_c.Ok Tryz.prog 14 := by
  refine fn_ok rsta_H 3 rfl _ Tryz.func14 rfl rfl trivial rfl rfl (by kernel_rfl) (fun _ => Nat.le_of_ble_eq_true rfl) ?_
  rintro ⟨pr, nu, kn⟩ hp hr
  try dsimp only [rsta_c] at hp
  try simp only [rsta_c, Rng, RngL, inR, and_true, true_and] at hr
  repeat' (first | (with_reducible refine Unf.h ?_) | ((conv => whnf); first | (refine Side.mk ?_ ?_; focus (with_reducible rfl)) | refine RetE.mk () trivial ?_ | refine retK_r ?_ | exact rfl) | fail); all_goals try (conv => whnf); all_goals try (exfalso; omega)
def rrcv_c : Ctr where
  D := Int × Int × Int
  args := fun _ => [.ptr 0 0, .agg (.int .i64 7 :: zMz)]
  objs := fun (pr, nu, kn) => [(0, repB pr nu kn (.ptr 1 0) (.ptr 2 0))]
  nn := 3
  res := fun _ _ => .int .i64 1
  out := fun (pr, nu, kn) _ => [(0, repB pr nu kn (.ptr 1 0) (.ptr 2 0))]
def rrcv_H : Cfg := ⟨[], [(4, [1, 5], [6], (.one 0 0 false (.one 1 1 false (.one 2 0 false (.one 3 0 false (.one 4 0 false (.one 5 1 false (.one 6 2 false (.one 7 0 false (.one 8 0 false .nil))))))))), []), (9, [4, 8], [12], (.one 0 0 false (.one 1 0 false (.one 2 0 false (.one 3 0 false (.one 4 1 false (.one 5 0 false (.one 6 0 false (.one 7 0 false (.one 8 1 false (.one 9 0 false (.one 10 0 false (.one 11 0 false (.one 12 2 false .nil))))))))))))), []), (10, [3], [5], (.one 0 0 false (.one 1 0 false (.one 2 0 false (.one 3 1 false (.one 4 0 false (.one 5 2 true (.one 6 0 false .nil))))))), []), (14, [3], [5], (.one 0 0 false (.one 1 0 false (.one 2 0 false (.one 3 1 false (.one 4 0 false (.one 5 2 true (.one 6 0 false (.one 7 0 false .nil)))))))), [])], [], [], 80, 3, [], [], []⟩
theorem rrcv_ok : rrcv_c.Ok Tryz.prog 11 := by
  refine fn_ok rrcv_H 3 rfl _ Tryz.func11 rfl rfl trivial rfl rfl (by kernel_rfl) (fun _ => Nat.le_of_ble_eq_true rfl) ?_
  rintro ⟨pr, nu, kn⟩ hp hr
  try dsimp only [rrcv_c] at hp
  try simp only [rrcv_c, Rng, RngL, inR, and_true, true_and] at hr
  repeat' (first | (with_reducible refine Unf.h ?_) | ((conv => whnf); first | refine Fork.mkn (fun h => ?_) (fun h => ?_) | (refine Side.mk ?_ ?_; focus (first | with_reducible rfl | (refine congrArg (SV.int _) ?_; omega))) | refine RetE.mk () trivial ?_ | refine retK_r ?_ | exact rfl) | fail); all_goals try (conv => whnf); all_goals try (exfalso; omega)
abbrev zKp : List SV := [.bool false, .int .i64 0, .int .i64 0, .arr8 zH, .arr8 zH, .nils, .nils, .nils]
def kptN_c : Ctr where
  D := Unit
  args := fun _ => [.nils]
  res := fun _ _ => .tup [.agg zKp, .int .i64 0, .bool true]
def kptN_H : Cfg := ⟨[], [], [], [], 51, 0, [], [], []⟩
theorem kptN_ok : kptN_c.Ok Tryz.prog 30 := by
  refine fn_ok kptN_H 0 rfl _ Tryz.func30 rfl rfl trivial rfl rfl (by kernel_rfl) (fun _ => Nat.le_of_ble_eq_true rfl) ?_
  intro (_ : Unit) hp hr
  try dsimp only [kptN_c] at hp
  try simp only [kptN_c, Rng, RngL, inR, and_true, true_and] at hr
  repeat' (first | (with_reducible refine Unf.h ?_) | fail); all_goals try (conv => whnf); all_goals try (exfalso; omega)
  refine LoopS.autoN (I := Unit) (fun _ => True) (fun _ => [(12, .int .i64 0), (7, .int .i64 0)]) (fun _ => [(0, .box 93 zKp), (1, .box 93 zKp), (2, .box 93 zKp)]) 3 (fun _ => 0) () trivial ?_ ?_
  · repeat' (first | (with_reducible refine Unf.h ?_) | ((conv => whnf); first | (refine Side.mk ?_ ?_; focus (with_reducible rfl)) | (with_reducible refine Unf.h ?_) | exact True.intro) | fail); all_goals try (conv => whnf); all_goals try (exfalso; omega)
  · intro _ _
    repeat' (first | (with_reducible refine Unf.h ?_) | ((conv => whnf); first | refine Fork.mk (fun h => ?_) (fun h => ?_) | (refine Side.mk ?_ ?_; focus (with_reducible rfl)) | refine RetE.mk () trivial ?_ | refine retK_r ?_ | exact rfl) | fail); all_goals try (conv => whnf); all_goals try (exfalso; omega)
def vopS_c : Ctr where
  D := List Pg × List Pg
  pre := fun (L, _) => L.length < 4
  args := fun _ => [.ptr 0 0]
  objs := fun (L, S) => devs L S []
  nn := 4
  res := fun _ _ => .tup [.nilp, .nils, .int .i64 1]
  out := fun (L, S) _ => devs L S []
def vopS_H : Cfg := ⟨[(59, dpgs_c)], [(17, [3, 8, 10], [4, 6, 11], (.one 0 0 false (.one 1 0 false (.one 2 0 false (.one 3 1 false (.one 5 0 false (.one 7 0 false (.one 8 1 false (.one 9 0 false (.one 10 1 false (.one 4 2 true (.one 6 2 true (.one 11 2 false (.one 12 0 false (.one 13 0 false (.one 14 0 false (.one 15 0 false (.one 16 0 false (.one 17 0 false (.one 18 0 false .nil))))))))))))))))))), [2000011, 1000000])], [], [], 76, 4, [], [], []⟩
theorem vopS_ok : vopS_c.Ok Tryz.prog 27 := by
  refine fn_ok vopS_H 4 rfl _ Tryz.func27 rfl rfl ⟨dpgs_ok, trivial⟩ rfl rfl (by kernel_rfl) (fun _ => Nat.le_of_ble_eq_true rfl) ?_
  rintro ⟨L, S⟩ hp hr
  try dsimp only [vopS_c] at hp
  try simp only [vopS_c, Rng, RngL, inR, and_true, true_and] at hr
  have hp : L.length < 4 := hp
  repeat' (first | (with_reducible refine Unf.h ?_) | ((conv => whnf); first | refine Fork.mk (fun h => ?_) (fun h => ?_) | (refine Side.mk ?_ ?_; focus (first | with_reducible rfl | exact True.intro)) | refine RetE.mk () trivial ?_ | refine Got.mk (fun _ _ => ?_) | refine retK_r ?_ | exact rfl | refine CallS.mk (c := dpgs_c) ((L, S, [])) ?_) | fail); all_goals try (conv => whnf); all_goals try (exfalso; omega)
def vopN_c : Ctr where
  D := Unit
  args := fun _ => [.nilp]
  res := fun _ _ => .tup [.nilp, .nils, .int .i64 1]
def vopN_H : Cfg := ⟨[(59, dpgsN_c)], [(17, [3, 8, 10], [4, 6, 11], (.one 0 0 false (.one 1 0 false (.one 2 0 false (.one 3 1 false (.one 5 0 false (.one 7 0 false (.one 8 1 false (.one 9 0 false (.one 10 1 false (.one 4 2 true (.one 6 2 true (.one 11 2 false (.one 12 0 false (.one 13 0 false (.one 14 0 false (.one 15 0 false (.one 16 0 false (.one 17 0 false (.one 18 0 false .nil))))))))))))))))))), [])], [], [], 76, 0, [], [], []⟩
theorem vopN_ok : vopN_c.Ok Tryz.prog 27 := by
  refine fn_ok vopN_H 0 rfl _ Tryz.func27 rfl rfl ⟨dpgsN_ok, trivial⟩ rfl rfl (by kernel_rfl) (fun _ => Nat.le_of_ble_eq_true rfl) ?_
  intro (_ : Unit) hp hr
  try dsimp only [vopN_c] at hp
  try simp only [vopN_c, Rng, RngL, inR, and_true, true_and] at hr
  repeat' (first | (with_reducible refine Unf.h ?_) | ((conv => whnf); first | refine Fork.mk (fun h => ?_) (fun h => ?_) | (refine Side.mk ?_ ?_; focus (first | with_reducible rfl | exact True.intro)) | refine RetE.mk () trivial ?_ | refine Got.mk (fun _ _ => ?_) | refine retK_r ?_ | exact rfl | refine CallS.mk (c := dpgsN_c) (()) ?_) | fail); all_goals try (conv => whnf); all_goals try (exfalso; omega)
def ropS_c : Ctr where
  D := (List Pg × List Pg) × Int × Int
  pre := fun ((L, _), _) => L.length < 4
  args := fun (_, pr, nu) => [.ptr 0 0, .nils, .int .i64 pr, .int .i64 nu]
  objs := fun ((L, S), _) => devs L S []
  nn := 4
  res := fun _ _ => .tup [.nilp, .int .i64 1]
  out := fun ((L, S), _) _ => devs L S []
def ropS_H : Cfg := ⟨[(27, vopS_c)], [], [], [], 72, 4, [], [], []⟩
theorem ropS_ok : ropS_c.Ok Tryz.prog 10 := by
  refine fn_ok ropS_H 4 rfl _ Tryz.func10 rfl rfl ⟨vopS_ok, trivial⟩ rfl rfl (by kernel_rfl) (fun _ => Nat.le_of_ble_eq_true rfl) ?_
  rintro ⟨⟨L, S⟩, pr, nu⟩ hp hr
  try dsimp only [ropS_c] at hp
  try simp only [ropS_c, Rng, RngL, inR, and_true, true_and] at hr
  have hpv : vopS_c.pre (L, S) := hp
  repeat' (first | (with_reducible refine Unf.h ?_) | ((conv => whnf); first | refine Fork.mkn (fun h => ?_) (fun h => ?_) | (refine Side.mk ?_ ?_; focus (first | with_reducible rfl | assumption)) | refine RetE.mk () trivial ?_ | refine Got.mk (fun _ _ => ?_) | refine retK_r ?_ | exact rfl | refine CallS.mk (c := vopS_c) ((L, S)) ?_) | fail); all_goals try (conv => whnf); all_goals try (exfalso; omega)
def ropN_c : Ctr where
  D := Int × Int
  args := fun (pr, nu) => [.nilp, .nils, .int .i64 pr, .int .i64 nu]
  res := fun _ _ => .tup [.nilp, .int .i64 1]
def ropN_H : Cfg := ⟨[(27, vopN_c)], [], [], [], 72, 0, [], [], []⟩
theorem ropN_ok : ropN_c.Ok Tryz.prog 10 := by
  refine fn_ok ropN_H 0 rfl _ Tryz.func10 rfl rfl ⟨vopN_ok, trivial⟩ rfl rfl (by kernel_rfl) (fun _ => Nat.le_of_ble_eq_true rfl) ?_
  rintro ⟨pr, nu⟩ hp hr
  try dsimp only [ropN_c] at hp
  try simp only [ropN_c, Rng, RngL, inR, and_true, true_and] at hr
  repeat' (first | (with_reducible refine Unf.h ?_) | ((conv => whnf); first | refine Fork.mkn (fun h => ?_) (fun h => ?_) | (refine Side.mk ?_ ?_; focus (first | with_reducible rfl | exact True.intro)) | refine RetE.mk () trivial ?_ | refine Got.mk (fun _ _ => ?_) | refine retK_r ?_ | exact rfl | refine CallS.mk (c := vopN_c) (()) ?_) | fail); all_goals try (conv => whnf); all_goals try (exfalso; omega)
def ropn_c : Ctr where
  D := (List Pg × List Pg) × Int × Int
  pre := fun ((L, S), _) => 4 ≤ L.length ∧ L.length ≤ 4096 ∧ S.length = L.length ∧ S[0]? = some zeroPg ∧ S[1]? = some zeroPg ∧ S[2]? = some zeroPg
  args := fun (_, pr, nu) => [.ptr 0 0, .nils, .int .i64 pr, .int .i64 nu]
  objs := fun ((L, S), _) => devs L S []
  nn := 4
  res := fun _ _ => .tup [.ptr 4 0, .int .i64 0]
  out := fun (_, pr, nu) _ => [(4, repB pr nu 0 (.ptr 5 0) (.ptr 6 0)), (6, .box 156 [.arr8 zeroH, .ptr 7 0, .own 9, .own 10, .own 11]), (7, .box 151 [.own 8]), (8, .row 270 132 eNd []), (9, .row 201 67 eSl []), (10, .row 281 2 ePn []), (11, nmO [])]
  mm := 8
def ropn_H : Cfg := ⟨[(27, vopZ_c), (28, cloneB_c), (29, enew_c), (30, kptN_c), (12, reps_c)], [], [], [], 72, 4, [], [], []⟩
theorem ropn_ok : ropn_c.Ok Tryz.prog 10 := by
  refine fn_ok ropn_H 4 rfl _ Tryz.func10 rfl rfl ⟨vopZ_ok, cloneB_ok, enew_ok, kptN_ok, reps_ok, trivial⟩ rfl rfl (by kernel_rfl) (fun _ => Nat.le_of_ble_eq_true rfl) ?_
  rintro ⟨⟨L, S⟩, pr, nu⟩ hp hr
  try dsimp only [ropn_c] at hp
  try simp only [ropn_c, Rng, RngL, inR, and_true, true_and] at hr
  have hpv : vopZ_c.pre (L, S) := hp
  have hpc : cloneB_c.pre [] := show 0 ≤ 1000000 by omega
  repeat' (first | (with_reducible refine Unf.h ?_) | fail); all_goals try (conv => whnf); all_goals try (exfalso; omega)
  refine CallS.mk (c := vopZ_c) ((L, S)) ?_
  repeat' (first | (with_reducible refine Unf.h ?_) | ((conv => whnf); first | refine Fork.mkn (fun h => ?_) (fun h => ?_) | (refine Side.mk ?_ ?_; focus (first | with_reducible rfl | assumption)) | refine Got.mk (fun _ _ => ?_)) | fail); all_goals try (conv => whnf); all_goals try (exfalso; omega)
  refine CallS.mk (c := cloneB_c) ([]) ?_
  repeat' (first | (with_reducible refine Unf.h ?_) | ((conv => whnf); first | (refine Side.mk ?_ ?_; focus (first | with_reducible rfl | assumption)) | refine Got.mk (fun _ _ => ?_)) | fail); all_goals try (conv => whnf); all_goals try (exfalso; omega)
  refine CallS.mk (c := enew_c) (zeroH) ?_
  repeat' (first | (with_reducible refine Unf.h ?_) | ((conv => whnf); first | (refine Side.mk ?_ ?_; focus (first | with_reducible rfl | exact True.intro)) | refine Got.mk (fun _ _ => ?_)) | fail); all_goals try (conv => whnf); all_goals try (exfalso; omega)
  refine CallS.mk (c := kptN_c) (()) ?_
  repeat' (first | (with_reducible refine Unf.h ?_) | ((conv => whnf); first | refine Fork.mk (fun h => ?_) (fun h => ?_) | (refine Side.mk ?_ ?_; focus (first | with_reducible rfl | exact True.intro)) | refine Got.mk (fun _ _ => ?_)) | fail); all_goals try (conv => whnf); all_goals try (exfalso; omega)
  refine CallS.mk (c := reps_c) (((zeroH, [], [], []), pr, nu, 0)) ?_
  repeat' (first | (with_reducible refine Unf.h ?_) | ((conv => whnf); first | (refine Side.mk ?_ ?_; focus (first | with_reducible rfl | exact True.intro | (refine congrArg (SV.int _) ?_; omega))) | refine RetE.mk () trivial ?_ | refine Got.mk (fun _ _ => ?_) | refine retK_r ?_ | exact rfl) | fail); all_goals try (conv => whnf); all_goals try (exfalso; omega)
end Go.Proofs.YtinpcefioadkcaaGreatDoor

namespace Go.Proofs.YtinpcefioadkcaaGreatDoor
set_option linter.all false
open Go.RowKit
theorem zAt {n i : Nat} (h : i < n) : (List.replicate n zeroPg)[i]? = some zeroPg := by rw [List.getElem?_replicate, if_pos h]
theorem ropn_pre {n : Nat} (h1 : 4 ≤ n) (h2 : n ≤ 4096) (pr nu : Int) : ropn_c.pre ((List.replicate n zeroPg, List.replicate n zeroPg), pr, nu) := by
  have hl : (List.replicate n zeroPg).length = n := List.length_replicate
  exact ⟨by rw [hl]; exact h1, by rw [hl]; exact h2, rfl, zAt (by omega), zAt (by omega), zAt (by omega)⟩
def awk21_c : Ctr where
  D := Unit
  args := fun _ => []
  res := fun _ _ => .bool true
def awk21_H : Cfg := ⟨[(9, dnew_c), (10, ropn_c), (12, reps_c), (11, rrcv_c), (14, rsta_c)], [], [], [], 32, 0, [], [], []⟩
theorem awk21_ok : awk21_c.Ok Tryz.prog 5 := by
  refine fn_ok awk21_H 0 rfl _ Tryz.func5 rfl rfl ⟨dnew_ok, ropn_ok, reps_ok, rrcv_ok, rsta_ok, trivial⟩ rfl rfl (by kernel_rfl) (fun _ => Nat.le_of_ble_eq_true rfl) ?_
  intro (_ : Unit) hp hr
  try dsimp only [awk21_c] at hp
  try simp only [awk21_c, Rng, RngL, inR, and_true, true_and] at hr
  have h1 : dnew_c.pre (20 : Nat) := show 20 ≤ 4096 by omega
  have h2 := ropn_pre (n := 20) (by omega) (by omega) 0 1
  repeat' (first | (with_reducible refine Unf.h ?_) | fail); all_goals try (conv => whnf); all_goals try (exfalso; omega)
  refine CallS.mk (c := dnew_c) ((20 : Nat)) ?_
  repeat' (first | (with_reducible refine Unf.h ?_) | ((conv => whnf); first | (refine Side.mk ?_ ?_; focus (first | assumption | (refine congrArg (SV.int _) ?_; omega))) | refine Got.mk (fun _ _ => ?_)) | fail); all_goals try (conv => whnf); all_goals try (exfalso; omega)
  refine CallS.mk (c := ropn_c) (((List.replicate 20 zeroPg, List.replicate 20 zeroPg), 0, 1)) ?_
  repeat' (first | (with_reducible refine Unf.h ?_) | ((conv => whnf); first | refine Fork.mk (fun h => ?_) (fun h => ?_) | (refine Side.mk ?_ ?_; focus (first | with_reducible rfl | assumption)) | refine Got.mk (fun _ _ => ?_)) | fail); all_goals try (conv => whnf); all_goals try (exfalso; omega)
  refine CallS.mk (c := reps_c) (((zeroH, [], [], []), 0, 1, 0)) ?_
  repeat' (first | (with_reducible refine Unf.h ?_) | ((conv => whnf); first | refine Fork.mk (fun h => ?_) (fun h => ?_) | (refine Side.mk ?_ ?_; focus (first | with_reducible rfl | exact True.intro | (intros; (try simp only [lenS, inR, cutS, loI, hiI] at *); omega))) | refine RetE.mk () trivial ?_ | refine Got.mk (fun _ _ => ?_) | refine retK_r ?_ | exact rfl) | fail); all_goals try (conv => whnf); all_goals try (exfalso; omega)
  refine CallS.mk (c := rrcv_c) ((0, 1, 0)) ?_
  repeat' (first | (with_reducible refine Unf.h ?_) | ((conv => whnf); first | refine Fork.mk (fun h => ?_) (fun h => ?_) | (refine Side.mk ?_ ?_; focus (first | with_reducible rfl | exact True.intro)) | refine Got.mk (fun _ _ => ?_)) | fail); all_goals try (conv => whnf); all_goals try (exfalso; omega)
  refine CallS.mk (c := rsta_c) ((0, 1, 0)) ?_
  repeat' (first | (with_reducible refine Unf.h ?_) | ((conv => whnf); first | (refine Side.mk ?_ ?_; focus (first | with_reducible rfl | exact True.intro)) | refine RetE.mk () trivial ?_ | refine Got.mk (fun _ _ => ?_) | refine retK_r ?_ | exact rfl) | fail); all_goals try (conv => whnf); all_goals try (exfalso; omega)
def rnone_c : Ctr where
  D := Msg × Int × BitVec 8
  args := fun (m, n, p) => [.agg (eMsg m), .int .i64 n, .u8 p]
  res := fun _ _ => .bool true
def rnone_H : Cfg := ⟨[(5, awk21_c), (6, few18_c), (7, wshN_c), (8, answN_c), (9, dnew_c), (10, ropn_c), (10, ropS_c), (10, ropN_c), (11, rcvN_c), (12, repsN_c), (13, rerlN_c), (14, rstaN_c)], [], [], [], 93, 0, [], [], []⟩
set_option maxHeartbeats 4000000 in
theorem rnone_ok : rnone_c.Ok Tryz.prog 3 := by
  refine fn_ok rnone_H 0 rfl _ Tryz.func3 rfl rfl ⟨awk21_ok, few18_ok, wshN_ok, answN_ok, dnew_ok, ropn_ok, ropS_ok, ropN_ok, rcvN_ok, repsN_ok, rerlN_ok, rstaN_ok, trivial⟩ rfl rfl (by kernel_rfl) (fun _ => Nat.le_of_ble_eq_true rfl) ?_
  rintro ⟨m, n, p⟩ hp hr
  try dsimp only [rnone_c] at hp
  try simp only [rnone_c, Rng, RngL, inR, and_true, true_and] at hr
  clear hr
  have hq : (p % 8#8).toNat < 8 := by rw [BitVec.toNat_umod]; exact Nat.mod_lt _ (by decide)
  have e4 : (4#8).toNat = 4 := rfl
  have hd : dnew_c.pre (p % 8#8).toNat := show (p % 8#8).toNat ≤ 4096 by omega
  repeat' (first | (with_reducible refine Unf.h ?_) | ((conv => whnf); first | (refine Side.mk ?_ ?_; focus (first | with_reducible rfl | exact True.intro)) | refine Got.mk (fun _ _ => ?_) | refine CallS.mk (c := awk21_c) (()) ?_ | refine CallS.mk (c := few18_c) (m) ?_) | fail); all_goals try (conv => whnf); all_goals try (exfalso; omega)
  rename_i b _
  cases b with
  | false =>
    repeat' (first | (with_reducible refine Unf.h ?_) | ((conv => whnf); first | (refine Side.mk ?_ ?_; focus (first | with_reducible rfl | exact True.intro)) | refine RetE.mk () trivial ?_ | refine Got.mk (fun _ _ => ?_) | (with_reducible refine Unf.h ?_) | refine retK_r ?_ | exact rfl | refine CallS.mk (c := awk21_c) (()) ?_) | fail); all_goals try (conv => whnf); all_goals try (exfalso; omega)
  | true =>
    repeat' (first | (with_reducible refine Unf.h ?_) | ((conv => whnf); first | (refine Side.mk ?_ ?_; focus (first | with_reducible rfl | exact True.intro | assumption | (simp [*]; done))) | refine Got.mk (fun _ _ => ?_) | (with_reducible refine Unf.h ?_) | refine CallS.mk (c := wshN_c) (n) ?_ | refine CallS.mk (c := answN_c) (m) ?_ | refine CallS.mk (c := dnew_c) ((p % 8#8).toNat) ?_) | fail); all_goals try (conv => whnf); all_goals try (exfalso; omega)
    have hl : (List.replicate (p % 8#8).toNat zeroPg).length = (p % 8#8).toNat := List.length_replicate
    rcases Nat.lt_or_ge (p % 8#8).toNat 4 with h4 | h4
    · have hpo : ropS_c.pre ((List.replicate (p % 8#8).toNat zeroPg, List.replicate (p % 8#8).toNat zeroPg), 1, 2) := by
        show (List.replicate (p % 8#8).toNat zeroPg).length < 4
        rw [hl]; exact h4
      refine Or2.r (Or2.l (CallS.mk (c := ropS_c) (((List.replicate (p % 8#8).toNat zeroPg, List.replicate (p % 8#8).toNat zeroPg), 1, 2)) ?_))
      repeat' (first | (with_reducible refine Unf.h ?_) | ((conv => whnf); first | (refine Side.mk ?_ ?_; focus (first | with_reducible rfl | assumption)) | refine Got.mk (fun _ _ => ?_)) | fail); all_goals try (conv => whnf); all_goals try (exfalso; omega)
      refine Or2.r (Or2.r (CallS.mk (c := ropN_c) ((1, 2)) ?_))
      have hE : decide ((1 : Int) = 0) = decide ((4#8).toNat ≤ (p % 8#8).toNat) := by
        rw [decide_eq_false (by omega), decide_eq_false (by rw [e4]; omega)]
      repeat' (first | (with_reducible refine Unf.h ?_) | ((conv => whnf); first | refine Fork.mk (fun h => ?_) (fun h => ?_) | (refine Side.mk ?_ ?_; focus (first | with_reducible rfl | exact True.intro | (simp [*]; done))) | refine RetE.mk () trivial ?_ | refine Got.mk (fun _ _ => ?_) | refine retK_r ?_ | exact rfl | refine CallS.mk (c := rcvN_c) (m) ?_ | refine CallS.mk (c := repsN_c) (()) ?_ | refine CallS.mk (c := rstaN_c) (()) ?_) | fail); all_goals try (conv => whnf); all_goals try (exfalso; omega)
      all_goals exact absurd hE (by assumption)
    · have hpo := ropn_pre (n := (p % 8#8).toNat) h4 (by omega) 1 2
      refine Or2.l (CallS.mk (c := ropn_c) (((List.replicate (p % 8#8).toNat zeroPg, List.replicate (p % 8#8).toNat zeroPg), 1, 2)) ?_)
      repeat' (first | (with_reducible refine Unf.h ?_) | ((conv => whnf); first | (refine Side.mk ?_ ?_; focus (first | with_reducible rfl | assumption)) | refine Got.mk (fun _ _ => ?_)) | fail); all_goals try (conv => whnf); all_goals try (exfalso; omega)
      refine Or2.r (Or2.r (CallS.mk (c := ropN_c) ((1, 2)) ?_))
      have hE : decide ((0 : Int) = 0) = decide ((4#8).toNat ≤ (p % 8#8).toNat) := by
        rw [decide_eq_true rfl, decide_eq_true (by rw [e4]; omega)]
      repeat' (first | (with_reducible refine Unf.h ?_) | ((conv => whnf); first | refine Fork.mk (fun h => ?_) (fun h => ?_) | (refine Side.mk ?_ ?_; focus (first | with_reducible rfl | exact True.intro | (simp [*]; done))) | refine RetE.mk () trivial ?_ | refine Got.mk (fun _ _ => ?_) | refine retK_r ?_ | exact rfl | refine CallS.mk (c := rcvN_c) (m) ?_ | refine CallS.mk (c := repsN_c) (()) ?_ | refine CallS.mk (c := rstaN_c) (()) ?_) | fail); all_goals try (conv => whnf); all_goals try (exfalso; omega)
      all_goals exact absurd hE (by assumption)
end Go.Proofs.YtinpcefioadkcaaGreatDoor

namespace Go.Proofs.YtinpcefioadkcaaGreatDoor
set_option linter.all false
open Go.RowKit Go.ChangeShapes Go.WideShapes Go.ChangeAt
section
variable {H : Type} {enc : TypeId × Value → H} {W : World} {spare : Nat → Bool} {held : Bool}
theorem o_MHd : Opens Tryz.prog enc W spare held 27 eMHd :=
  (o_struct (i := ⟨.st [(0, 3), (1, 3), (2, 25), (34, 25)], 66, 80⟩) rfl rfl
    (o_field (off := 0) (off2 := 1) (j := ⟨.int .i64, 1, 8⟩) rfl (o_i64 (t := 3) (i := ⟨.int .i64, 1, 8⟩) rfl rfl) (fun _ => sizQ_spec rfl) rfl
    (o_field (off := 1) (off2 := 2) (j := ⟨.int .i64, 1, 8⟩) rfl (o_i64 (t := 3) (i := ⟨.int .i64, 1, 8⟩) rfl rfl) (fun _ => sizQ_spec rfl) rfl
    (o_field (off := 2) (off2 := 34) (j := ⟨.ar 32 5, 32, 32⟩) rfl (o_arr8 (t := 25) (i := ⟨.ar 32 5, 32, 32⟩) (j := ⟨.int .u8, 1, 1⟩) rfl rfl rfl rfl rfl rfl) (fun _ => sizQ_spec rfl) rfl
    (o_last (off := 34) (j := ⟨.ar 32 5, 32, 32⟩) rfl (o_arr8 (t := 25) (i := ⟨.ar 32 5, 32, 32⟩) (j := ⟨.int .u8, 1, 1⟩) rfl rfl rfl rfl rfl rfl) (fun _ => sizQ_spec rfl))))) (fun _ => sizQ_spec rfl) (by kernel_rfl)).map (fun p => (⟨p.1, p.2.1, p.2.2.1, p.2.2.2⟩ : MHd)) (fun _ => rfl)
theorem o_Sgd : Opens Tryz.prog enc W spare held 29 eSgd :=
  (o_struct (i := ⟨.st [(0, 27), (66, 23)], 67, 104⟩) rfl rfl
    (o_field (off := 0) (off2 := 66) (j := ⟨.st [(0, 3), (1, 3), (2, 25), (34, 25)], 66, 80⟩) rfl (o_MHd) (fun _ => sizQ_spec rfl) rfl
    (o_last (off := 66) (j := ⟨.sl 5, 1, 24⟩) rfl (o_slice (t := 23) (i := ⟨.sl 5, 1, 24⟩) (j := ⟨.int .u8, 1, 1⟩) (f := eB) rfl rfl rfl rfl rfl (o_uns (t := 5) (i := ⟨.int .u8, 1, 1⟩) (k := .u8) (w := 8) (mk := .u8) rfl rfl rfl rfl (fun _ _ => hc8)) (fun _ => sizQ_spec rfl)) (fun _ => sizQ_spec rfl))) (fun _ => sizQ_spec rfl) (by kernel_rfl)).map (fun p => (⟨p.1, p.2⟩ : Sgd)) (fun _ => rfl)
theorem o_Trl : Opens Tryz.prog enc W spare held 32 eTrl :=
  (o_struct (i := ⟨.st [(0, 30), (1, 30)], 2, 48⟩) rfl rfl
    (o_field (off := 0) (off2 := 1) (j := ⟨.sl 25, 1, 24⟩) rfl (o_slice (t := 30) (i := ⟨.sl 25, 1, 24⟩) (j := ⟨.ar 32 5, 32, 32⟩) (f := (fun v : Vector (BitVec 8) 32 => [.arr8 v])) rfl rfl rfl rfl rfl (o_arr8 (t := 25) (i := ⟨.ar 32 5, 32, 32⟩) (j := ⟨.int .u8, 1, 1⟩) rfl rfl rfl rfl rfl rfl) (fun _ => sizQ_spec rfl)) (fun _ => sizQ_spec rfl) rfl
    (o_last (off := 1) (j := ⟨.sl 25, 1, 24⟩) rfl (o_slice (t := 30) (i := ⟨.sl 25, 1, 24⟩) (j := ⟨.ar 32 5, 32, 32⟩) (f := (fun v : Vector (BitVec 8) 32 => [.arr8 v])) rfl rfl rfl rfl rfl (o_arr8 (t := 25) (i := ⟨.ar 32 5, 32, 32⟩) (j := ⟨.int .u8, 1, 1⟩) rfl rfl rfl rfl rfl rfl) (fun _ => sizQ_spec rfl)) (fun _ => sizQ_spec rfl))) (fun _ => sizQ_spec rfl) (by kernel_rfl)).map (fun p => (⟨p.1, p.2⟩ : Trl)) (fun _ => rfl)
theorem o_Pfz : Opens Tryz.prog enc W spare held 35 ePfz :=
  (o_struct (i := ⟨.st [(0, 3), (1, 25)], 33, 40⟩) rfl rfl
    (o_field (off := 0) (off2 := 1) (j := ⟨.int .i64, 1, 8⟩) rfl (o_i64 (t := 3) (i := ⟨.int .i64, 1, 8⟩) rfl rfl) (fun _ => sizQ_spec rfl) rfl
    (o_last (off := 1) (j := ⟨.ar 32 5, 32, 32⟩) rfl (o_arr8 (t := 25) (i := ⟨.ar 32 5, 32, 32⟩) (j := ⟨.int .u8, 1, 1⟩) rfl rfl rfl rfl rfl rfl) (fun _ => sizQ_spec rfl))) (fun _ => sizQ_spec rfl) (by kernel_rfl)).map (fun p => (⟨p.1, p.2⟩ : Pfz)) (fun _ => rfl)
theorem o_Stpz : Opens Tryz.prog enc W spare held 277 eStpz :=
  (o_struct (i := ⟨.st [(0, 35), (33, 25)], 65, 72⟩) rfl rfl
    (o_field (off := 0) (off2 := 33) (j := ⟨.st [(0, 3), (1, 25)], 33, 40⟩) rfl (o_Pfz) (fun _ => sizQ_spec rfl) rfl
    (o_last (off := 33) (j := ⟨.ar 32 5, 32, 32⟩) rfl (o_arr8 (t := 25) (i := ⟨.ar 32 5, 32, 32⟩) (j := ⟨.int .u8, 1, 1⟩) rfl rfl rfl rfl rfl rfl) (fun _ => sizQ_spec rfl))) (fun _ => sizQ_spec rfl) (by kernel_rfl)).map (fun p => (⟨p.1, p.2⟩ : Stpz)) (fun _ => rfl)
theorem o_Prfz : Opens Tryz.prog enc W spare held 37 ePrfz :=
  (o_struct (i := ⟨.st [(0, 33), (1, 3), (2, 25), (34, 25), (66, 35), (99, 25), (131, 25)], 163, 200⟩) rfl rfl
    (o_field (off := 0) (off2 := 1) (j := ⟨.sl 277, 1, 24⟩) rfl (o_slice (t := 33) (i := ⟨.sl 277, 1, 24⟩) (j := ⟨.st [(0, 35), (33, 25)], 65, 72⟩) (f := eStpz) rfl rfl rfl rfl rfl (o_Stpz) (fun _ => sizQ_spec rfl)) (fun _ => sizQ_spec rfl) rfl
    (o_field (off := 1) (off2 := 2) (j := ⟨.int .i64, 1, 8⟩) rfl (o_i64 (t := 3) (i := ⟨.int .i64, 1, 8⟩) rfl rfl) (fun _ => sizQ_spec rfl) rfl
    (o_field (off := 2) (off2 := 34) (j := ⟨.ar 32 5, 32, 32⟩) rfl (o_arr8 (t := 25) (i := ⟨.ar 32 5, 32, 32⟩) (j := ⟨.int .u8, 1, 1⟩) rfl rfl rfl rfl rfl rfl) (fun _ => sizQ_spec rfl) rfl
    (o_field (off := 34) (off2 := 66) (j := ⟨.ar 32 5, 32, 32⟩) rfl (o_arr8 (t := 25) (i := ⟨.ar 32 5, 32, 32⟩) (j := ⟨.int .u8, 1, 1⟩) rfl rfl rfl rfl rfl rfl) (fun _ => sizQ_spec rfl) rfl
    (o_field (off := 66) (off2 := 99) (j := ⟨.st [(0, 3), (1, 25)], 33, 40⟩) rfl (o_Pfz) (fun _ => sizQ_spec rfl) rfl
    (o_field (off := 99) (off2 := 131) (j := ⟨.ar 32 5, 32, 32⟩) rfl (o_arr8 (t := 25) (i := ⟨.ar 32 5, 32, 32⟩) (j := ⟨.int .u8, 1, 1⟩) rfl rfl rfl rfl rfl rfl) (fun _ => sizQ_spec rfl) rfl
    (o_last (off := 131) (j := ⟨.ar 32 5, 32, 32⟩) rfl (o_arr8 (t := 25) (i := ⟨.ar 32 5, 32, 32⟩) (j := ⟨.int .u8, 1, 1⟩) rfl rfl rfl rfl rfl rfl) (fun _ => sizQ_spec rfl)))))))) (fun _ => sizQ_spec rfl) (by kernel_rfl)).map (fun p => (⟨p.1, p.2.1, p.2.2.1, p.2.2.2.1, p.2.2.2.2.1, p.2.2.2.2.2.1, p.2.2.2.2.2.2⟩ : Prfz)) (fun _ => rfl)
theorem o_MVer : Opens Tryz.prog enc W spare held 75 eMVer :=
  (o_struct (i := ⟨.st [(0, 3), (1, 3), (2, 25), (34, 25), (66, 23)], 67, 104⟩) rfl rfl
    (o_field (off := 0) (off2 := 1) (j := ⟨.int .i64, 1, 8⟩) rfl (o_i64 (t := 3) (i := ⟨.int .i64, 1, 8⟩) rfl rfl) (fun _ => sizQ_spec rfl) rfl
    (o_field (off := 1) (off2 := 2) (j := ⟨.int .i64, 1, 8⟩) rfl (o_i64 (t := 3) (i := ⟨.int .i64, 1, 8⟩) rfl rfl) (fun _ => sizQ_spec rfl) rfl
    (o_field (off := 2) (off2 := 34) (j := ⟨.ar 32 5, 32, 32⟩) rfl (o_arr8 (t := 25) (i := ⟨.ar 32 5, 32, 32⟩) (j := ⟨.int .u8, 1, 1⟩) rfl rfl rfl rfl rfl rfl) (fun _ => sizQ_spec rfl) rfl
    (o_field (off := 34) (off2 := 66) (j := ⟨.ar 32 5, 32, 32⟩) rfl (o_arr8 (t := 25) (i := ⟨.ar 32 5, 32, 32⟩) (j := ⟨.int .u8, 1, 1⟩) rfl rfl rfl rfl rfl rfl) (fun _ => sizQ_spec rfl) rfl
    (o_last (off := 66) (j := ⟨.sl 5, 1, 24⟩) rfl (o_slice (t := 23) (i := ⟨.sl 5, 1, 24⟩) (j := ⟨.int .u8, 1, 1⟩) (f := eB) rfl rfl rfl rfl rfl (o_uns (t := 5) (i := ⟨.int .u8, 1, 1⟩) (k := .u8) (w := 8) (mk := .u8) rfl rfl rfl rfl (fun _ _ => hc8)) (fun _ => sizQ_spec rfl)) (fun _ => sizQ_spec rfl)))))) (fun _ => sizQ_spec rfl) (by kernel_rfl)).map (fun p => (⟨p.1, p.2.1, p.2.2.1, p.2.2.2.1, p.2.2.2.2⟩ : MVer)) (fun _ => rfl)
theorem o_Drow : Opens Tryz.prog enc W spare held 314 eDrow :=
  (o_struct (i := ⟨.st [(0, 4), (1, 25), (33, 25), (65, 35), (98, 25), (130, 25)], 162, 176⟩) rfl rfl
    (o_field (off := 0) (off2 := 1) (j := ⟨.bool, 1, 1⟩) rfl (o_bool (t := 4) (i := ⟨.bool, 1, 1⟩) rfl rfl) (fun _ => sizQ_spec rfl) rfl
    (o_field (off := 1) (off2 := 33) (j := ⟨.ar 32 5, 32, 32⟩) rfl (o_arr8 (t := 25) (i := ⟨.ar 32 5, 32, 32⟩) (j := ⟨.int .u8, 1, 1⟩) rfl rfl rfl rfl rfl rfl) (fun _ => sizQ_spec rfl) rfl
    (o_field (off := 33) (off2 := 65) (j := ⟨.ar 32 5, 32, 32⟩) rfl (o_arr8 (t := 25) (i := ⟨.ar 32 5, 32, 32⟩) (j := ⟨.int .u8, 1, 1⟩) rfl rfl rfl rfl rfl rfl) (fun _ => sizQ_spec rfl) rfl
    (o_field (off := 65) (off2 := 98) (j := ⟨.st [(0, 3), (1, 25)], 33, 40⟩) rfl (o_Pfz) (fun _ => sizQ_spec rfl) rfl
    (o_field (off := 98) (off2 := 130) (j := ⟨.ar 32 5, 32, 32⟩) rfl (o_arr8 (t := 25) (i := ⟨.ar 32 5, 32, 32⟩) (j := ⟨.int .u8, 1, 1⟩) rfl rfl rfl rfl rfl rfl) (fun _ => sizQ_spec rfl) rfl
    (o_last (off := 130) (j := ⟨.ar 32 5, 32, 32⟩) rfl (o_arr8 (t := 25) (i := ⟨.ar 32 5, 32, 32⟩) (j := ⟨.int .u8, 1, 1⟩) rfl rfl rfl rfl rfl rfl) (fun _ => sizQ_spec rfl))))))) (fun _ => sizQ_spec rfl) (by kernel_rfl)).map (fun p => (⟨p.1, p.2.1, p.2.2.1, p.2.2.2.1, p.2.2.2.2.1, p.2.2.2.2.2⟩ : Drow)) (fun _ => rfl)
theorem o_MNws : Opens Tryz.prog enc W spare held 77 eMNws :=
  (o_struct (i := ⟨.st [(0, 23), (1, 75)], 68, 128⟩) rfl rfl
    (o_field (off := 0) (off2 := 1) (j := ⟨.sl 5, 1, 24⟩) rfl (o_slice (t := 23) (i := ⟨.sl 5, 1, 24⟩) (j := ⟨.int .u8, 1, 1⟩) (f := eB) rfl rfl rfl rfl rfl (o_uns (t := 5) (i := ⟨.int .u8, 1, 1⟩) (k := .u8) (w := 8) (mk := .u8) rfl rfl rfl rfl (fun _ _ => hc8)) (fun _ => sizQ_spec rfl)) (fun _ => sizQ_spec rfl) rfl
    (o_last (off := 1) (j := ⟨.st [(0, 3), (1, 3), (2, 25), (34, 25), (66, 23)], 67, 104⟩) rfl (o_MVer) (fun _ => sizQ_spec rfl))) (fun _ => sizQ_spec rfl) (by kernel_rfl)).map (fun p => (⟨p.1, p.2⟩ : MNws)) (fun _ => rfl)
set_option maxHeartbeats 8000000 in
theorem o_Msg : Opens Tryz.prog enc W spare held 42 eMsg :=
  (o_struct (i := ⟨.st [(0, 3), (1, 3), (2, 3), (3, 3), (4, 3), (5, 3), (6, 22), (7, 23), (8, 23), (9, 29), (76, 32), (78, 32), (80, 25), (112, 37), (275, 38), (276, 39), (277, 40), (278, 30)], 279, 632⟩) rfl rfl
    (o_field (off := 0) (off2 := 1) (j := ⟨.int .i64, 1, 8⟩) rfl (o_i64 (t := 3) (i := ⟨.int .i64, 1, 8⟩) rfl rfl) (fun _ => sizQ_spec rfl) rfl
    (o_field (off := 1) (off2 := 2) (j := ⟨.int .i64, 1, 8⟩) rfl (o_i64 (t := 3) (i := ⟨.int .i64, 1, 8⟩) rfl rfl) (fun _ => sizQ_spec rfl) rfl
    (o_field (off := 2) (off2 := 3) (j := ⟨.int .i64, 1, 8⟩) rfl (o_i64 (t := 3) (i := ⟨.int .i64, 1, 8⟩) rfl rfl) (fun _ => sizQ_spec rfl) rfl
    (o_field (off := 3) (off2 := 4) (j := ⟨.int .i64, 1, 8⟩) rfl (o_i64 (t := 3) (i := ⟨.int .i64, 1, 8⟩) rfl rfl) (fun _ => sizQ_spec rfl) rfl
    (o_field (off := 4) (off2 := 5) (j := ⟨.int .i64, 1, 8⟩) rfl (o_i64 (t := 3) (i := ⟨.int .i64, 1, 8⟩) rfl rfl) (fun _ => sizQ_spec rfl) rfl
    (o_field (off := 5) (off2 := 6) (j := ⟨.int .i64, 1, 8⟩) rfl (o_i64 (t := 3) (i := ⟨.int .i64, 1, 8⟩) rfl rfl) (fun _ => sizQ_spec rfl) rfl
    (o_field (off := 6) (off2 := 7) (j := ⟨.int .i64, 1, 8⟩) rfl (o_i64 (t := 22) (i := ⟨.int .i64, 1, 8⟩) rfl rfl) (fun _ => sizQ_spec rfl) rfl
    (o_field (off := 7) (off2 := 8) (j := ⟨.sl 5, 1, 24⟩) rfl (o_slice (t := 23) (i := ⟨.sl 5, 1, 24⟩) (j := ⟨.int .u8, 1, 1⟩) (f := eB) rfl rfl rfl rfl rfl (o_uns (t := 5) (i := ⟨.int .u8, 1, 1⟩) (k := .u8) (w := 8) (mk := .u8) rfl rfl rfl rfl (fun _ _ => hc8)) (fun _ => sizQ_spec rfl)) (fun _ => sizQ_spec rfl) rfl
    (o_field (off := 8) (off2 := 9) (j := ⟨.sl 5, 1, 24⟩) rfl (o_slice (t := 23) (i := ⟨.sl 5, 1, 24⟩) (j := ⟨.int .u8, 1, 1⟩) (f := eB) rfl rfl rfl rfl rfl (o_uns (t := 5) (i := ⟨.int .u8, 1, 1⟩) (k := .u8) (w := 8) (mk := .u8) rfl rfl rfl rfl (fun _ _ => hc8)) (fun _ => sizQ_spec rfl)) (fun _ => sizQ_spec rfl) rfl
    (o_field (off := 9) (off2 := 76) (j := ⟨.st [(0, 27), (66, 23)], 67, 104⟩) rfl (o_Sgd) (fun _ => sizQ_spec rfl) rfl
    (o_field (off := 76) (off2 := 78) (j := ⟨.st [(0, 30), (1, 30)], 2, 48⟩) rfl (o_Trl) (fun _ => sizQ_spec rfl) rfl
    (o_field (off := 78) (off2 := 80) (j := ⟨.st [(0, 30), (1, 30)], 2, 48⟩) rfl (o_Trl) (fun _ => sizQ_spec rfl) rfl
    (o_field (off := 80) (off2 := 112) (j := ⟨.ar 32 5, 32, 32⟩) rfl (o_arr8 (t := 25) (i := ⟨.ar 32 5, 32, 32⟩) (j := ⟨.int .u8, 1, 1⟩) rfl rfl rfl rfl rfl rfl) (fun _ => sizQ_spec rfl) rfl
    (o_field (off := 112) (off2 := 275) (j := ⟨.st [(0, 33), (1, 3), (2, 25), (34, 25), (66, 35), (99, 25), (131, 25)], 163, 200⟩) rfl (o_Prfz) (fun _ => sizQ_spec rfl) rfl
    (o_field (off := 275) (off2 := 276) (j := ⟨.sl 75, 1, 24⟩) rfl (o_slice (t := 38) (i := ⟨.sl 75, 1, 24⟩) (j := ⟨.st [(0, 3), (1, 3), (2, 25), (34, 25), (66, 23)], 67, 104⟩) (f := eMVer) rfl rfl rfl rfl rfl (o_MVer) (fun _ => sizQ_spec rfl)) (fun _ => sizQ_spec rfl) rfl
    (o_field (off := 276) (off2 := 277) (j := ⟨.sl 314, 1, 24⟩) rfl (o_slice (t := 39) (i := ⟨.sl 314, 1, 24⟩) (j := ⟨.st [(0, 4), (1, 25), (33, 25), (65, 35), (98, 25), (130, 25)], 162, 176⟩) (f := eDrow) rfl rfl rfl rfl rfl (o_Drow) (fun _ => sizQ_spec rfl)) (fun _ => sizQ_spec rfl) rfl
    (o_field (off := 277) (off2 := 278) (j := ⟨.sl 77, 1, 24⟩) rfl (o_slice (t := 40) (i := ⟨.sl 77, 1, 24⟩) (j := ⟨.st [(0, 23), (1, 75)], 68, 128⟩) (f := eMNws) rfl rfl rfl rfl rfl (o_MNws) (fun _ => sizQ_spec rfl)) (fun _ => sizQ_spec rfl) rfl
    (o_last (off := 278) (j := ⟨.sl 25, 1, 24⟩) rfl (o_slice (t := 30) (i := ⟨.sl 25, 1, 24⟩) (j := ⟨.ar 32 5, 32, 32⟩) (f := (fun v : Vector (BitVec 8) 32 => [.arr8 v])) rfl rfl rfl rfl rfl (o_arr8 (t := 25) (i := ⟨.ar 32 5, 32, 32⟩) (j := ⟨.int .u8, 1, 1⟩) rfl rfl rfl rfl rfl rfl) (fun _ => sizQ_spec rfl)) (fun _ => sizQ_spec rfl))))))))))))))))))) (fun _ => sizQ_spec rfl) (by kernel_rfl)).map (fun p => (⟨p.1, p.2.1, p.2.2.1, p.2.2.2.1, p.2.2.2.2.1, p.2.2.2.2.2.1, p.2.2.2.2.2.2.1, p.2.2.2.2.2.2.2.1, p.2.2.2.2.2.2.2.2.1, p.2.2.2.2.2.2.2.2.2.1, p.2.2.2.2.2.2.2.2.2.2.1, p.2.2.2.2.2.2.2.2.2.2.2.1, p.2.2.2.2.2.2.2.2.2.2.2.2.1, p.2.2.2.2.2.2.2.2.2.2.2.2.2.1, p.2.2.2.2.2.2.2.2.2.2.2.2.2.2.1, p.2.2.2.2.2.2.2.2.2.2.2.2.2.2.2.1, p.2.2.2.2.2.2.2.2.2.2.2.2.2.2.2.2.1, p.2.2.2.2.2.2.2.2.2.2.2.2.2.2.2.2.2⟩ : Msg)) (fun _ => rfl)
end
end Go.Proofs.YtinpcefioadkcaaGreatDoor

namespace Go.Proofs.YtinpcefioadkcaaGreatDoor
set_option linter.all false
open Go.RowKit Go.ChangeShapes Go.WideShapes Go.ChangeAt
theorem Tryz.own : ownKnob Tryz.prog.godebug = none := by kernel_rfl
theorem Tryz.laidOut : laidOutB Tryz.prog = true := by kernel_rfl
def laidL {H : Type} : List (String × DataW H) := [("math/bits.deBruijn32tab", Rows.laid_math_bits_deBruijn32tab), ("math/bits.deBruijn64tab", Rows.laid_math_bits_deBruijn64tab), ("rolodex/hash.begin", Rows.laid_rolodex_hash_begin), ("rolodex/hash.rounds", Rows.laid_rolodex_hash_rounds), ("rolodex/lmots.forms", Rows.laid_rolodex_lmots_forms)]
theorem gBegin : Tryz.prog.globalNamed "rolodex/hash.begin" = some 0 := by kernel_rfl
theorem gRounds : Tryz.prog.globalNamed "rolodex/hash.rounds" = some 1 := by kernel_rfl
theorem tBegin : (Tryz.prog.globals[0]?).map (·.type) = some 262 := by kernel_rfl
theorem tRounds : (Tryz.prog.globals[1]?).map (·.type) = some 330 := by kernel_rfl
theorem dBegin : (Rows.laid_rolodex_hash_begin : DataW Unit) = .agg (gv0.toList.map fun b => .lit (.int .u32 (b.toNat : Int))) := by kernel_rfl
theorem dRounds : (Rows.laid_rolodex_hash_rounds : DataW Unit) = .agg (gv1.toList.map fun b => .lit (.int .u32 (b.toNat : Int))) := by kernel_rfl
theorem glob_arr32s {P : Program} [TabC P] {H : Type} {enc : TypeId × Value → H} {W : World} {spare : Nat → Bool} {held : Bool} {n : String} {g t e m f : Nat} {i j : TI} {cs : Array Value} {p : List MemPlace} {v : Vector (BitVec 32) m} (hg : P.globalNamed n = some g) (hv : W.var? P n = some cs) (ht : ty P t = some i) (hk : i.k = .ar m e) (hj : ty P e = some j) (hjk : j.k = .int .u32) (hj1 : j.size = 1) (hi : i.size = m)
    (hd : DataW.trod enc P W 0 spare held f t cs.toList = some (.agg (v.toList.map fun b => .lit (.int .u32 (b.toNat : Int))), p)) : (SV.fpt [.arr32 v]).hc W none0 sg0 [.pointer (some ⟨g, 0, none⟩)] ∧ ∃ C T fr, W.heap[g]? = some (.cells C T fr) ∧ C.size = szL [SV.arr32 v] := by
  refine ⟨glob_arr32 hg hv ht hk hj hjk hj1 hi hd, ?_⟩
  obtain ⟨u, hcs, hx⟩ := arr_cells (w := 32) ht hk hj hjk hj1 hi rfl rfl hd
  simp only [World.var?, hg, Option.bind_some] at hv
  split at hv
  · rename_i C T fr hh
    have e := Option.some.inj hv
    refine ⟨C, T, fr, hh, ?_⟩
    have hl := congrArg List.length hcs
    rw [e]
    simpa [szL, SV.sz] using hl
  · cases hv
theorem glob_of_laid {W : World} (h : laidMetH Tryz.prog laidL W) : Glob Tryz.prog W none0 := by
  rw [MakeChecks.laidMetH_plain _ _ _ (by kernel_rfl)] at h
  have h : laidMet Tryz.prog [("rolodex/hash.begin", Rows.laid_rolodex_hash_begin), ("rolodex/hash.rounds", Rows.laid_rolodex_hash_rounds), ("rolodex/lmots.forms", Rows.laid_rolodex_lmots_forms)] W := laidMet.tail (laidMet.tail h)
  obtain ⟨ps, ⟨g0, t0, cs0, f0, p0, q0, hg0, ht0, hv0, hd0, ⟨g1, t1, cs1, f1, p1, q1, hg1, ht1, hv1, hd1, _, _⟩, _⟩, _, _⟩ := h
  obtain rfl := Option.some.inj (gBegin.symm.trans hg0)
  obtain rfl := Option.some.inj (gRounds.symm.trans hg1)
  obtain rfl := Option.some.inj (tBegin.symm.trans ht0)
  obtain rfl := Option.some.inj (tRounds.symm.trans ht1)
  rw [dBegin] at hd0
  rw [dRounds] at hd1
  intro g ps hm
  have hm' : (g, ps) = (0, [SV.arr32 gv0]) ∨ (g, ps) = (1, [SV.arr32 gv1]) := by
    have e : TabC.gl Tryz.prog = [(0, [SV.arr32 gv0]), (1, [SV.arr32 gv1])] := rfl
    rw [e] at hm
    simpa using hm
  rcases hm' with e | e
  · cases e
    exact glob_arr32s (i := ⟨.ar 8 136, 8, 32⟩) (j := ⟨.int .u32, 1, 4⟩) hg0 hv0 rfl rfl rfl rfl rfl rfl hd0
  · cases e
    exact glob_arr32s (i := ⟨.ar 64 136, 64, 256⟩) (j := ⟨.int .u32, 1, 4⟩) hg1 hv1 rfl rfl rfl rfl rfl rfl hd1
theorem door_met (os : Os) (args : Array Value) : laidMetH Tryz.prog laidL ((World.doorLaid Tryz.prog 400 os).forCall (fun _ _ => 0) ⟨#[], args, []⟩).memory :=
  laidMetH_of_parts3 (fuel := 8) (laidMet_of_run' 8 (by kernel_rfl) (by kernel_rfl)) (by kernel_rfl) (by kernel_rfl)
section
variable {H : Type} {enc : TypeId × Value → H} {W : World} {spare : Nat → Bool} {held : Bool}
theorem arg_u8 {P : Program} [TabC P] {t base : Nat} {i : TI} (ht : ty P t = some i) (hk : i.k = .int .u8) {v : Value} {d : DataW H} {p : List MemPlace} (hv : Value.okWide P W .any base t v) (h : DataW.Trod enc P W 0 spare held t v d p) : ∃ x : BitVec 8, (SV.u8 x).h1 W none0 sg0 v := by
  obtain ⟨fuel, hT⟩ := h
  obtain ⟨x, hx⟩ := (o_uns (k := .u8) (w := 8) (mk := .u8) ht hk rfl rfl (fun _ _ => hc8)) _ _ _ hT
  obtain ⟨m, rfl⟩ := okWide_int (ty_int ht hk) hv
  refine ⟨x, ?_⟩
  simp only [hL, List.append_nil] at hx
  obtain ⟨a, b, h1, h2, rfl⟩ := hx
  rw [List.append_nil] at h1
  have : a = [Value.int .u8 m] := by rw [← h1]; rfl
  rw [this] at h2; exact h2
end
end Go.Proofs.YtinpcefioadkcaaGreatDoor

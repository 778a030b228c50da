import Derived.Test.YtdpnfagkfebcjaaGreatDoorFn
import Derived.Test.YtdpnfagkfebcjaaGreatDoorTab
import Derived.Test.YtdpnfagkfebcjaaGreatDoorLaw
namespace Go.Proofs.YtdpnfagkfebcjaaGreatDoor
set_option linter.all false
open Go.RowKit
/-! messages (printed by tools/opens.py) -/
structure Hd where
  a0 : Int
  a1 : Int
  a2 : Vector (BitVec 8) 32
  a3 : Vector (BitVec 8) 32
abbrev eHd (x : Hd) : List SV := [.int .i64 x.a0, .int .i64 x.a1, .arr8 x.a2, .arr8 x.a3]
structure Sgd where
  a0 : Hd
  a1 : List (BitVec 8)
abbrev eSgd (x : Sgd) : List SV := [.int .i64 x.a0.a0, .int .i64 x.a0.a1, .arr8 x.a0.a2, .arr8 x.a0.a3, .fs 1 eB x.a1]
structure Trl where
  a0 : List (Vector (BitVec 8) 32)
  a1 : List (Vector (BitVec 8) 32)
abbrev eTrl (x : Trl) : List SV := [.fs 32 (fun v : Vector (BitVec 8) 32 => [.arr8 v]) x.a0, .fs 32 (fun v : Vector (BitVec 8) 32 => [.arr8 v]) x.a1]
structure Pfz where
  a0 : Int
  a1 : Vector (BitVec 8) 32
abbrev ePfz (x : Pfz) : List SV := [.int .i64 x.a0, .arr8 x.a1]
structure Stpz where
  a0 : Pfz
  a1 : Vector (BitVec 8) 32
abbrev eStpz (x : Stpz) : List SV := [.int .i64 x.a0.a0, .arr8 x.a0.a1, .arr8 x.a1]
structure Prfz where
  a0 : List Stpz
  a1 : Int
  a2 : Vector (BitVec 8) 32
  a3 : Vector (BitVec 8) 32
  a4 : Pfz
  a5 : Vector (BitVec 8) 32
  a6 : Vector (BitVec 8) 32
abbrev ePrfz (x : Prfz) : List SV := [.fs 65 eStpz x.a0, .int .i64 x.a1, .arr8 x.a2, .arr8 x.a3, .int .i64 x.a4.a0, .arr8 x.a4.a1, .arr8 x.a5, .arr8 x.a6]
structure Ver where
  a0 : Int
  a1 : Int
  a2 : Vector (BitVec 8) 32
  a3 : Vector (BitVec 8) 32
  a4 : List (BitVec 8)
abbrev eVer (x : Ver) : List SV := [.int .i64 x.a0, .int .i64 x.a1, .arr8 x.a2, .arr8 x.a3, .fs 1 eB x.a4]
structure Drow where
  a0 : Bool
  a1 : Vector (BitVec 8) 32
  a2 : Vector (BitVec 8) 32
  a3 : Pfz
  a4 : Vector (BitVec 8) 32
  a5 : Vector (BitVec 8) 32
abbrev eDrow (x : Drow) : List SV := [.bool x.a0, .arr8 x.a1, .arr8 x.a2, .int .i64 x.a3.a0, .arr8 x.a3.a1, .arr8 x.a4, .arr8 x.a5]
structure Nws where
  a0 : List (BitVec 8)
  a1 : Ver
abbrev eNws (x : Nws) : List SV := [.fs 1 eB x.a0, .int .i64 x.a1.a0, .int .i64 x.a1.a1, .arr8 x.a1.a2, .arr8 x.a1.a3, .fs 1 eB x.a1.a4]
structure Msg where
  a0 : Int
  a1 : Int
  a2 : Int
  a3 : Int
  a4 : Int
  a5 : Int
  a6 : Int
  a7 : List (BitVec 8)
  a8 : List (BitVec 8)
  a9 : Sgd
  a10 : Trl
  a11 : Trl
  a12 : Vector (BitVec 8) 32
  a13 : Prfz
  a14 : List Ver
  a15 : List Drow
  a16 : List Nws
  a17 : List (Vector (BitVec 8) 32)
abbrev eMsg (x : Msg) : List SV := [.int .i64 x.a0, .int .i64 x.a1, .int .i64 x.a2, .int .i64 x.a3, .int .i64 x.a4, .int .i64 x.a5, .int .i64 x.a6, .fs 1 eB x.a7, .fs 1 eB x.a8, .int .i64 x.a9.a0.a0, .int .i64 x.a9.a0.a1, .arr8 x.a9.a0.a2, .arr8 x.a9.a0.a3, .fs 1 eB x.a9.a1, .fs 32 (fun v : Vector (BitVec 8) 32 => [.arr8 v]) x.a10.a0, .fs 32 (fun v : Vector (BitVec 8) 32 => [.arr8 v]) x.a10.a1, .fs 32 (fun v : Vector (BitVec 8) 32 => [.arr8 v]) x.a11.a0, .fs 32 (fun v : Vector (BitVec 8) 32 => [.arr8 v]) x.a11.a1, .arr8 x.a12, .fs 65 eStpz x.a13.a0, .int .i64 x.a13.a1, .arr8 x.a13.a2, .arr8 x.a13.a3, .int .i64 x.a13.a4.a0, .arr8 x.a13.a4.a1, .arr8 x.a13.a5, .arr8 x.a13.a6, .fs 67 eVer x.a14, .fs 162 eDrow x.a15, .fs 68 eNws x.a16, .fs 32 (fun v : Vector (BitVec 8) 32 => [.arr8 v]) x.a17]
abbrev zH : Vector (BitVec 8) 32 := Vector.replicate 32 0#8
abbrev zHd : Hd := ⟨0, 0, zH, zH⟩
abbrev zMsg : Msg := ⟨0, 0, 0, 0, 0, 0, 0, [], [], ⟨zHd, []⟩, ⟨[], []⟩, ⟨[], []⟩, zH, ⟨[], 0, zH, zH, ⟨0, zH⟩, zH, zH⟩, [], [], [], []⟩
structure Ses where
  number : Int
  pub : List (BitVec 8)
  age : Int
  trusted : Hd
  floor : Int
  asked : Int
  opn : Bool
  last : Msg
abbrev eSes (s : Ses) : List SV := [.int .i64 s.number, .fs 1 eB s.pub, .int .i64 s.age] ++ eHd s.trusted ++ [.int .i64 s.floor, .int .i64 s.asked, .bool s.opn] ++ eMsg s.last
end Go.Proofs.YtdpnfagkfebcjaaGreatDoor

namespace Go.Proofs.YtdpnfagkfebcjaaGreatDoor
set_option linter.all false
open Go.RowKit
/-! no session -/
abbrev B8 := List (BitVec 8)
def clone_c : Ctr where
  D := B8
  pre := fun l => l.length ≤ 100000
  args := fun l => [.fs 1 eB l]
  res := fun l _ => .fs 1 eB l
def clone_H : Cfg := ⟨[], [], [], [], 8, 0, [], [], []⟩
theorem clone_ok : clone_c.Ok Tryz.prog 13 := by
  refine fn_ok clone_H 0 rfl _ Tryz.func13 rfl rfl trivial rfl rfl (by kernel_rfl) (fun _ => Nat.le_of_ble_eq_true rfl) ?_
  intro (l : B8) hp hr
  try dsimp only [clone_c] at hp
  try simp only [clone_c, Rng, RngL, inR, and_true, true_and] at hr
  repeat' (first | (with_reducible refine Unf.h ?_) | ((conv => whnf); first | (refine Side.mk ?_ ?_; focus (first | with_reducible rfl | (intros; (try simp only [lenS, inR, cutS, loI, hiI] at *); omega) | exact List.eq_nil_of_length_eq_zero (by assumption))) | refine RetE.mk () trivial ?_ | refine boolK (fun h => ?_) ?_ | refine retK_r ?_ | exact rfl) | fail); all_goals try (conv => whnf)
abbrev newS (n age : Int) : Ses := ⟨n, [], age, zHd, 0, 0, false, zMsg⟩
def snew_c : Ctr where
  D := Int × Int
  args := fun (n, a) => [.int .i64 n, .nils, .int .i64 a]
  res := fun _ _ => .ptr 0 0
  out := fun (n, a) _ => [(0, .box 62 (eSes (newS n a)))]
  mm := 1
def snew_H : Cfg := ⟨[(13, clone_c)], [], [], [], 13, 0, [], [], []⟩
theorem snew_ok : snew_c.Ok Tryz.prog 9 := by
  refine fn_ok snew_H 0 rfl _ Tryz.func9 rfl rfl ⟨clone_ok, trivial⟩ rfl rfl (by kernel_rfl) (fun _ => Nat.le_of_ble_eq_true rfl) ?_
  rintro ⟨n, a⟩ hp hr
  try dsimp only [snew_c] at hp
  try simp only [snew_c, Rng, RngL, inR, and_true, true_and] at hr
  have hpre : clone_c.pre [] := Nat.zero_le _
  repeat' (first | (with_reducible refine Unf.h ?_) | ((conv => whnf); first | (refine Side.mk ?_ ?_; focus (first | with_reducible rfl | assumption)) | refine RetE.mk () trivial ?_ | refine Got.mk (fun _ _ => ?_) | refine retK_r ?_ | exact rfl | refine CallS.mk (c := clone_c) ([]) ?_) | fail); all_goals try (conv => whnf)
def askN_c : Ctr where
  D := Int × B8 × Int
  args := fun (t, l, e) => [.nilp, .int .i64 t, .fs 1 eB l, .int .i64 e]
  res := fun _ _ => .tup [.agg (eMsg zMsg), .int .i64 1]
def askN_H : Cfg := ⟨[], [(12, [4, 9, 15], [17, 21], (.one 0 0 false (.one 1 0 false (.one 2 0 false (.one 3 0 false (.one 4 1 false (.one 5 0 false (.one 6 0 false (.one 7 0 false (.one 8 0 false (.one 9 1 false (.one 10 0 false (.one 11 0 false (.one 12 0 false (.one 13 0 false (.one 14 0 false (.one 15 1 false (.one 16 0 false (.one 17 2 true (.one 18 0 false (.one 19 0 false (.one 20 0 false (.one 21 2 false .nil)))))))))))))))))))))), [])], [], [], 70, 0, [], [], []⟩
theorem askN_ok : askN_c.Ok Tryz.prog 6 := by
  refine fn_ok askN_H 0 rfl _ Tryz.func6 rfl rfl trivial rfl rfl (by kernel_rfl) (fun _ => Nat.le_of_ble_eq_true rfl) ?_
  rintro ⟨t, l, e⟩ hp hr
  try dsimp only [askN_c] at hp
  try simp only [askN_c, Rng, RngL, inR, and_true, true_and] at hr
  repeat' (first | (with_reducible refine Unf.h ?_) | ((conv => whnf); first | (refine Side.mk ?_ ?_; focus (with_reducible rfl)) | refine RetE.mk () trivial ?_ | refine retK_r ?_ | exact rfl) | fail); all_goals try (conv => whnf)
abbrev mayA (l : B8) (t e : Int) : Prop := (1 ≤ l.length ∧ l.length ≤ 32) ∧ (0 ≤ t ∧ t < 2147483648) ∧ 0 ≤ e ∧ e < 2147483648
def ask0X_c : Ctr where
  D := Ses × Int × B8 × Int
  pre := fun (_, t, l, e) => ¬ mayA l t e
  args := fun (_, t, l, e) => [.ptr 0 0, .int .i64 t, .fs 1 eB l, .int .i64 e]
  objs := fun (s, _) => [(0, .box 62 (eSes s))]
  nn := 1
  res := fun _ _ => .tup [.agg (eMsg zMsg), .int .i64 1]
  out := fun (s, _) _ => [(0, .box 62 (eSes s))]
def ask0X_H : Cfg := ⟨[], [(12, [4, 9, 15], [17, 21], (.one 0 0 false (.one 1 0 false (.one 2 0 false (.one 3 0 false (.one 4 1 false (.one 5 0 false (.one 6 0 false (.one 7 0 false (.one 8 0 false (.one 9 1 false (.one 10 0 false (.one 11 0 false (.one 12 0 false (.one 13 0 false (.one 14 0 false (.one 15 1 false (.one 16 0 false (.one 17 2 true (.one 18 0 false (.one 19 0 false (.one 20 0 false (.one 21 2 false .nil)))))))))))))))))))))), [])], [], [], 70, 1, [], [], []⟩
theorem ask0X_ok : ask0X_c.Ok Tryz.prog 6 := by
  refine fn_ok ask0X_H 1 rfl _ Tryz.func6 rfl rfl trivial rfl rfl (by kernel_rfl) (fun _ => Nat.le_of_ble_eq_true rfl) ?_
  rintro ⟨s, t, l, e⟩ hp hr
  try dsimp only [ask0X_c] at hp
  try simp only [ask0X_c, Rng, RngL, inR, and_true, true_and] at hr
  repeat' (first | (with_reducible refine Unf.h ?_) | ((conv => whnf); first | refine Fork.mk (fun h => ?_) (fun h => ?_) | (refine Side.mk ?_ ?_; focus (first | with_reducible rfl | omega)) | refine RetE.mk () trivial ?_ | refine retK_r ?_ | exact rfl) | fail); all_goals try (conv => whnf)
  all_goals (exfalso; first | omega | exact hp ⟨⟨by omega, by omega⟩, ⟨by omega, by omega⟩, by omega, by omega⟩)
abbrev asked0 (s : Ses) (t : Int) (l : B8) (e : Int) : Msg := { zMsg with a0 := 3, a1 := s.number, a2 := t, a3 := s.asked + 1, a4 := e, a5 := s.trusted.a0, a7 := l }
def ask0_c : Ctr where
  D := Ses × Int × B8 × Int
  pre := fun (s, t, l, e) => mayA l t e ∧ s.asked = 0
  args := fun (_, t, l, e) => [.ptr 0 0, .int .i64 t, .fs 1 eB l, .int .i64 e]
  objs := fun (s, _) => [(0, .box 62 (eSes s))]
  nn := 1
  res := fun (s, t, l, e) _ => .tup [.agg (eMsg (asked0 s t l e)), .int .i64 0]
  out := fun (s, t, l, e) _ => [(0, .box 62 (eSes { s with asked := s.asked + 1, opn := true, last := asked0 s t l e }))]
def ask0_H : Cfg := ⟨[(13, clone_c)], [(12, [4, 9, 15], [17, 21], (.one 0 0 false (.one 1 0 false (.one 2 0 false (.one 3 0 false (.one 4 1 false (.one 5 0 false (.one 6 0 false (.one 7 0 false (.one 8 0 false (.one 9 1 false (.one 10 0 false (.one 11 0 false (.one 12 0 false (.one 13 0 false (.one 14 0 false (.one 15 1 false (.one 16 0 false (.one 17 2 true (.one 18 0 false (.one 19 0 false (.one 20 0 false (.one 21 2 false .nil)))))))))))))))))))))), [])], [], [], 70, 1, [], [], []⟩
set_option maxHeartbeats 4000000 in
theorem ask0_ok : ask0_c.Ok Tryz.prog 6 := by
  refine fn_ok ask0_H 1 rfl _ Tryz.func6 rfl rfl ⟨clone_ok, trivial⟩ rfl rfl (by kernel_rfl) (fun _ => Nat.le_of_ble_eq_true rfl) ?_
  rintro ⟨s, t, l, e⟩ hp hr
  try dsimp only [ask0_c] at hp
  try simp only [ask0_c, Rng, RngL, inR, and_true, true_and] at hr
  obtain ⟨⟨⟨h1, h2⟩, ⟨h3, h4⟩, h5, h6⟩, h7⟩ := hp
  have hpre : clone_c.pre l := by show _ ≤ _; omega
  repeat' (first | (with_reducible refine Unf.h ?_) | ((conv => whnf); first | refine Fork.mk (fun h => ?_) (fun h => ?_) | (refine Side.mk ?_ ?_; focus (first | with_reducible rfl | assumption | omega | (intros; (try simp only [lenS, inR, cutS, loI, hiI] at *); omega))) | refine RetE.mk () trivial ?_ | refine Got.mk (fun _ _ => ?_) | refine retK_r ?_ | exact rfl | refine CallS.mk (c := clone_c) (l) ?_) | fail); all_goals try (conv => whnf)
end Go.Proofs.YtdpnfagkfebcjaaGreatDoor

namespace Go.Proofs.YtdpnfagkfebcjaaGreatDoor
set_option linter.all false
open Go.RowKit
def few18_c : Ctr where
  D := Msg
  args := fun m => [.agg (eMsg m)]
  E := Bool
  res := fun _ b => .bool b
def few18_H : Cfg := ⟨[], [], [], [], 120, 0, [], [], []⟩
set_option maxHeartbeats 4000000 in
theorem few18_ok : few18_c.Ok Tryz.prog 5 := by
  refine fn_ok few18_H 0 rfl _ Tryz.func5 rfl rfl trivial rfl rfl (by kernel_rfl) (fun _ => Nat.le_of_ble_eq_true rfl) ?_
  intro (m : Msg) hp hr
  try dsimp only [few18_c] at hp
  try simp only [few18_c, Rng, RngL, inR, and_true, true_and] at hr
  repeat' (first | (with_reducible refine Unf.h ?_) | ((conv => whnf); first | refine Fork.mk (fun h => ?_) (fun h => ?_) | refine retK_r ?_) | fail); all_goals try (conv => whnf)
  all_goals first
    | (refine RetE.mk false trivial ?_; repeat' (first | (with_reducible refine Unf.h ?_) | ((conv => whnf); first | (refine Side.mk ?_ ?_; focus (with_reducible rfl)) | exact rfl) | fail); all_goals try (conv => whnf); done)
    | skip
  refine LoopS.autoN (fun i : Nat => i ≤ m.a14.length) (fun i => [(3, .int .i64 i)]) (fun i => [(0, .box 42 (eMsg m))]) 1 (fun i => m.a14.length - i) 0 (Nat.zero_le _) ?_ ?_
  · repeat' (first | (with_reducible refine Unf.h ?_) | ((conv => whnf); first | (refine Side.mk ?_ ?_; focus (first | with_reducible rfl | (refine congrArg (SV.int _) ?_; omega))) | (with_reducible refine Unf.h ?_) | exact True.intro) | fail); all_goals try (conv => whnf)
  · intro i hi
    repeat' (first | (with_reducible first | refine Unf.h ?_ | refine loopK_n ?_) | ((conv => whnf); first | refine Fork.mk (fun h => ?_) (fun h => ?_) | (refine Side.mk ?_ ?_; focus ((intros; (try simp only [lenS, inR, cutS, loI, hiI] at *); omega))) | (refine Idx.mk ?_ ?_; focus (omega)) | refine retK_r ?_) | fail); all_goals try (conv => whnf)
    · refine RetE.mk false trivial ?_
      repeat' (first | (with_reducible refine Unf.h ?_) | ((conv => whnf); first | (refine Side.mk ?_ ?_; focus (with_reducible rfl)) | exact rfl) | fail); all_goals try (conv => whnf)
    · refine ⟨i + 1, ⟨by omega, by omega⟩, ?_⟩
      repeat' (first | (with_reducible refine Unf.h ?_) | ((conv => whnf); first | (refine Side.mk ?_ ?_; focus (first | with_reducible rfl | (refine congrArg (SV.int _) ?_; omega))) | (with_reducible refine Unf.h ?_) | exact True.intro) | fail); all_goals try (conv => whnf)
    · refine LoopS.autoN (fun i : Nat => i ≤ m.a16.length) (fun i => [(4, .int .i64 i)]) (fun i => [(0, .box 42 (eMsg m))]) 1 (fun i => m.a16.length - i) 0 (Nat.zero_le _) ?_ ?_
      · repeat' (first | (with_reducible refine Unf.h ?_) | ((conv => whnf); first | (refine Side.mk ?_ ?_; focus (first | with_reducible rfl | (refine congrArg (SV.int _) ?_; omega))) | (with_reducible refine Unf.h ?_) | exact True.intro) | fail); all_goals try (conv => whnf)
      · intro j hj
        repeat' (first | (with_reducible first | refine Unf.h ?_ | refine loopK_n ?_) | ((conv => whnf); first | refine Fork.mk (fun h => ?_) (fun h => ?_) | (refine Side.mk ?_ ?_; focus ((intros; (try simp only [lenS, inR, cutS, loI, hiI] at *); omega))) | (refine Idx.mk ?_ ?_; focus (omega)) | refine retK_r ?_) | fail); all_goals try (conv => whnf)
        · refine RetE.mk false trivial ?_
          repeat' (first | (with_reducible refine Unf.h ?_) | ((conv => whnf); first | (refine Side.mk ?_ ?_; focus (with_reducible rfl)) | exact rfl) | fail); all_goals try (conv => whnf)
        · refine RetE.mk false trivial ?_
          repeat' (first | (with_reducible refine Unf.h ?_) | ((conv => whnf); first | (refine Side.mk ?_ ?_; focus (with_reducible rfl)) | exact rfl) | fail); all_goals try (conv => whnf)
        · refine ⟨j + 1, ⟨by omega, by omega⟩, ?_⟩
          repeat' (first | (with_reducible refine Unf.h ?_) | ((conv => whnf); first | (refine Side.mk ?_ ?_; focus (first | with_reducible rfl | (refine congrArg (SV.int _) ?_; omega))) | (with_reducible refine Unf.h ?_) | exact True.intro) | fail); all_goals try (conv => whnf)
        · refine RetE.mk true trivial ?_
          repeat' (first | (with_reducible refine Unf.h ?_) | ((conv => whnf); first | (refine Side.mk ?_ ?_; focus (with_reducible rfl)) | exact rfl) | fail); all_goals try (conv => whnf)
def zFound : List SV := [.nils, .int .i64 0] ++ eHd zHd ++ [.nils]
def acceptN_c : Ctr where
  D := Msg × Int
  args := fun (m, e) => [.nilp, .agg (eMsg m), .int .i64 e]
  res := fun _ _ => .tup [.agg ([.nils, .int .i64 0] ++ eHd zHd ++ [.nils]), .int .i64 1]
def acceptN_H : Cfg := ⟨[], [(12, [2], [3], (.one 0 0 false (.one 1 0 false (.one 2 1 false (.one 3 2 true (.one 4 0 false .nil))))), [6]), (13, [1, 5], [6], (.one 0 0 false (.one 1 1 false (.one 2 0 false (.one 3 0 false (.one 4 0 false (.one 5 1 false (.one 6 2 false (.one 7 0 false (.one 8 0 false .nil))))))))), []), (15, [1, 6], [], (.one 0 0 false (.one 1 1 false (.one 2 0 false (.one 3 0 false (.one 4 0 false (.one 5 0 false (.one 6 1 false (.one 7 0 false (.one 8 0 false .nil))))))))), []), (23, [7, 12], [], (.one 0 0 false (.one 1 0 false (.one 2 0 false (.one 3 0 false (.one 4 0 false (.one 5 0 false (.one 6 0 false (.one 7 1 false (.one 8 0 false (.one 9 0 false (.one 10 0 false (.one 11 0 false (.one 12 1 false (.one 13 0 false (.one 14 0 false (.one 15 0 false (.one 16 0 false .nil))))))))))))))))), []), (28, [4, 7, 9], [5, 10, 12], (.one 0 0 false (.one 1 0 false (.one 2 0 false (.one 3 0 false (.one 4 1 false (.one 6 0 false (.one 7 1 false (.one 8 0 false (.one 9 1 false (.one 5 2 true (.one 10 2 true (.one 11 0 false (.one 12 2 false (.one 13 0 false .nil)))))))))))))), [])], [], [], 134, 0, [], [], []⟩
theorem acceptN_ok : acceptN_c.Ok Tryz.prog 7 := by
  refine fn_ok acceptN_H 0 rfl _ Tryz.func7 rfl rfl trivial rfl rfl (by kernel_rfl) (fun _ => Nat.le_of_ble_eq_true rfl) ?_
  rintro ⟨m, e⟩ hp hr
  try dsimp only [acceptN_c] at hp
  try simp only [acceptN_c, Rng, RngL, inR, and_true, true_and] at hr
  repeat' (first | (with_reducible refine Unf.h ?_) | ((conv => whnf); first | (refine Side.mk ?_ ?_; focus (with_reducible rfl)) | refine RetE.mk () trivial ?_ | refine retK_r ?_ | exact rfl) | fail); all_goals try (conv => whnf)
def ackedN_c : Ctr where
  D := Int
  args := fun e => [.nilp, .int .i64 e]
  res := fun _ _ => .tup []
def ackedN_H : Cfg := ⟨[], [], [], [], 15, 0, [], [], []⟩
theorem ackedN_ok : ackedN_c.Ok Tryz.prog 8 := by
  refine fn_ok ackedN_H 0 rfl _ Tryz.func8 rfl rfl trivial rfl rfl (by kernel_rfl) (fun _ => Nat.le_of_ble_eq_true rfl) ?_
  intro (e : Int) hp hr
  try dsimp only [ackedN_c] at hp
  try simp only [ackedN_c, Rng, RngL, inR, and_true, true_and] at hr
  repeat' (first | (with_reducible refine Unf.h ?_) | ((conv => whnf); first | refine RetE.mk () trivial ?_ | refine retK_n ?_ | exact rfl) | fail); all_goals try (conv => whnf)
def floorN_c : Ctr where
  D := Unit
  args := fun _ => [.nilp]
  res := fun _ _ => .int .i64 0
def floorN_H : Cfg := ⟨[], [], [], [], 9, 0, [], [], []⟩
theorem floorN_ok : floorN_c.Ok Tryz.prog 10 := by
  refine fn_ok floorN_H 0 rfl _ Tryz.func10 rfl rfl trivial rfl rfl (by kernel_rfl) (fun _ => Nat.le_of_ble_eq_true rfl) ?_
  rintro ⟨⟩ hp hr
  try dsimp only [floorN_c] at hp
  try simp only [floorN_c, Rng, RngL, inR, and_true, true_and] at hr
  repeat' (first | (with_reducible refine Unf.h ?_) | ((conv => whnf); first | (refine Side.mk ?_ ?_; focus ((refine congrArg (SV.int _) ?_; omega))) | refine RetE.mk () trivial ?_ | refine retK_r ?_ | exact rfl) | fail); all_goals try (conv => whnf)
def trustedN_c : Ctr where
  D := Unit
  args := fun _ => [.nilp]
  res := fun _ _ => .agg (eHd zHd)
def trustedN_H : Cfg := ⟨[], [], [], [], 10, 0, [], [], []⟩
theorem trustedN_ok : trustedN_c.Ok Tryz.prog 11 := by
  refine fn_ok trustedN_H 0 rfl _ Tryz.func11 rfl rfl trivial rfl rfl (by kernel_rfl) (fun _ => Nat.le_of_ble_eq_true rfl) ?_
  rintro ⟨⟩ hp hr
  try dsimp only [trustedN_c] at hp
  try simp only [trustedN_c, Rng, RngL, inR, and_true, true_and] at hr
  repeat' (first | (with_reducible refine Unf.h ?_) | ((conv => whnf); first | (refine Side.mk ?_ ?_; focus (with_reducible rfl)) | refine RetE.mk () trivial ?_ | refine retK_r ?_ | exact rfl) | fail); all_goals try (conv => whnf)
def openN_c : Ctr where
  D := Unit
  args := fun _ => [.nilp]
  res := fun _ _ => .bool false
def openN_H : Cfg := ⟨[], [], [], [], 11, 0, [], [], []⟩
theorem openN_ok : openN_c.Ok Tryz.prog 12 := by
  refine fn_ok openN_H 0 rfl _ Tryz.func12 rfl rfl trivial rfl rfl (by kernel_rfl) (fun _ => Nat.le_of_ble_eq_true rfl) ?_
  rintro ⟨⟩ hp hr
  try dsimp only [openN_c] at hp
  try simp only [openN_c, Rng, RngL, inR, and_true, true_and] at hr
  repeat' (first | (with_reducible refine Unf.h ?_) | ((conv => whnf); first | (refine Side.mk ?_ ?_; focus (with_reducible rfl)) | refine RetE.mk () trivial ?_ | refine retK_r ?_ | exact rfl) | fail); all_goals try (conv => whnf)
def openS_c : Ctr where
  D := Ses
  args := fun _ => [.ptr 0 0]
  objs := fun s => [(0, .box 62 (eSes s))]
  nn := 1
  res := fun s _ => .bool s.opn
  out := fun s _ => [(0, .box 62 (eSes s))]
def openS_H : Cfg := ⟨[], [], [], [], 11, 1, [], [], []⟩
theorem openS_ok : openS_c.Ok Tryz.prog 12 := by
  refine fn_ok openS_H 1 rfl _ Tryz.func12 rfl rfl trivial rfl rfl (by kernel_rfl) (fun _ => Nat.le_of_ble_eq_true rfl) ?_
  intro (s : Ses) hp hr
  try dsimp only [openS_c] at hp
  try simp only [openS_c, Rng, RngL, inR, and_true, true_and] at hr
  repeat' (first | (with_reducible refine Unf.h ?_) | ((conv => whnf); first | (refine Side.mk ?_ ?_; focus (with_reducible rfl)) | refine RetE.mk () trivial ?_ | refine retK_r ?_ | exact rfl) | fail); all_goals try (conv => whnf)
end Go.Proofs.YtdpnfagkfebcjaaGreatDoor

namespace Go.Proofs.YtdpnfagkfebcjaaGreatDoor
set_option linter.all false
open Go.RowKit
def awake22_c : Ctr where
  D := Unit
  args := fun _ => []
  res := fun _ _ => .bool true
def awake22_H : Cfg := ⟨[(9, snew_c), (6, ask0_c), (12, openS_c)], [], [], [], 28, 0, [], [], []⟩
set_option maxHeartbeats 4000000 in
theorem awake22_ok : awake22_c.Ok Tryz.prog 4 := by
  refine fn_ok awake22_H 0 rfl _ Tryz.func4 rfl rfl ⟨snew_ok, ask0_ok, openS_ok, trivial⟩ rfl rfl (by kernel_rfl) (fun _ => Nat.le_of_ble_eq_true rfl) ?_
  rintro ⟨⟩ hp hr
  try dsimp only [awake22_c] at hp
  try simp only [awake22_c, Rng, RngL, inR, and_true, true_and] at hr
  have hpre : ask0_c.pre (newS 1 5, 2, [97#8], 0) := ⟨⟨⟨by decide, by decide⟩, ⟨by decide, by decide⟩, by decide, by decide⟩, rfl⟩
  repeat' (first | (with_reducible refine Unf.h ?_) | ((conv => whnf); first | (refine Side.mk ?_ ?_; focus (first | with_reducible rfl | exact True.intro | (intros; (try simp only [lenS, inR, cutS, loI, hiI] at *); omega))) | refine Got.mk (fun _ _ => ?_) | refine Ex.mk [_] rfl ?_ | refine CallS.mk (c := snew_c) ((1, 5)) ?_) | fail); all_goals try (conv => whnf)
  refine CallS.mk (c := ask0_c) ((newS 1 5, 2, [97#8], 0)) ?_
  repeat' (first | (with_reducible refine Unf.h ?_) | ((conv => whnf); first | refine Fork.mk (fun h => ?_) (fun h => ?_) | (refine Side.mk ?_ ?_; focus (first | with_reducible rfl | exact True.intro | assumption | omega | (intros; (try simp only [lenS, inR, cutS, loI, hiI] at *); omega) | exact dF (by omega))) | refine RetE.mk () trivial ?_ | refine Got.mk (fun _ _ => ?_) | refine retK_r ?_ | exact rfl | refine CallS.mk (c := openS_c) ({ newS 1 5 with asked := (newS 1 5).asked + 1, opn := true, last := asked0 (newS 1 5) 2 [97#8] 0 }) ?_) | fail); all_goals try (conv => whnf)
end Go.Proofs.YtdpnfagkfebcjaaGreatDoor

namespace Go.Proofs.YtdpnfagkfebcjaaGreatDoor
set_option linter.all false
open Go.RowKit
def snil_c : Ctr where
  D := Msg × Int
  args := fun (m, e) => [.agg (eMsg m), .int .i64 e]
  res := fun _ _ => .bool true
def snil_H : Cfg := ⟨[(4, awake22_c), (5, few18_c), (9, snew_c), (6, askN_c), (6, ask0_c), (6, ask0X_c), (7, acceptN_c), (8, ackedN_c), (10, floorN_c), (11, trustedN_c), (12, openN_c)], [], [], [], 102, 0, [], [7, 8, 9], []⟩
set_option maxHeartbeats 1000000 in
theorem snil_ok : snil_c.Ok Tryz.prog 3 := by
  refine fn_ok snil_H 0 rfl _ Tryz.func3 rfl rfl ⟨awake22_ok, few18_ok, snew_ok, askN_ok, ask0_ok, ask0X_ok, acceptN_ok, ackedN_ok, floorN_ok, trustedN_ok, openN_ok, trivial⟩ rfl rfl (by kernel_rfl) (fun _ => Nat.le_of_ble_eq_true rfl) ?_
  rintro ⟨m, e⟩ hp hr
  try dsimp only [snil_c] at hp
  try simp only [snil_c, Rng, RngL, inR, and_true, true_and] at hr
  have he := hr.2
  clear hr
  repeat' (first | (with_reducible refine Unf.h ?_) | ((conv => whnf); first | (refine Side.mk ?_ ?_; focus (first | with_reducible rfl | exact True.intro)) | refine Got.mk (fun _ _ => ?_) | refine CallS.mk (c := awake22_c) (()) ?_ | refine CallS.mk (c := few18_c) (m) ?_) | fail); all_goals try (conv => whnf)
  rename_i b _
  cases b with
  | false =>
    repeat' (first | (with_reducible refine Unf.h ?_) | ((conv => whnf); first | (refine Side.mk ?_ ?_; focus (first | with_reducible rfl | exact True.intro)) | refine RetE.mk () trivial ?_ | refine Got.mk (fun _ _ => ?_) | (with_reducible refine Unf.h ?_) | refine retK_r ?_ | exact rfl | refine CallS.mk (c := awake22_c) (()) ?_) | fail); all_goals try (conv => whnf)
  | true =>
    repeat' (first | (with_reducible refine Unf.h ?_) | ((conv => whnf); first | (refine Side.mk ?_ ?_; focus ((intros; (try simp only [lenS, inR, cutS, loI, hiI] at *); omega))) | refine Ex.mk [_] rfl ?_ | (with_reducible refine Unf.h ?_)) | fail); all_goals try (conv => whnf)
    refine Or2.l (CallS.mk (c := askN_c) ((1, [97#8], 0)) ?_)
    repeat' (first | (with_reducible refine Unf.h ?_) | ((conv => whnf); first | (refine Side.mk ?_ ?_; focus (first | with_reducible rfl | exact True.intro)) | refine Got.mk (fun _ _ => ?_) | refine CallS.mk (c := acceptN_c) ((m, e)) ?_ | refine CallS.mk (c := ackedN_c) (e) ?_) | fail); all_goals try (conv => whnf)
    refine CutS.mk (I := Unit) (fun _ => True) (fun _ => [(10, .ptr 1 0), (9, .int .i64 1), (7, .int .i64 1), (5, .nilp), (2, .ptr 0 0), (1, .int .i64 e)]) (fun _ => [(0, .box 42 (eMsg m)), (1, .box 62 (eSes (newS 1 5)))]) 2 ?_ ?_
    · repeat' (first | (with_reducible first | refine Unf.h ?_ | refine cutK_n ?_) | ((conv => whnf); first | (refine Side.mk ?_ ?_; focus (first | with_reducible rfl | exact True.intro)) | refine Got.mk (fun _ _ => ?_) | refine CallS.mk (c := snew_c) ((1, 5)) ?_) | fail); all_goals try (conv => whnf)
      refine ⟨(), trivial, ?_⟩
      repeat' (first | (with_reducible refine Unf.h ?_) | ((conv => whnf); first | (refine Side.mk ?_ ?_; focus (with_reducible rfl)) | (with_reducible refine Unf.h ?_) | exact True.intro) | fail); all_goals try (conv => whnf)
    · rintro ⟨⟩ -
      repeat' (first | (with_reducible refine Unf.h ?_) | fail); all_goals try (conv => whnf)
      refine CutS.mk (I := Int) (fun c => c = 0 ∧ mayA m.a7 e e ∨ c = 1 ∧ ¬ mayA m.a7 e e) (fun c => [(12, .int .i64 c), (9, .int .i64 1), (7, .int .i64 1), (5, .nilp), (2, .ptr 0 0), (1, .int .i64 e)]) (fun _ => [(0, .box 42 (eMsg m))]) 1 ?_ ?_
      · by_cases hm : mayA m.a7 e e
        · have hpre : ask0_c.pre (newS 1 5, e, m.a7, e) := ⟨hm, rfl⟩
          repeat' (first | (with_reducible refine Unf.h ?_) | fail); all_goals try (conv => whnf)
          refine Or2.r (Or2.l (CallS.mk (c := ask0_c) ((newS 1 5, e, m.a7, e)) ?_))
          clear he
          repeat' (first | (with_reducible first | refine Unf.h ?_ | refine cutK_n ?_) | ((conv => whnf); first | (refine Side.mk ?_ ?_; focus (first | with_reducible rfl | assumption)) | refine Got.mk (fun _ _ => ?_)) | fail); all_goals try (conv => whnf)
          refine ⟨0, .inl ⟨rfl, hm⟩, ?_⟩
          repeat' (first | (with_reducible refine Unf.h ?_) | ((conv => whnf); first | (refine Side.mk ?_ ?_; focus (with_reducible rfl)) | (with_reducible refine Unf.h ?_) | exact True.intro) | fail); all_goals try (conv => whnf)
        · have hpre : ask0X_c.pre (newS 1 5, e, m.a7, e) := hm
          repeat' (first | (with_reducible refine Unf.h ?_) | fail); all_goals try (conv => whnf)
          refine Or2.r (Or2.r (CallS.mk (c := ask0X_c) ((newS 1 5, e, m.a7, e)) ?_))
          clear he
          repeat' (first | (with_reducible first | refine Unf.h ?_ | refine cutK_n ?_) | ((conv => whnf); first | (refine Side.mk ?_ ?_; focus (first | with_reducible rfl | assumption)) | refine Got.mk (fun _ _ => ?_)) | fail); all_goals try (conv => whnf)
          refine ⟨1, .inr ⟨rfl, hm⟩, ?_⟩
          repeat' (first | (with_reducible refine Unf.h ?_) | ((conv => whnf); first | (refine Side.mk ?_ ?_; focus (with_reducible rfl)) | (with_reducible refine Unf.h ?_) | exact True.intro) | fail); all_goals try (conv => whnf)
      · intro c hc
        repeat' (first | (with_reducible refine Unf.h ?_) | fail); all_goals try (conv => whnf)
        refine CutS.mk (I := Unit) (fun _ => True) (fun _ => [(13, .dec (mayA m.a7 e e) inferInstance), (12, .int .i64 c), (9, .int .i64 1), (7, .int .i64 1), (5, .nilp)]) (fun _ => []) 0 ?_ ?_
        · repeat' (first | (with_reducible first | refine Unf.h ?_ | refine cutK_n ?_) | ((conv => whnf); refine Fork.mk (fun h => ?_) (fun h => ?_)) | fail); all_goals try (conv => whnf)
          all_goals
            refine ⟨(), trivial, ?_⟩
            clear hc
            repeat' (first | (with_reducible refine Unf.h ?_) | ((conv => whnf); first | (refine Side.mk ?_ ?_; focus (first | with_reducible rfl | omega | (refine ⟨fun h => ?_, fun h => ?_⟩ <;> first | rfl | (cases h; done) | omega | (exfalso; omega) | (simp only [Bool.false_eq_true] at h; done)))) | (with_reducible refine Unf.h ?_) | exact True.intro) | fail); all_goals try (conv => whnf)
        · rintro ⟨⟩ -
          repeat' (first | (with_reducible refine Unf.h ?_) | ((conv => whnf); first | refine Fork.mk (fun h => ?_) (fun h => ?_) | (refine Side.mk ?_ ?_; focus (first | with_reducible rfl | exact True.intro | omega | exact dF (by omega))) | refine RetE.mk () trivial ?_ | refine Got.mk (fun _ _ => ?_) | refine retK_r ?_ | exact rfl | refine CallS.mk (c := floorN_c) (()) ?_ | refine CallS.mk (c := trustedN_c) (()) ?_ | refine CallS.mk (c := openN_c) (()) ?_) | fail); all_goals try (conv => whnf)
          · rcases hc with ⟨_, h'⟩ | ⟨rfl, _⟩
            · exact absurd h' h
            · refine Side.mk rfl ?_
              repeat' (first | (with_reducible refine Unf.h ?_) | ((conv => whnf); exact rfl) | fail); all_goals try (conv => whnf)
          · exfalso
            rcases hc with ⟨rfl, h'⟩ | ⟨rfl, h'⟩
            · exact h (by rw [decide_eq_true h']; rfl)
            · exact h (by rw [decide_eq_false h']; rfl)
end Go.Proofs.YtdpnfagkfebcjaaGreatDoor

namespace Go.Proofs.YtdpnfagkfebcjaaGreatDoor
set_option linter.all false
open Go.RowKit Go.ChangeShapes Go.WideShapes Go.ChangeAt
/-! messages, opened (printed by tools/opens.py) -/
section
variable {H : Type} {enc : TypeId × Value → H} {W : World} {spare : Nat → Bool} {held : Bool}
theorem o_Hd : Opens Tryz.prog enc W spare held 27 eHd :=
  (o_struct (i := ⟨.st [(0, 3), (1, 3), (2, 25), (34, 25)], 66, 80⟩) rfl rfl
    (o_field (off := 0) (off2 := 1) (j := ⟨.int .i64, 1, 8⟩) rfl (o_i64 (t := 3) (i := ⟨.int .i64, 1, 8⟩) rfl rfl) (fun _ => sizQ_spec rfl) rfl
    (o_field (off := 1) (off2 := 2) (j := ⟨.int .i64, 1, 8⟩) rfl (o_i64 (t := 3) (i := ⟨.int .i64, 1, 8⟩) rfl rfl) (fun _ => sizQ_spec rfl) rfl
    (o_field (off := 2) (off2 := 34) (j := ⟨.ar 32 5, 32, 32⟩) rfl (o_arr8 (t := 25) (i := ⟨.ar 32 5, 32, 32⟩) (j := ⟨.int .u8, 1, 1⟩) rfl rfl rfl rfl rfl rfl) (fun _ => sizQ_spec rfl) rfl
    (o_last (off := 34) (j := ⟨.ar 32 5, 32, 32⟩) rfl (o_arr8 (t := 25) (i := ⟨.ar 32 5, 32, 32⟩) (j := ⟨.int .u8, 1, 1⟩) rfl rfl rfl rfl rfl rfl) (fun _ => sizQ_spec rfl))))) (fun _ => sizQ_spec rfl) (by kernel_rfl)).map (fun p => (⟨p.1, p.2.1, p.2.2.1, p.2.2.2⟩ : Hd)) (fun _ => rfl)
theorem o_Sgd : Opens Tryz.prog enc W spare held 29 eSgd :=
  (o_struct (i := ⟨.st [(0, 27), (66, 23)], 67, 104⟩) rfl rfl
    (o_field (off := 0) (off2 := 66) (j := ⟨.st [(0, 3), (1, 3), (2, 25), (34, 25)], 66, 80⟩) rfl (o_Hd) (fun _ => sizQ_spec rfl) rfl
    (o_last (off := 66) (j := ⟨.sl 5, 1, 24⟩) rfl (o_slice (t := 23) (i := ⟨.sl 5, 1, 24⟩) (j := ⟨.int .u8, 1, 1⟩) (f := eB) rfl rfl rfl rfl rfl (o_uns (t := 5) (i := ⟨.int .u8, 1, 1⟩) (k := .u8) (w := 8) (mk := .u8) rfl rfl rfl rfl (fun _ _ => hc8)) (fun _ => sizQ_spec rfl)) (fun _ => sizQ_spec rfl))) (fun _ => sizQ_spec rfl) (by kernel_rfl)).map (fun p => (⟨p.1, p.2⟩ : Sgd)) (fun _ => rfl)
theorem o_Trl : Opens Tryz.prog enc W spare held 32 eTrl :=
  (o_struct (i := ⟨.st [(0, 30), (1, 30)], 2, 48⟩) rfl rfl
    (o_field (off := 0) (off2 := 1) (j := ⟨.sl 25, 1, 24⟩) rfl (o_slice (t := 30) (i := ⟨.sl 25, 1, 24⟩) (j := ⟨.ar 32 5, 32, 32⟩) (f := (fun v : Vector (BitVec 8) 32 => [.arr8 v])) rfl rfl rfl rfl rfl (o_arr8 (t := 25) (i := ⟨.ar 32 5, 32, 32⟩) (j := ⟨.int .u8, 1, 1⟩) rfl rfl rfl rfl rfl rfl) (fun _ => sizQ_spec rfl)) (fun _ => sizQ_spec rfl) rfl
    (o_last (off := 1) (j := ⟨.sl 25, 1, 24⟩) rfl (o_slice (t := 30) (i := ⟨.sl 25, 1, 24⟩) (j := ⟨.ar 32 5, 32, 32⟩) (f := (fun v : Vector (BitVec 8) 32 => [.arr8 v])) rfl rfl rfl rfl rfl (o_arr8 (t := 25) (i := ⟨.ar 32 5, 32, 32⟩) (j := ⟨.int .u8, 1, 1⟩) rfl rfl rfl rfl rfl rfl) (fun _ => sizQ_spec rfl)) (fun _ => sizQ_spec rfl))) (fun _ => sizQ_spec rfl) (by kernel_rfl)).map (fun p => (⟨p.1, p.2⟩ : Trl)) (fun _ => rfl)
theorem o_Pfz : Opens Tryz.prog enc W spare held 35 ePfz :=
  (o_struct (i := ⟨.st [(0, 3), (1, 25)], 33, 40⟩) rfl rfl
    (o_field (off := 0) (off2 := 1) (j := ⟨.int .i64, 1, 8⟩) rfl (o_i64 (t := 3) (i := ⟨.int .i64, 1, 8⟩) rfl rfl) (fun _ => sizQ_spec rfl) rfl
    (o_last (off := 1) (j := ⟨.ar 32 5, 32, 32⟩) rfl (o_arr8 (t := 25) (i := ⟨.ar 32 5, 32, 32⟩) (j := ⟨.int .u8, 1, 1⟩) rfl rfl rfl rfl rfl rfl) (fun _ => sizQ_spec rfl))) (fun _ => sizQ_spec rfl) (by kernel_rfl)).map (fun p => (⟨p.1, p.2⟩ : Pfz)) (fun _ => rfl)
theorem o_Stpz : Opens Tryz.prog enc W spare held 153 eStpz :=
  (o_struct (i := ⟨.st [(0, 35), (33, 25)], 65, 72⟩) rfl rfl
    (o_field (off := 0) (off2 := 33) (j := ⟨.st [(0, 3), (1, 25)], 33, 40⟩) rfl (o_Pfz) (fun _ => sizQ_spec rfl) rfl
    (o_last (off := 33) (j := ⟨.ar 32 5, 32, 32⟩) rfl (o_arr8 (t := 25) (i := ⟨.ar 32 5, 32, 32⟩) (j := ⟨.int .u8, 1, 1⟩) rfl rfl rfl rfl rfl rfl) (fun _ => sizQ_spec rfl))) (fun _ => sizQ_spec rfl) (by kernel_rfl)).map (fun p => (⟨p.1, p.2⟩ : Stpz)) (fun _ => rfl)
theorem o_Prfz : Opens Tryz.prog enc W spare held 37 ePrfz :=
  (o_struct (i := ⟨.st [(0, 33), (1, 3), (2, 25), (34, 25), (66, 35), (99, 25), (131, 25)], 163, 200⟩) rfl rfl
    (o_field (off := 0) (off2 := 1) (j := ⟨.sl 153, 1, 24⟩) rfl (o_slice (t := 33) (i := ⟨.sl 153, 1, 24⟩) (j := ⟨.st [(0, 35), (33, 25)], 65, 72⟩) (f := eStpz) rfl rfl rfl rfl rfl (o_Stpz) (fun _ => sizQ_spec rfl)) (fun _ => sizQ_spec rfl) rfl
    (o_field (off := 1) (off2 := 2) (j := ⟨.int .i64, 1, 8⟩) rfl (o_i64 (t := 3) (i := ⟨.int .i64, 1, 8⟩) rfl rfl) (fun _ => sizQ_spec rfl) rfl
    (o_field (off := 2) (off2 := 34) (j := ⟨.ar 32 5, 32, 32⟩) rfl (o_arr8 (t := 25) (i := ⟨.ar 32 5, 32, 32⟩) (j := ⟨.int .u8, 1, 1⟩) rfl rfl rfl rfl rfl rfl) (fun _ => sizQ_spec rfl) rfl
    (o_field (off := 34) (off2 := 66) (j := ⟨.ar 32 5, 32, 32⟩) rfl (o_arr8 (t := 25) (i := ⟨.ar 32 5, 32, 32⟩) (j := ⟨.int .u8, 1, 1⟩) rfl rfl rfl rfl rfl rfl) (fun _ => sizQ_spec rfl) rfl
    (o_field (off := 66) (off2 := 99) (j := ⟨.st [(0, 3), (1, 25)], 33, 40⟩) rfl (o_Pfz) (fun _ => sizQ_spec rfl) rfl
    (o_field (off := 99) (off2 := 131) (j := ⟨.ar 32 5, 32, 32⟩) rfl (o_arr8 (t := 25) (i := ⟨.ar 32 5, 32, 32⟩) (j := ⟨.int .u8, 1, 1⟩) rfl rfl rfl rfl rfl rfl) (fun _ => sizQ_spec rfl) rfl
    (o_last (off := 131) (j := ⟨.ar 32 5, 32, 32⟩) rfl (o_arr8 (t := 25) (i := ⟨.ar 32 5, 32, 32⟩) (j := ⟨.int .u8, 1, 1⟩) rfl rfl rfl rfl rfl rfl) (fun _ => sizQ_spec rfl)))))))) (fun _ => sizQ_spec rfl) (by kernel_rfl)).map (fun p => (⟨p.1, p.2.1, p.2.2.1, p.2.2.2.1, p.2.2.2.2.1, p.2.2.2.2.2.1, p.2.2.2.2.2.2⟩ : Prfz)) (fun _ => rfl)
theorem o_Ver : Opens Tryz.prog enc W spare held 58 eVer :=
  (o_struct (i := ⟨.st [(0, 3), (1, 3), (2, 25), (34, 25), (66, 23)], 67, 104⟩) rfl rfl
    (o_field (off := 0) (off2 := 1) (j := ⟨.int .i64, 1, 8⟩) rfl (o_i64 (t := 3) (i := ⟨.int .i64, 1, 8⟩) rfl rfl) (fun _ => sizQ_spec rfl) rfl
    (o_field (off := 1) (off2 := 2) (j := ⟨.int .i64, 1, 8⟩) rfl (o_i64 (t := 3) (i := ⟨.int .i64, 1, 8⟩) rfl rfl) (fun _ => sizQ_spec rfl) rfl
    (o_field (off := 2) (off2 := 34) (j := ⟨.ar 32 5, 32, 32⟩) rfl (o_arr8 (t := 25) (i := ⟨.ar 32 5, 32, 32⟩) (j := ⟨.int .u8, 1, 1⟩) rfl rfl rfl rfl rfl rfl) (fun _ => sizQ_spec rfl) rfl
    (o_field (off := 34) (off2 := 66) (j := ⟨.ar 32 5, 32, 32⟩) rfl (o_arr8 (t := 25) (i := ⟨.ar 32 5, 32, 32⟩) (j := ⟨.int .u8, 1, 1⟩) rfl rfl rfl rfl rfl rfl) (fun _ => sizQ_spec rfl) rfl
    (o_last (off := 66) (j := ⟨.sl 5, 1, 24⟩) rfl (o_slice (t := 23) (i := ⟨.sl 5, 1, 24⟩) (j := ⟨.int .u8, 1, 1⟩) (f := eB) rfl rfl rfl rfl rfl (o_uns (t := 5) (i := ⟨.int .u8, 1, 1⟩) (k := .u8) (w := 8) (mk := .u8) rfl rfl rfl rfl (fun _ _ => hc8)) (fun _ => sizQ_spec rfl)) (fun _ => sizQ_spec rfl)))))) (fun _ => sizQ_spec rfl) (by kernel_rfl)).map (fun p => (⟨p.1, p.2.1, p.2.2.1, p.2.2.2.1, p.2.2.2.2⟩ : Ver)) (fun _ => rfl)
theorem o_Drow : Opens Tryz.prog enc W spare held 197 eDrow :=
  (o_struct (i := ⟨.st [(0, 4), (1, 25), (33, 25), (65, 35), (98, 25), (130, 25)], 162, 176⟩) rfl rfl
    (o_field (off := 0) (off2 := 1) (j := ⟨.bool, 1, 1⟩) rfl (o_bool (t := 4) (i := ⟨.bool, 1, 1⟩) rfl rfl) (fun _ => sizQ_spec rfl) rfl
    (o_field (off := 1) (off2 := 33) (j := ⟨.ar 32 5, 32, 32⟩) rfl (o_arr8 (t := 25) (i := ⟨.ar 32 5, 32, 32⟩) (j := ⟨.int .u8, 1, 1⟩) rfl rfl rfl rfl rfl rfl) (fun _ => sizQ_spec rfl) rfl
    (o_field (off := 33) (off2 := 65) (j := ⟨.ar 32 5, 32, 32⟩) rfl (o_arr8 (t := 25) (i := ⟨.ar 32 5, 32, 32⟩) (j := ⟨.int .u8, 1, 1⟩) rfl rfl rfl rfl rfl rfl) (fun _ => sizQ_spec rfl) rfl
    (o_field (off := 65) (off2 := 98) (j := ⟨.st [(0, 3), (1, 25)], 33, 40⟩) rfl (o_Pfz) (fun _ => sizQ_spec rfl) rfl
    (o_field (off := 98) (off2 := 130) (j := ⟨.ar 32 5, 32, 32⟩) rfl (o_arr8 (t := 25) (i := ⟨.ar 32 5, 32, 32⟩) (j := ⟨.int .u8, 1, 1⟩) rfl rfl rfl rfl rfl rfl) (fun _ => sizQ_spec rfl) rfl
    (o_last (off := 130) (j := ⟨.ar 32 5, 32, 32⟩) rfl (o_arr8 (t := 25) (i := ⟨.ar 32 5, 32, 32⟩) (j := ⟨.int .u8, 1, 1⟩) rfl rfl rfl rfl rfl rfl) (fun _ => sizQ_spec rfl))))))) (fun _ => sizQ_spec rfl) (by kernel_rfl)).map (fun p => (⟨p.1, p.2.1, p.2.2.1, p.2.2.2.1, p.2.2.2.2.1, p.2.2.2.2.2⟩ : Drow)) (fun _ => rfl)
theorem o_Nws : Opens Tryz.prog enc W spare held 60 eNws :=
  (o_struct (i := ⟨.st [(0, 23), (1, 58)], 68, 128⟩) rfl rfl
    (o_field (off := 0) (off2 := 1) (j := ⟨.sl 5, 1, 24⟩) rfl (o_slice (t := 23) (i := ⟨.sl 5, 1, 24⟩) (j := ⟨.int .u8, 1, 1⟩) (f := eB) rfl rfl rfl rfl rfl (o_uns (t := 5) (i := ⟨.int .u8, 1, 1⟩) (k := .u8) (w := 8) (mk := .u8) rfl rfl rfl rfl (fun _ _ => hc8)) (fun _ => sizQ_spec rfl)) (fun _ => sizQ_spec rfl) rfl
    (o_last (off := 1) (j := ⟨.st [(0, 3), (1, 3), (2, 25), (34, 25), (66, 23)], 67, 104⟩) rfl (o_Ver) (fun _ => sizQ_spec rfl))) (fun _ => sizQ_spec rfl) (by kernel_rfl)).map (fun p => (⟨p.1, p.2⟩ : Nws)) (fun _ => rfl)
set_option maxHeartbeats 8000000 in
theorem o_Msg : Opens Tryz.prog enc W spare held 42 eMsg :=
  (o_struct (i := ⟨.st [(0, 3), (1, 3), (2, 3), (3, 3), (4, 3), (5, 3), (6, 22), (7, 23), (8, 23), (9, 29), (76, 32), (78, 32), (80, 25), (112, 37), (275, 38), (276, 39), (277, 40), (278, 30)], 279, 632⟩) rfl rfl
    (o_field (off := 0) (off2 := 1) (j := ⟨.int .i64, 1, 8⟩) rfl (o_i64 (t := 3) (i := ⟨.int .i64, 1, 8⟩) rfl rfl) (fun _ => sizQ_spec rfl) rfl
    (o_field (off := 1) (off2 := 2) (j := ⟨.int .i64, 1, 8⟩) rfl (o_i64 (t := 3) (i := ⟨.int .i64, 1, 8⟩) rfl rfl) (fun _ => sizQ_spec rfl) rfl
    (o_field (off := 2) (off2 := 3) (j := ⟨.int .i64, 1, 8⟩) rfl (o_i64 (t := 3) (i := ⟨.int .i64, 1, 8⟩) rfl rfl) (fun _ => sizQ_spec rfl) rfl
    (o_field (off := 3) (off2 := 4) (j := ⟨.int .i64, 1, 8⟩) rfl (o_i64 (t := 3) (i := ⟨.int .i64, 1, 8⟩) rfl rfl) (fun _ => sizQ_spec rfl) rfl
    (o_field (off := 4) (off2 := 5) (j := ⟨.int .i64, 1, 8⟩) rfl (o_i64 (t := 3) (i := ⟨.int .i64, 1, 8⟩) rfl rfl) (fun _ => sizQ_spec rfl) rfl
    (o_field (off := 5) (off2 := 6) (j := ⟨.int .i64, 1, 8⟩) rfl (o_i64 (t := 3) (i := ⟨.int .i64, 1, 8⟩) rfl rfl) (fun _ => sizQ_spec rfl) rfl
    (o_field (off := 6) (off2 := 7) (j := ⟨.int .i64, 1, 8⟩) rfl (o_i64 (t := 22) (i := ⟨.int .i64, 1, 8⟩) rfl rfl) (fun _ => sizQ_spec rfl) rfl
    (o_field (off := 7) (off2 := 8) (j := ⟨.sl 5, 1, 24⟩) rfl (o_slice (t := 23) (i := ⟨.sl 5, 1, 24⟩) (j := ⟨.int .u8, 1, 1⟩) (f := eB) rfl rfl rfl rfl rfl (o_uns (t := 5) (i := ⟨.int .u8, 1, 1⟩) (k := .u8) (w := 8) (mk := .u8) rfl rfl rfl rfl (fun _ _ => hc8)) (fun _ => sizQ_spec rfl)) (fun _ => sizQ_spec rfl) rfl
    (o_field (off := 8) (off2 := 9) (j := ⟨.sl 5, 1, 24⟩) rfl (o_slice (t := 23) (i := ⟨.sl 5, 1, 24⟩) (j := ⟨.int .u8, 1, 1⟩) (f := eB) rfl rfl rfl rfl rfl (o_uns (t := 5) (i := ⟨.int .u8, 1, 1⟩) (k := .u8) (w := 8) (mk := .u8) rfl rfl rfl rfl (fun _ _ => hc8)) (fun _ => sizQ_spec rfl)) (fun _ => sizQ_spec rfl) rfl
    (o_field (off := 9) (off2 := 76) (j := ⟨.st [(0, 27), (66, 23)], 67, 104⟩) rfl (o_Sgd) (fun _ => sizQ_spec rfl) rfl
    (o_field (off := 76) (off2 := 78) (j := ⟨.st [(0, 30), (1, 30)], 2, 48⟩) rfl (o_Trl) (fun _ => sizQ_spec rfl) rfl
    (o_field (off := 78) (off2 := 80) (j := ⟨.st [(0, 30), (1, 30)], 2, 48⟩) rfl (o_Trl) (fun _ => sizQ_spec rfl) rfl
    (o_field (off := 80) (off2 := 112) (j := ⟨.ar 32 5, 32, 32⟩) rfl (o_arr8 (t := 25) (i := ⟨.ar 32 5, 32, 32⟩) (j := ⟨.int .u8, 1, 1⟩) rfl rfl rfl rfl rfl rfl) (fun _ => sizQ_spec rfl) rfl
    (o_field (off := 112) (off2 := 275) (j := ⟨.st [(0, 33), (1, 3), (2, 25), (34, 25), (66, 35), (99, 25), (131, 25)], 163, 200⟩) rfl (o_Prfz) (fun _ => sizQ_spec rfl) rfl
    (o_field (off := 275) (off2 := 276) (j := ⟨.sl 58, 1, 24⟩) rfl (o_slice (t := 38) (i := ⟨.sl 58, 1, 24⟩) (j := ⟨.st [(0, 3), (1, 3), (2, 25), (34, 25), (66, 23)], 67, 104⟩) (f := eVer) rfl rfl rfl rfl rfl (o_Ver) (fun _ => sizQ_spec rfl)) (fun _ => sizQ_spec rfl) rfl
    (o_field (off := 276) (off2 := 277) (j := ⟨.sl 197, 1, 24⟩) rfl (o_slice (t := 39) (i := ⟨.sl 197, 1, 24⟩) (j := ⟨.st [(0, 4), (1, 25), (33, 25), (65, 35), (98, 25), (130, 25)], 162, 176⟩) (f := eDrow) rfl rfl rfl rfl rfl (o_Drow) (fun _ => sizQ_spec rfl)) (fun _ => sizQ_spec rfl) rfl
    (o_field (off := 277) (off2 := 278) (j := ⟨.sl 60, 1, 24⟩) rfl (o_slice (t := 40) (i := ⟨.sl 60, 1, 24⟩) (j := ⟨.st [(0, 23), (1, 58)], 68, 128⟩) (f := eNws) rfl rfl rfl rfl rfl (o_Nws) (fun _ => sizQ_spec rfl)) (fun _ => sizQ_spec rfl) rfl
    (o_last (off := 278) (j := ⟨.sl 25, 1, 24⟩) rfl (o_slice (t := 30) (i := ⟨.sl 25, 1, 24⟩) (j := ⟨.ar 32 5, 32, 32⟩) (f := (fun v : Vector (BitVec 8) 32 => [.arr8 v])) rfl rfl rfl rfl rfl (o_arr8 (t := 25) (i := ⟨.ar 32 5, 32, 32⟩) (j := ⟨.int .u8, 1, 1⟩) rfl rfl rfl rfl rfl rfl) (fun _ => sizQ_spec rfl)) (fun _ => sizQ_spec rfl))))))))))))))))))) (fun _ => sizQ_spec rfl) (by kernel_rfl)).map (fun p => (⟨p.1, p.2.1, p.2.2.1, p.2.2.2.1, p.2.2.2.2.1, p.2.2.2.2.2.1, p.2.2.2.2.2.2.1, p.2.2.2.2.2.2.2.1, p.2.2.2.2.2.2.2.2.1, p.2.2.2.2.2.2.2.2.2.1, p.2.2.2.2.2.2.2.2.2.2.1, p.2.2.2.2.2.2.2.2.2.2.2.1, p.2.2.2.2.2.2.2.2.2.2.2.2.1, p.2.2.2.2.2.2.2.2.2.2.2.2.2.1, p.2.2.2.2.2.2.2.2.2.2.2.2.2.2.1, p.2.2.2.2.2.2.2.2.2.2.2.2.2.2.2.1, p.2.2.2.2.2.2.2.2.2.2.2.2.2.2.2.2.1, p.2.2.2.2.2.2.2.2.2.2.2.2.2.2.2.2.2⟩ : Msg)) (fun _ => rfl)

end
end Go.Proofs.YtdpnfagkfebcjaaGreatDoor

/- MY OWN ENGINE: the variables that the rows of this seat list; no text that is walked here reads them. -/
namespace Go.Proofs.YtdpnfagkfebcjaaGreatDoor
set_option linter.all false
open Go.RowKit Go.ChangeShapes Go.WideShapes Go.ChangeAt
theorem Tryz.own : ownKnob Tryz.prog.godebug = none := by kernel_rfl
theorem Tryz.laidOut : laidOutB Tryz.prog = true := by kernel_rfl
def laidL {H : Type} : List (String × DataW H) := [("math/bits.deBruijn32tab", Rows.laid_math_bits_deBruijn32tab), ("math/bits.deBruijn64tab", Rows.laid_math_bits_deBruijn64tab), ("rolodex/hash.begin", Rows.laid_rolodex_hash_begin), ("rolodex/hash.rounds", Rows.laid_rolodex_hash_rounds), ("rolodex/lmots.forms", Rows.laid_rolodex_lmots_forms)]
theorem glob_of_laid {W : World} (_h : laidMetH Tryz.prog laidL W) : Glob Tryz.prog W none0 := fun g ps hm => by
  have e : TabC.gl Tryz.prog = [] := rfl
  rw [e] at hm; cases hm
theorem door_met (os : Os) (args : Array Value) : laidMetH Tryz.prog laidL ((World.doorLaid Tryz.prog 400 os).forCall (fun _ _ => 0) ⟨#[], args, []⟩).memory :=
  laidMetH_of_parts3 (fuel := 8) (laidMet_of_run' 8 (by kernel_rfl) (by kernel_rfl)) (by kernel_rfl) (by kernel_rfl)
section
variable {H : Type} {enc : TypeId × Value → H} {W : World} {spare : Nat → Bool} {held : Bool}
theorem o_int : Opens Tryz.prog enc W spare held 3 (fun n : Int => [.int .i64 n]) := o_i64 (i := ⟨.int .i64, 1, 8⟩) rfl rfl
end
end Go.Proofs.YtdpnfagkfebcjaaGreatDoor

import Derived.Test.YtdflndjlnkoliaaGreatDoorZLENil2
import Derived.Test.YtdflndjlnkoliaaGreatDoorLaw
import Derived.Stop.LaidErr
import Derived.Lay
namespace Go.Proofs.YtdflndjlnkoliaaGreatDoor
set_option linter.all false
open Go.RowKit
/-! no directory; awake -/
abbrev zShw : List SV := [.arr8 zeroH, .nils, .int .i64 0, .arr8 zeroH, .arr8 zeroH, .int .i64 0, .arr8 zeroH, .arr8 zeroH, .arr8 zeroH, .nils]
abbrev zHead : List SV := [.int .i64 0, .int .i64 0, .arr8 zeroH, .arr8 zeroH]
def shwN_c : Ctr where
  D := Bs × Int
  args := fun (x, e) => [.nilp, .fs 1 eB x, .int .i64 e]
  res := fun _ _ => .tup [.agg zShw, .int .i64 1]
def shwN_H : Cfg := ⟨[], [(8, [3, 5], [7, 8, 12, 13], (.one 0 0 false (.one 1 0 false (.one 2 0 false (.one 3 1 false (.one 4 0 false (.one 5 1 false (.one 6 0 false (.alt 7 true (.alt 8 true (.one 9 0 false (.one 10 0 false (.one 11 0 false (.one 12 2 true (.one 13 2 false (.one 14 0 false .nil)))))) (.one 12 2 true (.one 8 2 false (.one 9 0 false (.one 10 0 false (.one 11 0 false (.one 13 2 false (.one 14 0 false .nil)))))))) (.one 12 2 true (.one 7 2 true (.one 8 2 false (.one 9 0 false (.one 10 0 false (.one 11 0 false (.one 13 2 false (.one 14 0 false .nil)))))))))))))))), []), (11, [1, 2], [5, 7, 9], (.one 0 0 false (.one 1 1 false (.one 2 1 false (.one 3 0 false (.one 4 0 false (.one 6 0 false (.one 5 2 true (.one 7 2 true (.one 8 0 false (.one 9 2 false (.one 10 0 false .nil))))))))))), [])], [], [], 60, 0, [], [], []⟩
theorem shwN_ok : shwN_c.Ok Tryz.prog 20 := by
  refine fn_ok shwN_H 0 rfl _ Tryz.func20 rfl rfl trivial rfl rfl (by kernel_rfl) (fun _ => Nat.le_of_ble_eq_true rfl) ?_
  rintro ⟨x, e⟩ hp hr
  try dsimp only [shwN_c] at hp
  try simp only [shwN_c, Rng, RngL, inR, and_true, true_and] at hr
  repeat' (first | (with_reducible refine Unf.h ?_) | ((conv => whnf); first | (refine Side.mk ?_ ?_; focus (with_reducible rfl)) | refine RetE.mk () trivial ?_ | refine retK_r ?_ | exact rfl) | fail); all_goals try (conv => whnf); all_goals try (exfalso; omega)
def plcN_c : Ctr where
  D := Int × Int
  args := fun (e, n) => [.nilp, .int .i64 e, .int .i64 n]
  res := fun _ _ => .tup [.agg [.nils, .nils], .int .i64 1]
def plcN_H : Cfg := ⟨[], [], [], [], 35, 0, [], [], []⟩
theorem plcN_ok : plcN_c.Ok Tryz.prog 9 := by
  refine fn_ok plcN_H 0 rfl _ Tryz.func9 rfl rfl trivial rfl rfl (by kernel_rfl) (fun _ => Nat.le_of_ble_eq_true rfl) ?_
  rintro ⟨e, n⟩ hp hr
  try dsimp only [plcN_c] at hp
  try simp only [plcN_c, Rng, RngL, inR, and_true, true_and] at hr
  repeat' (first | (with_reducible refine Unf.h ?_) | ((conv => whnf); first | (refine Side.mk ?_ ?_; focus (with_reducible rfl)) | refine RetE.mk () trivial ?_ | refine retK_r ?_ | exact rfl) | fail); all_goals try (conv => whnf); all_goals try (exfalso; omega)
def gthN_c : Ctr where
  D := Unit
  args := fun _ => [.nilp, .int .i64 0, .int .i64 0]
  res := fun _ _ => .tup [.agg [.nils, .nils], .int .i64 1]
def gthN_H : Cfg := ⟨[], [], [], [], 34, 0, [], [], []⟩
theorem gthN_ok : gthN_c.Ok Tryz.prog 10 := by
  refine fn_ok gthN_H 0 rfl _ Tryz.func10 rfl rfl trivial rfl rfl (by kernel_rfl) (fun _ => Nat.le_of_ble_eq_true rfl) ?_
  intro (_ : Unit) hp hr
  try dsimp only [gthN_c] at hp
  try simp only [gthN_c, Rng, RngL, inR, and_true, true_and] at hr
  repeat' (first | (with_reducible refine Unf.h ?_) | ((conv => whnf); first | (refine Side.mk ?_ ?_; focus (with_reducible rfl)) | refine RetE.mk () trivial ?_ | refine retK_r ?_ | exact rfl) | fail); all_goals try (conv => whnf); all_goals try (exfalso; omega)
def sealN_c : Ctr where
  D := Unit
  args := fun _ => [.nilp, .nils]
  res := fun _ _ => .int .i64 1
def sealN_H : Cfg := ⟨[], [(10, [3, 5, 8, 12], [9, 13], (.one 0 0 false (.one 1 0 false (.one 2 0 false (.one 3 1 false (.one 4 0 false (.one 5 1 false (.one 6 0 false (.one 7 0 false (.one 8 1 false (.one 10 0 false (.one 11 0 false (.one 12 1 false (.one 9 2 true (.one 13 2 false (.one 14 0 false (.one 15 0 false (.one 16 0 false (.one 17 0 false (.one 18 0 false .nil))))))))))))))))))), []), (13, [2, 8], [10, 11], (.one 0 0 false (.one 1 0 false (.one 2 1 false (.one 3 0 false (.one 4 0 false (.one 5 0 false (.one 6 0 false (.one 7 0 false (.one 8 1 false (.one 9 0 false (.one 10 2 false (.one 11 2 false (.one 12 0 false .nil))))))))))))), [])], [], [], 96, 0, [], [], []⟩
theorem sealN_ok : sealN_c.Ok Tryz.prog 17 := by
  refine fn_ok sealN_H 0 rfl _ Tryz.func17 rfl rfl trivial rfl rfl (by kernel_rfl) (fun _ => Nat.le_of_ble_eq_true rfl) ?_
  intro (_ : Unit) hp hr
  try dsimp only [sealN_c] at hp
  try simp only [sealN_c, Rng, RngL, inR, and_true, true_and] at hr
  repeat' (first | (with_reducible refine Unf.h ?_) | ((conv => whnf); first | (refine Side.mk ?_ ?_; focus ((refine congrArg (SV.int _) ?_; omega))) | refine RetE.mk () trivial ?_ | refine retK_r ?_ | exact rfl) | fail); all_goals try (conv => whnf); all_goals try (exfalso; omega)
def adpN_c : Ctr where
  D := Unit
  args := fun _ => [.nilp, .agg zHead, .nils, .nils]
  res := fun _ _ => .int .i64 1
def adpN_H : Cfg := ⟨[], [(3, [1, 5], [], (.one 0 0 false (.one 1 1 false (.one 2 0 false (.one 3 0 false (.one 4 0 false (.one 5 1 false (.one 6 0 false (.one 7 0 false (.one 8 0 false (.one 9 0 false .nil)))))))))), []), (9, [3, 8], [5, 9], (.one 0 0 false (.one 1 0 false (.one 2 0 false (.one 3 1 false (.one 4 0 false (.one 6 0 false (.one 7 0 false (.one 8 1 false (.one 5 2 true (.one 9 2 false (.one 10 0 false (.one 11 0 false (.one 12 0 false (.one 13 0 false (.one 14 0 false .nil))))))))))))))), [])], [], [], 87, 0, [], [], []⟩
theorem adpN_ok : adpN_c.Ok Tryz.prog 22 := by
  refine fn_ok adpN_H 0 rfl _ Tryz.func22 rfl rfl trivial rfl rfl (by kernel_rfl) (fun _ => Nat.le_of_ble_eq_true rfl) ?_
  intro (_ : Unit) hp hr
  try dsimp only [adpN_c] at hp
  try simp only [adpN_c, Rng, RngL, inR, and_true, true_and] at hr
  repeat' (first | (with_reducible refine Unf.h ?_) | ((conv => whnf); first | (refine Side.mk ?_ ?_; focus ((refine congrArg (SV.int _) ?_; omega))) | refine RetE.mk () trivial ?_ | refine retK_r ?_ | exact rfl) | fail); all_goals try (conv => whnf); all_goals try (exfalso; omega)
def headN_c : Ctr where
  D := Unit
  args := fun _ => [.nilp, .int .i64 1]
  res := fun _ _ => .agg zHead
def headN_H : Cfg := ⟨[(21, epsN_c)], [(3, [3, 7, 11], [12, 13], (.one 0 0 false (.one 1 0 false (.one 2 0 false (.one 3 1 false (.one 4 0 false (.one 5 0 false (.one 6 0 false (.one 7 1 false (.one 8 0 false (.one 9 0 false (.one 10 0 false (.one 11 1 false (.one 12 2 true (.one 13 2 false .nil)))))))))))))), []), (4, [3, 7], [9, 10, 12], (.one 0 0 false (.one 1 0 false (.one 2 0 false (.one 3 1 false (.one 4 0 false (.one 5 0 false (.one 6 0 false (.one 7 1 false (.one 8 0 false (.one 9 2 true (.one 10 2 true (.one 11 0 false (.one 12 2 false .nil))))))))))))), [])], [], [], 34, 0, [], [], []⟩
theorem headN_ok : headN_c.Ok Tryz.prog 23 := by
  refine fn_ok headN_H 0 rfl _ Tryz.func23 rfl rfl ⟨epsN_ok, trivial⟩ rfl rfl (by kernel_rfl) (fun _ => Nat.le_of_ble_eq_true rfl) ?_
  intro (_ : Unit) hp hr
  try dsimp only [headN_c] at hp
  try simp only [headN_c, Rng, RngL, inR, and_true, true_and] at hr
  repeat' (first | (with_reducible refine Unf.h ?_) | ((conv => whnf); first | refine Fork.mk (fun h => ?_) (fun h => ?_) | (refine Side.mk ?_ ?_; focus (first | with_reducible rfl | exact True.intro)) | refine RetE.mk () trivial ?_ | refine Got.mk (fun _ _ => ?_) | refine retK_r ?_ | exact rfl | refine CallS.mk (c := epsN_c) (()) ?_) | fail); all_goals try (conv => whnf); all_goals try (exfalso; omega)
def hasEN_c : Ctr where
  D := Int
  args := fun e => [.nilp, .int .i64 e]
  res := fun _ _ => .bool false
def hasEN_H : Cfg := ⟨[(21, epsN_c)], [], [], [], 13, 0, [], [], []⟩
theorem hasEN_ok : hasEN_c.Ok Tryz.prog 59 := by
  refine fn_ok hasEN_H 0 rfl _ Tryz.func59 rfl rfl ⟨epsN_ok, trivial⟩ rfl rfl (by kernel_rfl) (fun _ => Nat.le_of_ble_eq_true rfl) ?_
  intro (e : Int) hp hr
  try dsimp only [hasEN_c] at hp
  try simp only [hasEN_c, Rng, RngL, inR, and_true, true_and] at hr
  repeat' (first | (with_reducible refine Unf.h ?_) | ((conv => whnf); first | refine Fork.mk (fun h => ?_) (fun h => ?_) | (refine Side.mk ?_ ?_; focus (first | with_reducible rfl | exact True.intro)) | refine RetE.mk () trivial ?_ | refine Got.mk (fun _ _ => ?_) | refine retK_r ?_ | exact rfl | refine CallS.mk (c := epsN_c) (()) ?_) | fail); all_goals try (conv => whnf); all_goals try (exfalso; omega)
  refine Side.mk (decide_eq_false (by omega)) ?_
  repeat' (first | (with_reducible refine Unf.h ?_) | ((conv => whnf); exact rfl) | fail); all_goals try (conv => whnf); all_goals try (exfalso; omega)
def newsN_c : Ctr where
  D := Int
  args := fun e => [.nilp, .int .i64 e]
  res := fun _ _ => .nils
def newsN_H : Cfg := ⟨[(59, hasEN_c)], [], [], [], 19, 0, [], [], []⟩
theorem newsN_ok : newsN_c.Ok Tryz.prog 24 := by
  refine fn_ok newsN_H 0 rfl _ Tryz.func24 rfl rfl ⟨hasEN_ok, trivial⟩ rfl rfl (by kernel_rfl) (fun _ => Nat.le_of_ble_eq_true rfl) ?_
  intro (e : Int) hp hr
  try dsimp only [newsN_c] at hp
  try simp only [newsN_c, Rng, RngL, inR, and_true, true_and] at hr
  repeat' (first | (with_reducible refine Unf.h ?_) | ((conv => whnf); first | (refine Side.mk ?_ ?_; focus (first | with_reducible rfl | exact True.intro | (dsimp only [resS, newsN_c]; done))) | refine RetE.mk () trivial ?_ | refine Got.mk (fun _ _ => ?_) | refine retK_r ?_ | exact rfl | refine CallS.mk (c := hasEN_c) (e) ?_) | fail); all_goals try (conv => whnf); all_goals try (exfalso; omega)
def rowsN_c : Ctr where
  D := Int
  args := fun e => [.nilp, .int .i64 e]
  res := fun _ _ => .nils
def rowsN_H : Cfg := ⟨[(59, hasEN_c)], [(3, [3, 7, 12, 16, 21], [22], (.one 0 0 false (.one 1 0 false (.one 2 0 false (.one 3 1 false (.one 4 0 false (.one 5 0 false (.one 6 0 false (.one 7 1 false (.one 8 0 false (.one 9 0 false (.one 10 0 false (.one 11 0 false (.one 12 1 false (.one 13 0 false (.one 14 0 false (.one 15 0 false (.one 16 1 false (.one 17 0 false (.one 18 0 false (.one 19 0 false (.one 20 0 false (.one 21 1 false (.one 22 2 false (.one 23 0 false (.one 24 0 false (.one 25 0 false (.one 26 0 false (.one 27 0 false .nil)))))))))))))))))))))))))))), [])], [], [], 38, 0, [], [], []⟩
theorem rowsN_ok : rowsN_c.Ok Tryz.prog 25 := by
  refine fn_ok rowsN_H 0 rfl _ Tryz.func25 rfl rfl ⟨hasEN_ok, trivial⟩ rfl rfl (by kernel_rfl) (fun _ => Nat.le_of_ble_eq_true rfl) ?_
  intro (e : Int) hp hr
  try dsimp only [rowsN_c] at hp
  try simp only [rowsN_c, Rng, RngL, inR, and_true, true_and] at hr
  repeat' (first | (with_reducible refine Unf.h ?_) | ((conv => whnf); first | (refine Side.mk ?_ ?_; focus (first | with_reducible rfl | exact True.intro | (dsimp only [resS, rowsN_c]; done))) | refine RetE.mk () trivial ?_ | refine Got.mk (fun _ _ => ?_) | refine retK_r ?_ | exact rfl | refine CallS.mk (c := hasEN_c) (e) ?_) | fail); all_goals try (conv => whnf); all_goals try (exfalso; omega)
def treesN_c : Ctr where
  D := Unit
  args := fun _ => [.nilp]
  res := fun _ _ => .nils
def treesN_H : Cfg := ⟨[(21, epsN_c)], [], [], [], 24, 0, [], [], []⟩
theorem treesN_ok : treesN_c.Ok Tryz.prog 26 := by
  refine fn_ok treesN_H 0 rfl _ Tryz.func26 rfl rfl ⟨epsN_ok, trivial⟩ rfl rfl (by kernel_rfl) (fun _ => Nat.le_of_ble_eq_true rfl) ?_
  intro (_ : Unit) hp hr
  try dsimp only [treesN_c] at hp
  try simp only [treesN_c, Rng, RngL, inR, and_true, true_and] at hr
  repeat' (first | (with_reducible refine Unf.h ?_) | fail); all_goals try (conv => whnf); all_goals try (exfalso; omega)
  refine LoopS.autoN (I := Unit) (fun _ => True) (fun _ => [(4, .int .i64 1), (3, .nils)]) (fun _ => []) 0 (fun _ => 0) () trivial ?_ ?_
  · repeat' (first | (with_reducible refine Unf.h ?_) | ((conv => whnf); first | (refine Side.mk ?_ ?_; focus (with_reducible rfl)) | (with_reducible refine Unf.h ?_) | exact True.intro) | fail); all_goals try (conv => whnf); all_goals try (exfalso; omega)
  · intro _ _
    repeat' (first | (with_reducible refine Unf.h ?_) | ((conv => whnf); first | refine Fork.mk (fun h => ?_) (fun h => ?_) | (refine Side.mk ?_ ?_; focus (first | with_reducible rfl | exact True.intro | (dsimp only [resS, treesN_c]; done))) | refine RetE.mk () trivial ?_ | refine Got.mk (fun _ _ => ?_) | refine retK_r ?_ | exact rfl | refine CallS.mk (c := epsN_c) (()) ?_) | fail); all_goals try (conv => whnf); all_goals try (exfalso; omega)
def shows0_c : Ctr where
  D := Unit
  args := fun _ => [.nils, .agg zShw]
  res := fun _ _ => .bool false
def shows0_H : Cfg := ⟨[], [(3, [1, 5], [3, 6, 11, 12], (.one 0 0 false (.one 1 1 false (.one 2 0 false (.one 4 0 false (.one 5 1 false (.alt 3 true (.alt 6 true (.one 7 0 false (.one 8 0 false (.one 9 0 false (.one 10 0 false (.one 11 2 true (.one 12 2 false (.one 13 0 false (.one 14 0 false .nil)))))))) (.one 11 2 true (.one 6 2 false (.one 7 0 false (.one 8 0 false (.one 9 0 false (.one 10 0 false (.one 12 2 false (.one 13 0 false (.one 14 0 false .nil)))))))))) (.one 11 2 true (.one 3 2 true (.one 6 2 false (.one 7 0 false (.one 8 0 false (.one 9 0 false (.one 10 0 false (.one 12 2 false (.one 13 0 false (.one 14 0 false .nil)))))))))))))))), []), (8, [2, 4], [3, 5], (.one 0 0 false (.one 1 0 false (.one 2 1 false (.one 4 1 false (.one 3 2 true (.one 5 2 false (.one 6 0 false .nil))))))), [])], [], [], 43, 0, [], [], []⟩
theorem shows0_ok : shows0_c.Ok Tryz.prog 27 := by
  refine fn_ok shows0_H 0 rfl _ Tryz.func27 rfl rfl trivial rfl rfl (by kernel_rfl) (fun _ => Nat.le_of_ble_eq_true rfl) ?_
  intro (_ : Unit) hp hr
  try dsimp only [shows0_c] at hp
  try simp only [shows0_c, Rng, RngL, inR, and_true, true_and] at hr
  repeat' (first | (with_reducible refine Unf.h ?_) | ((conv => whnf); first | refine Fork.mk (fun h => ?_) (fun h => ?_) | (refine Side.mk ?_ ?_; focus (with_reducible rfl)) | refine RetE.mk () trivial ?_ | refine retK_r ?_ | exact rfl) | fail); all_goals try (conv => whnf); all_goals try (exfalso; omega)
def awk_c : Ctr where
  D := Unit
  args := fun _ => []
  res := fun _ _ => .bool true
def awk_H : Cfg := ⟨[(15, enew_c), (17, eseal_c), (21, eps_c)], [], [], [], 16, 0, [], [], [8]⟩
theorem awk_ok : awk_c.Ok Tryz.prog 6 := by
  refine fn_ok awk_H 0 rfl _ Tryz.func6 rfl rfl ⟨enew_ok, eseal_ok, eps_ok, trivial⟩ rfl rfl (by kernel_rfl) (fun _ => Nat.le_of_ble_eq_true rfl) ?_
  intro (_ : Unit) hp hr
  try dsimp only [awk_c] at hp
  try simp only [awk_c, Rng, RngL, inR, and_true, true_and] at hr
  have hpn : enew_c.pre key1 := trivial
  have hoku : okU [] ([97#8], []) := ⟨by decide, trivial, by decide, by decide, by decide⟩
  have hps : eseal_c.pre (key1, [], [([97#8], [])]) := ⟨StOk.nil, by decide, by decide, by decide⟩
  have es : sealF key1 [] [([97#8], [])] = ([[verN key1 [] ([97#8], [])]], 0) := by
    unfold sealF
    rw [if_neg (by decide), if_pos ⟨fun u hu => by obtain rfl := List.mem_singleton.1 hu; exact hoku, by decide⟩]; rfl
  repeat' (first | (with_reducible refine Unf.h ?_) | fail); all_goals try (conv => whnf); all_goals try (exfalso; omega)
  refine CallS.mk (c := enew_c) (key1) ?_
  repeat' (first | (with_reducible refine Unf.h ?_) | ((conv => whnf); first | (refine Side.mk ?_ ?_; focus (first | with_reducible rfl | exact True.intro | (intros; (try simp only [lenS, inR, cutS, loI, hiI] at *); omega))) | refine Got.mk (fun _ _ => ?_) | refine Ex.mk [_] rfl ?_) | fail); all_goals try (conv => whnf); all_goals try (exfalso; omega)
  refine ValS.mk (OpsK.nilA 7 [.fs 1 eB [97#8], .nils] [.fs 1 eB [97#8], .fs 1 eB []] rfl ⟨.inl rfl, .inr ⟨rfl, _, _, _, rfl⟩, trivial⟩ ?_)
  repeat' (first | (with_reducible refine Unf.h ?_) | fail); all_goals try (conv => whnf); all_goals try (exfalso; omega)
  have f1 : (builtF (kvs [])).1 = [] := rfl
  have f2 : slds [] = [] := rfl
  have f3 : peo [] = [] := rfl
  have f4 : (slds (sealF key1 [] [([97#8], [])]).1).length = 1 := by rw [es]; rfl
  have f5 : (sealF key1 [] [([97#8], [])]).2 = 0 := by rw [es]
  refine CallS.mk (c := eseal_c) ((key1, [], [([97#8], [])])) ?_
  repeat' (first | (with_reducible refine Unf.h ?_) | ((conv => whnf); first | refine Fork.mk (fun h => ?_) (fun h => ?_) | (refine Side.mk ?_ ?_; focus (first | with_reducible rfl | assumption | (simp only [*, f1, f2, f3, f5]; done) | (simp only [*, f1, f2, f3, f5, List.map_cons, List.map_nil, eB]; done))) | refine Got.mk (fun _ _ => ?_)) | fail); all_goals try (conv => whnf); all_goals try (exfalso; omega)
  generalize (sealF key1 [] [([97#8], [])]).1 = es1 at *
  refine CallS.mk (c := eps_c) ((key1, (builtF (kvs es1)).1, slds es1, peo es1)) ?_
  repeat' (first | (with_reducible refine Unf.h ?_) | ((conv => whnf); first | (refine Side.mk ?_ ?_; focus (first | with_reducible rfl | exact True.intro | (simp [*, f4]; done))) | refine RetE.mk () trivial ?_ | refine Got.mk (fun _ _ => ?_) | refine retK_r ?_ | exact rfl) | fail); all_goals try (conv => whnf); all_goals try (exfalso; omega)
def enil_c : Ctr where
  D := Bs × Int
  args := fun (x, e) => [.fs 1 eB x, .int .i64 e]
  res := fun _ _ => .bool true
def enil_H : Cfg := ⟨[(6, awk_c), (20, shwN_c), (9, plcN_c), (10, gthN_c), (21, epsN_c), (17, sealN_c), (22, adpN_c), (23, headN_c), (24, newsN_c), (25, rowsN_c), (26, treesN_c), (27, shows0_c)], [], [], [], 102, 0, [], [], []⟩
set_option maxHeartbeats 2000000 in
theorem enil_ok : enil_c.Ok Tryz.prog 5 := by
  refine fn_ok enil_H 0 rfl _ Tryz.func5 rfl rfl ⟨awk_ok, shwN_ok, plcN_ok, gthN_ok, epsN_ok, sealN_ok, adpN_ok, headN_ok, newsN_ok, rowsN_ok, treesN_ok, shows0_ok, trivial⟩ rfl rfl (by kernel_rfl) (fun _ => Nat.le_of_ble_eq_true rfl) ?_
  rintro ⟨x, e⟩ hp hr
  try dsimp only [enil_c] at hp
  try simp only [enil_c, Rng, RngL, inR, and_true, true_and] at hr
  repeat' (first | (with_reducible refine Unf.h ?_) | ((conv => whnf); first | refine Fork.mk (fun h => ?_) (fun h => ?_) | (refine Side.mk ?_ ?_; focus (first | with_reducible rfl | exact True.intro | exact dF (by omega) | (simp [*]; done))) | refine RetE.mk () trivial ?_ | refine Got.mk (fun _ _ => ?_) | refine retK_r ?_ | exact rfl | refine CallS.mk (c := awk_c) (()) ?_ | refine CallS.mk (c := shwN_c) ((x, e)) ?_ | refine CallS.mk (c := plcN_c) ((e, e)) ?_ | refine CallS.mk (c := gthN_c) (()) ?_ | refine CallS.mk (c := epsN_c) (()) ?_ | refine CallS.mk (c := sealN_c) (()) ?_ | refine CallS.mk (c := adpN_c) (()) ?_ | refine CallS.mk (c := headN_c) (()) ?_ | refine CallS.mk (c := newsN_c) (e) ?_ | refine CallS.mk (c := treesN_c) (()) ?_ | refine CallS.mk (c := shows0_c) (()) ?_) | fail); all_goals try (conv => whnf); all_goals try (exfalso; omega)
end Go.Proofs.YtdflndjlnkoliaaGreatDoor

/- MY OWN ENGINE: the variables that EpochNil's row lists; what its arguments are. -/
namespace Go.Proofs.YtdflndjlnkoliaaGreatDoor
set_option linter.all false
open Go.RowKit Go.ChangeShapes Go.WideShapes Go.ChangeAt
theorem Tryz.own : ownKnob Tryz.prog.godebug = none := by kernel_rfl
theorem Tryz.laidOut : laidOutB Tryz.prog = true := by kernel_rfl
def laidL {H : Type} : List (String × DataW H) := [("math/bits.deBruijn32tab", Rows.laid_math_bits_deBruijn32tab), ("math/bits.deBruijn64tab", Rows.laid_math_bits_deBruijn64tab), ("rolodex/hash.begin", Rows.laid_rolodex_hash_begin), ("rolodex/hash.rounds", Rows.laid_rolodex_hash_rounds)]
theorem gBegin : Tryz.prog.globalNamed "rolodex/hash.begin" = some 0 := by kernel_rfl
theorem gRounds : Tryz.prog.globalNamed "rolodex/hash.rounds" = some 1 := by kernel_rfl
theorem tBegin : (Tryz.prog.globals[0]?).map (·.type) = some 256 := by kernel_rfl
theorem tRounds : (Tryz.prog.globals[1]?).map (·.type) = some 279 := by kernel_rfl
theorem dBegin : (Rows.laid_rolodex_hash_begin : DataW Unit) = .agg (gv0.toList.map fun b => .lit (.int .u32 (b.toNat : Int))) := by kernel_rfl
theorem dRounds : (Rows.laid_rolodex_hash_rounds : DataW Unit) = .agg (gv1.toList.map fun b => .lit (.int .u32 (b.toNat : Int))) := by kernel_rfl
theorem glob_arr32s {P : Program} [TabC P] {H : Type} {enc : TypeId × Value → H} {W : World} {spare : Nat → Bool} {held : Bool} {n : String} {g t e m f : Nat} {i j : TI} {cs : Array Value} {p : List MemPlace} {v : Vector (BitVec 32) m} (hg : P.globalNamed n = some g) (hv : W.var? P n = some cs) (ht : ty P t = some i) (hk : i.k = .ar m e) (hj : ty P e = some j) (hjk : j.k = .int .u32) (hj1 : j.size = 1) (hi : i.size = m)
    (hd : DataW.trod enc P W 0 spare held f t cs.toList = some (.agg (v.toList.map fun b => .lit (.int .u32 (b.toNat : Int))), p)) : (SV.fpt [.arr32 v]).hc W none0 sg0 [.pointer (some ⟨g, 0, none⟩)] ∧ ∃ C T fr, W.heap[g]? = some (.cells C T fr) ∧ C.size = szL [SV.arr32 v] := by
  refine ⟨glob_arr32 hg hv ht hk hj hjk hj1 hi hd, ?_⟩
  obtain ⟨u, hcs, hx⟩ := arr_cells (w := 32) ht hk hj hjk hj1 hi rfl rfl hd
  simp only [World.var?, hg, Option.bind_some] at hv
  split at hv
  · rename_i C T fr hh
    have e := Option.some.inj hv
    refine ⟨C, T, fr, hh, ?_⟩
    have hl := congrArg List.length hcs
    rw [e]
    simpa [szL, SV.sz] using hl
  · cases hv
theorem glob_of_laid {W : World} (h : laidMetH Tryz.prog laidL W) : Glob Tryz.prog W none0 := by
  rw [MakeChecks.laidMetH_plain _ _ _ (by kernel_rfl)] at h
  have h : laidMet Tryz.prog [("rolodex/hash.begin", Rows.laid_rolodex_hash_begin), ("rolodex/hash.rounds", Rows.laid_rolodex_hash_rounds)] W := laidMet.tail (laidMet.tail h)
  obtain ⟨ps, ⟨g0, t0, cs0, f0, p0, q0, hg0, ht0, hv0, hd0, ⟨g1, t1, cs1, f1, p1, q1, hg1, ht1, hv1, hd1, _, _⟩, _⟩, _, _⟩ := h
  obtain rfl := Option.some.inj (gBegin.symm.trans hg0)
  obtain rfl := Option.some.inj (gRounds.symm.trans hg1)
  obtain rfl := Option.some.inj (tBegin.symm.trans ht0)
  obtain rfl := Option.some.inj (tRounds.symm.trans ht1)
  rw [dBegin] at hd0
  rw [dRounds] at hd1
  intro g ps hm
  have hm' : (g, ps) = (0, [SV.arr32 gv0]) ∨ (g, ps) = (1, [SV.arr32 gv1]) := by
    have e : TabC.gl Tryz.prog = [(0, [SV.arr32 gv0]), (1, [SV.arr32 gv1])] := rfl
    rw [e] at hm
    simpa using hm
  rcases hm' with e | e
  · cases e
    exact glob_arr32s (i := ⟨.ar 8 228, 8, 32⟩) (j := ⟨.int .u32, 1, 4⟩) hg0 hv0 rfl rfl rfl rfl rfl rfl hd0
  · cases e
    exact glob_arr32s (i := ⟨.ar 64 228, 64, 256⟩) (j := ⟨.int .u32, 1, 4⟩) hg1 hv1 rfl rfl rfl rfl rfl rfl hd1
theorem door_met (os : Os) (args : Array Value) : laidMetH Tryz.prog laidL ((World.doorLaid Tryz.prog 400 os).forCall (fun _ _ => 0) ⟨#[], args, []⟩).memory :=
  laidMetH_of_parts3 (fuel := 8) (laidMet_of_run' 8 (by kernel_rfl) (by kernel_rfl)) (by kernel_rfl) (by kernel_rfl)
/-! what the arguments are -/
section
variable {H : Type} {enc : TypeId × Value → H} {W : World} {spare : Nat → Bool} {held : Bool}
theorem o_byte : Opens Tryz.prog enc W spare held 5 eB := o_uns (i := ⟨.int .u8, 1, 1⟩) (k := .u8) (w := 8) (mk := .u8) rfl rfl rfl rfl (fun _ _ => hc8)
theorem o_bytes : Opens Tryz.prog enc W spare held 46 (fun l : List (BitVec 8) => [.fs 1 eB l]) :=
  o_slice (i := ⟨.sl 5, 1, 24⟩) (j := ⟨.int .u8, 1, 1⟩) (f := eB) rfl rfl rfl rfl rfl o_byte (fun _ => rfl)
end
end Go.Proofs.YtdflndjlnkoliaaGreatDoor

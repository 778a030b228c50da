import Derived.Test.YtdflndjlnkoliaaGreatDoorZLESeals6
import Derived.Test.YtdflndjlnkoliaaGreatDoorZLESeals5
import Derived.Test.YtdflndjlnkoliaaGreatDoorZLESeals4
import Derived.Stop.LaidErr
import Derived.Lay
namespace Go.Proofs.YtdflndjlnkoliaaGreatDoor
set_option linter.all false
open Go.RowKit
theorem log_1000 {l : List H256} (h : l.length ≤ 1000) : rootL nodeH zeroR 1000 l = logH l := rootL_any nodeH zeroR 1000 l.length l h (Nat.le_refl _)
def rlog19_c : Ctr where
  D := DirE × Nat
  pre := fun ((_, es), n) => StOk es ∧ n ≤ 900
  args := fun ((s, es), n) => [rSt s es, .int .i64 (n : Int)]
  res := fun ((_, es), n) _ => .agg [.arr8 (logH (entsD es n))]
def rlog19_H : Cfg := ⟨[(12, rents_c), (76, (rlist_c 1000))], [], [], [], 9, 0, [], [], []⟩
theorem rlog19_ok : rlog19_c.Ok Tryz.prog 49 := by
  refine fn_ok rlog19_H 0 rfl _ Tryz.func49 rfl rfl ⟨rents_ok, rlist1000_ok, trivial⟩ rfl rfl (by kernel_rfl) (fun _ => Nat.le_of_ble_eq_true rfl) ?_
  rintro ⟨⟨s, es⟩, n⟩ hp hr
  try dsimp only [rlog19_c] at hp
  try simp only [rlog19_c, Rng, RngL, inR, and_true, true_and] at hr
  obtain ⟨hp1, hp2⟩ := hp
  have hp2 : n ≤ 900 := hp2
  have hq : rents_c.pre (s, es, n) := ⟨⟨hp1.rd, kvs_few hp1⟩, by show n ≤ 1000; omega⟩
  have hel := entsD_len es n
  have hqr : (rlist_c 1000).pre (entsD es n) := ⟨by omega, by omega⟩
  have e := log_1000 (l := entsD es n) (by omega)
  repeat' (first | (with_reducible refine Unf.h ?_) | fail); all_goals try (conv => whnf); all_goals try (exfalso; omega)
  refine CallS.mk (c := rents_c) ((s, es, n)) ?_
  repeat' (first | (with_reducible refine Unf.h ?_) | ((conv => whnf); first | (refine Side.mk ?_ ?_; focus (first | with_reducible rfl | assumption)) | refine Got.mk (fun _ _ => ?_)) | fail); all_goals try (conv => whnf); all_goals try (exfalso; omega)
  refine CallS.mk (c := rlist_c 1000) (entsD es n) ?_
  repeat' (first | (with_reducible refine Unf.h ?_) | ((conv => whnf); first | (refine Side.mk ?_ ?_; focus (first | with_reducible rfl | assumption | (simp only [*, e]; done))) | refine RetE.mk () trivial ?_ | refine Got.mk (fun _ _ => ?_) | refine retK_r ?_ | exact rfl) | fail); all_goals try (conv => whnf); all_goals try (exfalso; omega)
def rhead19_c : Ctr where
  D := DirE × Int
  pre := fun ((_, es), _) => StOk es
  args := fun ((s, es), t) => [rSt s es, .int .i64 t]
  res := fun ((_, es), t) _ => .agg (eHd (headD es t))
def rhead19_H : Cfg := ⟨[(35, rtree19_c), (49, rlog19_c)], [], [], [], 23, 0, [], [], []⟩
theorem rhead19_ok : rhead19_c.Ok Tryz.prog 47 := by
  refine fn_ok rhead19_H 0 rfl _ Tryz.func47 rfl rfl ⟨rtree19_ok, rlog19_ok, trivial⟩ rfl rfl (by kernel_rfl) (fun _ => Nat.le_of_ble_eq_true rfl) ?_
  rintro ⟨⟨s, es⟩, t⟩ hp hr
  try dsimp only [rhead19_c] at hp
  try simp only [rhead19_c, Rng, RngL, inR, and_true, true_and] at hr
  have hp : StOk es := hp
  have hl := hp.len
  have hqt : rtree19_c.pre (s, es, es.length) := ⟨hp.rd, kvs_few hp⟩
  have hql : rlog19_c.pre ((s, es), es.length) := ⟨hp, by show es.length ≤ 900; omega⟩
  rcases Nat.eq_zero_or_pos es.length with h0 | h0
  · have eh : headD es t = (0, 0, zeroH, zeroH) := if_pos h0
    repeat' (first | (with_reducible refine Unf.h ?_) | ((conv => whnf); first | refine Fork.mk (fun h => ?_) (fun h => ?_) | (refine Side.mk ?_ ?_; focus ((simp only [*, eh]; done))) | refine RetE.mk () trivial ?_ | refine retK_r ?_ | exact rfl) | fail); all_goals try (conv => whnf); all_goals try (exfalso; omega)
  · have eh : headD es t = ((es.length : Int), t, rootD es es.length, logH (entsD es es.length)) := if_neg (by omega)
    repeat' (first | (with_reducible refine Unf.h ?_) | ((conv => whnf); refine Fork.mk (fun h => ?_) (fun h => ?_)) | fail); all_goals try (conv => whnf); all_goals try (exfalso; omega)
    refine CallS.mk (c := rtree19_c) ((s, es, es.length)) ?_
    repeat' (first | (with_reducible refine Unf.h ?_) | ((conv => whnf); first | (refine Side.mk ?_ ?_; focus (first | with_reducible rfl | assumption)) | refine Got.mk (fun _ _ => ?_)) | fail); all_goals try (conv => whnf); all_goals try (exfalso; omega)
    refine CallS.mk (c := rlog19_c) (((s, es), es.length)) ?_
    repeat' (first | (with_reducible refine Unf.h ?_) | ((conv => whnf); first | (refine Side.mk ?_ ?_; focus (first | with_reducible rfl | assumption | (simp only [*, eh]; done))) | refine RetE.mk () trivial ?_ | refine Got.mk (fun _ _ => ?_) | refine retK_r ?_ | exact rfl) | fail); all_goals try (conv => whnf); all_goals try (exfalso; omega)
def rone14_c : Ctr where
  D := Ver
  pre := fun v => v.val.length ≤ 1000000
  args := fun v => [.agg (eVr v), .agg (eVr v)]
  res := fun _ _ => .bool true
def rone14_H : Cfg := ⟨[(73, same_c)], [], [], [], 38, 0, [], [], []⟩
theorem rone14_ok : rone14_c.Ok Tryz.prog 97 := by
  refine fn_ok rone14_H 0 rfl _ Tryz.func97 rfl rfl ⟨same_ok, trivial⟩ rfl rfl (by kernel_rfl) (fun _ => Nat.le_of_ble_eq_true rfl) ?_
  intro (v : Ver) hp hr
  try dsimp only [rone14_c] at hp
  try simp only [rone14_c, Rng, RngL, inR, and_true, true_and] at hr
  have hp : v.val.length ≤ 1000000 := hp
  repeat' (first | (with_reducible refine Unf.h ?_) | ((conv => whnf); first | refine Fork.mk (fun h => ?_) (fun h => ?_) | refine RetE.mk () trivial ?_ | refine retK_r ?_) | fail); all_goals try (conv => whnf); all_goals try (exfalso; omega)
  all_goals try (exact absurd rfl (by assumption))
  refine CallS.mk (c := same_c) ((v.val, v.val)) ?_
  repeat' (first | (with_reducible refine Unf.h ?_) | ((conv => whnf); first | (refine Side.mk ?_ ?_; focus (first | with_reducible rfl | exact True.intro | (simp [*]; done))) | refine RetE.mk () trivial ?_ | refine Got.mk (fun _ _ => ?_) | refine retK_r ?_ | exact rfl) | fail); all_goals try (conv => whnf); all_goals try (exfalso; omega)
  all_goals first
    | exact absurd rfl (by assumption)
    | skip
def rsame14_c : Ctr where
  D := List Ver
  pre := fun l => l.length ≤ 100000 ∧ ∀ v ∈ l, v.val.length ≤ 1000000
  args := fun l => [.fs 67 eVr l, .fs 67 eVr l]
  res := fun _ _ => .bool true
def rsame14_H : Cfg := ⟨[(97, rone14_c)], [(6, [3, 7], [8], (.one 0 0 false (.one 1 0 false (.one 2 0 false (.one 3 1 false (.one 4 0 false (.one 5 0 false (.one 6 0 false (.one 7 1 false (.one 8 2 false (.one 9 0 false .nil)))))))))), [])], [], [], 27, 0, [], [], []⟩
theorem rsame14_ok : rsame14_c.Ok Tryz.prog 55 := by
  refine fn_ok rsame14_H 0 rfl _ Tryz.func55 rfl rfl ⟨rone14_ok, trivial⟩ rfl rfl (by kernel_rfl) (fun _ => Nat.le_of_ble_eq_true rfl) ?_
  intro (l : List Ver) hp hr
  try dsimp only [rsame14_c] at hp
  try simp only [rsame14_c, Rng, RngL, inR, and_true, true_and] at hr
  obtain ⟨hp1, hp2⟩ := hp
  have hp1 : l.length ≤ 100000 := hp1
  repeat' (first | (with_reducible refine Unf.h ?_) | ((conv => whnf); refine Fork.mkn (fun h => ?_) (fun h => ?_)) | fail); all_goals try (conv => whnf); all_goals try (exfalso; omega)
  refine LoopS.autoN (I := Nat) (fun i => i ≤ l.length) (fun i => [(5, .int .i64 (i : Int))]) (fun _ => []) 0 (fun i => l.length - i) 0 (Nat.zero_le _) ?_ ?_
  · repeat' (first | (with_reducible refine Unf.h ?_) | ((conv => whnf); first | (refine Side.mk ?_ ?_; focus (first | with_reducible rfl | (refine congrArg (SV.int _) ?_; omega))) | (with_reducible refine Unf.h ?_) | exact True.intro) | fail); all_goals try (conv => whnf); all_goals try (exfalso; omega)
  · intro i hi
    have hi : i ≤ l.length := hi
    by_cases hil : i < l.length
    · have hq : rone14_c.pre (l[((i : Nat) : Int).toNat]'hil) := hp2 _ (List.getElem_mem _)
      repeat' (first | (with_reducible refine Unf.h ?_) | ((conv => whnf); first | refine Fork.mk (fun h => ?_) (fun h => ?_) | (refine Idx.mk ?_ ?_; focus (omega))) | fail); all_goals try (conv => whnf); all_goals try (exfalso; omega)
      refine CallS.mk (c := rone14_c) ((l[((i : Nat) : Int).toNat]'hil)) ?_
      repeat' (first | (with_reducible first | refine Unf.h ?_ | refine loopK_n ?_) | ((conv => whnf); first | (refine Side.mk ?_ ?_; focus (first | with_reducible rfl | assumption | (intros; (try simp only [lenS, inR, cutS, loI, hiI] at *); omega))) | refine Got.mk (fun _ _ => ?_)) | fail); all_goals try (conv => whnf); all_goals try (exfalso; omega)
      refine ⟨i + 1, ⟨by omega, by omega⟩, ?_⟩
      repeat' (first | (with_reducible refine Unf.h ?_) | ((conv => whnf); first | (refine Side.mk ?_ ?_; focus (first | with_reducible rfl | (refine congrArg (SV.int _) ?_; omega))) | (with_reducible refine Unf.h ?_) | exact True.intro) | fail); all_goals try (conv => whnf); all_goals try (exfalso; omega)
    · repeat' (first | (with_reducible refine Unf.h ?_) | ((conv => whnf); first | refine Fork.mk (fun h => ?_) (fun h => ?_) | (refine Side.mk ?_ ?_; focus (with_reducible rfl)) | refine RetE.mk () trivial ?_ | refine retK_r ?_ | exact rfl) | fail); all_goals try (conv => whnf); all_goals try (exfalso; omega)
def rsame19_c : Ctr where
  D := List Nws
  pre := fun l => l.length ≤ 100000 ∧ ∀ p ∈ l, p.1.length ≤ 1000000 ∧ p.2.val.length ≤ 1000000
  args := fun l => [.fs 68 eNw l, .fs 68 eNw l]
  res := fun _ _ => .bool true
def rsame19_H : Cfg := ⟨[(73, same_c), (97, rone14_c)], [(6, [4, 9], [10, 17, 22, 23], (.one 0 0 false (.one 1 0 false (.one 2 0 false (.one 3 0 false (.one 4 1 false (.one 5 0 false (.one 6 0 false (.one 7 0 false (.one 8 0 false (.one 9 1 false (.one 10 2 false (.one 11 0 false (.one 12 0 false (.one 13 0 false (.one 14 0 false (.one 15 0 false (.one 16 0 false (.one 18 0 false (.one 19 0 false (.one 20 0 false (.one 21 0 false (.alt 17 false (.one 22 2 false (.one 23 2 false (.one 24 0 false (.one 25 0 false .nil)))) (.one 22 2 false (.one 17 2 false (.one 23 2 false (.one 24 0 false (.one 25 0 false .nil))))))))))))))))))))))))))), [])], [], [], 43, 0, [], [], []⟩
theorem rsame19_ok : rsame19_c.Ok Tryz.prog 57 := by
  refine fn_ok rsame19_H 0 rfl _ Tryz.func57 rfl rfl ⟨same_ok, rone14_ok, trivial⟩ rfl rfl (by kernel_rfl) (fun _ => Nat.le_of_ble_eq_true rfl) ?_
  intro (l : List Nws) hp hr
  try dsimp only [rsame19_c] at hp
  try simp only [rsame19_c, Rng, RngL, inR, and_true, true_and] at hr
  obtain ⟨hp1, hp2⟩ := hp
  have hp1 : l.length ≤ 100000 := hp1
  repeat' (first | (with_reducible refine Unf.h ?_) | ((conv => whnf); refine Fork.mkn (fun h => ?_) (fun h => ?_)) | fail); all_goals try (conv => whnf); all_goals try (exfalso; omega)
  refine LoopS.autoN (I := Nat) (fun i => i ≤ l.length) (fun i => [(5, .int .i64 (i : Int))]) (fun _ => []) 0 (fun i => l.length - i) 0 (Nat.zero_le _) ?_ ?_
  · repeat' (first | (with_reducible refine Unf.h ?_) | ((conv => whnf); first | (refine Side.mk ?_ ?_; focus (first | with_reducible rfl | (refine congrArg (SV.int _) ?_; omega))) | (with_reducible refine Unf.h ?_) | exact True.intro) | fail); all_goals try (conv => whnf); all_goals try (exfalso; omega)
  · intro i hi
    have hi : i ≤ l.length := hi
    by_cases hil : i < l.length
    · have hp3 := hp2 _ (List.getElem_mem (n := ((i : Nat) : Int).toNat) hil)
      have hq : rone14_c.pre (l[((i : Nat) : Int).toNat]'hil).2 := hp3.2
      repeat' (first | (with_reducible refine Unf.h ?_) | ((conv => whnf); first | refine Fork.mk (fun h => ?_) (fun h => ?_) | (refine Idx.mk ?_ ?_; focus (omega))) | fail); all_goals try (conv => whnf); all_goals try (exfalso; omega)
      refine CallS.mk (c := same_c) (((l[((i : Nat) : Int).toNat]'hil).1, (l[((i : Nat) : Int).toNat]'hil).1)) ?_
      repeat' (first | (with_reducible refine Unf.h ?_) | ((conv => whnf); first | refine Both.mk ?_ ?_ | refine Both.mk ?_ ?_ | refine Fork.mkn (fun h => ?_) (fun h => ?_) | (refine Side.mk ?_ ?_; focus (first | with_reducible rfl | exact True.intro)) | (refine Idx.mk ?_ ?_; focus (omega)) | refine RetE.mk () trivial ?_ | refine Got.mk (fun _ _ => ?_) | refine retK_r ?_) | fail); all_goals try (conv => whnf); all_goals try (exfalso; omega)
      all_goals try (exact absurd rfl (by assumption))
      all_goals
        refine CallS.mk (c := rone14_c) ((l[((i : Nat) : Int).toNat]'hil).2) ?_
        repeat' (first | (with_reducible first | refine Unf.h ?_ | refine loopK_n ?_) | ((conv => whnf); first | (refine Side.mk ?_ ?_; focus (first | with_reducible rfl | assumption | (intros; (try simp only [lenS, inR, cutS, loI, hiI] at *); omega))) | refine Got.mk (fun _ _ => ?_)) | fail); all_goals try (conv => whnf); all_goals try (exfalso; omega)
      all_goals
        refine ⟨i + 1, ⟨by omega, by omega⟩, ?_⟩
        repeat' (first | (with_reducible refine Unf.h ?_) | ((conv => whnf); first | (refine Side.mk ?_ ?_; focus (first | with_reducible rfl | (refine congrArg (SV.int _) ?_; omega))) | (with_reducible refine Unf.h ?_) | exact True.intro) | fail); all_goals try (conv => whnf); all_goals try (exfalso; omega)
    · repeat' (first | (with_reducible refine Unf.h ?_) | ((conv => whnf); first | refine Fork.mk (fun h => ?_) (fun h => ?_) | (refine Side.mk ?_ ?_; focus (with_reducible rfl)) | refine RetE.mk () trivial ?_ | refine retK_r ?_ | exact rfl) | fail); all_goals try (conv => whnf); all_goals try (exfalso; omega)
def to14_c : Ctr where
  D := List Ver
  pre := fun l => l.length ≤ 100000
  args := fun l => [.fs 67 eVr l]
  res := fun l _ => .fs 67 eVr l
def to14_H : Cfg := ⟨[], [], [], [], 19, 0, [], [], []⟩
theorem to14_ok : to14_c.Ok Tryz.prog 56 := by
  refine fn_ok to14_H 0 rfl _ Tryz.func56 rfl rfl trivial rfl rfl (by kernel_rfl) (fun _ => Nat.le_of_ble_eq_true rfl) ?_
  intro (l : List Ver) hp hr
  try dsimp only [to14_c] at hp
  try simp only [to14_c, Rng, RngL, inR, and_true, true_and] at hr
  have hp : l.length ≤ 100000 := hp
  repeat' (first | (with_reducible refine Unf.h ?_) | fail); all_goals try (conv => whnf); all_goals try (exfalso; omega)
  refine LoopS.autoN (I := Nat) (fun i => i ≤ l.length) (fun i => [(4, .int .i64 (i : Int)), (3, .own 0)]) (fun i => [(0, .row 107 67 eVr (l.take i))]) 1 (fun i => l.length - i) 0 (Nat.zero_le _) ?_ ?_
  · have e0 : l.take 0 = [] := rfl
    repeat' (first | (with_reducible refine Unf.h ?_) | ((conv => whnf); first | (refine Side.mk ?_ ?_; focus (first | with_reducible rfl | assumption | (refine congrArg (SV.int _) ?_; omega))) | (with_reducible refine Unf.h ?_) | exact True.intro) | fail); all_goals try (conv => whnf); all_goals try (exfalso; omega)
  · intro i hi
    have hi : i ≤ l.length := hi
    have htl : (l.take i).length ≤ l.length := by simp; omega
    by_cases hil : i < l.length
    · have ek : l.take (i + 1) = l.take i ++ [l[((i : Nat) : Int).toNat]'hil] := List.take_succ_eq_append_getElem hil
      repeat' (first | (with_reducible first | refine Unf.h ?_ | refine loopK_n ?_) | ((conv => whnf); first | refine Fork.mk (fun h => ?_) (fun h => ?_) | (refine Side.mk ?_ ?_; focus ((intros; (try simp only [lenS, inR, cutS, loI, hiI] at *); omega))) | (refine Idx.mk ?_ ?_; focus (omega)) | refine Ex.mk [_] rfl ?_) | fail); all_goals try (conv => whnf); all_goals try (exfalso; omega)
      refine ⟨i + 1, ⟨by omega, by omega⟩, ?_⟩
      rw [ek]
      repeat' (first | (with_reducible refine Unf.h ?_) | ((conv => whnf); first | (refine Side.mk ?_ ?_; focus (first | with_reducible rfl | (refine congrArg (SV.int _) ?_; omega))) | (with_reducible refine Unf.h ?_) | exact True.intro) | fail); all_goals try (conv => whnf); all_goals try (exfalso; omega)
    · have e0 : l.take i = l := List.take_of_length_le (by omega)
      rw [e0]
      repeat' (first | (with_reducible refine Unf.h ?_) | ((conv => whnf); first | refine Fork.mk (fun h => ?_) (fun h => ?_) | (refine Side.mk ?_ ?_; focus (with_reducible rfl)) | refine RetE.mk () trivial ?_ | refine retK_r ?_ | exact rfl) | fail); all_goals try (conv => whnf); all_goals try (exfalso; omega)
def to19_c : Ctr where
  D := List Nws
  pre := fun l => l.length ≤ 100000
  args := fun l => [.fs 68 eNw l]
  res := fun l _ => .fs 68 eNw l
def to19_H : Cfg := ⟨[], [(5, [5, 10], [12, 13], (.one 0 0 false (.one 1 0 false (.one 2 0 false (.one 3 0 false (.one 4 0 false (.one 5 1 false (.one 6 0 false (.one 7 0 false (.one 8 0 false (.one 9 0 false (.one 10 1 false (.one 11 0 false (.one 12 2 false (.one 13 2 false (.one 14 0 false .nil))))))))))))))), [])], [], [], 26, 0, [], [], []⟩
theorem to19_ok : to19_c.Ok Tryz.prog 58 := by
  refine fn_ok to19_H 0 rfl _ Tryz.func58 rfl rfl trivial rfl rfl (by kernel_rfl) (fun _ => Nat.le_of_ble_eq_true rfl) ?_
  intro (l : List Nws) hp hr
  try dsimp only [to19_c] at hp
  try simp only [to19_c, Rng, RngL, inR, and_true, true_and] at hr
  have hp : l.length ≤ 100000 := hp
  repeat' (first | (with_reducible refine Unf.h ?_) | fail); all_goals try (conv => whnf); all_goals try (exfalso; omega)
  refine LoopS.autoN (I := Nat) (fun i => i ≤ l.length) (fun i => [(4, .int .i64 (i : Int)), (3, .own 0)]) (fun i => [(0, .row 109 68 eNw (l.take i))]) 1 (fun i => l.length - i) 0 (Nat.zero_le _) ?_ ?_
  · have e0 : l.take 0 = [] := rfl
    repeat' (first | (with_reducible refine Unf.h ?_) | ((conv => whnf); first | (refine Side.mk ?_ ?_; focus (first | with_reducible rfl | assumption | (refine congrArg (SV.int _) ?_; omega))) | (with_reducible refine Unf.h ?_) | exact True.intro) | fail); all_goals try (conv => whnf); all_goals try (exfalso; omega)
  · intro i hi
    have hi : i ≤ l.length := hi
    have htl : (l.take i).length ≤ l.length := by simp; omega
    by_cases hil : i < l.length
    · have ek : l.take (i + 1) = l.take i ++ [l[((i : Nat) : Int).toNat]'hil] := List.take_succ_eq_append_getElem hil
      repeat' (first | (with_reducible first | refine Unf.h ?_ | refine loopK_n ?_) | ((conv => whnf); first | refine Fork.mk (fun h => ?_) (fun h => ?_) | (refine Side.mk ?_ ?_; focus ((intros; (try simp only [lenS, inR, cutS, loI, hiI] at *); omega))) | (refine Idx.mk ?_ ?_; focus (omega)) | refine Ex.mk [_] rfl ?_) | fail); all_goals try (conv => whnf); all_goals try (exfalso; omega)
      refine ⟨i + 1, ⟨by omega, by omega⟩, ?_⟩
      rw [ek]
      repeat' (first | (with_reducible refine Unf.h ?_) | ((conv => whnf); first | (refine Side.mk ?_ ?_; focus (first | with_reducible rfl | (refine congrArg (SV.int _) ?_; omega))) | (with_reducible refine Unf.h ?_) | exact True.intro) | fail); all_goals try (conv => whnf); all_goals try (exfalso; omega)
    · have e0 : l.take i = l := List.take_of_length_le (by omega)
      rw [e0]
      repeat' (first | (with_reducible refine Unf.h ?_) | ((conv => whnf); first | refine Fork.mk (fun h => ?_) (fun h => ?_) | (refine Side.mk ?_ ?_; focus (with_reducible rfl)) | refine RetE.mk () trivial ?_ | refine retK_r ?_ | exact rfl) | fail); all_goals try (conv => whnf); all_goals try (exfalso; omega)
end Go.Proofs.YtdflndjlnkoliaaGreatDoor

namespace Go.Proofs.YtdflndjlnkoliaaGreatDoor
set_option linter.all false
open Go.RowKit
theorem showP_len (k : H256) (o : Option PT) : (showP k o).steps.length ≤ depthO o := by
  unfold showP
  have h : (stepsO k o).length ≤ depthO o := by
    cases o with
    | none => exact Nat.le_refl _
    | some T => exact steps_len k T
  cases lastO k o with
  | none => exact h
  | some T => cases T <;> exact h
def esame_c : Ctr where
  D := DirE × Bs
  pre := fun ((_, es), x) => StOk es ∧ es.length ≤ 8 ∧ x.length ≤ 100
  args := fun ((s, es), x) => [.ptr 0 0, rSt s es, .fs 1 eB x]
  objs := fun ((s, es), _) => stE s es
  nn := 6
  res := fun _ _ => .bool true
  out := fun ((s, es), _) _ => stE s es
def esame_H : Cfg := ⟨[(21, eps_c), (23, ehead_c), (47, rhead19_c), (48, elog_c), (49, rlog19_c), (20, eshowX_c), (20, eshow_c), (51, rpairs19_c), (52, rkey14_c), (50, rshow_c), (35, rtree19_c), (54, toP_c), (53, rpsame_c), (56, to14_c), (38, rchain_c), (55, rsame14_c), (24, enews_c), (58, to19_c), (57, rsame19_c)], [(12, [4], [7, 12, 13, 14, 15, 20, 21, 25, 26, 32, 33, 37, 41, 42], (.one 0 0 false (.one 1 0 false (.one 2 0 false (.one 3 0 false (.one 4 1 false (.one 5 0 false (.one 6 0 false (.one 7 2 true (.one 8 0 false (.one 9 0 false (.one 10 0 false (.one 11 0 false (.alt 12 false (.alt 13 false (.one 14 2 false (.one 15 2 false (.one 16 0 false (.one 17 0 false (.one 18 0 false (.one 19 0 false (.one 22 0 false (.one 23 0 false (.one 24 0 false (.one 20 2 false (.one 21 2 false (.one 25 2 false (.one 26 2 false (.one 27 0 false (.one 28 0 false (.one 29 0 false (.one 30 0 false (.one 31 0 false (.one 34 0 false (.one 35 0 false (.one 36 0 false (.one 38 0 false (.one 39 0 false (.alt 32 false (.alt 33 false (.one 37 2 false (.one 40 0 false (.one 41 2 false (.one 42 2 false (.one 43 0 false (.one 44 0 false .nil)))))) (.one 37 2 false (.one 40 0 false (.alt 33 false (.one 41 2 false (.one 42 2 false (.one 43 0 false (.one 44 0 false .nil)))) (.one 41 2 false (.one 33 2 false (.one 42 2 false (.one 43 0 false (.one 44 0 false .nil))))))))) (.one 37 2 false (.one 40 0 false (.alt 32 false (.alt 33 false (.one 41 2 false (.one 42 2 false (.one 43 0 false (.one 44 0 false .nil)))) (.one 41 2 false (.one 33 2 false (.one 42 2 false (.one 43 0 false (.one 44 0 false .nil)))))) (.one 41 2 false (.one 32 2 false (.one 33 2 false (.one 42 2 false (.one 43 0 false (.one 44 0 false .nil))))))))))))))))))))))))))))))))) (.one 14 2 false (.one 13 2 false (.one 15 2 false (.one 16 0 false (.one 17 0 false (.one 18 0 false (.one 19 0 false (.one 22 0 false (.one 23 0 false (.one 24 0 false (.one 20 2 false (.one 21 2 false (.one 25 2 false (.one 26 2 false (.one 27 0 false (.one 28 0 false (.one 29 0 false (.one 30 0 false (.one 31 0 false (.one 34 0 false (.one 35 0 false (.one 36 0 false (.one 38 0 false (.one 39 0 false (.alt 32 false (.alt 33 false (.one 37 2 false (.one 40 0 false (.one 41 2 false (.one 42 2 false (.one 43 0 false (.one 44 0 false .nil)))))) (.one 37 2 false (.one 40 0 false (.alt 33 false (.one 41 2 false (.one 42 2 false (.one 43 0 false (.one 44 0 false .nil)))) (.one 41 2 false (.one 33 2 false (.one 42 2 false (.one 43 0 false (.one 44 0 false .nil))))))))) (.one 37 2 false (.one 40 0 false (.alt 32 false (.alt 33 false (.one 41 2 false (.one 42 2 false (.one 43 0 false (.one 44 0 false .nil)))) (.one 41 2 false (.one 33 2 false (.one 42 2 false (.one 43 0 false (.one 44 0 false .nil)))))) (.one 41 2 false (.one 32 2 false (.one 33 2 false (.one 42 2 false (.one 43 0 false (.one 44 0 false .nil))))))))))))))))))))))))))))))))))) (.one 14 2 false (.one 12 2 false (.one 13 2 false (.one 15 2 false (.one 16 0 false (.one 17 0 false (.one 18 0 false (.one 19 0 false (.one 22 0 false (.one 23 0 false (.one 24 0 false (.one 20 2 false (.one 21 2 false (.one 25 2 false (.one 26 2 false (.one 27 0 false (.one 28 0 false (.one 29 0 false (.one 30 0 false (.one 31 0 false (.one 34 0 false (.one 35 0 false (.one 36 0 false (.one 38 0 false (.one 39 0 false (.alt 32 false (.alt 33 false (.one 37 2 false (.one 40 0 false (.one 41 2 false (.one 42 2 false (.one 43 0 false (.one 44 0 false .nil)))))) (.one 37 2 false (.one 40 0 false (.alt 33 false (.one 41 2 false (.one 42 2 false (.one 43 0 false (.one 44 0 false .nil)))) (.one 41 2 false (.one 33 2 false (.one 42 2 false (.one 43 0 false (.one 44 0 false .nil))))))))) (.one 37 2 false (.one 40 0 false (.alt 32 false (.alt 33 false (.one 41 2 false (.one 42 2 false (.one 43 0 false (.one 44 0 false .nil)))) (.one 41 2 false (.one 33 2 false (.one 42 2 false (.one 43 0 false (.one 44 0 false .nil)))))) (.one 41 2 false (.one 32 2 false (.one 33 2 false (.one 42 2 false (.one 43 0 false (.one 44 0 false .nil)))))))))))))))))))))))))))))))))))))))))))))))), [2000000])], [], [], 131, 6, [], [], []⟩
set_option maxHeartbeats 20000000 in
theorem esame_ok : esame_c.Ok Tryz.prog 19 := by
  refine fn_ok esame_H 6 rfl _ Tryz.func19 rfl rfl ⟨eps_ok, ehead_ok, rhead19_ok, elog_ok, rlog19_ok, eshowX_ok, eshow_ok, rpairs19_ok, rkey14_ok, rshow_ok, rtree19_ok, toP_ok, rpsame_ok, to14_ok, rchain_ok, rsame14_ok, enews_ok, to19_ok, rsame19_ok, trivial⟩ rfl rfl (by kernel_rfl) (fun _ => Nat.le_of_ble_eq_true rfl) ?_
  rintro ⟨⟨s, es⟩, x⟩ hp hr
  try dsimp only [esame_c] at hp
  try simp only [esame_c, Rng, RngL, inR, and_true, true_and] at hr
  obtain ⟨hst, hl8, hx⟩ := hp
  have hl8 : es.length ≤ 8 := hl8
  have hx : x.length ≤ 100 := hx
  have hsl := slds_len es
  have hrd := hst.rd
  have hkf := kvs_few hst
  have hqh : ehead_c.pre ((s, es), 7) := hl8
  have hqr : rhead19_c.pre ((s, es), 7) := hst
  have hql : elog_c.pre ((s, es), es.length) := ⟨hl8, Nat.le_refl _⟩
  have hqm : elog_c.pre ((s, es), es.length / 2) := ⟨hl8, by show es.length / 2 ≤ es.length; omega⟩
  have hqn : rlog19_c.pre ((s, es), es.length) := ⟨hst, by show es.length ≤ 900; omega⟩
  have hqo : rlog19_c.pre ((s, es), es.length / 2) := ⟨hst, by show es.length / 2 ≤ 900; omega⟩
  repeat' (first | (with_reducible refine Unf.h ?_) | fail); all_goals try (conv => whnf); all_goals try (exfalso; omega)
  refine CallS.mk (c := eps_c) ((s, (builtF (kvs es)).1, slds es, peo es)) ?_
  repeat' (first | (with_reducible refine Unf.h ?_) | ((conv => whnf); first | refine Fork.mkn (fun h => ?_) (fun h => ?_) | (refine Side.mk ?_ ?_; focus (first | with_reducible rfl | exact True.intro)) | refine Got.mk (fun _ _ => ?_)) | fail); all_goals try (conv => whnf); all_goals try (exfalso; omega)
  refine CallS.mk (c := ehead_c) (((s, es), 7)) ?_
  repeat' (first | (with_reducible refine Unf.h ?_) | ((conv => whnf); first | (refine Side.mk ?_ ?_; focus (first | with_reducible rfl | assumption)) | refine Got.mk (fun _ _ => ?_)) | fail); all_goals try (conv => whnf); all_goals try (exfalso; omega)
  refine CallS.mk (c := rhead19_c) (((s, es), 7)) ?_
  repeat' (first | (with_reducible refine Unf.h ?_) | ((conv => whnf); first | refine Fork.mkn (fun h => ?_) (fun h => ?_) | (refine Side.mk ?_ ?_; focus (first | with_reducible rfl | assumption)) | refine RetE.mk () trivial ?_ | refine Got.mk (fun _ _ => ?_) | refine retK_r ?_) | fail); all_goals try (conv => whnf); all_goals try (exfalso; omega)
  all_goals try (exact absurd (show _ ∧ _ ∧ _ ∧ _ from ⟨rfl, rfl, rfl, rfl⟩) h)
  refine CallS.mk (c := elog_c) (((s, es), es.length)) ?_
  repeat' (first | (with_reducible refine Unf.h ?_) | ((conv => whnf); first | (refine Side.mk ?_ ?_; focus (first | with_reducible rfl | assumption)) | refine Got.mk (fun _ _ => ?_)) | fail); all_goals try (conv => whnf); all_goals try (exfalso; omega)
  refine CallS.mk (c := rlog19_c) (((s, es), es.length)) ?_
  repeat' (first | (with_reducible refine Unf.h ?_) | ((conv => whnf); first | refine Fork.mkn (fun h => ?_) (fun h => ?_) | (refine Side.mk ?_ ?_; focus (first | with_reducible rfl | assumption | omega)) | refine RetE.mk () trivial ?_ | refine Got.mk (fun _ _ => ?_) | refine retK_r ?_) | fail); all_goals try (conv => whnf); all_goals try (exfalso; omega)
  all_goals try (exact absurd rfl h)
  refine CallS.mk (c := elog_c) (((s, es), es.length / 2)) ?_
  repeat' (first | (with_reducible refine Unf.h ?_) | ((conv => whnf); first | (refine Side.mk ?_ ?_; focus (first | with_reducible rfl | assumption | omega | (refine congrArg (SV.int _) ?_; omega))) | refine Got.mk (fun _ _ => ?_)) | fail); all_goals try (conv => whnf); all_goals try (exfalso; omega)
  refine CallS.mk (c := rlog19_c) (((s, es), es.length / 2)) ?_
  repeat' (first | (with_reducible refine Unf.h ?_) | ((conv => whnf); first | refine Fork.mkn (fun h => ?_) (fun h => ?_) | (refine Side.mk ?_ ?_; focus (first | with_reducible rfl | assumption | (refine congrArg (SV.int _) ?_; omega))) | refine RetE.mk () trivial ?_ | refine Got.mk (fun _ _ => ?_) | refine retK_r ?_) | fail); all_goals try (conv => whnf); all_goals try (exfalso; omega)
  all_goals try (exact absurd rfl h)
  refine LoopS.autoN (I := Nat) (fun i => i ≤ es.length + 2) (fun i => [(8, .int .i64 (i : Int))]) (fun _ => stE s es) 6 (fun i => es.length + 2 - i) 0 (Nat.zero_le _) ?_ ?_
  · repeat' (first | (with_reducible refine Unf.h ?_) | ((conv => whnf); first | (refine Side.mk ?_ ?_; focus (first | with_reducible rfl | (refine congrArg (SV.int _) ?_; omega))) | (with_reducible refine Unf.h ?_) | exact True.intro) | fail); all_goals try (conv => whnf); all_goals try (exfalso; omega)
  · intro i hi
    have hi : i ≤ es.length + 2 := hi
    by_cases hin : i < es.length + 2
    · by_cases hg : 1 ≤ x.length ∧ x.length ≤ 32 ∧ 1 ≤ (i : Int) ∧ (i : Int) ≤ (es.length : Int)
      · obtain ⟨hx1, hx2, hi1, hi2⟩ := hg
        obtain ⟨e, rfl⟩ : ∃ e, i = e + 1 := ⟨i - 1, by omega⟩
        have hel : e < es.length := by omega
        have hqs : eshow_c.pre ((s, es), x, e) := ⟨hst, ⟨hx1, hx2⟩, hel⟩
        have hw := built_wf (kvs (es.take (e + 1)))
        have hat := all_trees (kvs (es.take (e + 1)))
        have hd := (builtOk (kvs (es.take (e + 1)))).depth
        have hk := hkf (e + 1)
        have hqp : rpairs19_c.pre (s, es, e + 1) := hrd
        have hqk : rkey14_c.pre x := by show x.length ≤ 1000000; omega
        have hqw : rshow_c.pre (treesF (kvs (es.take (e + 1))), keyL x) := ⟨hw, by omega⟩
        have hqt : rtree19_c.pre (s, es, e + 1) := ⟨hrd, hkf⟩
        have hpl := showP_len (keyL x) (treesF (kvs (es.take (e + 1))))
        have hqa : toP_c.pre (showP (keyL x) (treesF (kvs (es.take (e + 1))))) := by show _ ≤ 100000; omega
        have hqb : rpsame_c.pre (showP (keyL x) (treesF (kvs (es.take (e + 1))))) := by show _ ≤ 100000; omega
        have hcl := hrd.ch x (e + 1)
        have hqc : to14_c.pre (chR (es.take (e + 1)) x) := by show _ ≤ 100000; omega
        have hqd : rchain_c.pre (s, es, x, e + 1) := hrd
        have hqe : rsame14_c.pre (chR (es.take (e + 1)) x) := ⟨by show _ ≤ 100000; omega, fun v hv => by
          obtain ⟨n, hn, p, hp, rfl⟩ := chR_mem hv
          have := hst.lab n (List.mem_of_mem_take hn) p hp
          omega⟩
        have hqf : enews_c.pre ((s, es), e) := ⟨hel, hst⟩
        have hm : es.getD e [] ∈ es := by
          rw [List.getD_eq_getElem?_getD, List.getElem?_eq_getElem hel]; exact List.getElem_mem _
        have hfl := hst.few _ hm
        have hqg : to19_c.pre (es.getD e []) := by show _ ≤ 100000; omega
        have hqi : rsame19_c.pre (es.getD e []) := ⟨by show _ ≤ 100000; omega, fun p hp => by have := hst.lab _ hm p hp; omega⟩
        have hgd : ∀ h, es[(((e + 1 : Nat) : Int) - 1).toNat]'h = es.getD e [] := fun h => by
          have e1 : (((e + 1 : Nat) : Int) - 1).toNat = e := by omega
          simp only [e1]
          rw [List.getD_eq_getElem?_getD, List.getElem?_eq_getElem hel]; rfl
        repeat' (first | (with_reducible refine Unf.h ?_) | ((conv => whnf); first | refine Fork.mk (fun h => ?_) (fun h => ?_) | (refine Side.mk ?_ ?_; focus ((intros; (try simp only [lenS, inR, cutS, loI, hiI] at *); omega)))) | fail); all_goals try (conv => whnf); all_goals try (exfalso; omega)
        refine Or2.r (CallS.mk (c := eshow_c) (((s, es), x, e)) ?_)
        repeat' (first | (with_reducible refine Unf.h ?_) | ((conv => whnf); first | refine Fork.mk (fun h => ?_) (fun h => ?_) | (refine Side.mk ?_ ?_; focus (first | with_reducible rfl | assumption | (refine congrArg (SV.int _) ?_; omega))) | refine Got.mk (fun _ _ => ?_)) | fail); all_goals try (conv => whnf); all_goals try (exfalso; omega)
        refine CallS.mk (c := rpairs19_c) ((s, es, e + 1)) ?_
        repeat' (first | (with_reducible refine Unf.h ?_) | ((conv => whnf); first | (refine Side.mk ?_ ?_; focus (first | with_reducible rfl | assumption)) | refine Got.mk (fun _ _ => ?_)) | fail); all_goals try (conv => whnf); all_goals try (exfalso; omega)
        refine CallS.mk (c := rkey14_c) (x) ?_
        repeat' (first | (with_reducible refine Unf.h ?_) | ((conv => whnf); first | (refine Side.mk ?_ ?_; focus (first | with_reducible rfl | assumption)) | refine Got.mk (fun _ _ => ?_)) | fail); all_goals try (conv => whnf); all_goals try (exfalso; omega)
        rw [hat]
        refine CallS.mk (c := rshow_c) ((treesF (kvs (es.take (e + 1))), keyL x)) ?_
        repeat' (first | (with_reducible refine Unf.h ?_) | ((conv => whnf); first | refine Fork.mkn (fun h => ?_) (fun h => ?_) | (refine Side.mk ?_ ?_; focus (first | with_reducible rfl | assumption)) | refine Got.mk (fun _ _ => ?_)) | fail); all_goals try (conv => whnf); all_goals try (exfalso; omega)
        refine CallS.mk (c := rtree19_c) ((s, es, e + 1)) ?_
        repeat' (first | (with_reducible refine Unf.h ?_) | ((conv => whnf); first | refine Both.mk ?_ ?_ | refine Both.mk ?_ ?_ | refine Fork.mkn (fun h => ?_) (fun h => ?_) | (refine Side.mk ?_ ?_; focus (first | with_reducible rfl | assumption)) | refine RetE.mk () trivial ?_ | refine Got.mk (fun _ _ => ?_) | refine retK_r ?_) | fail); all_goals try (conv => whnf); all_goals try (exfalso; omega)
        all_goals try (exact absurd rfl h)
        all_goals
          refine CallS.mk (c := toP_c) ((showP (keyL x) (treesF (kvs (es.take (e + 1)))))) ?_
          repeat' (first | (with_reducible refine Unf.h ?_) | ((conv => whnf); first | (refine Side.mk ?_ ?_; focus (first | with_reducible rfl | assumption)) | refine Got.mk (fun _ _ => ?_)) | fail); all_goals try (conv => whnf); all_goals try (exfalso; omega)
        all_goals
          refine CallS.mk (c := rpsame_c) ((showP (keyL x) (treesF (kvs (es.take (e + 1)))))) ?_
          repeat' (first | (with_reducible refine Unf.h ?_) | ((conv => whnf); first | (refine Side.mk ?_ ?_; focus (first | with_reducible rfl | assumption)) | refine Got.mk (fun _ _ => ?_)) | fail); all_goals try (conv => whnf); all_goals try (exfalso; omega)
        all_goals
          refine CallS.mk (c := to14_c) ((chR (es.take (e + 1)) x)) ?_
          repeat' (first | (with_reducible refine Unf.h ?_) | ((conv => whnf); first | (refine Side.mk ?_ ?_; focus (first | with_reducible rfl | assumption)) | refine Got.mk (fun _ _ => ?_)) | fail); all_goals try (conv => whnf); all_goals try (exfalso; omega)
        all_goals
          refine CallS.mk (c := rchain_c) ((s, es, x, e + 1)) ?_
          repeat' (first | (with_reducible refine Unf.h ?_) | ((conv => whnf); first | (refine Side.mk ?_ ?_; focus (first | with_reducible rfl | assumption)) | refine Got.mk (fun _ _ => ?_)) | fail); all_goals try (conv => whnf); all_goals try (exfalso; omega)
        all_goals
          refine CallS.mk (c := rsame14_c) ((chR (es.take (e + 1)) x)) ?_
          repeat' (first | (with_reducible refine Unf.h ?_) | ((conv => whnf); first | refine Both.mk ?_ ?_ | refine Both.mk ?_ ?_ | (refine Side.mk ?_ ?_; focus (first | with_reducible rfl | assumption | (intros; (try simp only [lenS, inR, cutS, loI, hiI] at *); omega))) | (refine Idx.mk ?_ ?_; focus (omega)) | refine Got.mk (fun _ _ => ?_)) | fail); all_goals try (conv => whnf); all_goals try (exfalso; omega)
        all_goals
          refine CallS.mk (c := enews_c) (((s, es), e)) ?_
          repeat' (first | (with_reducible refine Unf.h ?_) | ((conv => whnf); first | refine Both.mk ?_ ?_ | refine Both.mk ?_ ?_ | (refine Side.mk ?_ ?_; focus (first | with_reducible rfl | assumption | (refine congrArg (SV.int _) ?_; omega))) | (refine Idx.mk ?_ ?_; focus (omega)) | refine Got.mk (fun _ _ => ?_)) | fail); all_goals try (conv => whnf); all_goals try (exfalso; omega)
        all_goals
          refine CallS.mk (c := to19_c) ((es.getD e [])) ?_
          repeat' (first | (with_reducible refine Unf.h ?_) | ((conv => whnf); first | (refine Side.mk ?_ ?_; focus (first | with_reducible rfl | assumption)) | (refine Idx.mk ?_ ?_; focus (omega)) | refine Got.mk (fun _ _ => ?_)) | fail); all_goals try (conv => whnf); all_goals try (exfalso; omega)
        all_goals
          rw [hgd]
          refine CallS.mk (c := rsame19_c) ((es.getD e [])) ?_
          repeat' (first | (with_reducible first | refine Unf.h ?_ | refine loopK_n ?_) | ((conv => whnf); first | (refine Side.mk ?_ ?_; focus (first | with_reducible rfl | assumption | (intros; (try simp only [lenS, inR, cutS, loI, hiI] at *); omega))) | refine Got.mk (fun _ _ => ?_)) | fail); all_goals try (conv => whnf); all_goals try (exfalso; omega)
        all_goals
          refine ⟨e + 1 + 1, ⟨by omega, by omega⟩, ?_⟩
          repeat' (first | (with_reducible refine Unf.h ?_) | ((conv => whnf); first | (refine Side.mk ?_ ?_; focus (first | with_reducible rfl | (refine congrArg (SV.int _) ?_; omega))) | (with_reducible refine Unf.h ?_) | exact True.intro) | fail); all_goals try (conv => whnf); all_goals try (exfalso; omega)
      · have hqx : eshowX_c.pre ((s, es), x, (i : Int)) := hg
        repeat' (first | (with_reducible refine Unf.h ?_) | ((conv => whnf); first | refine Fork.mk (fun h => ?_) (fun h => ?_) | (refine Side.mk ?_ ?_; focus ((intros; (try simp only [lenS, inR, cutS, loI, hiI] at *); omega)))) | fail); all_goals try (conv => whnf); all_goals try (exfalso; omega)
        first | refine CallS.mk (c := eshowX_c) (((s, es), x, (i : Int))) ?_ | refine Or2.l (CallS.mk (c := eshowX_c) (((s, es), x, (i : Int))) ?_) | refine Or2.r (CallS.mk (c := eshowX_c) (((s, es), x, (i : Int))) ?_)
        repeat (first | (with_reducible refine Unf.h ?_) | ((conv => whnf); first | (refine Side.mk ?_ ?_; focus (first | with_reducible rfl | assumption | exact True.intro | rfl)) | (with_reducible refine Unf.h ?_)))
        conv => whnf
        refine Got.mk (fun e he => ?_)
        repeat' (first | (with_reducible first | refine Unf.h ?_ | refine loopK_n ?_) | ((conv => whnf); first | refine Fork.mk (fun h => ?_) (fun h => ?_) | (refine Side.mk ?_ ?_; focus ((intros; (try simp only [lenS, inR, cutS, loI, hiI] at *); omega))) | refine RetE.mk () trivial ?_ | (with_reducible refine Unf.h ?_) | refine retK_r ?_) | fail); all_goals try (conv => whnf); all_goals try (exfalso; omega)
        all_goals try (exact absurd h he)
        all_goals
          refine ⟨i + 1, ⟨by omega, by omega⟩, ?_⟩
          repeat' (first | (with_reducible refine Unf.h ?_) | ((conv => whnf); first | (refine Side.mk ?_ ?_; focus (first | with_reducible rfl | (refine congrArg (SV.int _) ?_; omega))) | (with_reducible refine Unf.h ?_) | exact True.intro) | fail); all_goals try (conv => whnf); all_goals try (exfalso; omega)
    · repeat' (first | (with_reducible refine Unf.h ?_) | ((conv => whnf); first | refine Fork.mk (fun h => ?_) (fun h => ?_) | (refine Side.mk ?_ ?_; focus (first | with_reducible rfl | (intros; (try simp only [lenS, inR, cutS, loI, hiI] at *); omega))) | refine RetE.mk () trivial ?_ | refine retK_r ?_ | exact rfl) | fail); all_goals try (conv => whnf); all_goals try (exfalso; omega)
end Go.Proofs.YtdflndjlnkoliaaGreatDoor

namespace Go.Proofs.YtdflndjlnkoliaaGreatDoor
set_option linter.all false
open Go.RowKit
def awk_c : Ctr where
  D := Unit
  args := fun _ => []
  res := fun _ _ => .bool true
def awk_H : Cfg := ⟨[(15, enew_c), (17, eseal_c), (21, eps_c)], [], [], [], 16, 0, [], [], [8]⟩
theorem awk_ok : awk_c.Ok Tryz.prog 6 := by
  refine fn_ok awk_H 0 rfl _ Tryz.func6 rfl rfl ⟨enew_ok, eseal_ok, eps_ok, trivial⟩ rfl rfl (by kernel_rfl) (fun _ => Nat.le_of_ble_eq_true rfl) ?_
  intro (_ : Unit) hp hr
  try dsimp only [awk_c] at hp
  try simp only [awk_c, Rng, RngL, inR, and_true, true_and] at hr
  have hpn : enew_c.pre key1 := trivial
  have hoku : okU [] ([97#8], []) := ⟨by decide, trivial, by decide, by decide, by decide⟩
  have hps : eseal_c.pre (key1, [], [([97#8], [])]) := ⟨StOk.nil, by decide, by decide, by decide⟩
  have es : sealF key1 [] [([97#8], [])] = ([[verN key1 [] ([97#8], [])]], 0) := by
    unfold sealF
    rw [if_neg (by decide), if_pos ⟨fun u hu => by obtain rfl := List.mem_singleton.1 hu; exact hoku, by decide⟩]; rfl
  repeat' (first | (with_reducible refine Unf.h ?_) | fail); all_goals try (conv => whnf); all_goals try (exfalso; omega)
  refine CallS.mk (c := enew_c) (key1) ?_
  repeat' (first | (with_reducible refine Unf.h ?_) | ((conv => whnf); first | (refine Side.mk ?_ ?_; focus (first | with_reducible rfl | exact True.intro | (intros; (try simp only [lenS, inR, cutS, loI, hiI] at *); omega))) | refine Got.mk (fun _ _ => ?_) | refine Ex.mk [_] rfl ?_) | fail); all_goals try (conv => whnf); all_goals try (exfalso; omega)
  refine ValS.mk (OpsK.nilA 7 [.fs 1 eB [97#8], .nils] [.fs 1 eB [97#8], .fs 1 eB []] rfl ⟨.inl rfl, .inr ⟨rfl, _, _, _, rfl⟩, trivial⟩ ?_)
  repeat' (first | (with_reducible refine Unf.h ?_) | fail); all_goals try (conv => whnf); all_goals try (exfalso; omega)
  have f1 : (builtF (kvs [])).1 = [] := rfl
  have f2 : slds [] = [] := rfl
  have f3 : peo [] = [] := rfl
  have f4 : (slds (sealF key1 [] [([97#8], [])]).1).length = 1 := by rw [es]; rfl
  have f5 : (sealF key1 [] [([97#8], [])]).2 = 0 := by rw [es]
  refine CallS.mk (c := eseal_c) ((key1, [], [([97#8], [])])) ?_
  repeat' (first | (with_reducible refine Unf.h ?_) | ((conv => whnf); first | refine Fork.mk (fun h => ?_) (fun h => ?_) | (refine Side.mk ?_ ?_; focus (first | with_reducible rfl | assumption | (simp only [*, f1, f2, f3, f5]; done) | (simp only [*, f1, f2, f3, f5, List.map_cons, List.map_nil, eB]; done))) | refine Got.mk (fun _ _ => ?_)) | fail); all_goals try (conv => whnf); all_goals try (exfalso; omega)
  generalize (sealF key1 [] [([97#8], [])]).1 = es1 at *
  refine CallS.mk (c := eps_c) ((key1, (builtF (kvs es1)).1, slds es1, peo es1)) ?_
  repeat' (first | (with_reducible refine Unf.h ?_) | ((conv => whnf); first | (refine Side.mk ?_ ?_; focus (first | with_reducible rfl | exact True.intro | (simp [*, f4]; done))) | refine RetE.mk () trivial ?_ | refine Got.mk (fun _ _ => ?_) | refine retK_r ?_ | exact rfl) | fail); all_goals try (conv => whnf); all_goals try (exfalso; omega)
end Go.Proofs.YtdflndjlnkoliaaGreatDoor

namespace Go.Proofs.YtdflndjlnkoliaaGreatDoor
set_option linter.all false
open Go.RowKit
abbrev eUe (us : List (Bs × Bs)) : List SV := [.fs 2 eUp us]
structure FewOk (l : List (List (Bs × Bs))) (m : Int) : Prop where
  len : (l.length : Int) ≤ m
  few : ∀ us ∈ l, us.length ≤ 20
  lab : ∀ us ∈ l, ∀ u ∈ us, u.1.length ≤ 100 ∧ u.2.length ≤ 200
def labelsL (l : List (List (Bs × Bs))) : List Bs := l.flatten.map Prod.fst
theorem labels_snoc (l : List (List (Bs × Bs))) (us : List (Bs × Bs)) : labelsL (l ++ [us]) = labelsL l ++ us.map Prod.fst := by unfold labelsL; simp
theorem labels_len (l : List (List (Bs × Bs))) (h : ∀ us ∈ l, us.length ≤ 20) : (labelsL l).length ≤ 20 * l.length := by
  unfold labelsL
  rw [List.length_map, List.length_flatten]
  induction l with
  | nil => simp
  | cons a r ih =>
    have h1 := h a (by simp)
    have := ih fun us hu => h us (by simp [hu])
    simp only [List.map_cons, List.sum_cons, List.length_cons]; omega
def rlabels_c : Ctr where
  D := List (List (Bs × Bs)) × Bs
  pre := fun (l, _) => l.length ≤ 100 ∧ ∀ us ∈ l, us.length ≤ 20
  args := fun (l, x) => [.fs 1 eUe l, .fs 1 eB x]
  res := fun (l, x) _ => .fs 1 eP (x :: labelsL l)
def rlabels_H : Cfg := ⟨[], [], [], [], 37, 0, [], [], []⟩
theorem rlabels_ok : rlabels_c.Ok Tryz.prog 29 := by
  refine fn_ok rlabels_H 0 rfl _ Tryz.func29 rfl rfl trivial rfl rfl (by kernel_rfl) (fun _ => Nat.le_of_ble_eq_true rfl) ?_
  rintro ⟨l, x⟩ hp hr
  try dsimp only [rlabels_c] at hp
  try simp only [rlabels_c, Rng, RngL, inR, and_true, true_and] at hr
  obtain ⟨hp1, hp2⟩ := hp
  have hp1 : l.length ≤ 100 := hp1
  repeat' (first | (with_reducible refine Unf.h ?_) | fail); all_goals try (conv => whnf); all_goals try (exfalso; omega)
  refine LoopS.autoN (I := Nat) (fun i => i ≤ l.length) (fun i => [(6, .int .i64 (i : Int)), (5, .own 0)]) (fun i => [(0, .row 46 1 eP (x :: labelsL (l.take i)))]) 1 (fun i => l.length - i) 0 (Nat.zero_le _) ?_ ?_
  · have e0 : labelsL (l.take 0) = [] := rfl
    repeat' (first | (with_reducible refine Unf.h ?_) | ((conv => whnf); first | (refine Side.mk ?_ ?_; focus (first | with_reducible rfl | (refine congrArg (SV.int _) ?_; omega))) | (with_reducible refine Unf.h ?_)) | fail); all_goals try (conv => whnf); all_goals try (exfalso; omega)
    refine Side.mk rfl ?_
    repeat' (first | (with_reducible refine Unf.h ?_) | ((conv => whnf); exact True.intro) | fail); all_goals try (conv => whnf); all_goals try (exfalso; omega)
  · intro i hi
    have hi : i ≤ l.length := hi
    have hll := labels_len (l.take i) fun us hu => hp2 us (List.mem_of_mem_take hu)
    have hlt : (l.take i).length ≤ l.length := by simp; omega
    by_cases hil : i < l.length
    · have hul := hp2 (l[((i : Nat) : Int).toNat]'hil) (List.getElem_mem _)
      have els : labelsL (l.take (i + 1)) = labelsL (l.take i) ++ (l[((i : Nat) : Int).toNat]'hil).map Prod.fst := by rw [List.take_succ_eq_append_getElem hil, labels_snoc]; rfl
      repeat' (first | (with_reducible refine Unf.h ?_) | ((conv => whnf); refine Fork.mk (fun h => ?_) (fun h => ?_)) | fail); all_goals try (conv => whnf); all_goals try (exfalso; omega)
      refine LoopS.autoN (I := Nat) (fun k => k ≤ (l[((i : Nat) : Int).toNat]'hil).length) (fun k => [(7, .int .i64 (k : Int)), (5, .own 0)]) (fun k => [(0, .row 46 1 eP (x :: (labelsL (l.take i) ++ ((l[((i : Nat) : Int).toNat]'hil).take k).map Prod.fst)))]) 1 (fun k => (l[((i : Nat) : Int).toNat]'hil).length - k) 0 (Nat.zero_le _) ?_ ?_
      · have e0 : x :: (labelsL (l.take i) ++ ((l[((i : Nat) : Int).toNat]'hil).take 0).map Prod.fst) = x :: labelsL (l.take i) := by simp
        repeat' (first | (with_reducible refine Unf.h ?_) | ((conv => whnf); first | (refine Side.mk ?_ ?_; focus (first | with_reducible rfl | (refine congrArg (SV.int _) ?_; omega) | (simp only [*, e0]; done))) | (with_reducible refine Unf.h ?_) | exact True.intro) | fail); all_goals try (conv => whnf); all_goals try (exfalso; omega)
      · intro k hk
        have hk : k ≤ (l[((i : Nat) : Int).toNat]'hil).length := hk
        by_cases hkl : k < (l[((i : Nat) : Int).toNat]'hil).length
        · have ek : x :: (labelsL (l.take i) ++ ((l[((i : Nat) : Int).toNat]'hil).take (k + 1)).map Prod.fst) = x :: (labelsL (l.take i) ++ ((l[((i : Nat) : Int).toNat]'hil).take k).map Prod.fst) ++ [((l[((i : Nat) : Int).toNat]'hil)[((k : Nat) : Int).toNat]'hkl).1] := by
            rw [List.take_succ_eq_append_getElem hkl, List.map_append]
            simp
          have hkt : (((l[((i : Nat) : Int).toNat]'hil).take k).map Prod.fst).length ≤ (l[((i : Nat) : Int).toNat]'hil).length := by simp; omega
          repeat' (first | (with_reducible first | refine Unf.h ?_ | refine loopK_n ?_) | ((conv => whnf); first | refine Fork.mk (fun h => ?_) (fun h => ?_) | (refine Side.mk ?_ ?_; focus ((intros; (try simp only [lenS, inR, cutS, loI, hiI] at *); omega))) | (refine Idx.mk ?_ ?_; focus (omega)) | refine Ex.mk [_] rfl ?_) | fail); all_goals try (conv => whnf); all_goals try (exfalso; omega)
          refine ⟨k + 1, ⟨by omega, by omega⟩, ?_⟩
          rw [ek]
          repeat' (first | (with_reducible refine Unf.h ?_) | ((conv => whnf); first | (refine Side.mk ?_ ?_; focus (first | with_reducible rfl | (refine congrArg (SV.int _) ?_; omega))) | (with_reducible refine Unf.h ?_) | exact True.intro) | fail); all_goals try (conv => whnf); all_goals try (exfalso; omega)
        · have e0 : (l[((i : Nat) : Int).toNat]'hil).take k = (l[((i : Nat) : Int).toNat]'hil) := List.take_of_length_le (by omega)
          rw [e0, ← els]
          repeat' (first | (with_reducible first | refine Unf.h ?_ | refine loopK_n ?_) | ((conv => whnf); first | refine Fork.mk (fun h => ?_) (fun h => ?_) | (refine Side.mk ?_ ?_; focus ((intros; (try simp only [lenS, inR, cutS, loI, hiI] at *); omega))) | (refine Idx.mk ?_ ?_; focus (omega))) | fail); all_goals try (conv => whnf); all_goals try (exfalso; omega)
          refine ⟨i + 1, ⟨by omega, by omega⟩, ?_⟩
          repeat' (first | (with_reducible refine Unf.h ?_) | ((conv => whnf); first | (refine Side.mk ?_ ?_; focus (first | with_reducible rfl | (refine congrArg (SV.int _) ?_; omega))) | (with_reducible refine Unf.h ?_) | exact True.intro) | fail); all_goals try (conv => whnf); all_goals try (exfalso; omega)
    · have e0 : l.take i = l := List.take_of_length_le (by omega)
      rw [e0]
      repeat' (first | (with_reducible refine Unf.h ?_) | ((conv => whnf); first | refine Fork.mk (fun h => ?_) (fun h => ?_) | (refine Side.mk ?_ ?_; focus (with_reducible rfl)) | refine RetE.mk () trivial ?_ | refine retK_r ?_ | exact rfl) | fail); all_goals try (conv => whnf); all_goals try (exfalso; omega)
def rapart_c : Ctr where
  D := List Bs
  pre := fun l => l.length ≤ 10000 ∧ ∀ x ∈ l, x.length ≤ 1000000
  args := fun l => [.fs 1 eP l]
  E := Bool
  res := fun _ b => .bool b
def rapart_H : Cfg := ⟨[(52, rkey14_c), (73, same_c)], [(9, [3, 7, 13, 17], [18], (.one 0 0 false (.one 1 0 false (.one 2 0 false (.one 3 1 false (.one 4 0 false (.one 5 0 false (.one 6 0 false (.one 7 1 false (.one 8 0 false (.one 9 0 false (.one 10 0 false (.one 11 0 false (.one 12 0 false (.one 13 1 false (.one 14 0 false (.one 15 0 false (.one 16 0 false (.one 17 1 false (.one 18 2 false (.one 19 0 false (.one 20 0 false .nil))))))))))))))))))))), [])], [], [], 46, 0, [], [], []⟩
theorem rapart_ok : rapart_c.Ok Tryz.prog 28 := by
  refine fn_ok rapart_H 0 rfl _ Tryz.func28 rfl rfl ⟨rkey14_ok, same_ok, trivial⟩ rfl rfl (by kernel_rfl) (fun _ => Nat.le_of_ble_eq_true rfl) ?_
  intro (l : List Bs) hp hr
  try dsimp only [rapart_c] at hp
  try simp only [rapart_c, Rng, RngL, inR, and_true, true_and] at hr
  obtain ⟨hp1, hp2⟩ := hp
  have hp1 : l.length ≤ 10000 := hp1
  repeat' (first | (with_reducible refine Unf.h ?_) | fail); all_goals try (conv => whnf); all_goals try (exfalso; omega)
  refine LoopS.autoN (I := Nat) (fun i => i ≤ l.length) (fun i => [(4, .int .i64 (i : Int)), (3, .own 0)]) (fun i => [(0, .row 30 32 (fun v : H256 => [.arr8 v]) ((l.take i).map keyL))]) 1 (fun i => l.length - i) 0 (Nat.zero_le _) ?_ ?_
  · have e0 : (l.take 0).map keyL = [] := rfl
    repeat' (first | (with_reducible refine Unf.h ?_) | ((conv => whnf); first | (refine Side.mk ?_ ?_; focus (first | with_reducible rfl | assumption | (refine congrArg (SV.int _) ?_; omega))) | (with_reducible refine Unf.h ?_) | exact True.intro) | fail); all_goals try (conv => whnf); all_goals try (exfalso; omega)
  · intro i hi
    have hi : i ≤ l.length := hi
    by_cases hil : i < l.length
    · have hki : rkey14_c.pre (l[((i : Nat) : Int).toNat]'hil) := hp2 _ (List.getElem_mem _)
      have ek : (l.take (i + 1)).map keyL = (l.take i).map keyL ++ [keyL (l[((i : Nat) : Int).toNat]'hil)] := by rw [List.take_succ_eq_append_getElem hil, List.map_append]; rfl
      have hkl : ((l.take i).map keyL).length = i := by simp; omega
      have hkl2 : ((l.take (i + 1)).map keyL).length = i + 1 := by simp; omega
      repeat' (first | (with_reducible refine Unf.h ?_) | ((conv => whnf); first | refine Fork.mk (fun h => ?_) (fun h => ?_) | (refine Idx.mk ?_ ?_; focus (omega))) | fail); all_goals try (conv => whnf); all_goals try (exfalso; omega)
      refine CallS.mk (c := rkey14_c) ((l[((i : Nat) : Int).toNat]'hil)) ?_
      repeat' (first | (with_reducible refine Unf.h ?_) | ((conv => whnf); first | (refine Side.mk ?_ ?_; focus (first | with_reducible rfl | assumption | (intros; (try simp only [lenS, inR, cutS, loI, hiI] at *); omega))) | refine Got.mk (fun _ _ => ?_) | refine Ex.mk [_] rfl ?_) | fail); all_goals try (conv => whnf); all_goals try (exfalso; omega)
      refine LoopS.autoN (I := Nat) (fun k => k ≤ i) (fun k => [(5, .int .i64 (k : Int)), (3, .own 0)]) (fun _ => [(0, .row 30 32 (fun v : H256 => [.arr8 v]) ((l.take (i + 1)).map keyL))]) 1 (fun k => i - k) 0 (Nat.zero_le _) ?_ ?_
      · repeat' (first | (with_reducible refine Unf.h ?_) | ((conv => whnf); first | (refine Side.mk ?_ ?_; focus (first | with_reducible rfl | (refine congrArg (SV.int _) ?_; omega) | (simp only [*, ek]; done))) | (with_reducible refine Unf.h ?_) | exact True.intro) | fail); all_goals try (conv => whnf); all_goals try (exfalso; omega)
      · intro k hk
        have hk : k ≤ i := hk
        rcases Nat.lt_or_ge k i with hki2 | hki2
        · repeat' (first | (with_reducible first | refine Unf.h ?_ | refine loopK_n ?_) | ((conv => whnf); first | refine Fork.mk (fun h => ?_) (fun h => ?_) | (refine Side.mk ?_ ?_; focus (first | omega | (intros; (try simp only [lenS, inR, cutS, loI, hiI, eP] at *); omega))) | (refine Idx.mk ?_ ?_; focus (omega))) | fail); all_goals try (conv => whnf); all_goals try (exfalso; omega)
          all_goals first
            | (refine RetE.mk false trivial ?_; all_goals try (conv => whnf); all_goals try (exfalso; omega); done)
            | (refine ⟨k + 1, ⟨by omega, by omega⟩, ?_⟩; repeat' (first | (with_reducible refine Unf.h ?_) | ((conv => whnf); first | (refine Side.mk ?_ ?_; focus (first | with_reducible rfl | (refine congrArg (SV.int _) ?_; omega))) | (with_reducible refine Unf.h ?_) | exact True.intro) | fail); all_goals try (conv => whnf); all_goals try (exfalso; omega); done)
            | skip
          have hkl3 : k < l.length := by omega
          refine CallS.mk (c := same_c) ((l[((k : Nat) : Int).toNat]'hkl3, l[((i : Nat) : Int).toNat]'hil)) ?_
          repeat' (first | (with_reducible first | refine Unf.h ?_ | refine loopK_n ?_) | ((conv => whnf); first | refine Fork.mkn (fun h => ?_) (fun h => ?_) | (refine Side.mk ?_ ?_; focus (first | with_reducible rfl | exact True.intro | (intros; (try simp only [lenS, inR, cutS, loI, hiI] at *); omega))) | refine Got.mk (fun _ _ => ?_) | refine retK_r ?_) | fail); all_goals try (conv => whnf); all_goals try (exfalso; omega)
          all_goals first
            | (refine RetE.mk false trivial ?_; repeat' (first | (with_reducible refine Unf.h ?_) | ((conv => whnf); first | (refine Side.mk ?_ ?_; focus (with_reducible rfl)) | exact rfl) | fail); all_goals try (conv => whnf); all_goals try (exfalso; omega); done)
            | (refine ⟨k + 1, ⟨by omega, by omega⟩, ?_⟩; repeat' (first | (with_reducible refine Unf.h ?_) | ((conv => whnf); first | (refine Side.mk ?_ ?_; focus (first | with_reducible rfl | (refine congrArg (SV.int _) ?_; omega))) | (with_reducible refine Unf.h ?_) | exact True.intro) | fail); all_goals try (conv => whnf); all_goals try (exfalso; omega); done)
            | skip
        · repeat' (first | (with_reducible first | refine Unf.h ?_ | refine loopK_n ?_) | ((conv => whnf); first | refine Fork.mk (fun h => ?_) (fun h => ?_) | (refine Side.mk ?_ ?_; focus ((intros; (try simp only [lenS, inR, cutS, loI, hiI, eP] at *); omega)))) | fail); all_goals try (conv => whnf); all_goals try (exfalso; omega)
          refine ⟨i + 1, ⟨by omega, by omega⟩, ?_⟩
          repeat' (first | (with_reducible refine Unf.h ?_) | ((conv => whnf); first | (refine Side.mk ?_ ?_; focus (first | with_reducible rfl | (refine congrArg (SV.int _) ?_; omega))) | (with_reducible refine Unf.h ?_) | exact True.intro) | fail); all_goals try (conv => whnf); all_goals try (exfalso; omega)
    · repeat' (first | (with_reducible refine Unf.h ?_) | ((conv => whnf); first | refine Fork.mk (fun h => ?_) (fun h => ?_) | refine retK_r ?_) | fail); all_goals try (conv => whnf); all_goals try (exfalso; omega)
      refine RetE.mk true trivial ?_
      repeat' (first | (with_reducible refine Unf.h ?_) | ((conv => whnf); first | (refine Side.mk ?_ ?_; focus (with_reducible rfl)) | exact rfl) | fail); all_goals try (conv => whnf); all_goals try (exfalso; omega)
def rfew_c : Ctr where
  D := List (List (Bs × Bs)) × Int
  pre := fun (_, m) => m ≤ 40
  args := fun (l, m) => [.fs 1 eUe l, .int .i64 m]
  E := Bool
  post := fun (l, m) b => b = true → FewOk l m
  res := fun _ b => .bool b
abbrev okUs (us : List (Bs × Bs)) : Prop := us.length ≤ 20 ∧ ∀ u ∈ us, u.1.length ≤ 100 ∧ u.2.length ≤ 200
def rfew_H : Cfg := ⟨[(29, rlabels_c), (28, rapart_c)], [], [], [], 67, 0, [], [], []⟩
theorem rfew_ok : rfew_c.Ok Tryz.prog 7 := by
  refine fn_ok rfew_H 0 rfl _ Tryz.func7 rfl rfl ⟨rlabels_ok, rapart_ok, trivial⟩ rfl rfl (by kernel_rfl) (fun _ => Nat.le_of_ble_eq_true rfl) ?_
  rintro ⟨l, m⟩ hp hr
  try dsimp only [rfew_c] at hp
  try simp only [rfew_c, Rng, RngL, inR, and_true, true_and] at hr
  have hp : m ≤ 40 := hp
  repeat' (first | (with_reducible refine Unf.h ?_) | fail); all_goals try (conv => whnf); all_goals try (exfalso; omega)
  refine LoopS.autoN (I := Nat) (fun i => i ≤ l.length ∧ ∀ us ∈ l.take i, okUs us) (fun i => [(5, .int .i64 (i : Int))]) (fun _ => []) 0 (fun i => l.length - i) 0 ⟨Nat.zero_le _, fun us hu => by simp at hu⟩ ?_ ?_
  · repeat' (first | (with_reducible refine Unf.h ?_) | ((conv => whnf); first | (refine Side.mk ?_ ?_; focus (first | with_reducible rfl | (refine congrArg (SV.int _) ?_; omega))) | (with_reducible refine Unf.h ?_) | exact True.intro) | fail); all_goals try (conv => whnf); all_goals try (exfalso; omega)
  · rintro i ⟨hi, ho⟩
    have hi : i ≤ l.length := hi
    by_cases hil : i < l.length ∧ i < 50
    · obtain ⟨hil, hi50⟩ := hil
      repeat' (first | (with_reducible refine Unf.h ?_) | ((conv => whnf); refine Fork.mk (fun h => ?_) (fun h => ?_)) | fail); all_goals try (conv => whnf); all_goals try (exfalso; omega)
      refine LoopS.autoN (I := Nat) (fun k => k ≤ (l[((i : Nat) : Int).toNat]'hil).length ∧ ∀ u ∈ (l[((i : Nat) : Int).toNat]'hil).take k, u.1.length ≤ 100 ∧ u.2.length ≤ 200) (fun k => [(6, .int .i64 (k : Int))]) (fun _ => []) 0 (fun k => (l[((i : Nat) : Int).toNat]'hil).length - k) 0 ⟨Nat.zero_le _, fun u hu => by simp at hu⟩ ?_ ?_
      · repeat' (first | (with_reducible refine Unf.h ?_) | ((conv => whnf); first | (refine Side.mk ?_ ?_; focus (first | with_reducible rfl | (refine congrArg (SV.int _) ?_; omega))) | (with_reducible refine Unf.h ?_) | exact True.intro) | fail); all_goals try (conv => whnf); all_goals try (exfalso; omega)
      · rintro k ⟨hk, hko⟩
        have hk : k ≤ (l[((i : Nat) : Int).toNat]'hil).length := hk
        by_cases hkl : k < (l[((i : Nat) : Int).toNat]'hil).length ∧ k < 30
        · obtain ⟨hkl, hk30⟩ := hkl
          repeat' (first | (with_reducible first | refine Unf.h ?_ | refine loopK_n ?_) | ((conv => whnf); first | refine Fork.mk (fun h => ?_) (fun h => ?_) | (refine Side.mk ?_ ?_; focus ((intros; (try simp only [lenS, inR, cutS, loI, hiI] at *); omega))) | (refine Idx.mk ?_ ?_; focus (omega)) | refine retK_r ?_) | fail); all_goals try (conv => whnf); all_goals try (exfalso; omega)
          all_goals first
            | (refine RetE.mk false (fun h => by cases h) ?_; repeat' (first | (with_reducible refine Unf.h ?_) | ((conv => whnf); first | (refine Side.mk ?_ ?_; focus (with_reducible rfl)) | exact rfl) | fail); all_goals try (conv => whnf); all_goals try (exfalso; omega); done)
            | skip
          refine ⟨k + 1, ⟨by omega, by omega, fun u hu => ?_⟩, ?_⟩
          · rw [List.take_succ_eq_append_getElem hkl] at hu
            rcases List.mem_append.1 hu with hu | hu
            · exact hko u hu
            · obtain rfl := List.mem_singleton.1 hu
              exact ⟨by show ((l[((i : Nat) : Int).toNat]'hil)[((k : Nat) : Int).toNat]'hkl).1.length ≤ 100; omega, by show ((l[((i : Nat) : Int).toNat]'hil)[((k : Nat) : Int).toNat]'hkl).2.length ≤ 200; omega⟩
          · repeat' (first | (with_reducible refine Unf.h ?_) | ((conv => whnf); first | (refine Side.mk ?_ ?_; focus (first | with_reducible rfl | (refine congrArg (SV.int _) ?_; omega))) | (with_reducible refine Unf.h ?_) | exact True.intro) | fail); all_goals try (conv => whnf); all_goals try (exfalso; omega)
        · repeat' (first | (with_reducible first | refine Unf.h ?_ | refine loopK_n ?_) | ((conv => whnf); first | refine Fork.mk (fun h => ?_) (fun h => ?_) | (refine Side.mk ?_ ?_; focus ((intros; (try simp only [lenS, inR, cutS, loI, hiI] at *); omega))) | (refine Idx.mk ?_ ?_; focus (omega)) | refine retK_r ?_) | fail); all_goals try (conv => whnf); all_goals try (exfalso; omega)
          all_goals first
            | (refine RetE.mk false (fun h => by cases h) ?_; repeat' (first | (with_reducible refine Unf.h ?_) | ((conv => whnf); first | (refine Side.mk ?_ ?_; focus (with_reducible rfl)) | exact rfl) | fail); all_goals try (conv => whnf); all_goals try (exfalso; omega); done)
            | skip
          all_goals
            refine ⟨i + 1, ⟨by omega, by omega, fun us hu => ?_⟩, ?_⟩
            · rw [List.take_succ_eq_append_getElem hil] at hu
              rcases List.mem_append.1 hu with hu | hu
              · exact ho us hu
              · obtain rfl := List.mem_singleton.1 hu
                have hu20 : (l[((i : Nat) : Int).toNat]'hil).length ≤ 20 := by omega
                have e0 : (l[((i : Nat) : Int).toNat]'hil).take k = (l[((i : Nat) : Int).toNat]'hil) := List.take_of_length_le (by omega)
                rw [e0] at hko
                exact ⟨hu20, hko⟩
            · repeat' (first | (with_reducible refine Unf.h ?_) | ((conv => whnf); first | (refine Side.mk ?_ ?_; focus (first | with_reducible rfl | (refine congrArg (SV.int _) ?_; omega))) | (with_reducible refine Unf.h ?_) | exact True.intro) | fail); all_goals try (conv => whnf); all_goals try (exfalso; omega)
    · have hfw : (l.length : Int) ≤ m → FewOk l m := fun hm => by
        have e0 : l.take i = l := List.take_of_length_le (by omega)
        rw [e0] at ho
        exact ⟨hm, fun us hu => (ho us hu).1, fun us hu => (ho us hu).2⟩
      repeat' (first | (with_reducible refine Unf.h ?_) | ((conv => whnf); first | refine Fork.mk (fun h => ?_) (fun h => ?_) | refine retK_r ?_) | fail); all_goals try (conv => whnf); all_goals try (exfalso; omega)
      all_goals first
        | (refine RetE.mk false (fun h => by cases h) ?_; repeat' (first | (with_reducible refine Unf.h ?_) | ((conv => whnf); first | (refine Side.mk ?_ ?_; focus (with_reducible rfl)) | exact rfl) | fail); all_goals try (conv => whnf); all_goals try (exfalso; omega); done)
        | skip
      have hF := hfw (by omega)
      have hpl : rlabels_c.pre (l, []) := ⟨by show l.length ≤ 100; omega, hF.few⟩
      have hll := labels_len l hF.few
      have hpa : rapart_c.pre ([] :: labelsL l) := ⟨by show ([] :: labelsL l).length ≤ 10000; simp only [List.length_cons]; omega, fun x hx => by
        rcases List.mem_cons.1 hx with rfl | hx
        · simp
        · obtain ⟨u, hu, rfl⟩ := List.mem_map.1 hx
          obtain ⟨us, hus, huu⟩ := List.mem_flatten.1 hu
          have := (hF.lab us hus u huu).1
          omega⟩
      refine CallS.mk (c := rlabels_c) ((l, [])) ?_
      repeat' (first | (with_reducible refine Unf.h ?_) | ((conv => whnf); first | (refine Side.mk ?_ ?_; focus (first | with_reducible rfl | assumption)) | refine Got.mk (fun _ _ => ?_)) | fail); all_goals try (conv => whnf); all_goals try (exfalso; omega)
      first | refine CallS.mk (c := rapart_c) (([] :: labelsL l)) ?_ | refine Or2.l (CallS.mk (c := rapart_c) (([] :: labelsL l)) ?_) | refine Or2.r (CallS.mk (c := rapart_c) (([] :: labelsL l)) ?_)
      repeat (first | (with_reducible refine Unf.h ?_) | ((conv => whnf); first | (refine Side.mk ?_ ?_; focus (first | with_reducible rfl | assumption | exact True.intro | rfl)) | (with_reducible refine Unf.h ?_)))
      conv => whnf
      refine Got.mk (fun e he => ?_)
      repeat' (first | (with_reducible refine Unf.h ?_) | ((conv => whnf); first | (with_reducible refine Unf.h ?_) | refine retK_r ?_) | fail); all_goals try (conv => whnf); all_goals try (exfalso; omega)
      refine RetE.mk e (fun _ => hF) ?_
      repeat' (first | (with_reducible refine Unf.h ?_) | ((conv => whnf); first | (refine Side.mk ?_ ?_; focus (with_reducible rfl)) | exact rfl) | fail); all_goals try (conv => whnf); all_goals try (exfalso; omega)
end Go.Proofs.YtdflndjlnkoliaaGreatDoor

namespace Go.Proofs.YtdflndjlnkoliaaGreatDoor
set_option linter.all false
open Go.RowKit
def rupd_c : Ctr where
  D := List (Bs × Bs)
  pre := fun us => us.length ≤ 10000
  args := fun us => [.fs 2 eUp us]
  res := fun us _ => .fs 2 eUp us
def rupd_H : Cfg := ⟨[], [], [], [], 19, 0, [], [], []⟩
theorem rupd_ok : rupd_c.Ok Tryz.prog 18 := by
  refine fn_ok rupd_H 0 rfl _ Tryz.func18 rfl rfl trivial rfl rfl (by kernel_rfl) (fun _ => Nat.le_of_ble_eq_true rfl) ?_
  intro (us : List (Bs × Bs)) hp hr
  try dsimp only [rupd_c] at hp
  try simp only [rupd_c, Rng, RngL, inR, and_true, true_and] at hr
  have hp : us.length ≤ 10000 := hp
  repeat' (first | (with_reducible refine Unf.h ?_) | fail); all_goals try (conv => whnf); all_goals try (exfalso; omega)
  refine LoopS.autoN (I := Nat) (fun i => i ≤ us.length) (fun i => [(4, .int .i64 (i : Int)), (3, .own 0)]) (fun i => [(0, .row 79 2 eUp (us.take i))]) 1 (fun i => us.length - i) 0 (Nat.zero_le _) ?_ ?_
  · have e0 : us.take 0 = [] := rfl
    repeat' (first | (with_reducible refine Unf.h ?_) | ((conv => whnf); first | (refine Side.mk ?_ ?_; focus (first | with_reducible rfl | assumption | (refine congrArg (SV.int _) ?_; omega))) | (with_reducible refine Unf.h ?_) | exact True.intro) | fail); all_goals try (conv => whnf); all_goals try (exfalso; omega)
  · intro i hi
    have hi : i ≤ us.length := hi
    have htl : (us.take i).length ≤ us.length := by simp; omega
    by_cases hil : i < us.length
    · have ek : us.take (i + 1) = us.take i ++ [us[((i : Nat) : Int).toNat]'hil] := List.take_succ_eq_append_getElem hil
      repeat' (first | (with_reducible first | refine Unf.h ?_ | refine loopK_n ?_) | ((conv => whnf); first | refine Fork.mk (fun h => ?_) (fun h => ?_) | (refine Side.mk ?_ ?_; focus ((intros; (try simp only [lenS, inR, cutS, loI, hiI] at *); omega))) | (refine Idx.mk ?_ ?_; focus (omega)) | refine Ex.mk [_] rfl ?_) | fail); all_goals try (conv => whnf); all_goals try (exfalso; omega)
      refine ⟨i + 1, ⟨by omega, by omega⟩, ?_⟩
      rw [ek]
      repeat' (first | (with_reducible refine Unf.h ?_) | ((conv => whnf); first | (refine Side.mk ?_ ?_; focus (first | with_reducible rfl | (refine congrArg (SV.int _) ?_; omega))) | (with_reducible refine Unf.h ?_) | exact True.intro) | fail); all_goals try (conv => whnf); all_goals try (exfalso; omega)
    · have e0 : us.take i = us := List.take_of_length_le (by omega)
      rw [e0]
      repeat' (first | (with_reducible refine Unf.h ?_) | ((conv => whnf); first | refine Fork.mk (fun h => ?_) (fun h => ?_) | (refine Side.mk ?_ ?_; focus (with_reducible rfl)) | refine RetE.mk () trivial ?_ | refine retK_r ?_ | exact rfl) | fail); all_goals try (conv => whnf); all_goals try (exfalso; omega)
def builtE (s : H256) (l : List (List (Bs × Bs))) : List (List Nws) := l.foldl (fun es us => (sealF s es us).1) []
theorem builtE_snoc (s : H256) (l : List (List (Bs × Bs))) (us : List (Bs × Bs)) : builtE s (l ++ [us]) = (sealF s (builtE s l) us).1 := by unfold builtE; rw [List.foldl_append]; rfl
theorem builtE_ok (s : H256) : ∀ (k : Nat) (l : List (List (Bs × Bs))), l.length = k → k ≤ 20 → StOk (builtE s l) ∧ (builtE s l).length ≤ k
  | 0, l, h, _ => by obtain rfl := List.eq_nil_of_length_eq_zero h; exact ⟨StOk.nil, Nat.le_refl _⟩
  | k + 1, l, h, hk => by
    have hne : l ≠ [] := fun e => by subst e; cases h
    obtain ⟨qs, p, rfl⟩ : ∃ qs p, l = qs ++ [p] := ⟨l.dropLast, l.getLast hne, (List.dropLast_concat_getLast hne).symm⟩
    obtain ⟨h1, h2⟩ := builtE_ok s k qs (by simpa using h) (by omega)
    rw [builtE_snoc]
    exact ⟨sealF_ok h1 (by omega), Nat.le_trans sealF_len (by omega)⟩
end Go.Proofs.YtdflndjlnkoliaaGreatDoor

namespace Go.Proofs.YtdflndjlnkoliaaGreatDoor
set_option linter.all false
open Go.RowKit
def eseals_c : Ctr where
  D := H256 × List (List (Bs × Bs)) × Bs
  args := fun (s, l, x) => [.agg [.arr8 s], .fs 1 eUe l, .fs 1 eB x]
  res := fun _ _ => .bool true
def eseals_H : Cfg := ⟨[(6, awk_c), (7, rfew_c), (15, enew_c), (16, rseal_c), (17, eseal_c), (18, rupd_c), (19, esame_c)], [(3, [0, 2], [1, 4], (.one 0 1 false (.one 2 1 false (.one 3 0 false (.alt 1 true (.one 5 0 false (.one 4 2 true (.one 6 0 false .nil))) (.one 4 2 true (.one 1 2 true (.one 5 0 false (.one 6 0 false .nil)))))))), [])], [], [], 59, 0, [], [3], [29]⟩
set_option maxHeartbeats 4000000 in
theorem eseals_ok : eseals_c.Ok Tryz.prog 4 := by
  refine fn_ok eseals_H 0 rfl _ Tryz.func4 rfl rfl ⟨awk_ok, rfew_ok, enew_ok, rseal_ok, eseal_ok, rupd_ok, esame_ok, trivial⟩ rfl rfl (by kernel_rfl) (fun _ => Nat.le_of_ble_eq_true rfl) ?_
  rintro ⟨s, l, x⟩ hp hr
  try dsimp only [eseals_c] at hp
  try simp only [eseals_c, Rng, RngL, inR, and_true, true_and] at hr
  have hpf : rfew_c.pre (l, 8) := by show (8 : Int) ≤ 40; omega
  repeat' (first | (with_reducible refine Unf.h ?_) | ((conv => whnf); first | (refine Side.mk ?_ ?_; focus (exact True.intro)) | refine Got.mk (fun _ _ => ?_) | refine CallS.mk (c := awk_c) (()) ?_) | fail); all_goals try (conv => whnf); all_goals try (exfalso; omega)
  first | refine CallS.mk (c := rfew_c) ((l, 8)) ?_ | refine Or2.l (CallS.mk (c := rfew_c) ((l, 8)) ?_) | refine Or2.r (CallS.mk (c := rfew_c) ((l, 8)) ?_)
  repeat (first | (with_reducible refine Unf.h ?_) | ((conv => whnf); first | (refine Side.mk ?_ ?_; focus (first | with_reducible rfl | assumption | exact True.intro | rfl)) | (with_reducible refine Unf.h ?_)))
  conv => whnf
  refine Got.mk (fun e he => ?_)
  cases e with
  | false =>
    repeat' (first | (with_reducible refine Unf.h ?_) | ((conv => whnf); first | (refine Side.mk ?_ ?_; focus (first | with_reducible rfl | exact True.intro)) | refine RetE.mk () trivial ?_ | refine Got.mk (fun _ _ => ?_) | (with_reducible refine Unf.h ?_) | refine retK_r ?_ | exact rfl | refine CallS.mk (c := awk_c) (()) ?_) | fail); all_goals try (conv => whnf); all_goals try (exfalso; omega)
  | true =>
    have hF : FewOk l 8 := he rfl
    have hl8 := hF.len
    have hpn : enew_c.pre s := trivial
    repeat' (first | (with_reducible refine Unf.h ?_) | ((conv => whnf); first | refine Fork.mk (fun h => ?_) (fun h => ?_) | (refine Side.mk ?_ ?_; focus (first | with_reducible rfl | exact True.intro)) | refine RetE.mk () trivial ?_ | refine Got.mk (fun _ _ => ?_) | (with_reducible refine Unf.h ?_) | refine retK_r ?_ | exact rfl | refine CallS.mk (c := awk_c) (()) ?_) | fail); all_goals try (conv => whnf); all_goals try (exfalso; omega)
    refine CutS.mk (I := Unit) (fun _ => True) (fun _ => [(7, .ptr 0 0), (8, rSt s []), (1, .fs 1 eUe l), (2, .fs 1 eB x)]) (fun _ => stG s [] [] []) 6 ?_ ?_
    · repeat' (first | (with_reducible refine Unf.h ?_) | ((conv => whnf); first | refine Both.mk ?_ ?_ | refine Both.mk ?_ ?_) | fail); all_goals try (conv => whnf); all_goals try (exfalso; omega)
      all_goals first
        | (refine ValS.mk (OrdK.nilA 28 [.arr8 s, .nils] [.arr8 s, .fs 1 eEp []] rfl ⟨.inl rfl, .inr ⟨rfl, _, _, _, rfl⟩, trivial⟩ ?_); repeat' (first | (with_reducible refine Unf.h ?_) | fail); all_goals try (conv => whnf); all_goals try (exfalso; omega))
        | skip
      all_goals
        refine CallS.mk (c := enew_c) s ?_
        repeat' (first | (with_reducible first | refine Unf.h ?_ | refine cutK_n ?_) | ((conv => whnf); first | (refine Side.mk ?_ ?_; focus (first | with_reducible rfl | exact True.intro)) | refine Got.mk (fun _ _ => ?_)) | fail); all_goals try (conv => whnf); all_goals try (exfalso; omega)
      all_goals first
        | (refine ValS.mk (OrdK.nilA 28 [.arr8 s, .nils] [.arr8 s, .fs 1 eEp []] rfl ⟨.inl rfl, .inr ⟨rfl, _, _, _, rfl⟩, trivial⟩ ?_); repeat' (first | (with_reducible first | refine Unf.h ?_ | refine cutK_n ?_) | fail); all_goals try (conv => whnf); all_goals try (exfalso; omega))
        | skip
      all_goals
        refine ⟨(), trivial, ?_⟩
        repeat' (first | (with_reducible refine Unf.h ?_) | ((conv => whnf); first | (refine Side.mk ?_ ?_; focus (with_reducible rfl)) | (with_reducible refine Unf.h ?_) | exact True.intro) | fail); all_goals try (conv => whnf); all_goals try (exfalso; omega)
    · intro _ _
      repeat' (first | (with_reducible refine Unf.h ?_) | fail); all_goals try (conv => whnf); all_goals try (exfalso; omega)
      refine LoopS.mk (I := Nat) (fun i => i ≤ l.length) (fun i => [(9, .int .i64 (i : Int)), (7, .ptr 0 0), (8, rSt s (builtE s (l.take i))), (1, .fs 1 eUe l), (2, .fs 1 eB x)]) (fun i => stE s (builtE s (l.take i))) 6 (fun i => l.length - i) 0 (Nat.zero_le _) ?_ ?_
      · have f0 : builtE s (l.take 0) = [] := rfl
        rw [f0]
        have f1 : (builtF (kvs [])).1 = [] := rfl
        have f2 : slds [] = [] := rfl
        have f3 : peo [] = [] := rfl
        repeat' (first | (with_reducible refine Unf.h ?_) | ((conv => whnf); first | (refine Side.mk ?_ ?_; focus (first | with_reducible rfl | (refine congrArg (SV.int _) ?_; omega) | (simp only [*, f1, f2, f3]; done))) | (with_reducible refine Unf.h ?_) | exact True.intro) | fail); all_goals try (conv => whnf); all_goals try (exfalso; omega)
      · intro i hi
        have hi : i ≤ l.length := hi
        obtain ⟨hst, hsl⟩ := builtE_ok s _ (l.take i) rfl (by rw [List.length_take]; omega)
        rw [List.length_take] at hsl
        by_cases hil : i < l.length
        · have hfu := hF.few (l[((i : Nat) : Int).toNat]'hil) (List.getElem_mem _)
          have hlu := hF.lab (l[((i : Nat) : Int).toNat]'hil) (List.getElem_mem _)
          have ebs : builtE s (l.take (i + 1)) = (sealF s (builtE s (l.take i)) (l[((i : Nat) : Int).toNat]'hil)).1 := by
            rw [List.take_succ_eq_append_getElem hil, builtE_snoc]; rfl
          have hpu : rupd_c.pre (l[((i : Nat) : Int).toNat]'hil) := by show (l[((i : Nat) : Int).toNat]'hil).length ≤ 10000; omega
          have hlu2 : ∀ u ∈ (l[((i : Nat) : Int).toNat]'hil), u.1.length ≤ 10000 ∧ u.2.length ≤ 10000 := fun u hu => by have := hlu u hu; omega
          have hps : eseal_c.pre (s, builtE s (l.take i), (l[((i : Nat) : Int).toNat]'hil)) := ⟨hst, by omega, by omega, hlu2⟩
          have hpr : rseal_c.pre (s, builtE s (l.take i), (l[((i : Nat) : Int).toNat]'hil)) := ⟨hst, by omega, by omega, hlu2⟩
          repeat' (first | (with_reducible refine Unf.h ?_) | ((conv => whnf); first | refine Fork.mk (fun h => ?_) (fun h => ?_) | (refine Idx.mk ?_ ?_; focus (omega))) | fail); all_goals try (conv => whnf); all_goals try (exfalso; omega)
          refine CallS.mk (c := rseal_c) ((s, builtE s (l.take i), (l[((i : Nat) : Int).toNat]'hil))) ?_
          repeat' (first | (with_reducible refine Unf.h ?_) | ((conv => whnf); first | (refine Side.mk ?_ ?_; focus (first | with_reducible rfl | assumption)) | (refine Idx.mk ?_ ?_; focus (omega)) | refine Got.mk (fun _ _ => ?_)) | fail); all_goals try (conv => whnf); all_goals try (exfalso; omega)
          refine CallS.mk (c := rupd_c) ((l[((i : Nat) : Int).toNat]'hil)) ?_
          repeat' (first | (with_reducible refine Unf.h ?_) | ((conv => whnf); first | (refine Side.mk ?_ ?_; focus (first | with_reducible rfl | assumption)) | refine Got.mk (fun _ _ => ?_)) | fail); all_goals try (conv => whnf); all_goals try (exfalso; omega)
          refine CallS.mk (c := eseal_c) ((s, builtE s (l.take i), (l[((i : Nat) : Int).toNat]'hil))) ?_
          repeat' (first | (with_reducible first | refine Unf.h ?_ | refine loopK_n ?_) | ((conv => whnf); first | refine Fork.mkn (fun h => ?_) (fun h => ?_) | (refine Side.mk ?_ ?_; focus (first | with_reducible rfl | assumption | (intros; (try simp only [lenS, inR, cutS, loI, hiI] at *); omega))) | refine Got.mk (fun _ _ => ?_)) | fail); all_goals try (conv => whnf); all_goals try (exfalso; omega)
          all_goals try (exact absurd rfl (by assumption))
          refine ⟨i + 1, ⟨by omega, by omega⟩, ?_⟩
          rw [ebs]
          repeat' (first | (with_reducible refine Unf.h ?_) | ((conv => whnf); first | (refine Side.mk ?_ ?_; focus (first | with_reducible rfl | (refine congrArg (SV.int _) ?_; omega))) | (with_reducible refine Unf.h ?_) | exact True.intro) | fail); all_goals try (conv => whnf); all_goals try (exfalso; omega)
        · have e0 : l.take i = l := List.take_of_length_le (by omega)
          rw [e0] at hst
          rw [e0]
          have hq : esame_c.pre ((s, builtE s l), x) := ⟨hst, by show (builtE s l).length ≤ 8; have := (builtE_ok s _ l rfl (by omega)).2; omega, by show x.length ≤ 100; omega⟩
          repeat' (first | (with_reducible refine Unf.h ?_) | ((conv => whnf); refine Fork.mk (fun h => ?_) (fun h => ?_)) | fail); all_goals try (conv => whnf); all_goals try (exfalso; omega)
          refine CallS.mk (c := esame_c) (((s, builtE s l), x)) ?_
          repeat' (first | (with_reducible refine Unf.h ?_) | ((conv => whnf); first | (refine Side.mk ?_ ?_; focus (first | with_reducible rfl | assumption)) | refine RetE.mk () trivial ?_ | refine Got.mk (fun _ _ => ?_) | refine retK_r ?_ | exact rfl) | fail); all_goals try (conv => whnf); all_goals try (exfalso; omega)
end Go.Proofs.YtdflndjlnkoliaaGreatDoor

namespace Go.Proofs.YtdflndjlnkoliaaGreatDoor
set_option linter.all false
open Go.RowKit Go.ChangeShapes Go.WideShapes Go.ChangeAt
theorem Tryz.own : ownKnob Tryz.prog.godebug = none := by kernel_rfl
theorem Tryz.laidOut : laidOutB Tryz.prog = true := by kernel_rfl
def laidL {H : Type} : List (String × DataW H) := [("math/bits.deBruijn32tab", Rows.laid_math_bits_deBruijn32tab), ("math/bits.deBruijn64tab", Rows.laid_math_bits_deBruijn64tab), ("rolodex/hash.begin", Rows.laid_rolodex_hash_begin), ("rolodex/hash.rounds", Rows.laid_rolodex_hash_rounds)]
theorem gBegin : Tryz.prog.globalNamed "rolodex/hash.begin" = some 0 := by kernel_rfl
theorem gBruijn : Tryz.prog.globalNamed "math/bits.deBruijn64tab" = some 3 := by kernel_rfl
theorem gRounds : Tryz.prog.globalNamed "rolodex/hash.rounds" = some 1 := by kernel_rfl
theorem tBegin : (Tryz.prog.globals[0]?).map (·.type) = some 256 := by kernel_rfl
theorem tBruijn : (Tryz.prog.globals[3]?).map (·.type) = some 296 := by kernel_rfl
theorem tRounds : (Tryz.prog.globals[1]?).map (·.type) = some 279 := by kernel_rfl
theorem dBegin : (Rows.laid_rolodex_hash_begin : DataW Unit) = .agg (gv0.toList.map fun b => .lit (.int .u32 (b.toNat : Int))) := by kernel_rfl
theorem dBruijn : (Rows.laid_math_bits_deBruijn64tab : DataW Unit) = .agg (gv3.toList.map fun b => .lit (.int .u8 (b.toNat : Int))) := by kernel_rfl
theorem dRounds : (Rows.laid_rolodex_hash_rounds : DataW Unit) = .agg (gv1.toList.map fun b => .lit (.int .u32 (b.toNat : Int))) := by kernel_rfl
theorem glob_arr32s {P : Program} [TabC P] {H : Type} {enc : TypeId × Value → H} {W : World} {spare : Nat → Bool} {held : Bool} {n : String} {g t e m f : Nat} {i j : TI} {cs : Array Value} {p : List MemPlace} {v : Vector (BitVec 32) m} (hg : P.globalNamed n = some g) (hv : W.var? P n = some cs) (ht : ty P t = some i) (hk : i.k = .ar m e) (hj : ty P e = some j) (hjk : j.k = .int .u32) (hj1 : j.size = 1) (hi : i.size = m)
    (hd : DataW.trod enc P W 0 spare held f t cs.toList = some (.agg (v.toList.map fun b => .lit (.int .u32 (b.toNat : Int))), p)) : (SV.fpt [.arr32 v]).hc W none0 sg0 [.pointer (some ⟨g, 0, none⟩)] ∧ ∃ C T fr, W.heap[g]? = some (.cells C T fr) ∧ C.size = szL [SV.arr32 v] := by
  refine ⟨glob_arr32 hg hv ht hk hj hjk hj1 hi hd, ?_⟩
  obtain ⟨u, hcs, hx⟩ := arr_cells (w := 32) ht hk hj hjk hj1 hi rfl rfl hd
  simp only [World.var?, hg, Option.bind_some] at hv
  split at hv
  · rename_i C T fr hh
    have e := Option.some.inj hv
    refine ⟨C, T, fr, hh, ?_⟩
    have hl := congrArg List.length hcs
    rw [e]
    simpa [szL, SV.sz] using hl
  · cases hv
theorem glob_arr8 {P : Program} [TabC P] {H : Type} {enc : TypeId × Value → H} {W : World} {spare : Nat → Bool} {held : Bool} {n : String} {g t e m f : Nat} {i j : TI} {cs : Array Value} {p : List MemPlace} {v : Vector (BitVec 8) m} (hg : P.globalNamed n = some g) (hv : W.var? P n = some cs) (ht : ty P t = some i) (hk : i.k = .ar m e) (hj : ty P e = some j) (hjk : j.k = .int .u8) (hj1 : j.size = 1) (hi : i.size = m)
    (hd : DataW.trod enc P W 0 spare held f t cs.toList = some (.agg (v.toList.map fun b => .lit (.int .u8 (b.toNat : Int))), p)) : (SV.fpt [.arr8 v]).hc W none0 sg0 [.pointer (some ⟨g, 0, none⟩)] := by
  obtain ⟨u, hcs, hx⟩ := arr_cells (w := 8) ht hk hj hjk hj1 hi rfl rfl hd
  have huv : u = v := by
    have hx' : v.toList.map (fun b => (DataW.lit (.int .u8 (b.toNat : Int)) : DataW H)) = u.toList.map fun b => .lit (.int .u8 (b.toNat : Int)) := by simpa using hx
    have : v.toList = u.toList := by
      have inj : ∀ {l k : List (BitVec 8)}, l.map (fun b => (DataW.lit (.int .u8 (b.toNat : Int)) : DataW H)) = k.map (fun b => .lit (.int .u8 (b.toNat : Int))) → l = k := by
        intro l
        induction l with
        | nil => intro k h; cases k with
          | nil => rfl
          | cons _ _ => cases h
        | cons a r ih => intro k h; cases k with
          | nil => cases h
          | cons b s =>
            simp only [List.map_cons, List.cons.injEq, DataW.lit.injEq, Lit.int.injEq, true_and, Int.natCast_inj] at h
            rw [BitVec.eq_of_toNat_eq h.1, ih h.2]
      exact inj hx'
    exact (Vector.toList_inj.1 this).symm
  subst huv
  simp only [World.var?, hg, Option.bind_some] at hv
  simp only [SV.hc]
  split at hv
  · rename_i C T fr hh
    have e := Option.some.inj hv
    refine ⟨g, 0, rfl, fun h => h, C, T, fr, hh, ?_⟩
    rw [List.drop_zero, e, hcs]
    refine ⟨u.toList.map (bV .u8), [], ?_, by simp only [SV.hc], rfl⟩
    rw [List.append_nil, List.take_of_length_le (by simp [szL, SV.sz])]
  · cases hv
theorem glob_arr8s {P : Program} [TabC P] {H : Type} {enc : TypeId × Value → H} {W : World} {spare : Nat → Bool} {held : Bool} {n : String} {g t e m f : Nat} {i j : TI} {cs : Array Value} {p : List MemPlace} {v : Vector (BitVec 8) m} (hg : P.globalNamed n = some g) (hv : W.var? P n = some cs) (ht : ty P t = some i) (hk : i.k = .ar m e) (hj : ty P e = some j) (hjk : j.k = .int .u8) (hj1 : j.size = 1) (hi : i.size = m)
    (hd : DataW.trod enc P W 0 spare held f t cs.toList = some (.agg (v.toList.map fun b => .lit (.int .u8 (b.toNat : Int))), p)) : (SV.fpt [.arr8 v]).hc W none0 sg0 [.pointer (some ⟨g, 0, none⟩)] ∧ ∃ C T fr, W.heap[g]? = some (.cells C T fr) ∧ C.size = szL [SV.arr8 v] := by
  refine ⟨glob_arr8 hg hv ht hk hj hjk hj1 hi hd, ?_⟩
  obtain ⟨u, hcs, hx⟩ := arr_cells (w := 8) ht hk hj hjk hj1 hi rfl rfl hd
  simp only [World.var?, hg, Option.bind_some] at hv
  split at hv
  · rename_i C T fr hh
    have e := Option.some.inj hv
    refine ⟨C, T, fr, hh, ?_⟩
    have hl := congrArg List.length hcs
    rw [e]
    simpa [szL, SV.sz] using hl
  · cases hv
theorem glob_of_laid {W : World} (h : laidMetH Tryz.prog laidL W) : Glob Tryz.prog W none0 := by
  rw [MakeChecks.laidMetH_plain _ _ _ (by kernel_rfl)] at h
  have h : laidMet Tryz.prog [("math/bits.deBruijn64tab", Rows.laid_math_bits_deBruijn64tab), ("rolodex/hash.begin", Rows.laid_rolodex_hash_begin), ("rolodex/hash.rounds", Rows.laid_rolodex_hash_rounds)] W := laidMet.tail h
  obtain ⟨ps, ⟨g3, t3, cs3, f3, p3, q3, hg3, ht3, hv3, hd3, ⟨g0, t0, cs0, f0, p0, q0, hg0, ht0, hv0, hd0, ⟨g1, t1, cs1, f1, p1, q1, hg1, ht1, hv1, hd1, _, _⟩, _⟩, _⟩, _, _⟩ := h
  obtain rfl := Option.some.inj (gBruijn.symm.trans hg3)
  obtain rfl := Option.some.inj (gBegin.symm.trans hg0)
  obtain rfl := Option.some.inj (gRounds.symm.trans hg1)
  obtain rfl := Option.some.inj (tBruijn.symm.trans ht3)
  obtain rfl := Option.some.inj (tBegin.symm.trans ht0)
  obtain rfl := Option.some.inj (tRounds.symm.trans ht1)
  rw [dBruijn] at hd3
  rw [dBegin] at hd0
  rw [dRounds] at hd1
  intro g ps hm
  have hm' : (g, ps) = (0, [SV.arr32 gv0]) ∨ (g, ps) = (1, [SV.arr32 gv1]) ∨ (g, ps) = (3, [SV.arr8 gv3]) := by
    have e : TabC.gl Tryz.prog = [(0, [SV.arr32 gv0]), (1, [SV.arr32 gv1]), (3, [SV.arr8 gv3])] := rfl
    rw [e] at hm
    simpa using hm
  rcases hm' with e | e | e
  · cases e
    exact glob_arr32s (i := ⟨.ar 8 228, 8, 32⟩) (j := ⟨.int .u32, 1, 4⟩) hg0 hv0 rfl rfl rfl rfl rfl rfl hd0
  · cases e
    exact glob_arr32s (i := ⟨.ar 64 228, 64, 256⟩) (j := ⟨.int .u32, 1, 4⟩) hg1 hv1 rfl rfl rfl rfl rfl rfl hd1
  · cases e
    exact glob_arr8s (i := ⟨.ar 64 5, 64, 64⟩) (j := ⟨.int .u8, 1, 1⟩) hg3 hv3 rfl rfl rfl rfl rfl rfl hd3
theorem door_met (os : Os) (args : Array Value) : laidMetH Tryz.prog laidL ((World.doorLaid Tryz.prog 400 os).forCall (fun _ _ => 0) ⟨#[], args, []⟩).memory :=
  laidMetH_of_parts3 (fuel := 8) (laidMet_of_run' 8 (by kernel_rfl) (by kernel_rfl)) (by kernel_rfl) (by kernel_rfl)
section
variable {H : Type} {enc : TypeId × Value → H} {W : World} {spare : Nat → Bool} {held : Bool}
theorem o_byte : Opens Tryz.prog enc W spare held 5 eB := o_uns (i := ⟨.int .u8, 1, 1⟩) (k := .u8) (w := 8) (mk := .u8) rfl rfl rfl rfl (fun _ _ => hc8)
theorem o_bytes : Opens Tryz.prog enc W spare held 46 (fun l : List (BitVec 8) => [.fs 1 eB l]) :=
  o_slice (i := ⟨.sl 5, 1, 24⟩) (j := ⟨.int .u8, 1, 1⟩) (f := eB) rfl rfl rfl rfl rfl o_byte (fun _ => rfl)
theorem o_hash : Opens Tryz.prog enc W spare held 30 (fun v : Vector (BitVec 8) 32 => [.arr8 v]) := o_arr8 (i := ⟨.ar 32 5, 32, 32⟩) (j := ⟨.int .u8, 1, 1⟩) rfl rfl rfl rfl rfl rfl
theorem o_up : Opens Tryz.prog enc W spare held 80 eUp :=
  (o_struct (i := ⟨.st [(0, 46), (1, 46)], 2, 48⟩) rfl rfl
    (o_field (off := 0) (off2 := 1) (j := ⟨.sl 5, 1, 24⟩) rfl o_bytes (fun _ => rfl) rfl
    (o_last (j := ⟨.sl 5, 1, 24⟩) rfl o_bytes (fun _ => rfl))) (fun _ => rfl) (by kernel_rfl)).map (fun p => ((p.1, p.2) : Bs × Bs)) (fun _ => rfl)
theorem o_ups : Opens Tryz.prog enc W spare held 50 (fun l : List (Bs × Bs) => [.fs 2 eUp l]) :=
  o_slice (i := ⟨.sl 80, 1, 24⟩) (j := ⟨.st [(0, 46), (1, 46)], 2, 48⟩) rfl rfl rfl rfl rfl o_up (fun _ => rfl)
theorem o_upds : Opens Tryz.prog enc W spare held 22 (fun l : List (List (Bs × Bs)) => [.fs 1 eUe l]) :=
  o_slice (i := ⟨.sl 50, 1, 24⟩) (j := ⟨.sl 80, 1, 24⟩) rfl rfl rfl rfl rfl o_ups (fun _ => rfl)
end
end Go.Proofs.YtdflndjlnkoliaaGreatDoor

import Derived.Test.YtdflndjlnkoliaaGreatDoorZLESeals4
import Derived.Lib.AppendZerosOnto
import Derived.Lib.Walk
import Derived.Lib.SliceRun
import Derived.Test.YtdflndjlnkoliaaGreatDoorZLESeals3
namespace Go.Proofs.YtdflndjlnkoliaaGreatDoor
set_option linter.all false
open Go.RowKit
theorem lz_spec : ∀ x : Fin 256, x.1 ≠ 0 → 1 ≤ len8 (BitVec.ofNat 8 x.1) ∧ ∀ q : Fin 8, (q.1 < 8 - len8 (BitVec.ofNat 8 x.1) → (BitVec.ofNat 8 x.1).getLsbD (7 - q.1) = false) ∧ (q.1 = 8 - len8 (BitVec.ofNat 8 x.1) → (BitVec.ofNat 8 x.1).getLsbD (7 - q.1) = true) := by decide +kernel
theorem shared_byte (a b : H256) (j : Nat) (hj : j < 32) (he : ∀ i, i < 8 * j → kb a i = kb b i) (hx : a[j] ^^^ b[j] ≠ 0#8) : shared a b = 8 * j + (8 - len8 (a[j] ^^^ b[j])) := by
  have hs := lz_spec ⟨(a[j] ^^^ b[j]).toNat, (a[j] ^^^ b[j]).isLt⟩ (fun e => hx (BitVec.eq_of_toNat_eq (by simpa using e)))
  simp only [BitVec.ofNat_toNat, BitVec.setWidth_eq] at hs
  obtain ⟨h1, h2⟩ := hs
  have byt : ∀ q, q < 8 → (a[j] ^^^ b[j]).getLsbD (7 - q) = (kb a (8 * j + q) ^^ kb b (8 * j + q)) := fun q hq => by
    have e1 := kb_byte a j (7 - q) hj (by omega)
    have e2 := kb_byte b j (7 - q) hj (by omega)
    rw [show 7 - (7 - q) = q by omega] at e1 e2
    rw [e1, e2, BitVec.getLsbD_xor]
  refine shared_uniq (by omega) (fun i hi => ?_) (fun _ => ?_)
  · by_cases h8 : i < 8 * j
    · exact he i h8
    · have := (h2 ⟨i - 8 * j, by omega⟩).1 (by simp only; omega)
      simp only at this
      rw [byt _ (by omega), show 8 * j + (i - 8 * j) = i by omega] at this
      cases ha : kb a i <;> cases hb : kb b i <;> simp [ha, hb] at this ⊢
  · have := (h2 ⟨8 - len8 (a[j] ^^^ b[j]), by omega⟩).2 rfl
    simp only at this
    rw [byt _ (by omega)] at this
    intro e
    rw [e] at this; simp at this
theorem kb_same_byte {a b : H256} (j : Nat) (hj : j < 32) (hx : a[j] ^^^ b[j] = 0#8) (i : Nat) (h1 : 8 * j ≤ i) (h2 : i < 8 * j + 8) : kb a i = kb b i := by
  have e : a[j] = b[j] := BitVec.xor_eq_zero_iff.1 hx
  have e1 := kb_byte a j (7 - (i - 8 * j)) hj (by omega)
  have e2 := kb_byte b j (7 - (i - 8 * j)) hj (by omega)
  rw [show 8 * j + (7 - (7 - (i - 8 * j))) = i by omega] at e1 e2
  rw [e1, e2, e]
def shared_c : Ctr where
  D := H256 × H256
  args := fun (a, b) => [.agg [.arr8 a], .agg [.arr8 b]]
  res := fun (a, b) _ => .int .i64 (shared a b)
def shared_H : Cfg := ⟨[(196, lz8_c)], [(4, [2, 5], [], (.one 0 0 false (.one 1 0 false (.one 2 1 false (.one 3 0 false (.one 4 0 false (.one 5 1 false (.one 6 0 false (.one 7 0 false .nil)))))))), [])], [], [], 25, 0, [], [], []⟩
theorem shared_ok : shared_c.Ok Tryz.prog 186 := by
  refine fn_ok shared_H 0 rfl _ Tryz.func186 rfl rfl ⟨lz8_ok, trivial⟩ rfl rfl (by kernel_rfl) (fun _ => Nat.le_of_ble_eq_true rfl) ?_
  rintro ⟨a, b⟩ hp hr
  try dsimp only [shared_c] at hp
  try simp only [shared_c, Rng, RngL, inR, and_true, true_and] at hr
  repeat' (first | (with_reducible refine Unf.h ?_) | fail); all_goals try (conv => whnf)
  refine LoopS.auto (fun j : Nat => j ≤ 32 ∧ ∀ i, i < 8 * j → kb a i = kb b i) (fun j => [(7, .int .i64 j)]) (fun j => [(1, .box 30 [.arr8 b]), (0, .box 30 [.arr8 a])]) (fun j => 32 - j) 0 ⟨by omega, fun i hi => by omega⟩ ?_ ?_
  · repeat' (first | (with_reducible refine Unf.h ?_) | ((conv => whnf); first | (refine Side.mk ?_ ?_; focus (first | with_reducible rfl | (refine congrArg (SV.int _) ?_; omega))) | (with_reducible refine Unf.h ?_) | exact True.intro) | fail); all_goals try (conv => whnf)
  · intro j hj
    obtain ⟨hj, he⟩ := hj
    repeat' (first | (with_reducible first | refine Unf.h ?_ | refine loopK_n ?_) | ((conv => whnf); first | refine Fork.mkn (fun h => ?_) (fun h => ?_) | refine Fork.mk (fun h => ?_) (fun h => ?_) | (refine Side.mk ?_ ?_; focus (first | omega | (intros; (try simp only [lenS, inR, cutS, loI, hiI] at *); omega))) | (refine Idx.mk ?_ ?_; focus (omega)) | refine RetE.mk () trivial ?_ | refine retK_r ?_) | fail); all_goals try (conv => whnf)
    · have hl := len8_lt (a[((j : Nat) : Int).toNat]'(by omega) ^^^ b[((j : Nat) : Int).toNat]'(by omega))
      refine CallS.mk (c := lz8_c) ((a[((j : Nat) : Int).toNat]'(by omega) ^^^ b[((j : Nat) : Int).toNat]'(by omega))) ?_
      repeat' (first | (with_reducible refine Unf.h ?_) | ((conv => whnf); first | (refine Side.mk ?_ ?_; focus (first | with_reducible rfl | exact True.intro | (intros; (try simp only [lenS, inR, cutS, loI, hiI] at *); omega))) | refine RetE.mk () trivial ?_ | refine Got.mk (fun _ _ => ?_) | refine retK_r ?_) | fail); all_goals try (conv => whnf)
      refine Side.mk (congrArg (SV.int _) ?_) (by repeat' (first | (with_reducible refine Unf.h ?_) | ((conv => whnf); exact rfl) | fail); all_goals try (conv => whnf))
      rw [shared_byte a b j (by omega) he h]
      have hl' : len8 (a[j]'(by omega) ^^^ b[j]'(by omega)) ≤ 8 := hl
      simp only [Int.toNat_natCast]
      omega
    · refine ⟨j + 1, ⟨by omega, by omega, fun i hi => ?_⟩, ?_⟩
      · by_cases h8 : i < 8 * j
        · exact he i h8
        · exact kb_same_byte j (by omega) h i (by omega) (by omega)
      · repeat' (first | (with_reducible refine Unf.h ?_) | ((conv => whnf); first | (refine Side.mk ?_ ?_; focus (first | with_reducible rfl | (refine congrArg (SV.int _) ?_; omega))) | (with_reducible refine Unf.h ?_) | exact True.intro) | fail); all_goals try (conv => whnf)
    · have e : j = 32 := by omega
      subst e
      have hs : shared a b = 256 := shared_uniq (Nat.le_refl _) (fun i hi => he i (by omega)) (fun h => absurd h (by omega))
      repeat' (first | (with_reducible refine Unf.h ?_) | ((conv => whnf); first | (refine Side.mk ?_ ?_; focus ((refine congrArg (SV.int _) ?_; omega))) | exact rfl) | fail); all_goals try (conv => whnf)
theorem iffF {p : Prop} (h : ¬ p) : (false = true ↔ p) := ⟨fun e => (by cases e), fun h' => absurd h' h⟩
theorem iffT {p : Prop} (h : p) : (true = true ↔ p) := ⟨fun _ => h, fun _ => rfl⟩
theorem formed_cut {p : Pfx} (h0 : 0 ≤ p.len) (h1 : p.len ≤ 256) : ((cutP p.bits p.len).len = p.len ∧ (cutP p.bits p.len).bits.toList = p.bits.toList) ↔ formedP p := by
  have e : min (max p.len 0) 256 = p.len := by omega
  simp only [cutP, formedP, e, Vector.toList_inj, h0, h1, true_and]
theorem holds_cut {p : Pfx} {k : H256} (hf : formedP p) : ((cutP k p.len).len = p.len ∧ (cutP k p.len).bits.toList = p.bits.toList) ↔ holdsP p k := by
  have e : min (max p.len 0) 256 = p.len := by have := hf.1; have := hf.2.1; omega
  simp only [cutP, holdsP, e, Vector.toList_inj, hf, true_and]
def formed_c : Ctr where
  D := Pfx
  args := fun p => [.agg (ePfx p)]
  res := fun p _ => .dec (formedP p) inferInstance
def formed_H : Cfg := ⟨[(140, cutp_c)], [(1, [1, 5, 10, 12, 14], [13], (.one 0 0 false (.one 1 1 false (.one 2 0 false (.one 3 0 false (.one 4 0 false (.one 5 1 false (.one 6 0 false (.one 7 0 false (.one 8 0 false (.one 9 0 false (.one 10 1 false (.one 11 0 false (.one 12 1 false (.one 14 1 false (.one 13 2 true (.one 15 0 false (.one 16 0 false (.one 17 0 false .nil)))))))))))))))))), [])], [], [], 20, 0, [], [], []⟩
theorem formed_ok : formed_c.Ok Tryz.prog 139 := by
  refine fn_ok formed_H 0 rfl _ Tryz.func139 rfl rfl ⟨cutp_ok, trivial⟩ rfl rfl (by kernel_rfl) (fun _ => Nat.le_of_ble_eq_true rfl) ?_
  intro (p : Pfx) hp hr
  try dsimp only [formed_c] at hp
  try simp only [formed_c, Rng, RngL, inR, and_true, true_and] at hr
  repeat' (first | (with_reducible refine Unf.h ?_) | ((conv => whnf); first | refine Fork.mk (fun h => ?_) (fun h => ?_) | refine RetE.mk () trivial ?_ | refine retK_r ?_) | fail); all_goals try (conv => whnf)
  · refine CallS.mk (c := cutp_c) ((p.bits, p.len)) ?_
    repeat' (first | (with_reducible refine Unf.h ?_) | ((conv => whnf); first | (refine Side.mk ?_ ?_; focus (first | with_reducible rfl | exact True.intro)) | refine RetE.mk () trivial ?_ | refine Got.mk (fun _ _ => ?_) | refine retK_r ?_) | fail); all_goals try (conv => whnf)
    exact Side.mk (formed_cut (by omega) (by omega)) (by repeat' (first | (with_reducible refine Unf.h ?_) | ((conv => whnf); exact rfl) | fail); all_goals try (conv => whnf))
  · exact Side.mk (iffF fun h' => by have := h'.2.1; omega) (by repeat' (first | (with_reducible refine Unf.h ?_) | ((conv => whnf); exact rfl) | fail); all_goals try (conv => whnf))
  · exact Side.mk (iffF fun h' => by have := h'.1; omega) (by repeat' (first | (with_reducible refine Unf.h ?_) | ((conv => whnf); exact rfl) | fail); all_goals try (conv => whnf))
def holds_c : Ctr where
  D := Pfx × H256
  args := fun (p, k) => [.agg (ePfx p), .agg [.arr8 k]]
  res := fun (p, k) _ => .dec (holdsP p k) inferInstance
def holds_H : Cfg := ⟨[(140, cutp_c), (139, formed_c)], [(1, [0, 3, 5, 7], [1, 6], (.one 0 1 false (.one 1 2 true (.one 2 0 false (.one 3 1 false (.one 4 0 false (.one 5 1 false (.one 7 1 false (.one 6 2 true (.one 8 0 false (.one 9 0 false (.one 10 0 false .nil))))))))))), [])], [], [], 15, 0, [], [], []⟩
theorem holds_ok : holds_c.Ok Tryz.prog 99 := by
  refine fn_ok holds_H 0 rfl _ Tryz.func99 rfl rfl ⟨cutp_ok, formed_ok, trivial⟩ rfl rfl (by kernel_rfl) (fun _ => Nat.le_of_ble_eq_true rfl) ?_
  rintro ⟨p, k⟩ hp hr
  try dsimp only [holds_c] at hp
  try simp only [holds_c, Rng, RngL, inR, and_true, true_and] at hr
  repeat' (first | (with_reducible refine Unf.h ?_) | ((conv => whnf); first | refine Fork.mk (fun h => ?_) (fun h => ?_) | (refine Side.mk ?_ ?_; focus (first | with_reducible rfl | exact True.intro)) | refine RetE.mk () trivial ?_ | refine Got.mk (fun _ _ => ?_) | refine retK_r ?_ | refine CallS.mk (c := formed_c) (p) ?_ | refine CallS.mk (c := cutp_c) ((k, p.len)) ?_) | fail); all_goals try (conv => whnf)
  · exact Side.mk (holds_cut h) (by repeat' (first | (with_reducible refine Unf.h ?_) | ((conv => whnf); exact rfl) | fail); all_goals try (conv => whnf))
  · exact Side.mk (iffF fun h' => h h'.1) (by repeat' (first | (with_reducible refine Unf.h ?_) | ((conv => whnf); exact rfl) | fail); all_goals try (conv => whnf))
def meet_c : Ctr where
  D := Pfx × Pfx
  args := fun (p, q) => [.agg (ePfx p), .agg (ePfx q)]
  res := fun (p, q) _ => .agg (ePfx (meetP p q))
def meet_H : Cfg := ⟨[(139, formed_c), (186, shared_c), (140, cutp_c)], [(3, [1, 3, 5, 8, 10], [6, 12, 13], (.one 0 0 false (.one 1 1 false (.one 2 0 false (.one 3 1 false (.one 4 0 false (.one 5 1 false (.one 7 0 false (.one 8 1 false (.one 9 0 false (.one 10 1 false (.one 6 2 true (.one 11 0 false (.one 12 2 false (.one 13 2 false .nil)))))))))))))), [])], [], [], 27, 0, [], [], []⟩
theorem meet_ok : meet_c.Ok Tryz.prog 163 := by
  refine fn_ok meet_H 0 rfl _ Tryz.func163 rfl rfl ⟨formed_ok, shared_ok, cutp_ok, trivial⟩ rfl rfl (by kernel_rfl) (fun _ => Nat.le_of_ble_eq_true rfl) ?_
  rintro ⟨p, q⟩ hp hr
  try dsimp only [meet_c] at hp
  try simp only [meet_c, Rng, RngL, inR, and_true, true_and] at hr
  repeat' (first | (with_reducible refine Unf.h ?_) | fail); all_goals try (conv => whnf)
  refine CallS.mk (c := formed_c) (p) ?_
  repeat' (first | (with_reducible refine Unf.h ?_) | ((conv => whnf); first | refine Fork.mkn (fun h => ?_) (fun h => ?_) | (refine Side.mk ?_ ?_; focus (first | with_reducible rfl | exact True.intro)) | refine RetE.mk () trivial ?_ | refine Got.mk (fun _ _ => ?_) | refine retK_r ?_) | fail); all_goals try (conv => whnf)
  · have e : meetP p q = zeroP := if_neg fun h' => h h'.1
    repeat' (first | (with_reducible refine Unf.h ?_) | ((conv => whnf); first | (refine Side.mk ?_ ?_; focus ((simp only [*, e]; done))) | exact rfl) | fail); all_goals try (conv => whnf)
  · refine CallS.mk (c := formed_c) (q) ?_
    repeat' (first | (with_reducible refine Unf.h ?_) | ((conv => whnf); first | refine Fork.mkn (fun h => ?_) (fun h => ?_) | (refine Side.mk ?_ ?_; focus (first | with_reducible rfl | exact True.intro)) | refine RetE.mk () trivial ?_ | refine Got.mk (fun _ _ => ?_) | refine retK_r ?_ | refine CallS.mk (c := shared_c) ((p.bits, q.bits)) ?_ | refine CallS.mk (c := cutp_c) ((p.bits, min (min (shared p.bits q.bits : Int) p.len) q.len)) ?_) | fail); all_goals try (conv => whnf)
    · have e : meetP p q = zeroP := if_neg fun h' => (by assumption : ¬ formedP q) h'.2
      repeat' (first | (with_reducible refine Unf.h ?_) | ((conv => whnf); first | (refine Side.mk ?_ ?_; focus ((simp only [*, e]; done))) | exact rfl) | fail); all_goals try (conv => whnf)
    · have hf : formedP p ∧ formedP q := ⟨by assumption, by assumption⟩
      have e : meetP p q = cutP p.bits (min (min (shared p.bits q.bits : Int) p.len) q.len) := if_pos hf
      repeat' (first | (with_reducible refine Unf.h ?_) | ((conv => whnf); first | (refine Side.mk ?_ ?_; focus ((simp only [*, e]; done))) | exact rfl) | fail); all_goals try (conv => whnf)
theorem setB_set (k : H256) (i q : Nat) (hq : q < 32) (e : q = i / 8) (hi : i < 256) (x : BitVec 8) (hx : x = k[q] ||| 128#8 >>> (i % 8)) : k.set q x hq = setB k i := by
  subst e hx; unfold setB; rw [dif_pos hi]
end Go.Proofs.YtdflndjlnkoliaaGreatDoor

namespace Go.Proofs.YtdflndjlnkoliaaGreatDoor
set_option linter.all false
open Go.RowKit
theorem bit_div (x : BitVec 8) (n : Nat) : ((x.toNat / 2 ^ n : Nat) : Int) % 2 = if x.getLsbD n then 1 else 0 := by
  rw [BitVec.getLsbD, Nat.testBit_eq_decide_div_mod_eq]
  generalize x.toNat / 2 ^ n = m
  by_cases h : m % 2 = 1
  · simp only [h, decide_true, if_true]; omega
  · simp only [h, decide_false, Bool.false_eq_true, if_false]; omega
def rbit_c : Ctr where
  D := H256 × Int
  args := fun (k, i) => [.agg [.arr8 k], .int .i64 i]
  res := fun (k, i) _ => .int .i64 (bitI k i)
def rbit_H : Cfg := ⟨[], [], [], [], 29, 0, [], [], []⟩
theorem rbit_ok : rbit_c.Ok Tryz.prog 94 := by
  refine fn_ok rbit_H 0 rfl _ Tryz.func94 rfl rfl trivial rfl rfl (by kernel_rfl) (fun _ => Nat.le_of_ble_eq_true rfl) ?_
  rintro ⟨k, i⟩ hp hr
  try dsimp only [rbit_c] at hp
  try simp only [rbit_c, Rng, RngL, inR, and_true, true_and] at hr
  repeat' (first | (with_reducible refine Unf.h ?_) | ((conv => whnf); first | refine Fork.mk (fun h => ?_) (fun h => ?_) | (refine Side.mk ?_ ?_; focus (omega)) | (refine Idx.mk ?_ ?_; focus (omega)) | refine RetE.mk () trivial ?_ | refine retK_r ?_) | fail); all_goals try (conv => whnf)
  · exact Side.mk (congrArg (SV.int _) (by unfold bitI; rw [if_neg (by omega)])) (by repeat' (first | (with_reducible refine Unf.h ?_) | ((conv => whnf); exact rfl) | fail); all_goals try (conv => whnf))
  · exact Side.mk (congrArg (SV.int _) (by unfold bitI; rw [kb_out (by omega)]; simp)) (by repeat' (first | (with_reducible refine Unf.h ?_) | ((conv => whnf); exact rfl) | fail); all_goals try (conv => whnf))
  · have hi : (i / 8).toNat < 32 := by omega
    refine LoopS.auto (fun n : Nat => n ≤ 7 - i.toNat % 8) (fun n => [(6, .int .i64 n), (5, .int .i64 (((k[(i / 8).toNat]'hi).toNat / 2 ^ n : Nat) : Int))]) (fun n => [(0, .box 30 [.arr8 k])]) (fun n => 7 - i.toNat % 8 - n) 0 (by omega) ?_ ?_
    · repeat' (first | (with_reducible refine Unf.h ?_) | ((conv => whnf); first | (refine Side.mk ?_ ?_; focus (first | with_reducible rfl | (refine congrArg (SV.int _) ?_; omega))) | (with_reducible refine Unf.h ?_) | exact True.intro) | fail); all_goals try (conv => whnf)
    · intro n hn
      repeat' (first | (with_reducible first | refine Unf.h ?_ | refine loopK_n ?_) | ((conv => whnf); first | refine Fork.mk (fun h => ?_) (fun h => ?_) | (refine Side.mk ?_ ?_; focus (first | omega | (intros; (try simp only [lenS, inR, cutS, loI, hiI] at *); omega) | exact nnS (by decide))) | refine RetE.mk () trivial ?_ | refine retK_r ?_) | fail); all_goals try (conv => whnf)
      · refine ⟨n + 1, ⟨by omega, by omega⟩, ?_⟩
        have e : (((k[(i / 8).toNat]'hi).toNat / 2 ^ n : Nat) : Int) / 2 = (((k[(i / 8).toNat]'hi).toNat / 2 ^ (n + 1) : Nat) : Int) := by
          rw [Nat.pow_succ, ← Nat.div_div_eq_div_mul]; omega
        repeat' (first | (with_reducible refine Unf.h ?_) | ((conv => whnf); first | (refine Side.mk ?_ ?_; focus (first | with_reducible rfl | (refine congrArg (SV.int _) ?_; omega))) | (with_reducible refine Unf.h ?_) | exact True.intro) | fail); all_goals try (conv => whnf)
      · have e : n = 7 - i.toNat % 8 := by omega
        subst e
        all_goals try (conv => whnf)
        refine Side.mk (congrArg (SV.int _) ?_) (by repeat' (first | (with_reducible refine Unf.h ?_) | ((conv => whnf); exact rfl) | fail); all_goals try (conv => whnf))
        rw [bit_div]
        have h1 : i.toNat < 256 := by omega
        unfold bitI kb
        rw [dif_pos h1]
        simp only [show (i / 8).toNat = i.toNat / 8 by omega, show 0 ≤ i by omega, true_and]
def rshared_c : Ctr where
  D := H256 × H256
  args := fun (a, b) => [.agg [.arr8 a], .agg [.arr8 b]]
  res := fun (a, b) _ => .int .i64 (shared a b)
theorem bitI_eq {a b : H256} {n : Nat} : bitI a n = bitI b n ↔ kb a n = kb b n := by
  simp only [bitI_nat]
  cases kb a n <;> cases kb b n <;> simp
def rshared_H : Cfg := ⟨[(94, rbit_c)], [(2, [3, 6], [5, 8], (.one 0 0 false (.one 1 0 false (.one 2 0 false (.one 3 1 false (.one 4 0 false (.one 6 1 false (.one 7 0 false (.one 5 2 true (.one 8 2 false (.one 9 0 false (.one 10 0 false .nil))))))))))), [])], [], [], 20, 0, [], [], []⟩
theorem rshared_ok : rshared_c.Ok Tryz.prog 135 := by
  refine fn_ok rshared_H 0 rfl _ Tryz.func135 rfl rfl ⟨rbit_ok, trivial⟩ rfl rfl (by kernel_rfl) (fun _ => Nat.le_of_ble_eq_true rfl) ?_
  rintro ⟨a, b⟩ hp hr
  try dsimp only [rshared_c] at hp
  try simp only [rshared_c, Rng, RngL, inR, and_true, true_and] at hr
  repeat' (first | (with_reducible refine Unf.h ?_) | fail); all_goals try (conv => whnf)
  refine LoopS.auto (fun n : Nat => n ≤ 256 ∧ ∀ i, i < n → kb a i = kb b i) (fun n => [(5, .int .i64 n)]) (fun n => [(1, .box 30 [.arr8 b]), (0, .box 30 [.arr8 a])]) (fun n => 256 - n) 0 ⟨by omega, fun i hi => by omega⟩ ?_ ?_
  · repeat' (first | (with_reducible refine Unf.h ?_) | ((conv => whnf); first | (refine Side.mk ?_ ?_; focus (first | with_reducible rfl | (refine congrArg (SV.int _) ?_; omega))) | (with_reducible refine Unf.h ?_) | exact True.intro) | fail); all_goals try (conv => whnf)
  · intro n hn
    obtain ⟨hn, he⟩ := hn
    repeat' (first | (with_reducible refine Unf.h ?_) | ((conv => whnf); first | refine Fork.mk (fun h => ?_) (fun h => ?_) | refine RetE.mk () trivial ?_ | refine retK_r ?_) | fail); all_goals try (conv => whnf)
    · refine CallS.mk (c := rbit_c) ((a, (n : Int))) ?_
      repeat' (first | (with_reducible refine Unf.h ?_) | ((conv => whnf); first | (refine Side.mk ?_ ?_; focus (first | with_reducible rfl | exact True.intro)) | refine Got.mk (fun _ _ => ?_)) | fail); all_goals try (conv => whnf)
      refine CallS.mk (c := rbit_c) ((b, (n : Int))) ?_
      repeat' (first | (with_reducible first | refine Unf.h ?_ | refine loopK_n ?_) | ((conv => whnf); first | refine Fork.mk (fun h => ?_) (fun h => ?_) | (refine Side.mk ?_ ?_; focus (first | with_reducible rfl | exact True.intro | (intros; (try simp only [lenS, inR, cutS, loI, hiI] at *); omega))) | refine RetE.mk () trivial ?_ | refine Got.mk (fun _ _ => ?_) | refine retK_r ?_) | fail); all_goals try (conv => whnf)
      · have h := bitI_eq.1 h
        refine ⟨n + 1, ⟨by omega, by omega, fun i hi => ?_⟩, ?_⟩
        · by_cases h8 : i < n
          · exact he i h8
          · rw [show i = n by omega]; exact h
        · repeat' (first | (with_reducible refine Unf.h ?_) | ((conv => whnf); first | (refine Side.mk ?_ ?_; focus (first | with_reducible rfl | (refine congrArg (SV.int _) ?_; omega))) | (with_reducible refine Unf.h ?_) | exact True.intro) | fail); all_goals try (conv => whnf)
      · have hs : shared a b = n := shared_uniq hn he (fun _ => fun e => h (bitI_eq.2 e))
        repeat' (first | (with_reducible refine Unf.h ?_) | ((conv => whnf); first | (refine Side.mk ?_ ?_; focus ((refine congrArg (SV.int _) ?_; omega))) | exact rfl) | fail); all_goals try (conv => whnf)
    · have e : n = 256 := by omega
      subst e
      have hs : shared a b = 256 := shared_uniq (Nat.le_refl _) he (fun h => absurd h (by omega))
      repeat' (first | (with_reducible refine Unf.h ?_) | ((conv => whnf); first | (refine Side.mk ?_ ?_; focus ((refine congrArg (SV.int _) ?_; omega))) | exact rfl) | fail); all_goals try (conv => whnf)
def rset_c : Ctr where
  D := H256 × Nat
  pre := fun (_, i) => i < 256
  args := fun (k, i) => [.agg [.arr8 k], .int .i64 i]
  res := fun (k, i) _ => .agg [.arr8 (setB k i)]
theorem add_or : ∀ x : Fin 256, ∀ m : Fin 8, (BitVec.ofNat 8 x.1).getLsbD (7 - m.1) = false → BitVec.ofNat 8 x.1 + BitVec.ofInt 8 ((128 / 2 ^ m.1 : Nat) : Int) = BitVec.ofNat 8 x.1 ||| 128#8 >>> m.1 := by decide +kernel
def rset_H : Cfg := ⟨[(94, rbit_c)], [], [], [], 28, 0, [], [], []⟩
theorem rset_ok : rset_c.Ok Tryz.prog 166 := by
  refine fn_ok rset_H 0 rfl _ Tryz.func166 rfl rfl ⟨rbit_ok, trivial⟩ rfl rfl (by kernel_rfl) (fun _ => Nat.le_of_ble_eq_true rfl) ?_
  rintro ⟨k, i⟩ hp hr
  try dsimp only [rset_c] at hp
  try simp only [rset_c, Rng, RngL, inR, and_true, true_and] at hr
  repeat' (first | (with_reducible refine Unf.h ?_) | fail); all_goals try (conv => whnf)
  refine CallS.mk (c := rbit_c) ((k, (i : Int))) ?_
  repeat' (first | (with_reducible refine Unf.h ?_) | ((conv => whnf); first | refine Fork.mk (fun h => ?_) (fun h => ?_) | (refine Side.mk ?_ ?_; focus (first | with_reducible rfl | exact True.intro)) | refine RetE.mk () trivial ?_ | refine Got.mk (fun _ _ => ?_) | refine retK_r ?_) | fail); all_goals try (conv => whnf)
  · refine LoopS.auto (fun n : Nat => n ≤ i % 8) (fun n => [(6, .int .i64 n), (5, .int .i64 ((128 / 2 ^ n : Nat) : Int))]) (fun n => [(1, .box 30 [.arr8 zeroH]), (0, .box 30 [.arr8 k])]) (fun n => i % 8 - n) 0 (by omega) ?_ ?_
    · repeat' (first | (with_reducible refine Unf.h ?_) | ((conv => whnf); first | (refine Side.mk ?_ ?_; focus (first | with_reducible rfl | (refine congrArg (SV.int _) ?_; omega))) | (with_reducible refine Unf.h ?_) | exact True.intro) | fail); all_goals try (conv => whnf)
    · intro n hn
      repeat' (first | (with_reducible first | refine Unf.h ?_ | refine loopK_n ?_) | ((conv => whnf); first | refine Fork.mk (fun h => ?_) (fun h => ?_) | (refine Side.mk ?_ ?_; focus (first | omega | (intros; (try simp only [lenS, inR, cutS, loI, hiI] at *); omega) | exact nnS (by decide))) | (refine Idx.mk ?_ ?_; focus (omega)) | refine RetE.mk () trivial ?_ | refine retK_r ?_) | fail); all_goals try (conv => whnf)
      · refine ⟨n + 1, ⟨by omega, by omega⟩, ?_⟩
        have e : ((128 / 2 ^ n : Nat) : Int) / 2 = ((128 / 2 ^ (n + 1) : Nat) : Int) := by
          rw [Nat.pow_succ, ← Nat.div_div_eq_div_mul]; omega
        repeat' (first | (with_reducible refine Unf.h ?_) | ((conv => whnf); first | (refine Side.mk ?_ ?_; focus (first | with_reducible rfl | (refine congrArg (SV.int _) ?_; omega))) | (with_reducible refine Unf.h ?_) | exact True.intro) | fail); all_goals try (conv => whnf)
      · have e : n = i % 8 := by omega
        subst e
        all_goals try (conv => whnf)
        refine Side.mk (congrArg SV.arr8 (setB_set k i _ _ (by omega) hp _ ?_)) (by repeat' (first | (with_reducible refine Unf.h ?_) | ((conv => whnf); exact rfl) | fail); all_goals try (conv => whnf))
        have hb : kb k i = false := by
          cases hb : kb k i
          · rfl
          · have hz : bitI k (i : Int) = 0 := by assumption
            rw [bitI_nat, hb] at hz; simp at hz
        unfold kb at hb
        rw [dif_pos hp] at hb
        have := add_or ⟨(k[i / 8]'(by omega)).toNat, (k[i / 8]'(by omega)).isLt⟩ ⟨i % 8, by omega⟩
        simp only [BitVec.ofNat_toNat, BitVec.setWidth_eq] at this
        exact this hb
  · have hb : kb k i = true := by
      cases hb : kb k i
      · exfalso; apply h; rw [bitI_nat, hb]; rfl
      · rfl
    have e : setB k i = k := kb_ext fun j hj => by
      rw [kb_setB k i j hp hj]
      by_cases he : i = j
      · subst he; simp [hb]
      · simp [he]
    repeat' (first | (with_reducible refine Unf.h ?_) | ((conv => whnf); first | (refine Side.mk ?_ ?_; focus ((simp only [*, e]; done))) | exact rfl) | fail); all_goals try (conv => whnf)
def rcut_c : Ctr where
  D := H256 × Int
  args := fun (k, n) => [.agg [.arr8 k], .int .i64 n]
  res := fun (k, n) _ => .agg (ePfx (cutP k n))
def rcut_H : Cfg := ⟨[(94, rbit_c), (166, rset_c)], [], [], [], 30, 0, [], [], []⟩
theorem rcut_ok : rcut_c.Ok Tryz.prog 134 := by
  refine fn_ok rcut_H 0 rfl _ Tryz.func134 rfl rfl ⟨rbit_ok, rset_ok, trivial⟩ rfl rfl (by kernel_rfl) (fun _ => Nat.le_of_ble_eq_true rfl) ?_
  rintro ⟨k, n⟩ hp hr
  try dsimp only [rcut_c] at hp
  try simp only [rcut_c, Rng, RngL, inR, and_true, true_and] at hr
  repeat' (first | (with_reducible refine Unf.h ?_) | fail); all_goals try (conv => whnf)
  refine LoopS.auto (fun i : Nat => i ≤ 256 ∧ (i : Int) ≤ max n 0) (fun i => [(6, .int .i64 i)]) (fun i => [(2, .box 58 [.int .i64 i, .arr8 (cutB k i)]), (1, .box 58 [.int .i64 0, .arr8 zeroH]), (0, .box 30 [.arr8 k])]) (fun i => 256 - i) 0 (by omega) ?_ ?_
  · repeat' (first | (with_reducible refine Unf.h ?_) | ((conv => whnf); first | (refine Side.mk ?_ ?_; focus (first | with_reducible rfl | (refine congrArg (SV.int _) ?_; omega) | (simp only [*, cutB_zero]; done))) | (with_reducible refine Unf.h ?_) | exact True.intro) | fail); all_goals try (conv => whnf)
  · intro i hi
    repeat' (first | (with_reducible refine Unf.h ?_) | ((conv => whnf); first | refine Fork.mk (fun h => ?_) (fun h => ?_) | (refine Side.mk ?_ ?_; focus ((intros; (try simp only [lenS, inR, cutS, loI, hiI] at *); omega))) | refine RetE.mk () trivial ?_ | refine retK_r ?_) | fail); all_goals try (conv => whnf)
    · refine CallS.mk (c := rbit_c) ((k, (i : Int))) ?_
      repeat' (first | (with_reducible first | refine Unf.h ?_ | refine loopK_n ?_) | ((conv => whnf); first | refine Fork.mk (fun h => ?_) (fun h => ?_) | (refine Side.mk ?_ ?_; focus (first | with_reducible rfl | exact True.intro | (intros; (try simp only [lenS, inR, cutS, loI, hiI] at *); omega))) | refine Got.mk (fun _ _ => ?_)) | fail); all_goals try (conv => whnf)
      · have hb : kb k i = true := by
          rw [bitI_nat] at h
          cases hb : kb k i
          · rw [hb] at h; simp at h
          · rfl
        refine CallS.mk (c := rset_c) ((cutB k i, i)) ?_
        repeat' (first | (with_reducible first | refine Unf.h ?_ | refine loopK_n ?_) | ((conv => whnf); first | (refine Side.mk ?_ ?_; focus (first | with_reducible rfl | (intros; (try simp only [lenS, inR, cutS, loI, hiI] at *); omega) | (dsimp only [resS, rcut_c, rset_c]; omega))) | refine Got.mk (fun _ _ => ?_)) | fail); all_goals try (conv => whnf)
        refine ⟨i + 1, ⟨by omega, by omega, by omega⟩, ?_⟩
        rw [cutB_succ k i (by omega), if_pos hb]
        repeat' (first | (with_reducible refine Unf.h ?_) | ((conv => whnf); first | (refine Side.mk ?_ ?_; focus (first | with_reducible rfl | (refine congrArg (SV.int _) ?_; omega))) | (with_reducible refine Unf.h ?_) | exact True.intro) | fail); all_goals try (conv => whnf)
      · have hb : kb k i = false := by
          cases hb : kb k i
          · rfl
          · exfalso; apply h; rw [bitI_nat, hb]; rfl
        refine ⟨i + 1, ⟨by omega, by omega, by omega⟩, ?_⟩
        rw [cutB_succ k i (by omega), hb]
        repeat' (first | (with_reducible refine Unf.h ?_) | ((conv => whnf); first | (refine Side.mk ?_ ?_; focus (first | with_reducible rfl | (refine congrArg (SV.int _) ?_; omega) | (simp [*]; done))) | (with_reducible refine Unf.h ?_) | exact True.intro) | fail); all_goals try (conv => whnf)
    · have e1 : min (max n 0) 256 = (i : Int) := by omega
      repeat' (first | (with_reducible refine Unf.h ?_) | ((conv => whnf); first | (refine Side.mk ?_ ?_; focus ((simp only [*, cutP, e1, Int.toNat_natCast]; done))) | exact rfl) | fail); all_goals try (conv => whnf)
    · have e1 : min (max n 0) 256 = (i : Int) := by omega
      repeat' (first | (with_reducible refine Unf.h ?_) | ((conv => whnf); first | (refine Side.mk ?_ ?_; focus ((simp only [*, cutP, e1, Int.toNat_natCast]; done))) | exact rfl) | fail); all_goals try (conv => whnf)
def rformed_c : Ctr where
  D := Pfx
  args := fun p => [.agg (ePfx p)]
  res := fun p _ => .dec (formedP p) inferInstance
def rformed_H : Cfg := ⟨[(94, rbit_c)], [], [], [], 23, 0, [], [], []⟩
theorem rformed_ok : rformed_c.Ok Tryz.prog 136 := by
  refine fn_ok rformed_H 0 rfl _ Tryz.func136 rfl rfl ⟨rbit_ok, trivial⟩ rfl rfl (by kernel_rfl) (fun _ => Nat.le_of_ble_eq_true rfl) ?_
  intro (p : Pfx) hp hr
  try dsimp only [rformed_c] at hp
  try simp only [rformed_c, Rng, RngL, inR, and_true, true_and] at hr
  repeat' (first | (with_reducible refine Unf.h ?_) | ((conv => whnf); first | refine Fork.mk (fun h => ?_) (fun h => ?_) | refine RetE.mk () trivial ?_ | refine retK_r ?_) | fail); all_goals try (conv => whnf)
  · exact Side.mk (iffF fun h' => by have := h'.1; omega) (by repeat' (first | (with_reducible refine Unf.h ?_) | ((conv => whnf); exact rfl) | fail); all_goals try (conv => whnf))
  · exact Side.mk (iffF fun h' => by have := h'.2.1; omega) (by repeat' (first | (with_reducible refine Unf.h ?_) | ((conv => whnf); exact rfl) | fail); all_goals try (conv => whnf))
  · have h0 : 0 ≤ p.len := by omega
    have h1 : p.len ≤ 256 := by omega
    refine LoopS.auto (fun i : Nat => p.len.toNat ≤ i ∧ i ≤ 256 ∧ ∀ j : Nat, p.len ≤ j → j < i → kb p.bits j = false) (fun i => [(3, .int .i64 i)]) (fun i => [(0, .box 58 [.int .i64 p.len, .arr8 p.bits])]) (fun i => 256 - i) p.len.toNat ⟨by omega, by omega, fun j h1 h2 => by omega⟩ ?_ ?_
    · repeat' (first | (with_reducible refine Unf.h ?_) | ((conv => whnf); first | (refine Side.mk ?_ ?_; focus (first | with_reducible rfl | (refine congrArg (SV.int _) ?_; omega))) | (with_reducible refine Unf.h ?_) | exact True.intro) | fail); all_goals try (conv => whnf)
    · intro i hi
      obtain ⟨hi1, hi2, hi3⟩ := hi
      repeat' (first | (with_reducible refine Unf.h ?_) | ((conv => whnf); first | refine Fork.mk (fun h => ?_) (fun h => ?_) | refine RetE.mk () trivial ?_ | refine retK_r ?_) | fail); all_goals try (conv => whnf)
      · refine CallS.mk (c := rbit_c) ((p.bits, (i : Int))) ?_
        repeat' (first | (with_reducible first | refine Unf.h ?_ | refine loopK_n ?_) | ((conv => whnf); first | refine Fork.mk (fun h => ?_) (fun h => ?_) | (refine Side.mk ?_ ?_; focus (first | with_reducible rfl | exact True.intro | (intros; (try simp only [lenS, inR, cutS, loI, hiI] at *); omega))) | refine RetE.mk () trivial ?_ | refine Got.mk (fun _ _ => ?_) | refine retK_r ?_) | fail); all_goals try (conv => whnf)
        · refine Side.mk (iffF fun h' => ?_) (by repeat' (first | (with_reducible refine Unf.h ?_) | ((conv => whnf); exact rfl) | fail); all_goals try (conv => whnf))
          have := (formed_iff h0 h1).1 h' i (by omega)
          rw [bitI_nat, this] at h; simp at h
        · refine ⟨i + 1, ⟨by omega, by omega, by omega, fun j h1 h2 => ?_⟩, ?_⟩
          · by_cases hj : j < i
            · exact hi3 j h1 hj
            · rw [show j = i by omega]
              cases hb : kb p.bits i
              · rfl
              · exfalso; apply h; rw [bitI_nat, hb]; rfl
          · repeat' (first | (with_reducible refine Unf.h ?_) | ((conv => whnf); first | (refine Side.mk ?_ ?_; focus (first | with_reducible rfl | (refine congrArg (SV.int _) ?_; omega))) | (with_reducible refine Unf.h ?_) | exact True.intro) | fail); all_goals try (conv => whnf)
      · refine Side.mk (iffT ((formed_iff h0 h1).2 fun j hj => ?_)) (by repeat' (first | (with_reducible refine Unf.h ?_) | ((conv => whnf); exact rfl) | fail); all_goals try (conv => whnf))
        by_cases h256 : j < 256
        · exact hi3 j hj (by omega)
        · exact kb_out (by omega)
def rholds_c : Ctr where
  D := Pfx × H256
  args := fun (p, k) => [.agg (ePfx p), .agg [.arr8 k]]
  res := fun (p, k) _ => .dec (holdsP p k) inferInstance
def rholds_H : Cfg := ⟨[(135, rshared_c), (136, rformed_c)], [(1, [0, 4, 5, 8], [1, 6], (.one 0 1 false (.one 1 2 true (.one 2 0 false (.one 3 0 false (.one 4 1 false (.one 5 1 false (.one 7 0 false (.one 8 1 false (.one 6 2 true (.one 9 0 false (.one 10 0 false (.one 11 0 false .nil)))))))))))), [])], [], [], 16, 0, [], [], []⟩
theorem rholds_ok : rholds_c.Ok Tryz.prog 93 := by
  refine fn_ok rholds_H 0 rfl _ Tryz.func93 rfl rfl ⟨rshared_ok, rformed_ok, trivial⟩ rfl rfl (by kernel_rfl) (fun _ => Nat.le_of_ble_eq_true rfl) ?_
  rintro ⟨p, k⟩ hp hr
  try dsimp only [rholds_c] at hp
  try simp only [rholds_c, Rng, RngL, inR, and_true, true_and] at hr
  repeat' (first | (with_reducible refine Unf.h ?_) | ((conv => whnf); first | refine Fork.mk (fun h => ?_) (fun h => ?_) | (refine Side.mk ?_ ?_; focus (first | with_reducible rfl | exact True.intro)) | refine RetE.mk () trivial ?_ | refine Got.mk (fun _ _ => ?_) | refine retK_r ?_ | refine CallS.mk (c := rformed_c) (p) ?_ | refine CallS.mk (c := rshared_c) ((p.bits, k)) ?_) | fail); all_goals try (conv => whnf)
  · exact Side.mk ⟨fun h' => holds_shared.2 ⟨h, h'⟩, fun h' => (holds_shared.1 h').2⟩ (by repeat' (first | (with_reducible refine Unf.h ?_) | ((conv => whnf); exact rfl) | fail); all_goals try (conv => whnf))
  · exact Side.mk (iffF fun h' => h h'.1) (by repeat' (first | (with_reducible refine Unf.h ?_) | ((conv => whnf); exact rfl) | fail); all_goals try (conv => whnf))
def lessP (a b : H256) : Prop := shared a b < 256 ∧ kb a (shared a b) = false
instance (a b : H256) : Decidable (lessP a b) := inferInstanceAs (Decidable (_ ∧ _))
def rless_c : Ctr where
  D := H256 × H256
  args := fun (a, b) => [.agg [.arr8 a], .agg [.arr8 b]]
  res := fun (a, b) _ => .dec (lessP a b) inferInstance
def rless_H : Cfg := ⟨[(94, rbit_c), (135, rshared_c)], [], [], [], 17, 0, [], [], []⟩
theorem rless_ok : rless_c.Ok Tryz.prog 137 := by
  refine fn_ok rless_H 0 rfl _ Tryz.func137 rfl rfl ⟨rbit_ok, rshared_ok, trivial⟩ rfl rfl (by kernel_rfl) (fun _ => Nat.le_of_ble_eq_true rfl) ?_
  rintro ⟨a, b⟩ hp hr
  try dsimp only [rless_c] at hp
  try simp only [rless_c, Rng, RngL, inR, and_true, true_and] at hr
  repeat' (first | (with_reducible refine Unf.h ?_) | ((conv => whnf); first | refine Fork.mk (fun h => ?_) (fun h => ?_) | (refine Side.mk ?_ ?_; focus (first | with_reducible rfl | exact True.intro)) | refine RetE.mk () trivial ?_ | refine Got.mk (fun _ _ => ?_) | refine retK_r ?_ | refine CallS.mk (c := rshared_c) ((a, b)) ?_ | refine CallS.mk (c := rbit_c) ((a, (shared a b : Int))) ?_) | fail); all_goals try (conv => whnf)
  · refine Side.mk ⟨fun h' => ⟨by omega, ?_⟩, fun h' => ?_⟩ (by repeat' (first | (with_reducible refine Unf.h ?_) | ((conv => whnf); exact rfl) | fail); all_goals try (conv => whnf))
    · rw [bitI_nat] at h'
      cases hb : kb a (shared a b)
      · rfl
      · rw [hb] at h'; simp at h'
    · show bitI a (shared a b : Int) = 0
      rw [bitI_nat, h'.2]; rfl
  · exact Side.mk (iffF fun h' => h (by have := h'.1; omega)) (by repeat' (first | (with_reducible refine Unf.h ?_) | ((conv => whnf); exact rfl) | fail); all_goals try (conv => whnf))
end Go.Proofs.YtdflndjlnkoliaaGreatDoor

namespace Go.Proofs.YtdflndjlnkoliaaGreatDoor
set_option linter.all false
open Go.RowKit
abbrev Fo := List Nd
def zeroN : Nd := ⟨false, zeroH, zeroH, 0, zeroH, 0, 0, zeroH⟩
def nd (l : Fo) (i : Int) : Nd := if 0 ≤ i then l.getD i.toNat zeroN else zeroN
theorem nd_get (l : Fo) (i : Int) (h0 : 0 ≤ i) (h : i.toNat < l.length) : l[i.toNat] = nd l i := by
  unfold nd; rw [if_pos h0, List.getD_eq_getElem?_getD, List.getElem?_eq_getElem h]; rfl
theorem nd_app (l m : Fo) (i : Int) (h : i < l.length) : nd (l ++ m) i = nd l i := by
  unfold nd
  split
  · simp only [List.getD_eq_getElem?_getD]
    rw [List.getElem?_append_left (by omega)]
  · rfl
theorem nd_last (l : Fo) (n : Nd) : nd (l ++ [n]) (l.length : Int) = n := by
  unfold nd
  rw [if_pos (by omega)]
  simp [List.getD_eq_getElem?_getD]
def Nd.pfx (n : Nd) : Pfx := ⟨n.plen, n.bits⟩
def Nd.cover (n : Nd) : Pfx := if n.leaf then cutP n.key 256 else n.pfx
abbrev fo (l : Fo) : List Ob := [(0, .box 100 [.own 1]), (1, .row 192 132 eNd l)]
def size_c : Ctr where
  D := Fo
  args := fun _ => [.ptr 0 0]
  objs := fun l => fo l
  nn := 2
  res := fun l _ => .int .i64 l.length
  out := fun l _ => fo l
def size_H : Cfg := ⟨[], [], [], [], 10, 2, [], [], []⟩
theorem size_ok : size_c.Ok Tryz.prog 44 := by
  refine fn_ok size_H 2 rfl _ Tryz.func44 rfl rfl trivial rfl rfl (by kernel_rfl) (fun _ => Nat.le_of_ble_eq_true rfl) ?_
  intro (l : Fo) hp hr
  try dsimp only [size_c] at hp
  try simp only [size_c, Rng, RngL, inR, and_true, true_and] at hr
  repeat' (first | (with_reducible refine Unf.h ?_) | ((conv => whnf); first | (refine Side.mk ?_ ?_; focus (first | with_reducible rfl | (refine congrArg (SV.int _) ?_; omega))) | refine RetE.mk () trivial ?_ | refine retK_r ?_ | exact rfl) | fail); all_goals try (conv => whnf)
def inF (l : Fo) (i : Int) : Prop := 0 ≤ i ∧ i < l.length
instance (l : Fo) (i : Int) : Decidable (inF l i) := inferInstanceAs (Decidable (_ ∧ _))
def is_c : Ctr where
  D := Fo × Int
  args := fun (_, i) => [.ptr 0 0, .int .i64 i]
  objs := fun (l, _) => fo l
  nn := 2
  res := fun (l, i) _ => .dec (-1 ≤ i ∧ i < l.length) inferInstance
  out := fun (l, _) _ => fo l
def is_H : Cfg := ⟨[], [], [], [], 20, 2, [], [], []⟩
theorem is_ok : is_c.Ok Tryz.prog 125 := by
  refine fn_ok is_H 2 rfl _ Tryz.func125 rfl rfl trivial rfl rfl (by kernel_rfl) (fun _ => Nat.le_of_ble_eq_true rfl) ?_
  rintro ⟨l, i⟩ hp hr
  try dsimp only [is_c] at hp
  try simp only [is_c, Rng, RngL, inR, and_true, true_and] at hr
  repeat' (first | (with_reducible refine Unf.h ?_) | ((conv => whnf); first | refine Fork.mk (fun h => ?_) (fun h => ?_) | (refine Side.mk ?_ ?_; focus (first | with_reducible rfl | omega | (refine ⟨fun h => ?_, fun h => ?_⟩ <;> first | rfl | (cases h; done) | omega | (exfalso; omega) | (simp only [Bool.false_eq_true] at h; done)))) | refine RetE.mk () trivial ?_ | refine retK_r ?_ | exact rfl) | fail); all_goals try (conv => whnf)
def cover_c : Ctr where
  D := Nd
  args := fun n => [.agg (eNd n)]
  res := fun n _ => .agg (ePfx n.cover)
def cover_H : Cfg := ⟨[(140, cutp_c)], [], [], [], 10, 0, [], [], []⟩
theorem cover_ok : cover_c.Ok Tryz.prog 162 := by
  refine fn_ok cover_H 0 rfl _ Tryz.func162 rfl rfl ⟨cutp_ok, trivial⟩ rfl rfl (by kernel_rfl) (fun _ => Nat.le_of_ble_eq_true rfl) ?_
  intro (n : Nd) hp hr
  try dsimp only [cover_c] at hp
  try simp only [cover_c, Rng, RngL, inR, and_true, true_and] at hr
  obtain ⟨leaf, key, value, plen, bits, left, right, hash⟩ := n
  cases leaf
  · have e : Nd.cover ⟨false, key, value, plen, bits, left, right, hash⟩ = ⟨plen, bits⟩ := rfl
    repeat' (first | (with_reducible refine Unf.h ?_) | ((conv => whnf); first | (refine Side.mk ?_ ?_; focus ((simp only [*, e]; done))) | refine RetE.mk () trivial ?_ | refine retK_r ?_ | exact rfl) | fail); all_goals try (conv => whnf)
  · have e : Nd.cover ⟨true, key, value, plen, bits, left, right, hash⟩ = cutP key 256 := rfl
    repeat' (first | (with_reducible refine Unf.h ?_) | ((conv => whnf); first | (refine Side.mk ?_ ?_; focus (first | with_reducible rfl | exact True.intro | (simp only [*, e]; done))) | refine RetE.mk () trivial ?_ | refine Got.mk (fun _ _ => ?_) | refine retK_r ?_ | exact rfl | refine CallS.mk (c := cutp_c) ((key, 256)) ?_) | fail); all_goals try (conv => whnf)
def underP (l : Fo) (p : Pfx) (b i : Int) : Prop := inF l i ∧ childOk p b ∧ withinP (childP p b) (nd l i).cover
instance (l : Fo) (p : Pfx) (b i : Int) : Decidable (underP l p b i) := inferInstanceAs (Decidable (_ ∧ _ ∧ _))
def mk (l : Fo) (n : Nd) : Nd := if n.leaf then ⟨true, n.key, n.value, 0, zeroH, -1, -1, sha (leafT n.key n.value)⟩ else ⟨false, zeroH, zeroH, n.plen, n.bits, n.left, n.right, sha (innerT n.plen n.bits (nd l n.left).hash (nd l n.right).hash)⟩
def addable (l : Fo) (n : Nd) : Prop := n.leaf = true ∨ inF l n.left ∧ inF l n.right
def add_c : Ctr where
  D := Fo × Nd
  pre := fun (l, n) => l.length ≤ 10000000 ∧ addable l n
  args := fun (_, n) => [.ptr 0 0, .agg (eNd n)]
  objs := fun (l, _) => fo l
  nn := 2
  res := fun (l, _) _ => .int .i64 l.length
  out := fun (l, n) _ => [(0, .box 100 [.own 2]), (2, .row 192 132 eNd (l ++ [mk l n]))]
  mm := 1
def add_H : Cfg := ⟨[(161, ttext_c), (114, sum_c)], [(4, [1, 3], [5, 7], (.one 0 0 false (.one 1 1 false (.one 2 0 false (.one 3 1 false (.one 4 0 false (.one 5 2 true (.one 6 0 false (.one 7 2 false .nil)))))))), [5]), (5, [1, 3, 5], [7, 9, 11], (.one 0 0 false (.one 1 1 false (.one 2 0 false (.one 3 1 false (.one 4 0 false (.one 5 1 false (.one 6 0 false (.one 7 2 true (.one 8 0 false (.one 9 2 true (.one 10 0 false (.one 11 2 false .nil)))))))))))), [5]), (6, [3, 5, 8, 12, 14, 17], [18, 19], (.one 0 0 false (.one 1 0 false (.one 2 0 false (.one 3 1 false (.one 4 0 false (.one 5 1 false (.one 6 0 false (.one 7 0 false (.one 8 1 false (.one 9 0 false (.one 10 0 false (.one 11 0 false (.one 12 1 false (.one 13 0 false (.one 14 1 false (.one 15 0 false (.one 16 0 false (.one 17 1 false (.one 18 2 true (.one 19 2 false .nil)))))))))))))))))))), [6]), (8, [4, 5], [6, 7, 10], (.one 0 0 false (.one 1 0 false (.one 2 0 false (.one 3 0 false (.one 4 1 false (.one 5 1 false (.one 6 2 true (.one 7 2 false (.one 8 0 false (.one 9 0 false (.one 10 2 false .nil))))))))))), [])], [], [], 68, 2, [], [], []⟩
theorem add_ok : add_c.Ok Tryz.prog 127 := by
  refine fn_ok add_H 2 rfl _ Tryz.func127 rfl rfl ⟨ttext_ok, sum_ok, trivial⟩ rfl rfl (by kernel_rfl) (fun _ => Nat.le_of_ble_eq_true rfl) ?_
  rintro ⟨l, n⟩ hp hr
  try dsimp only [add_c] at hp
  try simp only [add_c, Rng, RngL, inR, and_true, true_and] at hr
  obtain ⟨hlen, ha⟩ := hp
  obtain ⟨leaf, key, value, plen, bits, left, right, hash⟩ := n
  cases leaf
  · have ha' : inF l left ∧ inF l right := by simpa [addable] using ha
    obtain ⟨⟨hl0, hl1⟩, hr0, hr1⟩ := ha'
    clear ha
    have e1 := nd_get l left hl0 (by omega)
    have e2 := nd_get l right hr0 (by omega)
    repeat' (first | (with_reducible refine Unf.h ?_) | ((conv => whnf); first | (refine Side.mk ?_ ?_; focus ((dsimp only; omega))) | (refine Idx.mk ?_ ?_; focus ((simp only [lenS, inR, cutS, loI, hiI]; omega)))) | fail); all_goals try (conv => whnf)
    refine CallS.mk (c := ttext_c) ((⟨false, zeroH, zeroH, plen, bits, left, right, zeroH⟩, (nd l left).hash, (nd l right).hash)) ?_
    repeat' (first | (with_reducible refine Unf.h ?_) | ((conv => whnf); first | (refine Side.mk ?_ ?_; focus (first | with_reducible rfl | exact True.intro | (simp only [*, e1, e2]; done))) | refine Got.mk (fun _ _ => ?_) | refine CallS.mk (c := sum_c) (innerT plen bits (nd l left).hash (nd l right).hash) ?_) | fail); all_goals try (conv => whnf)
    refine Side.mk rfl ?_
    repeat' (first | (with_reducible refine Unf.h ?_) | ((conv => whnf); first | (refine Side.mk ?_ ?_; focus (exact True.intro)) | refine Got.mk (fun _ _ => ?_)) | fail); all_goals try (conv => whnf)
    refine Ex.mk [⟨false, zeroH, zeroH, plen, bits, left, right, sha (innerT plen bits (nd l left).hash (nd l right).hash)⟩] rfl ?_
    repeat' (first | (with_reducible refine Unf.h ?_) | ((conv => whnf); first | (refine Side.mk ?_ ?_; focus (first | (intros; (try simp only [lenS, inR, cutS, loI, hiI] at *); omega) | (dsimp only [resS, add_c]; (simp [*]; done)))) | refine RetE.mk () trivial ?_ | refine retK_r ?_) | fail); all_goals try (conv => whnf)
    refine Side.mk rfl ?_
    repeat' (first | (with_reducible refine Unf.h ?_) | ((conv => whnf); exact rfl) | fail); all_goals try (conv => whnf)
  · repeat' (first | (with_reducible refine Unf.h ?_) | fail); all_goals try (conv => whnf)
    refine CallS.mk (c := ttext_c) ((⟨true, key, value, 0, zeroH, -1, -1, zeroH⟩, zeroH, zeroH)) ?_
    repeat' (first | (with_reducible refine Unf.h ?_) | ((conv => whnf); first | (refine Side.mk ?_ ?_; focus (first | with_reducible rfl | exact True.intro)) | refine Got.mk (fun _ _ => ?_) | refine CallS.mk (c := sum_c) (leafT key value) ?_) | fail); all_goals try (conv => whnf)
    refine Side.mk rfl ?_
    repeat' (first | (with_reducible refine Unf.h ?_) | ((conv => whnf); first | (refine Side.mk ?_ ?_; focus (exact True.intro)) | refine Got.mk (fun _ _ => ?_)) | fail); all_goals try (conv => whnf)
    refine Ex.mk [⟨true, key, value, 0, zeroH, -1, -1, sha (leafT key value)⟩] rfl ?_
    repeat' (first | (with_reducible refine Unf.h ?_) | ((conv => whnf); first | (refine Side.mk ?_ ?_; focus (first | (intros; (try simp only [lenS, inR, cutS, loI, hiI] at *); omega) | (dsimp only [resS, add_c]; (simp [*]; done)))) | refine RetE.mk () trivial ?_ | refine retK_r ?_) | fail); all_goals try (conv => whnf)
    refine Side.mk rfl ?_
    repeat' (first | (with_reducible refine Unf.h ?_) | ((conv => whnf); exact rfl) | fail); all_goals try (conv => whnf)
end Go.Proofs.YtdflndjlnkoliaaGreatDoor

namespace Go.Proofs.YtdflndjlnkoliaaGreatDoor
set_option linter.all false
open Go.RowKit
def closed (l : Fo) : Prop := ∀ i : Int, inF l i → (nd l i).leaf = true ∨ (0 ≤ (nd l i).left ∧ (nd l i).left < i) ∧ (0 ≤ (nd l i).right ∧ (nd l i).right < i)
def isT (l : Fo) (t : Int) : Prop := -1 ≤ t ∧ t < l.length
instance (l : Fo) (t : Int) : Decidable (isT l t) := inferInstanceAs (Decidable (_ ∧ _))
def goes (l : Fo) (k : H256) (t : Int) : Prop := t ≠ -1 ∧ (nd l t).leaf = false ∧ holdsP (nd l t).pfx k
instance (l : Fo) (k : H256) (t : Int) : Decidable (goes l k t) := inferInstanceAs (Decidable (_ ∧ _ ∧ _))
def nxt (l : Fo) (k : H256) (t : Int) : Int := if bitI k (nd l t).plen = 1 then (nd l t).right else (nd l t).left
def path (l : Fo) (k : H256) (t : Int) : List Int × Int := if h : goes l k t ∧ -1 ≤ nxt l k t ∧ nxt l k t < t then (t :: (path l k (nxt l k t)).1, (path l k (nxt l k t)).2) else ([], t)
termination_by (t + 1).toNat
decreasing_by all_goals omega
theorem nxt_ok {l : Fo} {k : H256} {t : Int} (hc : closed l) (ht : isT l t) (hg : goes l k t) : 0 ≤ nxt l k t ∧ nxt l k t < t := by
  rcases hc t ⟨by have := ht.1; have := hg.1; omega, ht.2⟩ with h | h
  · rw [hg.2.1] at h; cases h
  · unfold nxt; split
    · exact h.2
    · exact h.1
theorem path_go {l : Fo} {k : H256} {t : Int} (hc : closed l) (ht : isT l t) (hg : goes l k t) : path l k t = (t :: (path l k (nxt l k t)).1, (path l k (nxt l k t)).2) := by
  have := nxt_ok hc ht hg
  rw [path, dif_pos ⟨hg, by omega, by omega⟩]
theorem path_stop {l : Fo} {k : H256} {t : Int} (hg : ¬ goes l k t) : path l k t = ([], t) := by
  rw [path, dif_neg fun h => hg h.1]
theorem path_len {l : Fo} {k : H256} : ∀ (n : Nat) (t : Int), (t + 1).toNat ≤ n → (path l k t).1.length ≤ (t + 1).toNat
  | n, t, hn => by
    rw [path]
    split
    · rename_i h
      match n with
      | 0 => omega
      | n + 1 =>
        have := path_len (l := l) (k := k) n (nxt l k t) (by omega)
        simp only [List.length_cons]; omega
    · simp
def path_c : Ctr where
  D := Fo × Int × H256
  pre := fun (l, t, _) => l.length ≤ 10000000 ∧ closed l ∧ isT l t
  args := fun (_, t, k) => [.ptr 0 0, .int .i64 t, .agg [.arr8 k]]
  objs := fun (l, _) => fo l
  nn := 2
  res := fun (l, t, k) _ => .tup [.own 2, .int .i64 (path l k t).2]
  out := fun (l, t, k) _ => fo l ++ [(2, .row 3 1 eI (path l k t).1)]
  mm := 1
def path_H : Cfg := ⟨[(99, holds_c), (101, bit_c)], [(2, [6, 10, 17, 21, 22], [23], (.one 0 0 false (.one 1 0 false (.one 2 0 false (.one 3 0 false (.one 4 0 false (.one 5 0 false (.one 6 1 false (.one 7 0 false (.one 8 0 false (.one 9 0 false (.one 10 1 false (.one 11 0 false (.one 12 0 false (.one 13 0 false (.one 14 0 false (.one 15 0 false (.one 16 0 false (.one 17 1 false (.one 18 0 false (.one 19 0 false (.one 20 0 false (.one 21 1 false (.one 22 1 false (.one 23 2 false (.one 24 0 false .nil))))))))))))))))))))))))), [])], [], [], 58, 2, [], [], []⟩
theorem path_ok : path_c.Ok Tryz.prog 126 := by
  refine fn_ok path_H 2 rfl _ Tryz.func126 rfl rfl ⟨holds_ok, bit_ok, trivial⟩ rfl rfl (by kernel_rfl) (fun _ => Nat.le_of_ble_eq_true rfl) ?_
  rintro ⟨l, t, k⟩ hp hr
  try dsimp only [path_c] at hp
  try simp only [path_c, Rng, RngL, inR, and_true, true_and] at hr
  obtain ⟨hlen, hc, ht⟩ := hp
  repeat' (first | (with_reducible refine Unf.h ?_) | fail); all_goals try (conv => whnf)
  refine LoopS.autoN (I := Int × List Int) (fun p => isT l p.1 ∧ p.2.length + (path l k p.1).1.length ≤ 10000001 ∧ p.2 ++ (path l k p.1).1 = (path l k t).1 ∧ (path l k p.1).2 = (path l k t).2) (fun p => [(1, .int .i64 p.1), (8, .own 3)]) (fun p => [(2, .box 30 [.arr8 k]), (0, .box 100 [.own 1]), (1, .row 192 132 eNd l), (3, .row 3 1 eI p.2)]) 4 (fun p => (p.1 + 1).toNat) (t, []) ⟨ht, ?_, rfl, rfl⟩ ?_ ?_
  · have := path_len (l := l) (k := k) _ t (Nat.le_refl _)
    have := ht.2
    simp only [List.length_nil]; omega
  · repeat' (first | (with_reducible refine Unf.h ?_) | ((conv => whnf); first | (refine Side.mk ?_ ?_; focus (with_reducible rfl)) | (with_reducible refine Unf.h ?_) | exact True.intro) | fail); all_goals try (conv => whnf)
  · intro p hq
    obtain ⟨hp1, hpl, hp2, hp3⟩ := hq
    have hp0 := hp1.1
    have hpn := hp1.2
    repeat' (first | (with_reducible refine Unf.h ?_) | ((conv => whnf); first | refine Fork.mkn (fun h => ?_) (fun h => ?_) | (refine Side.mk ?_ ?_; focus (omega)) | (refine Idx.mk ?_ ?_; focus (omega)) | refine RetE.mk () trivial ?_ | refine retK_r ?_) | fail); all_goals try (conv => whnf)
    · have hin : p.1.toNat < l.length := by omega
      have en := nd_get l p.1 (by omega) hin
      cases hb : (l[p.1.toNat]'hin).leaf
      · rw [en] at hb
        repeat' (first | (with_reducible refine Unf.h ?_) | ((conv => whnf); first | refine Fork.mk (fun h => ?_) (fun h => ?_) | (refine Side.mk ?_ ?_; focus (first | with_reducible rfl | exact True.intro | omega | (intros; (try simp only [lenS, inR, cutS, loI, hiI, en, Nd.pfx] at *); omega) | (simp only [*, en, Nd.pfx]; done))) | (refine Idx.mk ?_ ?_; focus (omega)) | refine RetE.mk () trivial ?_ | refine Got.mk (fun _ _ => ?_) | refine Ex.mk [_] rfl ?_ | (with_reducible refine Unf.h ?_) | refine retK_r ?_ | refine CallS.mk (c := holds_c) (((nd l p.1).pfx, k)) ?_) | fail); all_goals try (conv => whnf)
        · have hg : goes l k p.1 := ⟨by assumption, hb, h⟩
          have hx := nxt_ok hc hp1 hg
          have hgo := path_go hc hp1 hg
          rw [hgo] at hp2 hp3 hpl
          simp only [List.length_cons] at hpl
          have hnew : (nxt l k p.1 + 1).toNat < (p.1 + 1).toNat ∧ isT l (nxt l k p.1) ∧ (p.2 ++ [p.1]).length + (path l k (nxt l k p.1)).1.length ≤ 10000001 ∧ (p.2 ++ [p.1]) ++ (path l k (nxt l k p.1)).1 = (path l k t).1 ∧ (path l k (nxt l k p.1)).2 = (path l k t).2 :=
            ⟨by omega, ⟨by omega, by omega⟩, by simp only [List.length_append, List.length_cons, List.length_nil]; omega, by rw [← hp2]; simp, hp3⟩
          refine CallS.mk (c := bit_c) ((k, (nd l p.1).plen)) ?_
          repeat' (first | (with_reducible first | refine Unf.h ?_ | refine loopK_n ?_) | ((conv => whnf); first | refine Fork.mk (fun h => ?_) (fun h => ?_) | (refine Side.mk ?_ ?_; focus (first | with_reducible rfl | exact True.intro | (simp only [*, en]; done))) | refine Got.mk (fun _ _ => ?_)) | fail); all_goals try (conv => whnf)
          · have hn : nxt l k p.1 = (nd l p.1).right := if_pos h
            refine ⟨(nxt l k p.1, p.2 ++ [p.1]), hnew, ?_⟩
            repeat' (first | (with_reducible refine Unf.h ?_) | ((conv => whnf); first | (refine Side.mk ?_ ?_; focus (first | with_reducible rfl | (simp only [*, hn, en]; done))) | (with_reducible refine Unf.h ?_) | exact True.intro) | fail); all_goals try (conv => whnf)
          · have hn : nxt l k p.1 = (nd l p.1).left := if_neg h
            refine ⟨(nxt l k p.1, p.2 ++ [p.1]), hnew, ?_⟩
            repeat' (first | (with_reducible refine Unf.h ?_) | ((conv => whnf); first | (refine Side.mk ?_ ?_; focus (first | with_reducible rfl | (simp only [*, hn, en]; done))) | (with_reducible refine Unf.h ?_) | exact True.intro) | fail); all_goals try (conv => whnf)
        · have hg : ¬ goes l k p.1 := fun h' => h h'.2.2
          rw [path_stop hg] at hp2 hp3
          simp only [List.append_nil] at hp2
          repeat' (first | (with_reducible refine Unf.h ?_) | ((conv => whnf); first | (refine Side.mk ?_ ?_; focus (first | with_reducible rfl | (refine congrArg (SV.int _) ?_; omega) | (simp only [*, hp2, hp3]; done))) | exact rfl) | fail); all_goals try (conv => whnf)
      · rw [en] at hb
        have hg : ¬ goes l k p.1 := fun h' => by rw [h'.2.1] at hb; cases hb
        rw [path_stop hg] at hp2 hp3
        simp only [List.append_nil] at hp2
        repeat' (first | (with_reducible refine Unf.h ?_) | ((conv => whnf); first | (refine Side.mk ?_ ?_; focus (first | with_reducible rfl | (refine congrArg (SV.int _) ?_; omega) | (simp only [*, hp2, hp3]; done))) | refine RetE.mk () trivial ?_ | (with_reducible refine Unf.h ?_) | refine retK_r ?_ | exact rfl) | fail); all_goals try (conv => whnf)
    · have hg : ¬ goes l k p.1 := fun h' => h'.1 h
      rw [path_stop hg] at hp2 hp3
      simp only [List.append_nil] at hp2
      clear h
      repeat' (first | (with_reducible refine Unf.h ?_) | ((conv => whnf); first | (refine Side.mk ?_ ?_; focus (first | with_reducible rfl | (refine congrArg (SV.int _) ?_; omega) | (simp only [*, hp2, hp3]; done))) | exact rfl) | fail); all_goals try (conv => whnf)
end Go.Proofs.YtdflndjlnkoliaaGreatDoor

namespace Go.Proofs.YtdflndjlnkoliaaGreatDoor
set_option linter.all false
open Go.RowKit
def joinN (l : Fo) (a b : Int) : Nd :=
  let m := meetP (nd l a).cover (nd l b).cover
  if bitI (nd l a).cover.bits m.len = 1 then ⟨false, zeroH, zeroH, m.len, m.bits, b, a, zeroH⟩ else ⟨false, zeroH, zeroH, m.len, m.bits, a, b, zeroH⟩
def join_c : Ctr where
  D := Fo × Int × Int
  pre := fun (l, a, b) => l.length ≤ 10000000 ∧ inF l a ∧ inF l b
  args := fun (_, a, b) => [.ptr 0 0, .int .i64 a, .int .i64 b]
  objs := fun (l, _) => fo l
  nn := 2
  res := fun (l, _) _ => .int .i64 l.length
  out := fun (l, a, b) _ => [(0, .box 100 [.own 2]), (2, .row 192 132 eNd (l ++ [mk l (joinN l a b)]))]
  mm := 1
def join_H : Cfg := ⟨[(162, cover_c), (163, meet_c), (101, bit_c), (127, add_c)], [(1, [3, 6, 11, 14], [7, 15, 16, 17, 18, 19], (.one 0 0 false (.one 1 0 false (.one 2 0 false (.one 3 1 false (.one 4 0 false (.one 5 0 false (.one 6 1 false (.one 8 0 false (.one 9 0 false (.one 10 0 false (.one 11 1 false (.one 12 0 false (.one 13 0 false (.one 14 1 false (.alt 7 true (.alt 15 true (.alt 16 true (.one 17 2 true (.one 18 2 false (.one 19 2 false .nil))) (.one 17 2 true (.one 16 2 true (.one 18 2 false (.one 19 2 false .nil))))) (.alt 16 true (.alt 15 true (.one 17 2 true (.one 18 2 false (.one 19 2 false .nil))) (.one 17 2 true (.one 15 2 false (.one 18 2 false (.one 19 2 false .nil))))) (.one 17 2 true (.alt 15 true (.one 16 2 true (.one 18 2 false (.one 19 2 false .nil))) (.one 16 2 true (.one 15 2 false (.one 18 2 false (.one 19 2 false .nil)))))))) (.alt 16 true (.alt 7 true (.alt 15 true (.one 17 2 true (.one 18 2 false (.one 19 2 false .nil))) (.one 17 2 true (.one 15 2 false (.one 18 2 false (.one 19 2 false .nil))))) (.one 17 2 true (.one 7 2 true (.one 15 2 false (.one 18 2 false (.one 19 2 false .nil)))))) (.one 17 2 true (.alt 7 true (.alt 15 true (.one 16 2 true (.one 18 2 false (.one 19 2 false .nil))) (.one 16 2 true (.one 15 2 false (.one 18 2 false (.one 19 2 false .nil))))) (.one 16 2 true (.one 7 2 true (.one 15 2 false (.one 18 2 false (.one 19 2 false .nil))))))))))))))))))))))), [])], [], [], 43, 2, [], [1], []⟩
theorem join_ok : join_c.Ok Tryz.prog 128 := by
  refine fn_ok join_H 2 rfl _ Tryz.func128 rfl rfl ⟨cover_ok, meet_ok, bit_ok, add_ok, trivial⟩ rfl rfl (by kernel_rfl) (fun _ => Nat.le_of_ble_eq_true rfl) ?_
  rintro ⟨l, a, b⟩ hp hr
  try dsimp only [join_c] at hp
  try simp only [join_c, Rng, RngL, inR, and_true, true_and] at hr
  obtain ⟨hlen, ⟨ha0, ha1⟩, hb0, hb1⟩ := hp
  have ea := nd_get l a ha0 (by omega)
  have eb := nd_get l b hb0 (by omega)
  repeat' (first | (with_reducible refine Unf.h ?_) | fail); all_goals try (conv => whnf)
  refine CutS.auto (I := Unit) (fun _ => True) (fun _ => [(7, .ptr 2 0), (8, .ptr 3 0)]) (fun _ => [(0, .box 100 [.own 1]), (1, .row 192 132 eNd l), (2, .box 58 (ePfx (nd l a).cover)), (3, .box 58 (ePfx (nd l b).cover))]) 4 ?_ ?_
  · repeat' (first | (with_reducible refine Unf.h ?_) | ((conv => whnf); first | refine Both.mk ?_ ?_ | (refine Side.mk ?_ ?_; focus (omega)) | (refine Idx.mk ?_ ?_; focus (omega))) | fail); all_goals try (conv => whnf)
    all_goals refine CallS.mk (c := cover_c) ((nd l a)) ?_
    all_goals (repeat' (first | (with_reducible refine Unf.h ?_) | ((conv => whnf); first | refine Both.mk ?_ ?_ | (refine Side.mk ?_ ?_; focus (first | exact True.intro | (simp only [*, ea]; done))) | refine Got.mk (fun _ _ => ?_)) | fail); all_goals try (conv => whnf))
    all_goals refine CallS.mk (c := cover_c) ((nd l b)) ?_
    all_goals (repeat' (first | (with_reducible first | refine Unf.h ?_ | refine cutK_n ?_) | ((conv => whnf); first | refine Both.mk ?_ ?_ | (refine Side.mk ?_ ?_; focus (first | exact True.intro | (simp only [*, eb]; done))) | refine Got.mk (fun _ _ => ?_)) | fail); all_goals try (conv => whnf))
    all_goals (refine ⟨(), trivial, ?_⟩)
    all_goals (repeat' (first | (with_reducible refine Unf.h ?_) | ((conv => whnf); first | (refine Side.mk ?_ ?_; focus (with_reducible rfl)) | (with_reducible refine Unf.h ?_) | exact True.intro) | fail); all_goals try (conv => whnf))
  · intro _ _
    repeat' (first | (with_reducible refine Unf.h ?_) | ((conv => whnf); first | refine Fork.mk (fun h => ?_) (fun h => ?_) | (refine Side.mk ?_ ?_; focus (first | with_reducible rfl | exact True.intro)) | refine Got.mk (fun _ _ => ?_) | refine CallS.mk (c := meet_c) (((nd l a).cover, (nd l b).cover)) ?_ | refine CallS.mk (c := bit_c) (((nd l a).cover.bits, (meetP (nd l a).cover (nd l b).cover).len)) ?_) | fail); all_goals try (conv => whnf)
    · have hj : joinN l a b = ⟨false, zeroH, zeroH, (meetP (nd l a).cover (nd l b).cover).len, (meetP (nd l a).cover (nd l b).cover).bits, b, a, zeroH⟩ := if_pos h
      have hadd : addable l (joinN l a b) := .inr (by rw [hj]; exact ⟨⟨hb0, hb1⟩, ha0, ha1⟩)
      refine CallS.mk (c := add_c) ((l, joinN l a b)) ?_
      repeat' (first | (with_reducible refine Unf.h ?_) | ((conv => whnf); first | (refine Side.mk ?_ ?_; focus (first | with_reducible rfl | (refine congrArg (SV.int _) ?_; omega) | (simp only [*, hj]; done) | (dsimp only [resS, join_c, add_c]; (refine ⟨?_, ?_⟩; all_goals (repeat' apply And.intro); all_goals first | omega | assumption | (simp only [lenS, inR, cutS, loI, hiI, hj]; omega) | (simp; done) | (simp only [*, hj]; done) | (simp only [*, hj, List.map_cons, List.map_nil, eB]; done) | (simp [*, hj]; done))))) | refine RetE.mk () trivial ?_ | refine Got.mk (fun _ _ => ?_) | refine retK_r ?_ | exact rfl) | fail); all_goals try (conv => whnf)
    · have hj : joinN l a b = ⟨false, zeroH, zeroH, (meetP (nd l a).cover (nd l b).cover).len, (meetP (nd l a).cover (nd l b).cover).bits, a, b, zeroH⟩ := if_neg h
      have hadd : addable l (joinN l a b) := .inr (by rw [hj]; exact ⟨⟨ha0, ha1⟩, hb0, hb1⟩)
      refine CallS.mk (c := add_c) ((l, joinN l a b)) ?_
      repeat' (first | (with_reducible refine Unf.h ?_) | ((conv => whnf); first | (refine Side.mk ?_ ?_; focus (first | with_reducible rfl | (refine congrArg (SV.int _) ?_; omega) | (simp only [*, hj]; done) | (dsimp only [resS, join_c, add_c]; (refine ⟨?_, ?_⟩; all_goals (repeat' apply And.intro); all_goals first | omega | assumption | (simp only [lenS, inR, cutS, loI, hiI, hj]; omega) | (simp; done) | (simp only [*, hj]; done) | (simp only [*, hj, List.map_cons, List.map_nil, eB]; done) | (simp [*, hj]; done))))) | refine RetE.mk () trivial ?_ | refine Got.mk (fun _ _ => ?_) | refine retK_r ?_ | exact rfl) | fail); all_goals try (conv => whnf)
end Go.Proofs.YtdflndjlnkoliaaGreatDoor

namespace Go.Proofs.YtdflndjlnkoliaaGreatDoor
set_option linter.all false
open Go.RowKit
abbrev leafN (k v : H256) : Nd := ⟨true, k, v, 0, zeroH, 0, 0, zeroH⟩
def turnN (k : H256) (n : Nd) (m : Int) : Nd := if bitI k n.plen = 1 then ⟨n.leaf, n.key, n.value, n.plen, n.bits, n.left, m, n.hash⟩ else ⟨n.leaf, n.key, n.value, n.plen, n.bits, m, n.right, n.hash⟩
def upS (k : H256) (a : Int) (s : Fo × Int) : Fo × Int := (s.1 ++ [mk s.1 (turnN k (nd s.1 a) s.2)], s.1.length)
def upF (k : H256) : List Int → Fo × Int → Fo × Int
  | [], s => s
  | a :: r, s => upS k a (upF k r s)
def meets (l : Fo) (k : H256) (e : Int) : Prop := e ≠ -1 ∧ ¬ ((nd l e).leaf = true ∧ (nd l e).key = k)
instance (l : Fo) (k : H256) (e : Int) : Decidable (meets l k e) := inferInstanceAs (Decidable (_ ∧ ¬ (_ ∧ _)))
def startF (l : Fo) (k v : H256) (e : Int) : Fo × Int :=
  let l1 := l ++ [mk l (leafN k v)]
  if meets l k e then (l1 ++ [mk l1 (joinN l1 e l.length)], l1.length) else (l1, l.length)
def putF (l : Fo) (t : Int) (k v : H256) : Fo × Int := upF k (path l k t).1 (startF l k v (path l k t).2)
theorem path_mem {l : Fo} {k : H256} (hc : closed l) : ∀ (n : Nat) (t : Int), (t + 1).toNat ≤ n → isT l t → (∀ a ∈ (path l k t).1, inF l a ∧ (nd l a).leaf = false) ∧ isT l (path l k t).2
  | n, t, hn, ht => by
    by_cases hg : goes l k t
    · have hx := nxt_ok hc ht hg
      rw [path_go hc ht hg]
      match n with
      | 0 => have := ht.1; omega
      | n + 1 =>
        have ih := path_mem (k := k) hc n (nxt l k t) (by omega) ⟨by omega, by have := ht.2; omega⟩
        refine ⟨fun a ha => ?_, ih.2⟩
        rcases List.mem_cons.1 ha with rfl | ha
        · exact ⟨⟨by have := ht.1; have := hg.1; omega, ht.2⟩, hg.2.1⟩
        · exact ih.1 a ha
    · rw [path_stop hg]; exact ⟨fun a ha => (by cases ha), ht⟩
theorem startF_ok {l : Fo} {k v : H256} {e : Int} : ∃ m, (startF l k v e).1 = l ++ m ∧ 1 ≤ m.length ∧ m.length ≤ 2 ∧ (startF l k v e).2 = l.length + m.length - 1 := by
  unfold startF
  simp only
  split
  · exact ⟨_, List.append_assoc _ _ _, by simp, by simp, by simp; omega⟩
  · exact ⟨_, rfl, by simp, by simp, by simp⟩
theorem upF_ok {l : Fo} {k : H256} {s : Fo × Int} (h : ∃ m, s.1 = l ++ m ∧ 1 ≤ m.length ∧ s.2 = l.length + m.length - 1) : ∀ r : List Int, ∃ m, (upF k r s).1 = l ++ m ∧ 1 ≤ m.length ∧ (upF k r s).2 = l.length + m.length - 1 ∧ (upF k r s).1.length = s.1.length + r.length
  | [] => by obtain ⟨m, h1, h2, h3⟩ := h; exact ⟨m, h1, h2, h3, rfl⟩
  | a :: r => by
    obtain ⟨m, h1, h2, h3, h4⟩ := upF_ok h r
    refine ⟨m ++ [mk (upF k r s).1 (turnN k (nd (upF k r s).1 a) (upF k r s).2)], ?_, by simp, ?_, ?_⟩
    · show (upF k r s).1 ++ _ = _
      conv => lhs; rw [h1]
      rw [List.append_assoc, h1]
    · show ((upF k r s).1.length : Int) = _
      rw [h1]; simp; omega
    · show ((upF k r s).1 ++ _).length = _
      simp only [List.length_append, List.length_cons, List.length_nil]; omega
def put_c : Ctr where
  D := Fo × Int × H256 × H256
  pre := fun (l, t, _, _) => l.length ≤ 400000 ∧ closed l ∧ isT l t
  args := fun (_, t, k, v) => [.ptr 0 0, .int .i64 t, .agg [.arr8 k], .agg [.arr8 v]]
  objs := fun (l, _) => fo l
  nn := 2
  res := fun (l, t, k, v) _ => .tup [.int .i64 (putF l t k v).2, .int .i64 0]
  out := fun (l, t, k, v) _ => [(0, .box 100 [.own 2]), (2, .row 192 132 eNd (putF l t k v).1)]
  mm := 1
def put_H : Cfg := ⟨[(125, is_c), (126, path_c), (127, add_c), (128, join_c), (101, bit_c)], [(7, [6, 10, 15, 19, 20], [], (.one 0 0 false (.one 1 0 false (.one 2 0 false (.one 3 0 false (.one 4 0 false (.one 5 0 false (.one 6 1 false (.one 7 0 false (.one 8 0 false (.one 9 0 false (.one 10 1 false (.one 11 0 false (.one 12 0 false (.one 13 0 false (.one 14 0 false (.one 15 1 false (.one 16 0 false (.one 17 0 false (.one 18 0 false (.one 19 1 false (.one 20 1 false (.one 21 0 false (.one 22 0 false (.one 23 0 false (.one 24 0 false .nil))))))))))))))))))))))))), []), (12, [3, 7, 9], [10, 11], (.one 0 0 false (.one 1 0 false (.one 2 0 false (.one 3 1 false (.one 4 0 false (.one 5 0 false (.one 6 0 false (.one 7 1 false (.one 8 0 false (.one 9 1 false (.one 10 2 true (.one 11 2 false .nil)))))))))))), [])], [65], [], 101, 2, [], [7], []⟩
theorem put_ok : put_c.Ok Tryz.prog 88 := by
  refine fn_ok put_H 2 rfl _ Tryz.func88 rfl rfl ⟨is_ok, path_ok, add_ok, join_ok, bit_ok, trivial⟩ rfl rfl (by kernel_rfl) (fun _ => Nat.le_of_ble_eq_true rfl) ?_
  rintro ⟨l, t, k, v⟩ hp hr
  try dsimp only [put_c] at hp
  try simp only [put_c, Rng, RngL, inR, and_true, true_and] at hr
  obtain ⟨hlen, hc, ht⟩ := hp
  have hpl := path_len (l := l) (k := k) _ t (Nat.le_refl _)
  have ht1 := ht.1
  have ht2 := ht.2
  obtain ⟨hpm, hpe⟩ := path_mem (k := k) hc _ t (Nat.le_refl _) ht
  have hl1 : addable l (leafN k v) := .inl rfl
  have hpre1 : path_c.pre (l, t, k) := ⟨by omega, hc, ht⟩
  have hpre2 : add_c.pre (l, leafN k v) := ⟨by omega, hl1⟩
  repeat' (first | (with_reducible refine Unf.h ?_) | ((conv => whnf); first | refine Fork.mkn (fun h => ?_) (fun h => ?_) | refine Fork.mk (fun h => ?_) (fun h => ?_) | (refine Side.mk ?_ ?_; focus (first | with_reducible rfl | exact True.intro | assumption | omega | (intros; (try simp only [lenS, inR, cutS, loI, hiI] at *); omega))) | refine RetE.mk () trivial ?_ | refine Got.mk (fun _ _ => ?_) | refine retK_r ?_ | exact rfl | refine CallS.mk (c := is_c) ((l, t)) ?_ | refine CallS.mk (c := path_c) ((l, t, k)) ?_ | refine CallS.mk (c := add_c) ((l, leafN k v)) ?_) | fail); all_goals try (conv => whnf)
  rename_i hfull _ _
  generalize hA : (path l k t).1 = A at *
  generalize he : (path l k t).2 = e at *
  clear h
  have hml : (l ++ [mk l (leafN k v)]).length = l.length + 1 := by simp
  have hl1e : startF l k v e = if meets l k e then ((l ++ [mk l (leafN k v)]) ++ [mk (l ++ [mk l (leafN k v)]) (joinN (l ++ [mk l (leafN k v)]) e l.length)], ((l ++ [mk l (leafN k v)]).length : Int)) else (l ++ [mk l (leafN k v)], (l.length : Int)) := rfl
  have hpe1 := hpe.1
  have hpe2 := hpe.2
  generalize hl1d : l ++ [mk l (leafN k v)] = l1 at *
  have hnd : ∀ i : Int, i < l.length → nd l1 i = nd l i := fun i hi => by rw [← hl1d]; exact nd_app _ _ _ hi
  refine CutS.auto (I := Unit) (fun _ => True) (fun _ => [(12, .int .i64 (startF l k v e).2), (10, .own 5)]) (fun _ => [(0, .box 100 [.own 4]), (4, .row 192 132 eNd (startF l k v e).1), (2, .box 30 [.arr8 k]), (3, .box 30 [.arr8 v]), (5, .row 3 1 eI A)]) 6 ?_ ?_
  · repeat' (first | (with_reducible refine Unf.h ?_) | fail); all_goals try (conv => whnf)
    refine CutS.auto (I := Unit) (fun _ => True) (fun _ => [(65, .dec (meets l k e) inferInstance), (10, .own 5)]) (fun _ => [(0, .box 100 [.own 4]), (4, .row 192 132 eNd l1), (2, .box 30 [.arr8 k]), (3, .box 30 [.arr8 v]), (5, .row 3 1 eI A)]) 6 ?_ ?_
    · repeat' (first | (with_reducible first | refine Unf.h ?_ | refine cutK_n ?_) | ((conv => whnf); first | refine Fork.mkn (fun h => ?_) (fun h => ?_) | (refine Side.mk ?_ ?_; focus (omega)) | (refine Idx.mk ?_ ?_; focus (omega))) | fail); all_goals try (conv => whnf)
      · have hin : e.toNat < l1.length := by omega
        have en : l1[e.toNat]'hin = nd l e := by rw [nd_get _ e (by omega) hin, hnd _ hpe2]
        cases hb : (l1[e.toNat]'hin).leaf
        · rw [en] at hb
          have hm : meets l k e := ⟨by assumption, fun h' => by rw [h'.1] at hb; cases hb⟩
          repeat' (first | (with_reducible first | refine Unf.h ?_ | refine cutK_n ?_) | ((conv => whnf); (with_reducible refine Unf.h ?_)) | fail); all_goals try (conv => whnf)
          refine ⟨(), trivial, ?_⟩
          repeat' (first | (with_reducible refine Unf.h ?_) | ((conv => whnf); first | (refine Side.mk ?_ ?_; focus (first | with_reducible rfl | (refine ⟨fun h => ?_, fun h => ?_⟩ <;> first | rfl | (cases h; done) | omega | (exfalso; omega) | (simp only [Bool.false_eq_true] at h; done)))) | (with_reducible refine Unf.h ?_) | exact True.intro) | fail); all_goals try (conv => whnf)
        · rw [en] at hb
          have hm : (¬ (nd l e).key.toList = k.toList) ↔ meets l k e := ⟨fun h' => ⟨by assumption, fun hh => h' (by rw [hh.2])⟩, fun h' hk => h'.2 ⟨hb, Vector.toList_inj.1 hk⟩⟩
          repeat' (first | (with_reducible first | refine Unf.h ?_ | refine cutK_n ?_) | ((conv => whnf); first | (refine Side.mk ?_ ?_; focus (omega)) | (refine Idx.mk ?_ ?_; focus (omega)) | (with_reducible refine Unf.h ?_)) | fail); all_goals try (conv => whnf)
          refine ⟨(), trivial, ?_⟩
          repeat' (first | (with_reducible refine Unf.h ?_) | ((conv => whnf); first | (refine Side.mk ?_ ?_; focus (first | with_reducible rfl | (simp only [*]; done))) | (with_reducible refine Unf.h ?_) | exact True.intro) | fail); all_goals try (conv => whnf)
      · have hm : ¬ meets l k e := fun h' => h'.1 (by assumption)
        all_goals try (conv => whnf)
        refine ⟨(), trivial, ?_⟩
        repeat' (first | ((conv => whnf); (with_reducible refine Unf.h ?_)) | fail); all_goals try (conv => whnf)
        refine Side.mk (iffF hm) ?_
        repeat' (first | (with_reducible refine Unf.h ?_) | ((conv => whnf); first | (refine Side.mk ?_ ?_; focus (with_reducible rfl)) | exact True.intro) | fail); all_goals try (conv => whnf)
    · intro _ _
      repeat' (first | (with_reducible first | refine Unf.h ?_ | refine cutK_n ?_) | ((conv => whnf); refine Fork.mk (fun h => ?_) (fun h => ?_)) | fail); all_goals try (conv => whnf)
      · have hj : join_c.pre (l1, e, (l.length : Int)) := ⟨by omega, ⟨by have := (show meets l k e by assumption).1; omega, by omega⟩, by omega, by omega⟩
        refine CallS.mk (c := join_c) ((l1, e, (l.length : Int))) ?_
        repeat' (first | (with_reducible first | refine Unf.h ?_ | refine cutK_n ?_) | ((conv => whnf); first | (refine Side.mk ?_ ?_; focus (first | with_reducible rfl | assumption)) | refine Got.mk (fun _ _ => ?_)) | fail); all_goals try (conv => whnf)
        have hs : startF l k v e = _ := hl1e.trans (if_pos (by assumption))
        refine ⟨(), trivial, ?_⟩
        repeat' (first | (with_reducible refine Unf.h ?_) | ((conv => whnf); first | (refine Side.mk ?_ ?_; focus (first | with_reducible rfl | (simp only [*, hs]; done))) | (with_reducible refine Unf.h ?_) | exact True.intro) | fail); all_goals try (conv => whnf)
      · have hs : startF l k v e = _ := hl1e.trans (if_neg (by assumption))
        all_goals try (conv => whnf)
        refine ⟨(), trivial, ?_⟩
        repeat' (first | (with_reducible refine Unf.h ?_) | ((conv => whnf); first | (refine Side.mk ?_ ?_; focus (first | with_reducible rfl | (simp only [*, hs]; done))) | (with_reducible refine Unf.h ?_) | exact True.intro) | fail); all_goals try (conv => whnf)
  · intro _ _
    generalize hS : startF l k v e = s0 at *
    have hs0 : ∃ m, s0.1 = l ++ m ∧ 1 ≤ m.length ∧ s0.2 = l.length + m.length - 1 := by
      obtain ⟨m, h1, h2, h3, h4⟩ := startF_ok (l := l) (k := k) (v := v) (e := e)
      rw [hS] at h1 h4
      exact ⟨m, h1, h2, h4⟩
    have hs0l : s0.1.length ≤ l.length + 2 := by
      obtain ⟨m, h1, h2, h3, h4⟩ := startF_ok (l := l) (k := k) (v := v) (e := e)
      rw [hS] at h1
      rw [h1, List.length_append]; omega
    repeat' (first | (with_reducible refine Unf.h ?_) | ((conv => whnf); (refine Side.mk ?_ ?_; focus ((intros; (try simp only [lenS, inR, cutS, loI, hiI] at *); omega)))) | fail); all_goals try (conv => whnf)
    refine LoopS.auto (fun n : Nat => n ≤ A.length) (fun n => [(13, .int .i64 ((n : Int) - 1)), (12, .int .i64 (upF k (A.drop n) s0).2), (10, .own 5)]) (fun n => [(0, .box 100 [.own 4]), (4, .row 192 132 eNd (upF k (A.drop n) s0).1), (2, .box 30 [.arr8 k]), (3, .box 30 [.arr8 v]), (5, .row 3 1 eI A)]) (fun n => n) A.length (Nat.le_refl _) ?_ ?_
    · repeat' (first | (with_reducible refine Unf.h ?_) | ((conv => whnf); first | (refine Side.mk ?_ ?_; focus (first | with_reducible rfl | (simp only [*, List.drop_length, upF]; done))) | (with_reducible refine Unf.h ?_) | exact True.intro) | fail); all_goals try (conv => whnf)
    · intro n hn
      obtain ⟨m, h1, h2, h3, h4⟩ := upF_ok (k := k) hs0 (A.drop n)
      have h1l : (upF k (A.drop n) s0).1.length = l.length + m.length := by rw [h1]; simp
      have hdl : (A.drop n).length ≤ A.length := by simp
      repeat' (first | (with_reducible refine Unf.h ?_) | ((conv => whnf); first | refine Fork.mk (fun h => ?_) (fun h => ?_) | (refine Side.mk ?_ ?_; focus (omega)) | (refine Idx.mk ?_ ?_; focus (omega)) | refine RetE.mk () trivial ?_ | refine retK_r ?_) | fail); all_goals try (conv => whnf)
      · have hidx : ((n : Int) - 1).toNat < A.length := by omega
        obtain ⟨⟨ha0, ha1⟩, hal⟩ := hpm _ (List.getElem_mem hidx)
        have hdrop : A.drop (n - 1) = A[((n : Int) - 1).toNat]'hidx :: A.drop n := by
          have := List.drop_eq_getElem_cons (l := A) (i := n - 1) (by omega)
          rw [this]
          congr 1
          · congr 1; omega
          · congr 1; omega
        have hup : upF k (A.drop (n - 1)) s0 = upS k (A[((n : Int) - 1).toNat]'hidx) (upF k (A.drop n) s0) := by rw [hdrop]; rfl
        generalize hav : A[((n : Int) - 1).toNat]'hidx = av at *
        generalize hL : upF k (A.drop n) s0 = sn at *
        have hbd : av.toNat < sn.1.length := by omega
        have hea : (sn.1)[av.toNat]'hbd = nd sn.1 av := nd_get _ av ha0 _
        have hla : nd sn.1 av = nd l av := by rw [h1]; exact nd_app _ _ _ ha1
        have hch : inF sn.1 (nd sn.1 av).left ∧ inF sn.1 (nd sn.1 av).right := by
          rw [hla]
          rcases hc av ⟨ha0, ha1⟩ with hx | hx
          · rw [hal] at hx; cases hx
          · exact ⟨⟨hx.1.1, by omega⟩, hx.2.1, by omega⟩
        have hM : inF sn.1 sn.2 := ⟨by omega, by omega⟩
        have hadd : add_c.pre (sn.1, turnN k (nd sn.1 av) sn.2) := ⟨by omega, .inr (by unfold turnN; split; exact ⟨hch.1, hM⟩; exact ⟨hM, hch.2⟩)⟩
        have hle : inR sn.2 := ⟨by have := hM.1; omega, by have := hM.2; omega⟩
        have hupe : upS k av sn = (sn.1 ++ [mk sn.1 (turnN k (nd sn.1 av) sn.2)], (sn.1.length : Int)) := rfl
        rw [hupe] at hup
        clear h1 hla hS hl1e hs0 hA hpm hav hL hupe hdrop
        repeat' (first | (with_reducible refine Unf.h ?_) | ((conv => whnf); first | (refine Side.mk ?_ ?_; focus (omega)) | (refine Idx.mk ?_ ?_; focus (omega))) | fail); all_goals try (conv => whnf)
        refine CallS.mk (c := bit_c) ((k, (nd sn.1 av).plen)) ?_
        repeat' (first | (with_reducible refine Unf.h ?_) | ((conv => whnf); first | refine Fork.mk (fun h => ?_) (fun h => ?_) | (refine Side.mk ?_ ?_; focus (first | with_reducible rfl | exact True.intro | (simp only [*, hea]; done))) | refine Got.mk (fun _ _ => ?_)) | fail); all_goals try (conv => whnf)
        · have ht2 : turnN k (nd sn.1 av) sn.2 = _ := if_pos h
          refine CallS.mk (c := add_c) ((sn.1, turnN k (nd sn.1 av) sn.2)) ?_
          rw [ht2] at hadd hup ⊢
          repeat' (first | (with_reducible first | refine Unf.h ?_ | refine loopK_n ?_) | ((conv => whnf); first | (refine Side.mk ?_ ?_; focus (first | with_reducible rfl | assumption | (intros; (try simp only [lenS, inR, cutS, loI, hiI, hea] at *); omega) | (simp only [*, hea]; done))) | refine Got.mk (fun _ _ => ?_)) | fail); all_goals try (conv => whnf)
          refine ⟨n - 1, ⟨by omega, by omega⟩, ?_⟩
          repeat' (first | (with_reducible refine Unf.h ?_) | ((conv => whnf); first | (refine Side.mk ?_ ?_; focus (first | with_reducible rfl | (refine congrArg (SV.int _) ?_; omega) | (simp only [*, hup]; done))) | (with_reducible refine Unf.h ?_) | exact True.intro) | fail); all_goals try (conv => whnf)
        · have ht2 : turnN k (nd sn.1 av) sn.2 = _ := if_neg h
          refine CallS.mk (c := add_c) ((sn.1, turnN k (nd sn.1 av) sn.2)) ?_
          rw [ht2] at hadd hup ⊢
          repeat' (first | (with_reducible first | refine Unf.h ?_ | refine loopK_n ?_) | ((conv => whnf); first | (refine Side.mk ?_ ?_; focus (first | with_reducible rfl | assumption | (intros; (try simp only [lenS, inR, cutS, loI, hiI, hea] at *); omega) | (simp only [*, hea]; done))) | refine Got.mk (fun _ _ => ?_)) | fail); all_goals try (conv => whnf)
          refine ⟨n - 1, ⟨by omega, by omega⟩, ?_⟩
          repeat' (first | (with_reducible refine Unf.h ?_) | ((conv => whnf); first | (refine Side.mk ?_ ?_; focus (first | with_reducible rfl | (refine congrArg (SV.int _) ?_; omega) | (simp only [*, hup]; done))) | (with_reducible refine Unf.h ?_) | exact True.intro) | fail); all_goals try (conv => whnf)
      · have hn0 : n = 0 := by omega
        subst hn0
        have hfin : putF l t k v = upF k (A.drop 0) s0 := by unfold putF; rw [hA, he, hS]; rfl
        repeat' (first | (with_reducible refine Unf.h ?_) | ((conv => whnf); first | (refine Side.mk ?_ ?_; focus (first | with_reducible rfl | (simp only [*, hfin]; done))) | exact rfl) | fail); all_goals try (conv => whnf)
end Go.Proofs.YtdflndjlnkoliaaGreatDoor

namespace Go.Proofs.YtdflndjlnkoliaaGreatDoor
set_option linter.all false
open Go.RowKit
abbrev key1 : H256 := (Vector.replicate 32 0#8).setIfInBounds 0 1#8
theorem closed_nil : closed [] := fun i hi => by have := hi.1; have := hi.2; simp at this; omega
end Go.Proofs.YtdflndjlnkoliaaGreatDoor

namespace Go.Proofs.YtdflndjlnkoliaaGreatDoor
set_option linter.all false
open Go.RowKit
def rootF (l : Fo) (t : Int) : H256 := if t = -1 then emptyH else (nd l t).hash
def root_c : Ctr where
  D := Fo × Int
  pre := fun (l, t) => isT l t
  args := fun (_, t) => [.ptr 0 0, .int .i64 t]
  objs := fun (l, _) => fo l
  nn := 2
  res := fun (l, t) _ => .tup [.agg [.arr8 (rootF l t)], .int .i64 0]
  out := fun (l, _) _ => fo l
def root_H : Cfg := ⟨[(125, is_c), (129, hempty_c)], [], [], [], 24, 2, [], [], []⟩
theorem root_ok : root_c.Ok Tryz.prog 89 := by
  refine fn_ok root_H 2 rfl _ Tryz.func89 rfl rfl ⟨is_ok, hempty_ok, trivial⟩ rfl rfl (by kernel_rfl) (fun _ => Nat.le_of_ble_eq_true rfl) ?_
  rintro ⟨l, t⟩ hp hr
  try dsimp only [root_c] at hp
  try simp only [root_c, Rng, RngL, inR, and_true, true_and] at hr
  obtain ⟨ht0, ht1⟩ := hp
  repeat' (first | (with_reducible refine Unf.h ?_) | ((conv => whnf); first | refine Fork.mkn (fun h => ?_) (fun h => ?_) | refine Fork.mk (fun h => ?_) (fun h => ?_) | (refine Side.mk ?_ ?_; focus (first | with_reducible rfl | exact True.intro | omega)) | (refine Idx.mk ?_ ?_; focus (omega)) | refine RetE.mk () trivial ?_ | refine Got.mk (fun _ _ => ?_) | refine retK_r ?_ | exact rfl | refine CallS.mk (c := is_c) ((l, t)) ?_ | refine CallS.mk (c := hempty_c) (()) ?_) | fail); all_goals try (conv => whnf)
  · refine Side.mk (congrArg SV.arr8 (if_pos h).symm) (by repeat' (first | (with_reducible refine Unf.h ?_) | ((conv => whnf); first | (refine Side.mk ?_ ?_; focus (with_reducible rfl)) | exact rfl) | fail); all_goals try (conv => whnf))
  · refine Side.mk (congrArg SV.arr8 ?_) (by repeat' (first | (with_reducible refine Unf.h ?_) | ((conv => whnf); first | (refine Side.mk ?_ ?_; focus (with_reducible rfl)) | exact rfl) | fail); all_goals try (conv => whnf))
    rw [nd_get l t (by omega) (by omega)]
    exact (if_neg h).symm
end Go.Proofs.YtdflndjlnkoliaaGreatDoor

namespace Go.Proofs.YtdflndjlnkoliaaGreatDoor
set_option linter.all false
open Go.RowKit
inductive PT where
  | leaf (k v : H256)
  | node (p : Pfx) (a b : PT)
def PT.hash : PT → H256
  | .leaf k v => sha (leafT k v)
  | .node p a b => sha (innerT p.len p.bits a.hash b.hash)
def PT.cover : PT → Pfx
  | .leaf k _ => cutP k 256
  | .node p _ _ => p
def PT.depth : PT → Nat
  | .leaf _ _ => 0
  | .node _ a b => max a.depth b.depth + 1
def den (l : Fo) : Int → PT → Prop
  | t, .leaf k v => inF l t ∧ nd l t = ⟨true, k, v, 0, zeroH, -1, -1, sha (leafT k v)⟩
  | t, .node p a b => inF l t ∧ ∃ x y, nd l t = ⟨false, zeroH, zeroH, p.len, p.bits, x, y, sha (innerT p.len p.bits a.hash b.hash)⟩ ∧ den l x a ∧ den l y b
theorem den_in {l : Fo} {t : Int} {T : PT} (h : den l t T) : inF l t := by cases T <;> exact h.1
theorem den_hash {l : Fo} {t : Int} {T : PT} (h : den l t T) : (nd l t).hash = T.hash := by
  cases T with
  | leaf k v => rw [h.2]; rfl
  | node p a b => obtain ⟨_, x, y, e, _⟩ := h; rw [e]; rfl
theorem den_cover {l : Fo} {t : Int} {T : PT} (h : den l t T) : (nd l t).cover = T.cover := by
  cases T with
  | leaf k v => rw [h.2]; rfl
  | node p a b => obtain ⟨_, x, y, e, _⟩ := h; rw [e]; rfl
theorem inF_app {l m : Fo} {t : Int} (h : inF l t) : inF (l ++ m) t := ⟨h.1, by rw [List.length_append]; have := h.2; omega⟩
theorem den_app {l m : Fo} : ∀ {T : PT} {t : Int}, den l t T → den (l ++ m) t T
  | .leaf k v, t, h => ⟨inF_app h.1, by rw [nd_app _ _ _ h.1.2]; exact h.2⟩
  | .node p a b, t, h => by
    obtain ⟨h0, x, y, e, ha, hb⟩ := h
    exact ⟨inF_app h0, x, y, by rw [nd_app _ _ _ h0.2]; exact e, den_app ha, den_app hb⟩
theorem inF_last (l : Fo) (n : Nd) : inF (l ++ [n]) (l.length : Int) := ⟨by omega, by simp; omega⟩
theorem den_leaf (l : Fo) (k v : H256) : den (l ++ [mk l (leafN k v)]) (l.length : Int) (.leaf k v) := ⟨inF_last _ _, nd_last _ _⟩
theorem den_node {l : Fo} {n : Nd} {a b : PT} (hl : n.leaf = false) (ha : den l n.left a) (hb : den l n.right b) : den (l ++ [mk l n]) (l.length : Int) (.node n.pfx a b) := by
  refine ⟨inF_last _ _, n.left, n.right, ?_, den_app ha, den_app hb⟩
  rw [nd_last]
  unfold mk
  rw [hl, if_neg (by decide), den_hash ha, den_hash hb]
  rfl
def PT.join (a b : PT) : PT :=
  let m := meetP a.cover b.cover
  if bitI a.cover.bits m.len = 1 then .node m b a else .node m a b
def PT.ins (k v : H256) : PT → PT
  | .leaf k' v' => if k' = k then .leaf k v else PT.join (.leaf k' v') (.leaf k v)
  | .node p a b => if holdsP p k then (if bitI k p.len = 1 then .node p a (PT.ins k v b) else .node p (PT.ins k v a) b) else PT.join (.node p a b) (.leaf k v)
theorem join_depth (a b : PT) : (PT.join a b).depth = max a.depth b.depth + 1 := by
  unfold PT.join; simp only; split
  · simp [PT.depth, Nat.max_comm]
  · rfl
theorem ins_depth (k v : H256) : ∀ T : PT, (T.ins k v).depth ≤ T.depth + 1
  | .leaf k' v' => by
    unfold PT.ins; split
    · simp [PT.depth]
    · rw [join_depth]; simp [PT.depth]
  | .node p a b => by
    unfold PT.ins
    have ha := ins_depth k v a
    have hb := ins_depth k v b
    split
    · split
      · simp only [PT.depth]; omega
      · simp only [PT.depth]; omega
    · rw [join_depth]; simp only [PT.depth]; omega
theorem closed_app {l : Fo} {n : Nd} (hc : closed l) (ha : addable l n) : closed (l ++ [mk l n]) := by
  intro i hi
  by_cases h : i < l.length
  · rw [nd_app _ _ _ h]; exact hc i ⟨hi.1, h⟩
  · have e : i = (l.length : Int) := by have := hi.2; simp at this; omega
    subst e
    rw [nd_last]
    unfold mk
    by_cases hl : n.leaf = true
    · rw [if_pos hl]; exact .inl rfl
    · rw [if_neg hl]
      rcases ha with ha | ⟨h1, h2⟩
      · exact absurd ha hl
      · exact .inr ⟨⟨h1.1, h1.2⟩, h2.1, h2.2⟩
theorem joinN_add {l : Fo} {a b : Int} (ha : inF l a) (hb : inF l b) : addable l (joinN l a b) := by
  refine .inr ?_
  unfold joinN; simp only
  split
  · exact ⟨hb, ha⟩
  · exact ⟨ha, hb⟩
theorem closed_start {l : Fo} {k v : H256} {e : Int} (hc : closed l) (he : isT l e) : closed (startF l k v e).1 := by
  unfold startF
  have h1 := closed_app (n := leafN k v) hc (.inl rfl)
  simp only
  split
  · rename_i hm
    refine closed_app h1 (joinN_add ?_ (inF_last _ _))
    exact inF_app ⟨by have := hm.1; have := he.1; omega, he.2⟩
  · exact h1
theorem closed_up {l : Fo} {k : H256} {s : Fo × Int} (hc : closed l) (h : ∃ m, s.1 = l ++ m ∧ 1 ≤ m.length ∧ s.2 = l.length + m.length - 1) (hs : closed s.1) : ∀ r : List Int, (∀ a ∈ r, inF l a ∧ (nd l a).leaf = false) → closed (upF k r s).1
  | [], _ => hs
  | a :: r, hr => by
    have ih := closed_up (k := k) hc h hs r fun x hx => hr x (by simp [hx])
    obtain ⟨m, h1, h2, h3, _⟩ := upF_ok (k := k) h r
    obtain ⟨ha, hal⟩ := hr a (by simp)
    refine closed_app ih (.inr ?_)
    have hnd : nd (upF k r s).1 a = nd l a := by rw [h1]; exact nd_app _ _ _ ha.2
    have hM : inF (upF k r s).1 (upF k r s).2 := ⟨by omega, by rw [h1, List.length_append]; omega⟩
    have hch : inF (upF k r s).1 (nd l a).left ∧ inF (upF k r s).1 (nd l a).right := by
      rcases hc a ha with hx | hx
      · rw [hal] at hx; cases hx
      · rw [h1]
        have := ha.2
        exact ⟨inF_app ⟨hx.1.1, by omega⟩, inF_app ⟨hx.2.1, by omega⟩⟩
    rw [hnd]
    unfold turnN; split
    · exact ⟨hch.1, hM⟩
    · exact ⟨hM, hch.2⟩
theorem start_ok' (l : Fo) (k v : H256) (e : Int) : ∃ m, (startF l k v e).1 = l ++ m ∧ 1 ≤ m.length ∧ (startF l k v e).2 = l.length + m.length - 1 := by
  obtain ⟨m, h1, h2, _, h4⟩ := startF_ok (l := l) (k := k) (v := v) (e := e)
  exact ⟨m, h1, h2, h4⟩
theorem put_ok' {l : Fo} {t : Int} {k v : H256} (hc : closed l) (ht : isT l t) : closed (putF l t k v).1 ∧ (∃ m, (putF l t k v).1 = l ++ m) ∧ inF (putF l t k v).1 (putF l t k v).2 ∧ (putF l t k v).1.length ≤ l.length + 2 + (path l k t).1.length := by
  obtain ⟨hpm, hpe⟩ := path_mem (k := k) hc _ t (Nat.le_refl _) ht
  have hs := start_ok' l k v (path l k t).2
  obtain ⟨m, h1, h2, h3, h4⟩ := upF_ok (k := k) hs (path l k t).1
  refine ⟨closed_up hc hs (closed_start hc hpe) _ hpm, ⟨m, h1⟩, ⟨?_, ?_⟩, ?_⟩
  · show 0 ≤ (upF k _ _).2; omega
  · show (upF k _ _).2 < _
    have : (putF l t k v).1 = l ++ m := h1
    rw [this, List.length_append]; omega
  · have : (putF l t k v).1.length = _ := h4
    obtain ⟨m', g1, g2, g3, g4⟩ := startF_ok (l := l) (k := k) (v := v) (e := (path l k t).2)
    rw [this, g1, List.length_append]; omega
theorem path_den {l : Fo} {k : H256} : ∀ {T : PT} {t : Int}, den l t T → (path l k t).1.length ≤ T.depth
  | .leaf k' v', t, h => by
    rw [path_stop fun hg => by have := hg.2.1; rw [h.2] at this; exact absurd this (by simp)]; simp
  | .node p a b, t, h => by
    obtain ⟨h0, x, y, e, ha, hb⟩ := h
    rw [path]
    split
    · have hn : nxt l k t = y ∨ nxt l k t = x := by
        unfold nxt; rw [e]; simp only; split
        · exact .inl rfl
        · exact .inr rfl
      simp only [List.length_cons, PT.depth]
      rcases hn with hn | hn <;> rw [hn]
      · have := path_den (k := k) hb; omega
      · have := path_den (k := k) ha; omega
    · simp
theorem start_den {l : Fo} {k v : H256} {t : Int} {T : PT} (h : den l t T) (hT : (∃ v', T = .leaf k v') → False) : den (startF l k v t).1 (startF l k v t).2 (PT.join T (.leaf k v)) := by
  have hin := den_in h
  have hm : meets l k t := by
    refine ⟨by have := hin.1; omega, fun hh => ?_⟩
    cases T with
    | leaf k' v' => rw [h.2] at hh; exact hT ⟨v', by rw [← hh.2]⟩
    | node p a b => obtain ⟨_, x, y, e, _⟩ := h; rw [e] at hh; exact absurd hh.1 (by simp)
  have h1 := den_app (m := [mk l (leafN k v)]) h
  have h2 := den_leaf l k v
  unfold startF
  simp only
  rw [if_pos hm]
  have c1 := den_cover h1
  have c2 := den_cover h2
  unfold joinN PT.join
  simp only [c1, c2]
  split
  · exact den_node (n := ⟨false, zeroH, zeroH, _, _, _, _, zeroH⟩) rfl h2 h1
  · exact den_node (n := ⟨false, zeroH, zeroH, _, _, _, _, zeroH⟩) rfl h1 h2
theorem put_den {l : Fo} {k v : H256} (hc : closed l) : ∀ {T : PT} {t : Int}, den l t T → den (putF l t k v).1 (putF l t k v).2 (T.ins k v)
  | .leaf k' v', t, h => by
    have hp : path l k t = ([], t) := path_stop fun hg => by have := hg.2.1; rw [h.2] at this; exact absurd this (by simp)
    unfold putF
    rw [hp]
    show den (startF l k v t).1 (startF l k v t).2 _
    unfold PT.ins
    by_cases hk : k' = k
    · rw [if_pos hk]
      subst hk
      have hm : ¬ meets l k' t := fun hm => hm.2 ⟨by rw [h.2], by rw [h.2]⟩
      unfold startF
      simp only
      rw [if_neg hm]
      exact den_leaf l k' v
    · rw [if_neg hk]
      exact start_den h fun ⟨v2, e⟩ => hk (by cases e; rfl)
  | .node p a b, t, h => by
    have hd := h
    obtain ⟨h0, x, y, e, ha, hb⟩ := h
    have hpfx : (nd l t).pfx = p := by rw [e]; rfl
    unfold PT.ins
    by_cases hh : holdsP p k
    · rw [if_pos hh]
      have ht : isT l t := ⟨by have := h0.1; omega, h0.2⟩
      have hg : goes l k t := ⟨by have := h0.1; omega, by rw [e], by rw [hpfx]; exact hh⟩
      have hput : putF l t k v = upS k t (putF l (nxt l k t) k v) := by
        unfold putF
        rw [path_go hc ht hg]; rfl
      have hx := nxt_ok hc ht hg
      obtain ⟨hc', ⟨m, hm⟩, hin', _⟩ := put_ok' (k := k) (v := v) hc (show isT l (nxt l k t) from ⟨by omega, by have := h0.2; omega⟩)
      have hnd : nd (putF l (nxt l k t) k v).1 t = nd l t := by rw [hm]; exact nd_app _ _ _ h0.2
      rw [hput]
      show den (_ ++ [mk _ _]) _ _
      rw [hnd, e]
      by_cases hbit : bitI k p.len = 1
      · have hn : nxt l k t = y := by unfold nxt; rw [e]; exact if_pos hbit
        rw [if_pos hbit]
        have ih := put_den (k := k) (v := v) hc hb
        rw [hn] at hm ⊢
        have hta : turnN k ⟨false, zeroH, zeroH, p.len, p.bits, x, y, sha (innerT p.len p.bits a.hash b.hash)⟩ (putF l y k v).2 = ⟨false, zeroH, zeroH, p.len, p.bits, x, (putF l y k v).2, sha (innerT p.len p.bits a.hash b.hash)⟩ := if_pos hbit
        rw [hta]
        exact den_node (n := ⟨false, zeroH, zeroH, p.len, p.bits, x, (putF l y k v).2, _⟩) rfl (by rw [hm]; exact den_app ha) ih
      · have hn : nxt l k t = x := by unfold nxt; rw [e]; exact if_neg hbit
        rw [if_neg hbit]
        have ih := put_den (k := k) (v := v) hc ha
        rw [hn] at hm ⊢
        have hta : turnN k ⟨false, zeroH, zeroH, p.len, p.bits, x, y, sha (innerT p.len p.bits a.hash b.hash)⟩ (putF l x k v).2 = ⟨false, zeroH, zeroH, p.len, p.bits, (putF l x k v).2, y, sha (innerT p.len p.bits a.hash b.hash)⟩ := if_neg hbit
        rw [hta]
        exact den_node (n := ⟨false, zeroH, zeroH, p.len, p.bits, (putF l x k v).2, y, _⟩) rfl ih (by rw [hm]; exact den_app hb)
    · rw [if_neg hh]
      have hp : path l k t = ([], t) := path_stop fun hg => hh (by rw [← hpfx]; exact hg.2.2)
      unfold putF
      rw [hp]
      exact start_den hd fun ⟨v', e⟩ => by cases e
end Go.Proofs.YtdflndjlnkoliaaGreatDoor

namespace Go.Proofs.YtdflndjlnkoliaaGreatDoor
set_option linter.all false
open Go.RowKit
abbrev KV := H256 × H256
def eKV (p : KV) : List SV := [.arr8 p.1, .arr8 p.2]
def builtF (ps : List KV) : Fo × Int := ps.foldl (fun s p => putF s.1 s.2 p.1 p.2) ([], -1)
def treesF (ps : List KV) : Option PT := ps.foldl (fun o p => some (match o with | none => .leaf p.1 p.2 | some T => T.ins p.1 p.2)) none
theorem builtF_snoc (ps : List KV) (p : KV) : builtF (ps ++ [p]) = putF (builtF ps).1 (builtF ps).2 p.1 p.2 := by unfold builtF; rw [List.foldl_append]; rfl
theorem treesF_snoc (ps : List KV) (p : KV) : treesF (ps ++ [p]) = some (match treesF ps with | none => .leaf p.1 p.2 | some T => T.ins p.1 p.2) := by unfold treesF; rw [List.foldl_append]; rfl
def treeAt (l : Fo) (t : Int) : Option PT → Prop
  | none => t = -1
  | some T => den l t T
theorem treeAt_is {l : Fo} {t : Int} : ∀ {o : Option PT}, treeAt l t o → isT l t
  | none, h => by have : t = -1 := h; exact ⟨by omega, by omega⟩
  | some T, h => ⟨by have := (den_in h).1; omega, (den_in h).2⟩
theorem treeAt_app {l m : Fo} {t : Int} : ∀ {o : Option PT}, treeAt l t o → treeAt (l ++ m) t o
  | none, h => h
  | some T, h => den_app h
def depthO : Option PT → Nat
  | none => 0
  | some T => T.depth
theorem put_none' (l : Fo) (k v : H256) : putF l (-1) k v = (l ++ [mk l (leafN k v)], (l.length : Int)) := by
  unfold putF
  rw [path_stop fun h => h.1 rfl]
  show startF l k v (-1) = _
  unfold startF
  rw [if_neg (fun h => h.1 rfl)]
theorem treeAt_put {l : Fo} {t : Int} {k v : H256} (hc : closed l) : ∀ {o : Option PT}, treeAt l t o → treeAt (putF l t k v).1 (putF l t k v).2 (some (match o with | none => .leaf k v | some T => T.ins k v))
  | none, h => by
    have : t = -1 := h
    subst this
    rw [put_none']
    exact den_leaf l k v
  | some T, h => put_den hc h
theorem path_treeAt {l : Fo} {t : Int} {k : H256} : ∀ {o : Option PT}, treeAt l t o → (path l k t).1.length ≤ depthO o
  | none, h => by
    have : t = -1 := h
    subst this
    rw [path_stop fun h => h.1 rfl]; simp
  | some T, h => path_den h
theorem depthO_ins (k v : H256) : ∀ o : Option PT, depthO (some (match o with | none => .leaf k v | some T => T.ins k v)) ≤ depthO o + 1
  | none => by simp [depthO, PT.depth]
  | some T => ins_depth k v T
structure BuiltOk (ps : List KV) : Prop where
  closed : closed (builtF ps).1
  tree : treeAt (builtF ps).1 (builtF ps).2 (treesF ps)
  depth : depthO (treesF ps) ≤ ps.length
  size : (builtF ps).1.length ≤ ps.length * (ps.length + 2)
theorem builtOk_aux : ∀ (n : Nat) (ps : List KV), ps.length = n → BuiltOk ps
  | 0, ps, h => by
    obtain rfl := List.eq_nil_of_length_eq_zero h
    exact ⟨closed_nil, rfl, Nat.le_refl _, Nat.le_refl _⟩
  | n + 1, ps, h => by
    have hne : ps ≠ [] := fun e => by subst e; cases h
    obtain ⟨qs, p, rfl⟩ : ∃ qs p, ps = qs ++ [p] := ⟨ps.dropLast, ps.getLast hne, (List.dropLast_concat_getLast hne).symm⟩
    have hq : qs.length = n := by simpa using h
    obtain ⟨h1, h2, h3, h4⟩ := builtOk_aux n qs hq
    have ht := treeAt_is h2
    obtain ⟨g1, g2, g3, g4⟩ := put_ok' (k := p.1) (v := p.2) h1 ht
    refine ⟨?_, ?_, ?_, ?_⟩
    · rw [builtF_snoc]; exact g1
    · rw [builtF_snoc, treesF_snoc]; exact treeAt_put h1 h2
    · rw [treesF_snoc]
      refine Nat.le_trans (depthO_ins _ _ _) ?_
      simp; omega
    · rw [builtF_snoc]
      refine Nat.le_trans g4 ?_
      have := path_treeAt (k := p.1) h2
      have e : (qs ++ [p]).length = n + 1 := by simp [hq]
      rw [e]
      rw [hq] at h3 h4
      have : (n + 1) * (n + 1 + 2) = n * (n + 2) + (2 * n + 3) := by
        simp [Nat.add_mul, Nat.mul_add]; omega
      omega
theorem builtOk (ps : List KV) : BuiltOk ps := builtOk_aux _ ps rfl
end Go.Proofs.YtdflndjlnkoliaaGreatDoor

namespace Go.Proofs.YtdflndjlnkoliaaGreatDoor
set_option linter.all false
open Go.RowKit
structure Stp where
  len : Int
  bits : H256
  other : H256
def eStp (s : Stp) : List SV := [.int .i64 s.len, .arr8 s.bits, .arr8 s.other]
def Stp.pfx (s : Stp) : Pfx := ⟨s.len, s.bits⟩
structure Prf where
  steps : List Stp
  fin : Int
  key : H256
  value : H256
  plen : Int
  bits : H256
  left : H256
  right : H256
def ePrf (p : Prf) : List SV := [.fs 65 eStp p.steps, .int .i64 p.fin, .arr8 p.key, .arr8 p.value, .int .i64 p.plen, .arr8 p.bits, .arr8 p.left, .arr8 p.right]
def Prf.pfx (p : Prf) : Pfx := ⟨p.plen, p.bits⟩
def finOk (p : Prf) : Prop := 0 ≤ p.fin ∧ p.fin ≤ 2
instance (p : Prf) : Decidable (finOk p) := inferInstanceAs (Decidable (_ ∧ _))
def endT (p : Prf) : Bs := if p.fin = 0 then txt 101#8 [] else if p.fin = 1 then leafT p.key p.value else innerT p.plen p.bits p.left p.right
def stepT (k : H256) (s : Stp) (t : Bs) : Bs := if bitI k s.len = 1 then innerT s.len s.bits s.other (sha t) else innerT s.len s.bits (sha t) s.other
def topT (p : Prf) (k : H256) : List Stp → Bs
  | [] => endT p
  | s :: r => stepT k s (topT p k r)
end Go.Proofs.YtdflndjlnkoliaaGreatDoor

namespace Go.Proofs.YtdflndjlnkoliaaGreatDoor
set_option linter.all false
open Go.RowKit
def down (k : H256) : Pfx → List Stp → Option Pfx
  | room, [] => some room
  | room, s :: r => if holdsP s.pfx k ∧ withinP room s.pfx ∧ childOk s.pfx (bitI k s.len) then down k (childP s.pfx (bitI k s.len)) r else none
def endP (room : Pfx) (p : Prf) (k : H256) : Prop := p.fin = 0 ∧ p.steps.length = 0 ∨ p.fin = 1 ∧ holdsP room p.key ∨ p.fin = 2 ∧ p.plen < 256 ∧ withinP room p.pfx ∧ ¬ holdsP p.pfx k
instance (room : Pfx) (p : Prf) (k : H256) : Decidable (endP room p k) := inferInstanceAs (Decidable (_ ∧ _ ∨ _ ∧ _ ∨ _ ∧ _ ∧ _ ∧ ¬ _))
def fitsP (p : Prf) (k : H256) : Prop := match down k zeroP p.steps with
  | none => False
  | some room => endP room p k
instance (p : Prf) (k : H256) : Decidable (fitsP p k) := by
  unfold fitsP; split <;> infer_instance
end Go.Proofs.YtdflndjlnkoliaaGreatDoor

namespace Go.Proofs.YtdflndjlnkoliaaGreatDoor
set_option linter.all false
open Go.RowKit
def okP (p : Prf) (k root : H256) : Prop := fitsP p k ∧ sha (topT p k p.steps) = root
instance (p : Prf) (k root : H256) : Decidable (okP p k root) := inferInstanceAs (Decidable (_ ∧ _))
def hasP (p : Prf) (k root : H256) : Prop := okP p k root ∧ p.fin = 1 ∧ p.key = k
instance (p : Prf) (k root : H256) : Decidable (hasP p k root) := inferInstanceAs (Decidable (_ ∧ _ ∧ _))
end Go.Proofs.YtdflndjlnkoliaaGreatDoor

namespace Go.Proofs.YtdflndjlnkoliaaGreatDoor
set_option linter.all false
open Go.RowKit
def stepsT (k : H256) : PT → List Stp
  | .leaf _ _ => []
  | .node p a b => if holdsP p k then (if bitI k p.len = 1 then ⟨p.len, p.bits, a.hash⟩ :: stepsT k b else ⟨p.len, p.bits, b.hash⟩ :: stepsT k a) else []
def lastT (k : H256) : PT → PT
  | .leaf k' v' => .leaf k' v'
  | .node p a b => if holdsP p k then (if bitI k p.len = 1 then lastT k b else lastT k a) else .node p a b
def stepsO (k : H256) : Option PT → List Stp
  | none => []
  | some T => stepsT k T
def lastO (k : H256) : Option PT → Option PT
  | none => none
  | some T => some (lastT k T)
def prfOf (s : List Stp) : Option PT → Prf
  | none => ⟨s, 0, zeroH, zeroH, 0, zeroH, zeroH, zeroH⟩
  | some (.leaf k v) => ⟨s, 1, k, v, 0, zeroH, zeroH, zeroH⟩
  | some (.node p a b) => ⟨s, 2, zeroH, zeroH, p.len, p.bits, a.hash, b.hash⟩
def showP (k : H256) (o : Option PT) : Prf := prfOf (stepsO k o) (lastO k o)
theorem steps_len (k : H256) : ∀ T : PT, (stepsT k T).length ≤ T.depth
  | .leaf _ _ => Nat.le_refl _
  | .node p a b => by
    have ha := steps_len k a
    have hb := steps_len k b
    unfold stepsT
    split
    · split
      · simp only [List.length_cons, PT.depth]; omega
      · simp only [List.length_cons, PT.depth]; omega
    · simp
end Go.Proofs.YtdflndjlnkoliaaGreatDoor

namespace Go.Proofs.YtdflndjlnkoliaaGreatDoor
set_option linter.all false
open Go.RowKit
set_option maxRecDepth 100000 in
set_option maxHeartbeats 4000000 in
theorem sgrow_raw (n : Nat) (h1 : 1 ≤ n) (h2 : n ≤ 1000000000) (w : World) : Calls Tryz.prog 187 #[.slice none 0 0, .int .i64 (n : Int)] w fun e w' => ∃ c C, e = .returned (.slice (some ⟨w.heap.size, 0, none⟩) 0 c) ∧ c ≤ maxLen ∧ C.size = c ∧ w' = w.drew.alloc (.cells C 5) := by
  obtain ⟨i0, d0, hi0, hd0, hz0, hb0, _⟩ := ty_spec (P := Tryz.prog) (t := 5) (i := ⟨.int .u8, 1, 1⟩) rfl
  obtain ⟨i1, z, hi1, hz, hs1, hc1⟩ := zero_spec (P := Tryz.prog) (t := 5) (c := [.u8 0#8]) rfl
  rw [hi0] at hi1; cases hi1
  have hb0 : i0.bytes = 1 := hb0
  have hz0 : i0.size = 1 := hz0
  have hzc : z.cells.size = 1 := by
    have := (hc1 w (fun _ => False) (fun _ => none)).len
    simpa [szL, SV.sz] using this
  have hh1 : ¬ ((n : Int) < 0) := by omega
  have hh2 : wrap64 ((0 : Int) - 0) = 0 := by unfold wrap64; omega
  have hh3 : wrap64 ((n : Int) - 0) = (n : Int) := by unfold wrap64; omega
  have hh4 : (n : Int) > 0 := by omega
  have hold : (Builtin.firstCells i0.size 0 (.slice none 0 0)).run Tryz.prog w.drew = .ok (([] : List Value).toArray) w.drew := run_firstCells_none w.drew i0.size 0 0 0
  have hfit : Builtin.nextslicecap (0 + n) 0 * i0.bytes ≤ 281474976710656 := growslice_fits (by omega) (by rw [hb0]; omega)
  have hrz : ∀ ty, (Builtin.append_ #[46, 3] ty #[.slice none 0 0, .int .i64 (n : Int)]).run Tryz.prog w =
      .ok (.slice (some ⟨w.heap.size, 0, none⟩) n (grownCap w n 0 5)) (w.drew.alloc (.cells (#[] ++ Builtin.zeroCells z.cells n ++ Builtin.zeroCells z.cells (grownCap w n 0 5 - n)) 5)) := fun ty => by
    have h := Lib.run_append_grow_zeros w 46 3 ty 5 i0 z .i64 .i64 Tryz.underlying46 Tryz.underlying3 hi0 hz none 0 0 [] hold n (by omega) (by omega) (by omega) (by omega) (by rw [hb0]; omega) hfit
    simpa using h
  have hGn : n ≤ grownCap w n 0 5 := grownCap_ge w _ _ _
  have hGm : grownCap w n 0 5 ≤ maxLen := grownCap_le_maxLen w n 0 5 (by unfold maxLen; omega)
  generalize grownCap w n 0 5 = G at *
  have hG63 : G ≤ 9223372036854775807 := by unfold maxLen at hGm; omega
  clear hold hfit hc1
  generalize z.cells = zc at hrz hzc
  clear hz
  go_enter Tryz.func187, Tryz.ntmps187
  go_wp2_with (at_builtin; refine Lib.wpList_append_run _ rfl _ _ _ _ rfl _ _ rfl rfl _ _ (hrz _) ?_)
  all_goals go_ret
  exact ⟨G, rfl, hGm, _, by simp [Builtin.zeroCells, hzc]; omega, rfl⟩
def sgrow_c : Ctr where
  D := Nat
  pre := fun n => 1 ≤ n ∧ n ≤ 1000000000
  args := fun n => [.nils, .int .i64 (n : Int)]
  res := fun _ _ => .own 0
  out := fun _ _ => [(0, .row 5 1 eB [])]
  mm := 1
theorem sgrow_ok : sgrow_c.Ok Tryz.prog 187 := by
  intro n ⟨h1, h2⟩ A0 w σ vs hA hobs hargs hdom hgl
  obtain ⟨v0, m, rfl, h0, v1, m1, rfl, h1', rfl⟩ := hargs
  simp only [SV.h1, SV.hc, List.cons.injEq, and_true] at h0 h1'
  subst h0
  obtain ⟨rfl, _⟩ := h1'
  refine (sgrow_raw n h1 h2 w).mono ?_
  rintro en w' ⟨c, C, rfl, hcm, hcs, rfl⟩
  have hg : (w.drew.alloc (.cells C 5)).heap[w.heap.size]? = some (.cells C 5 (0, 0)) := heap_alloc_new w.drew _
  have hm : Mod (fun _ => False) w (w.drew.alloc (.cells C 5)) := (Mod.drew _ w).trans (Mod.alloc _ _ _)
  have hs1 : σ.set 0 (.slice (some ⟨w.heap.size, 0, none⟩) 0 c) 0 = some (.slice (some ⟨w.heap.size, 0, none⟩) 0 c) := Sg.set_self _ _ _
  have hrow1 : ∀ k, SO.own (σ.set 0 (.slice (some ⟨w.heap.size, 0, none⟩) 0 c)) 0 (.row 5 1 eB []) k ↔ w.heap.size = k := fun k => ⟨fun ⟨u, hu, hk⟩ => by rw [hs1] at hu; cases hu; simpa [blkO] using hk, fun hk => ⟨_, hs1, by simp [blkO, hk]⟩⟩
  refine ⟨(), _, σ.set 0 (.slice (some ⟨w.heap.size, 0, none⟩) 0 c), rfl, trivial, fun k hk x hx => ?_, fun k hk => ?_, ⟨_, hs1, rfl, rfl⟩, hm.mono fun k hk => hk.elim, ⟨fun o ho => ?_, ⟨fun _ _ x => x, trivial⟩, fun k hk => ?_⟩, fun k hk => ?_⟩
  · cases hk
  · have hk1 : 1 ≤ k := hk
    show (if k = 0 then _ else σ k) = none
    rw [if_neg (by omega)]; exact hdom k (Nat.zero_le _)
  · rcases List.mem_cons.1 ho with rfl | ho
    · exact ⟨_, [], hs1, fun e he => (by cases he), Nat.zero_le _, rfl, by simp, .inr ⟨w.heap.size, c, C, rfl, Nat.zero_le _, hg, Nat.zero_le _, hcm, by omega, by simp⟩⟩
    · cases ho
  · have := (hrow1 k).1 (hk.resolve_right (fun x => x))
    subst this
    exact ⟨(Array.getElem?_eq_some_iff.1 hg).1, fun hx => by have := hA _ hx; omega⟩
  · have := (hrow1 k).1 (hk.resolve_right (fun x => x))
    subst this
    exact Or.inr (Nat.le_refl _)
end Go.Proofs.YtdflndjlnkoliaaGreatDoor

namespace Go.Proofs.YtdflndjlnkoliaaGreatDoor
set_option linter.all false
section
structure Vr (H B : Type) where
  num : Int
  ep : Int
  salt : H
  before : H
  val : List B
variable {H B : Type} (cm : Vr H B → H)
def okV (i : Nat) (b : H) (e : Int) (v : Vr H B) : Prop := v.num = (i : Int) + 1 ∧ e < v.ep ∧ v.ep < 2147483648 ∧ v.before = b ∧ v.val.length ≤ 64
def fmV : Nat → H → Int → List (Vr H B) → Prop
  | _, _, _, [] => True
  | i, b, e, v :: r => okV i b e v ∧ fmV (i + 1) (cm v) v.ep r
def lastB (b : H) : List (Vr H B) → H
  | [] => b
  | v :: r => lastB (cm v) r
def lastE (e : Int) : List (Vr H B) → Int
  | [] => e
  | v :: r => lastE v.ep r
theorem fmV_app (v : Vr H B) : ∀ (l : List (Vr H B)) (i : Nat) (b : H) (e : Int), fmV cm i b e (l ++ [v]) ↔ fmV cm i b e l ∧ okV (i + l.length) (lastB cm b l) (lastE e l) v
  | [], i, b, e => by simp [fmV, lastB, lastE]
  | w :: r, i, b, e => by
    simp only [List.cons_append, fmV, lastB, lastE, List.length_cons]
    rw [fmV_app v r, show i + 1 + r.length = i + (r.length + 1) by omega, and_assoc]
theorem lastB_snoc (b : H) (v : Vr H B) : ∀ (l : List (Vr H B)), lastB cm b (l ++ [v]) = cm v
  | [] => rfl
  | w :: r => lastB_snoc (cm w) v r
theorem lastE_snoc (e : Int) (v : Vr H B) : ∀ (l : List (Vr H B)), lastE e (l ++ [v]) = v.ep
  | [] => rfl
  | w :: r => lastE_snoc w.ep v r
theorem lastB_at (b : H) : ∀ {l : List (Vr H B)} (h : l ≠ []), lastB cm b l = cm (l.getLast h) := by
  intro l h
  have e := List.dropLast_concat_getLast h
  conv => lhs; rw [← e]
  exact lastB_snoc cm b _ _
theorem lastE_at (e : Int) : ∀ {l : List (Vr H B)} (h : l ≠ []), lastE e l = (l.getLast h).ep := by
  intro l h
  have e' := List.dropLast_concat_getLast h
  conv => lhs; rw [← e']
  exact lastE_snoc e _ _
theorem fmV_take {i : Nat} {b : H} {e : Int} : ∀ {l m : List (Vr H B)}, fmV cm i b e (l ++ m) → fmV cm i b e l := by
  intro l
  induction l generalizing i b e with
  | nil => intro m _; trivial
  | cons v r ih => intro m h; exact ⟨h.1, ih h.2⟩
theorem fmV_le {i : Nat} {b : H} : ∀ {l : List (Vr H B)} {e : Int}, fmV cm i b e l → e ≤ lastE e l := by
  intro l
  induction l generalizing i b with
  | nil => intro e _; exact Int.le_refl _
  | cons v r ih => intro e h; have h1 := h.1.2.1; have := ih h.2; show e ≤ lastE v.ep r; omega
variable {L C : Type} [DecidableEq L]
def getLb (ps : List (L × C)) (x : L) : Option C := (ps.find? fun p => decide (p.1 = x)).map Prod.snd
def setLb (ps : List (L × C)) (x : L) (c : C) : List (L × C) := match ps with
  | [] => [(x, c)]
  | p :: r => if p.1 = x then (x, c) :: r else p :: setLb r x c
theorem getLb_set (x y : L) (c : C) : ∀ (ps : List (L × C)), getLb (setLb ps x c) y = if x = y then some c else getLb ps y
  | [] => by
    unfold setLb getLb
    by_cases h : x = y
    · simp [h]
    · simp [h]
  | p :: r => by
    have ih := getLb_set x y c r
    unfold setLb
    by_cases h : p.1 = x
    · rw [if_pos h]
      by_cases h2 : x = y
      · subst h2; simp [getLb]
      · rw [if_neg h2]
        unfold getLb
        have h3 : ¬ p.1 = y := fun e => h2 (h.symm.trans e)
        simp [h2, h3]
    · rw [if_neg h]
      unfold getLb at ih ⊢
      by_cases h2 : p.1 = y
      · have h3 : ¬ x = y := fun e => h (h2.trans e.symm)
        simp [h2, h3]
      · simp only [List.find?_cons, h2, decide_false]
        exact ih
theorem setLb_fst (x : L) (c : C) : ∀ (ps : List (L × C)), (setLb ps x c).map Prod.fst = if x ∈ ps.map Prod.fst then ps.map Prod.fst else ps.map Prod.fst ++ [x]
  | [] => rfl
  | p :: r => by
    unfold setLb
    by_cases h : p.1 = x
    · rw [if_pos h, if_pos (by simp [h])]; simp [h]
    · rw [if_neg h, List.map_cons, setLb_fst x c r]
      have h' : ¬ x = p.1 := fun e => h e.symm
      by_cases hm : x ∈ r.map Prod.fst
      · rw [if_pos hm, if_pos (by simp only [List.map_cons, List.mem_cons]; exact .inr hm)]; rfl
      · rw [if_neg hm, if_neg (by simp only [List.map_cons, List.mem_cons, not_or]; exact ⟨h', hm⟩)]; rfl
variable {V : Type}
def chR (es : List (List (L × V))) (x : L) : List V := es.flatten.filterMap fun p => if p.1 = x then some p.2 else none
theorem chR_snoc (es : List (List (L × V))) (n : List (L × V)) (x : L) : chR (es ++ [n]) x = chR es x ++ n.filterMap fun p => if p.1 = x then some p.2 else none := by
  unfold chR; simp
theorem news_one {n : List (L × V)} (h : (n.map Prod.fst).Nodup) (x : L) : (n.filterMap fun p => if p.1 = x then some p.2 else none) = (getLb n x).toList := by
  induction n with
  | nil => rfl
  | cons p r ih =>
    obtain ⟨h1, h2⟩ := List.nodup_cons.1 (show (p.1 :: r.map Prod.fst).Nodup from h)
    have ih := ih h2
    unfold getLb at ih ⊢
    by_cases hp : p.1 = x
    · have hn : ∀ q ∈ r, ¬ q.1 = x := fun q hq e => h1 (List.mem_map.2 ⟨q, hq, e.trans hp.symm⟩)
      have hr : (r.filterMap fun p => if p.1 = x then some p.2 else none) = [] := by
        rw [List.filterMap_eq_nil_iff]
        intro q hq
        rw [if_neg (hn q hq)]
      simp [hp, hr]
    · simp [hp, ih]
def giveLb (ps : List (L × List V)) : List (L × V) → List (L × List V)
  | [] => ps
  | p :: r => giveLb (setLb ps p.1 (((getLb ps p.1).getD []) ++ [p.2])) r
theorem giveLb_get : ∀ (n : List (L × V)) (ps : List (L × List V)), (n.map Prod.fst).Nodup → ∀ x, (getLb (giveLb ps n) x).getD [] = (getLb ps x).getD [] ++ (getLb n x).toList
  | [], ps, _, x => by simp [giveLb, getLb]
  | p :: r, ps, h, x => by
    obtain ⟨h1, h2⟩ := List.nodup_cons.1 (show (p.1 :: r.map Prod.fst).Nodup from h)
    show (getLb (giveLb (setLb ps p.1 _) r) x).getD [] = _
    rw [giveLb_get r _ h2, getLb_set]
    by_cases hp : p.1 = x
    · have hr : getLb r x = none := by
        unfold getLb
        rw [List.find?_eq_none.2 fun q hq => by
          simp only [decide_eq_true_eq]
          exact fun e => h1 (List.mem_map.2 ⟨q, hq, e.trans hp.symm⟩)]
        rfl
      rw [if_pos hp, hr]
      subst hp
      simp [getLb]
    · rw [if_neg hp]
      congr 2
      unfold getLb
      simp [hp]
theorem give_chR {es : List (List (L × V))} {n : List (L × V)} {ps : List (L × List V)} (hn : (n.map Prod.fst).Nodup) (h : ∀ x, (getLb ps x).getD [] = chR es x) : ∀ x, (getLb (giveLb ps n) x).getD [] = chR (es ++ [n]) x := fun x => by
  rw [giveLb_get n ps hn, h x, chR_snoc, news_one hn]
end
end Go.Proofs.YtdflndjlnkoliaaGreatDoor

namespace Go.Proofs.YtdflndjlnkoliaaGreatDoor
set_option linter.all false
section
variable {H B : Type} (cm : List B → Vr H B → H) (zero : H)
def okG (x : List B) (l : List (Vr H B)) (e : Int) (val : List B) : Prop := (1 ≤ x.length ∧ x.length ≤ 32) ∧ fmV (cm x) 0 zero 0 l ∧ lastE 0 l < e ∧ e < 2147483648 ∧ val.length ≤ 64
def formedC (x : List B) (l : List (Vr H B)) : Prop := (1 ≤ x.length ∧ x.length ≤ 32) ∧ l ≠ [] ∧ fmV (cm x) 0 zero 0 l
def newV (salt : H) (x : List B) (l : List (Vr H B)) (e : Int) (val : List B) : Vr H B := ⟨(l.length : Int) + 1, e, salt, lastB (cm x) zero l, val⟩
def fmVD [DecidableEq H] (cm : Vr H B → H) : ∀ (i : Nat) (b : H) (e : Int) (l : List (Vr H B)), Decidable (fmV cm i b e l)
  | _, _, _, [] => isTrue trivial
  | i, b, e, v :: r => @instDecidableAnd _ _ (inferInstanceAs (Decidable (_ ∧ _ ∧ _ ∧ _ ∧ _))) (fmVD cm (i + 1) (cm v) v.ep r)
instance [DecidableEq H] (cm : Vr H B → H) (i : Nat) (b : H) (e : Int) (l : List (Vr H B)) : Decidable (fmV cm i b e l) := fmVD cm i b e l
instance [DecidableEq H] (cm : List B → Vr H B → H) (zero : H) (x : List B) (l : List (Vr H B)) (e : Int) (val : List B) : Decidable (okG cm zero x l e val) := inferInstanceAs (Decidable (_ ∧ _ ∧ _ ∧ _ ∧ _))
instance [DecidableEq H] (cm : List B → Vr H B → H) (zero : H) (x : List B) (l : List (Vr H B)) : Decidable (formedC cm zero x l) :=
  match l with
  | [] => isFalse fun h => h.2.1 rfl
  | v :: r => decidable_of_iff ((1 ≤ x.length ∧ x.length ≤ 32) ∧ fmV (cm x) 0 zero 0 (v :: r)) ⟨fun h => ⟨h.1, by simp, h.2⟩, fun h => ⟨h.1, h.2.2⟩⟩
theorem okG_out (salt : H) {x : List B} {l : List (Vr H B)} {e : Int} {val : List B} : formedC cm zero x (l ++ [newV cm zero salt x l e val]) ↔ okG cm zero x l e val := by
  unfold formedC okG
  rw [fmV_app]
  constructor
  · rintro ⟨h1, _, h2, _, h3, h4, _, h5⟩
    exact ⟨h1, h2, h3, h4, h5⟩
  · rintro ⟨h1, h2, h3, h4, h5⟩
    exact ⟨h1, by simp, h2, by simp [newV], h3, h4, rfl, h5⟩
theorem okG_prog {x : List B} {l : List (Vr H B)} {e : Int} {val : List B} : okG cm zero x l e val ↔ ((1 ≤ x.length ∧ x.length ≤ 32) ∧ val.length ≤ 64 ∧ 1 ≤ e ∧ e < 2147483648) ∧ (l = [] ∨ formedC cm zero x l ∧ ∀ h : l ≠ [], (l.getLast h).ep < e) := by
  unfold okG formedC
  constructor
  · rintro ⟨h1, h2, h3, h4, h5⟩
    have := fmV_le (cm x) h2
    refine ⟨⟨h1, h5, by omega, h4⟩, ?_⟩
    by_cases hl : l = []
    · exact .inl hl
    · exact .inr ⟨⟨h1, hl, h2⟩, fun h => by rw [← lastE_at 0 h]; exact h3⟩
  · rintro ⟨⟨h1, h5, h6, h4⟩, h | ⟨⟨_, hl, h2⟩, h3⟩⟩
    · subst h; exact ⟨h1, trivial, by show (0 : Int) < e; omega, h4, h5⟩
    · exact ⟨h1, h2, by rw [lastE_at 0 hl]; exact h3 hl, h4, h5⟩
theorem okG_short {x : List B} {l : List (Vr H B)} {e : Int} {val : List B} (h : okG cm zero x l e val) (hl : l ≠ []) : formedC cm zero x l := ⟨h.1, hl, h.2.1⟩
end
end Go.Proofs.YtdflndjlnkoliaaGreatDoor

namespace Go.Proofs.YtdflndjlnkoliaaGreatDoor
set_option linter.all false
open Go.RowKit
abbrev Ver := Vr H256 (BitVec 8)
abbrev Nws := Bs × Ver
def fourB (n : Int) : Bs := [BitVec.ofInt 8 (n / 2 ^ 24), BitVec.ofInt 8 (n / 2 ^ 16), BitVec.ofInt 8 (n / 2 ^ 8), BitVec.ofInt 8 n]
def keyL (x : Bs) : H256 := sha (txt 107#8 [x])
def saltL (seed : H256) (x : Bs) (n : Int) : H256 := sha (txt 122#8 [seed.toList, x, fourB n])
def verT (x : Bs) (v : Ver) : Bs := txt 99#8 [x, fourB v.num, fourB v.ep, v.salt.toList, v.before.toList, v.val]
def cmL (x : Bs) (v : Ver) : H256 := sha (verT x v)
def kvN (p : Nws) : KV := (keyL p.1, cmL p.1 p.2)
def kvs (es : List (List Nws)) : List KV := es.flatten.map kvN
theorem kvs_snoc (es : List (List Nws)) (n : List Nws) : kvs (es ++ [n]) = kvs es ++ n.map kvN := by unfold kvs; simp
def verN (seed : H256) (es : List (List Nws)) (u : Bs × Bs) : Nws := (u.1, newV cmL zeroH (saltL seed u.1 ((chR es u.1).length + 1)) u.1 (chR es u.1) (es.length + 1) u.2)
def okU (es : List (List Nws)) (u : Bs × Bs) : Prop := okG cmL zeroH u.1 (chR es u.1) (es.length + 1) u.2
def peo (es : List (List Nws)) : List (Bs × List Ver) := es.foldl giveLb []
theorem peo_snoc (es : List (List Nws)) (n : List Nws) : peo (es ++ [n]) = giveLb (peo es) n := by unfold peo; rw [List.foldl_append]; rfl
def apartE (es : List (List Nws)) : Prop := ∀ n ∈ es, (n.map Prod.fst).Nodup
theorem peo_chR : ∀ (k : Nat) (es : List (List Nws)), es.length = k → apartE es → ∀ x, (getLb (peo es) x).getD [] = chR es x
  | 0, es, h, _, x => by obtain rfl := List.eq_nil_of_length_eq_zero h; rfl
  | k + 1, es, h, ha, x => by
    have hne : es ≠ [] := fun e => by subst e; cases h
    obtain ⟨qs, p, rfl⟩ : ∃ qs p, es = qs ++ [p] := ⟨es.dropLast, es.getLast hne, (List.dropLast_concat_getLast hne).symm⟩
    have ih := peo_chR k qs (by simpa using h) fun n hn => ha n (by simp [hn])
    rw [peo_snoc]
    exact give_chR (ha p (by simp)) ih x
instance (es : List (List Nws)) (u : Bs × Bs) : Decidable (okU es u) := inferInstanceAs (Decidable (okG ..))
def sealF (seed : H256) (es : List (List Nws)) (us : List (Bs × Bs)) : List (List Nws) × Int :=
  if 16 < us.length then (es, 3) else if (∀ u ∈ us, okU es u) ∧ (us.map Prod.fst).Nodup then (es ++ [us.map (verN seed es)], 0) else (es, 1)
theorem verN_fst (seed : H256) (es : List (List Nws)) (us : List (Bs × Bs)) : (us.map (verN seed es)).map Prod.fst = us.map Prod.fst := by
  rw [List.map_map]; rfl
theorem sealF_len {seed : H256} {es : List (List Nws)} {us : List (Bs × Bs)} : (sealF seed es us).1.length ≤ es.length + 1 := by
  unfold sealF
  split
  · simp
  · split <;> simp
end Go.Proofs.YtdflndjlnkoliaaGreatDoor

namespace Go.Proofs.YtdflndjlnkoliaaGreatDoor
set_option linter.all false
open Go.RowKit
section
variable {C : Type}
def numsL : Nat → List (Bs × C) → List (Bs × Int)
  | _, [] => []
  | i, p :: r => (p.1, (i : Int)) :: numsL (i + 1) r
theorem numsL_fst : ∀ (i : Nat) (ps : List (Bs × C)), (numsL i ps).map Prod.fst = ps.map Prod.fst
  | _, [] => rfl
  | i, p :: r => by
    show p.1 :: (numsL (i + 1) r).map Prod.fst = p.1 :: r.map Prod.fst
    rw [numsL_fst (i + 1) r]
theorem numsL_len (i : Nat) (ps : List (Bs × C)) : (numsL i ps).length = ps.length := by
  have := congrArg List.length (numsL_fst i ps)
  simpa using this
theorem numsL_miss {x : Bs} (c : C) : ∀ (i : Nat) (ps : List (Bs × C)), mget (numsL i ps) x = none → getLb ps x = none ∧ setLb ps x c = ps ++ [(x, c)] ∧ mput (numsL i ps) x ((i + ps.length : Nat) : Int) = numsL i (ps ++ [(x, c)])
  | _, [], _ => ⟨rfl, rfl, rfl⟩
  | i, p :: r, h => by
    have hp : ¬ p.1 = x := fun e => by
      have h : (if p.1 = x then some (i : Int) else mget (numsL (i + 1) r) x) = none := h
      rw [if_pos e] at h; cases h
    have h2 : mget (numsL (i + 1) r) x = none := by
      have h : (if p.1 = x then some (i : Int) else mget (numsL (i + 1) r) x) = none := h
      rwa [if_neg hp] at h
    obtain ⟨g1, g2, g3⟩ := numsL_miss c (i + 1) r h2
    refine ⟨?_, ?_, ?_⟩
    · unfold getLb at g1 ⊢
      simp only [List.find?_cons, hp, decide_false]
      exact g1
    · show (if p.1 = x then (x, c) :: r else p :: setLb r x c) = _
      rw [if_neg hp, g2]; rfl
    · show (if p.1 = x then _ else (p.1, (i : Int)) :: mput (numsL (i + 1) r) x ((i + (r.length + 1) : Nat) : Int)) = (p.1, (i : Int)) :: numsL (i + 1) (r ++ [(x, c)])
      rw [if_neg hp, ← g3, show i + (r.length + 1) = i + 1 + r.length by omega]
theorem numsL_hit {x : Bs} {k : Int} : ∀ (i : Nat) (ps : List (Bs × C)), mget (numsL i ps) x = some k → ∃ j, ∃ h : j < ps.length, k = ((i + j : Nat) : Int) ∧ (ps[j]'h).1 = x ∧ getLb ps x = some (ps[j]'h).2 ∧ ∀ c, setLb ps x c = ps.set j (x, c) ∧ numsL i (ps.set j (x, c)) = numsL i ps
  | _, [], h => by cases h
  | i, p :: r, h => by
    have h : (if p.1 = x then some (i : Int) else mget (numsL (i + 1) r) x) = some k := h
    by_cases hp : p.1 = x
    · rw [if_pos hp] at h
      cases h
      refine ⟨0, by simp, rfl, hp, ?_, fun c => ⟨?_, ?_⟩⟩
      · unfold getLb; simp [hp]
      · show (if p.1 = x then (x, c) :: r else p :: setLb r x c) = _
        rw [if_pos hp]; rfl
      · show (x, (i : Int)) :: numsL (i + 1) r = (p.1, (i : Int)) :: numsL (i + 1) r
        rw [hp]
    · rw [if_neg hp] at h
      obtain ⟨j, hj, g1, g2, g3, g4⟩ := numsL_hit (i + 1) r h
      refine ⟨j + 1, by simpa using hj, ?_, g2, ?_, fun c => ⟨?_, ?_⟩⟩
      · rw [g1]; congr 1; omega
      · unfold getLb at g3 ⊢
        simp only [List.find?_cons, hp, decide_false]
        exact g3
      · show (if p.1 = x then (x, c) :: r else p :: setLb r x c) = _
        rw [if_neg hp, (g4 c).1]; rfl
      · show (p.1, (i : Int)) :: numsL (i + 1) (r.set j (x, c)) = (p.1, (i : Int)) :: numsL (i + 1) r
        rw [(g4 c).2]
end
def setAll (ps : List (Bs × List Ver)) (gs : List (Bs × List Ver)) : List (Bs × List Ver) := gs.foldl (fun ps g => setLb ps g.1 g.2) ps
theorem setAll_snoc (ps gs : List (Bs × List Ver)) (g : Bs × List Ver) : setAll ps (gs ++ [g]) = setLb (setAll ps gs) g.1 g.2 := by unfold setAll; rw [List.foldl_append]; rfl
def chainP (ps : List (Bs × List Ver)) (x : Bs) : List Ver := (getLb ps x).getD []
def grownL (ps : List (Bs × List Ver)) (n : Nws) : Bs × List Ver := (n.1, chainP ps n.1 ++ [n.2])
theorem giveLb_all : ∀ (n : List Nws) (ps : List (Bs × List Ver)), (n.map Prod.fst).Nodup → giveLb ps n = setAll ps (n.map (grownL ps))
  | [], ps, _ => rfl
  | p :: r, ps, h => by
    obtain ⟨h1, h2⟩ := List.nodup_cons.1 (show (p.1 :: r.map Prod.fst).Nodup from h)
    have e : r.map (grownL (setLb ps p.1 (chainP ps p.1 ++ [p.2]))) = r.map (grownL ps) := List.map_congr_left fun q hq => by
      unfold grownL chainP
      rw [getLb_set, if_neg fun e => h1 (List.mem_map.2 ⟨q, hq, e.symm⟩)]
    show giveLb (setLb ps p.1 (chainP ps p.1 ++ [p.2])) r = setAll (setLb ps p.1 (chainP ps p.1 ++ [p.2])) (r.map (grownL ps))
    rw [giveLb_all r _ h2, e]
theorem setAll_len : ∀ (k : Nat) (ps gs : List (Bs × List Ver)), gs.length = k → (setAll ps gs).length ≤ ps.length + k
  | 0, ps, gs, h => by obtain rfl := List.eq_nil_of_length_eq_zero h; exact Nat.le_refl _
  | k + 1, ps, gs, h => by
    have hne : gs ≠ [] := fun e => by subst e; cases h
    obtain ⟨qs, p, rfl⟩ : ∃ qs p, gs = qs ++ [p] := ⟨gs.dropLast, gs.getLast hne, (List.dropLast_concat_getLast hne).symm⟩
    have := setAll_len k ps qs (by simpa using h)
    have h2 := congrArg List.length (setLb_fst p.1 p.2 (setAll ps qs))
    rw [setAll_snoc]
    simp only [List.length_map] at h2
    rw [h2]
    split <;> simp <;> omega
structure Sld where
  tree : Int
  root : H256
  size : Int
  entry : H256
  news : List Nws
abbrev eVr (v : Ver) : List SV := [.int .i64 v.num, .int .i64 v.ep, .arr8 v.salt, .arr8 v.before, .fs 1 eB v.val]
abbrev eNw (p : Nws) : List SV := [.fs 1 eB p.1, .int .i64 p.2.num, .int .i64 p.2.ep, .arr8 p.2.salt, .arr8 p.2.before, .fs 1 eB p.2.val]
abbrev eSl (s : Sld) : List SV := [.int .i64 s.tree, .arr8 s.root, .int .i64 s.size, .arr8 s.entry, .fs 68 eNw s.news]
abbrev ePn (p : Bs × List Ver) : List SV := [.fs 1 eB p.1, .fs 67 eVr p.2]
abbrev eCh (l : List Ver) : List SV := [.fs 67 eVr l]
abbrev eUp (u : Bs × Bs) : List SV := [.fs 1 eB u.1, .fs 1 eB u.2]
def rootB (es : List (List Nws)) : H256 := rootF (builtF (kvs es)).1 (builtF (kvs es)).2
def entH (e : Int) (r : H256) : H256 := sha (0#8 :: (fourB e ++ r.toList))
def sldAt (es : List (List Nws)) (i : Nat) : Sld := ⟨(builtF (kvs (es.take (i + 1)))).2, rootB (es.take (i + 1)), (builtF (kvs (es.take i))).1.length, entH ((i : Int) + 1) (rootB (es.take (i + 1))), es.getD i []⟩
def slds (es : List (List Nws)) : List Sld := (List.range es.length).map (sldAt es)
theorem slds_len (es : List (List Nws)) : (slds es).length = es.length := by simp [slds]
theorem slds_get (es : List (List Nws)) (i : Nat) (h : i < (slds es).length) : (slds es)[i] = sldAt es i := by simp [slds]
theorem slds_snoc (es : List (List Nws)) (n : List Nws) : slds (es ++ [n]) = slds es ++ [⟨(builtF (kvs (es ++ [n]))).2, rootB (es ++ [n]), (builtF (kvs es)).1.length, entH ((es.length : Int) + 1) (rootB (es ++ [n])), n⟩] := by
  unfold slds
  rw [List.length_append, show [n].length = 1 from rfl, List.range_succ, List.map_append]
  congr 1
  · refine List.map_congr_left fun i hi => ?_
    have hi := List.mem_range.1 hi
    unfold sldAt
    rw [List.take_append_of_le_length (by omega), List.take_append_of_le_length (by omega), List.getD_eq_getElem?_getD, List.getD_eq_getElem?_getD, List.getElem?_append_left hi]
  · have e1 : (es ++ [n]).take (es.length + 1) = es ++ [n] := List.take_of_length_le (by simp)
    have e2 : (es ++ [n]).take es.length = es := by simp
    have e3 : (es ++ [n]).getD es.length [] = n := by simp [List.getD_eq_getElem?_getD]
    rw [List.map_singleton]
    unfold sldAt
    rw [e1, e2, e3]
structure StOk (es : List (List Nws)) : Prop where
  apart : apartE es
  len : es.length ≤ 20
  few : ∀ n ∈ es, n.length ≤ 16
  lab : ∀ n ∈ es, ∀ p ∈ n, p.1.length ≤ 32 ∧ p.2.val.length ≤ 64
  ep : ∀ i, ∀ h : i < es.length, ∀ p ∈ es[i], p.2.ep = (i : Int) + 1
theorem StOk.nil : StOk [] := ⟨fun n h => (by cases h), Nat.zero_le _, fun n h => (by cases h), fun n h => (by cases h), fun i h => (by cases h)⟩
theorem flat_few : ∀ (es : List (List Nws)) (m : Nat), (∀ n ∈ es, n.length ≤ m) → es.flatten.length ≤ m * es.length
  | [], m, _ => by simp
  | n :: r, m, h => by
    have h1 := h n (by simp)
    have := flat_few r m fun k hk => h k (by simp [hk])
    rw [List.flatten_cons, List.length_append, List.length_cons, Nat.mul_succ]; omega
theorem StOk.kvs {es : List (List Nws)} (h : StOk es) : (kvs es).length ≤ 320 := by
  have := flat_few es 16 h.few
  have := h.len
  show (es.flatten.map kvN).length ≤ 320
  rw [List.length_map]; omega
theorem StOk.forest {es : List (List Nws)} (h : StOk es) {m : Nat} {qs : List KV} (hq : qs.length ≤ 16) : (builtF (_root_.Go.Proofs.YtdflndjlnkoliaaGreatDoor.kvs es ++ qs)).1.length ≤ 200000 := by
  refine Nat.le_trans (builtOk _).size ?_
  have h1 := h.kvs
  rw [List.length_append]
  exact Nat.le_trans (Nat.mul_le_mul (show _ ≤ 336 by omega) (show _ ≤ 338 by omega)) (by decide)
theorem peo_len : ∀ (k : Nat) (es : List (List Nws)), es.length = k → (peo es).length ≤ es.flatten.length
  | 0, es, h => by obtain rfl := List.eq_nil_of_length_eq_zero h; exact Nat.le_refl _
  | k + 1, es, h => by
    have hne : es ≠ [] := fun e => by subst e; cases h
    obtain ⟨qs, p, rfl⟩ : ∃ qs p, es = qs ++ [p] := ⟨es.dropLast, es.getLast hne, (List.dropLast_concat_getLast hne).symm⟩
    have ih := peo_len k qs (by simpa using h)
    have key : ∀ (n : List Nws) (ps : List (Bs × List Ver)), (giveLb ps n).length ≤ ps.length + n.length := by
      intro n
      induction n with
      | nil => intro ps; exact Nat.le_refl _
      | cons q r ih =>
        intro ps
        have h1 := ih (setLb ps q.1 (((getLb ps q.1).getD []) ++ [q.2]))
        have h2 := congrArg List.length (setLb_fst q.1 (((getLb ps q.1).getD []) ++ [q.2]) ps)
        simp only [List.length_map] at h2
        show (giveLb (setLb ps q.1 _) r).length ≤ _
        refine Nat.le_trans h1 ?_
        rw [h2, List.length_cons]
        split <;> simp <;> omega
    rw [peo_snoc]
    have := key p (peo qs)
    simp only [List.flatten_append, List.length_append, List.flatten_cons, List.flatten_nil, List.append_nil]
    omega
theorem StOk.people {es : List (List Nws)} (h : StOk es) : (peo es).length ≤ 320 := by
  have := flat_few es 16 h.few
  have := h.len
  have := peo_len _ es rfl
  omega
theorem StOk.chain {es : List (List Nws)} (h : StOk es) (x : Bs) : chainP (peo es) x = chR es x := peo_chR _ es rfl h.apart x
theorem chR_len (es : List (List Nws)) (x : Bs) : (chR es x).length ≤ es.flatten.length := List.length_filterMap_le ..
theorem StOk.chainLen {es : List (List Nws)} (h : StOk es) (x : Bs) : (chR es x).length ≤ 320 := by
  have := flat_few es 16 h.few
  have := h.len
  have := chR_len es x
  omega
end Go.Proofs.YtdflndjlnkoliaaGreatDoor

namespace Go.Proofs.YtdflndjlnkoliaaGreatDoor
set_option linter.all false
open Go.RowKit
def cis_c : Ctr where
  D := Bs
  args := fun x => [.fs 1 eB x]
  res := fun x _ => .dec (1 ≤ x.length ∧ x.length ≤ 32) inferInstance
def cis_H : Cfg := ⟨[], [], [], [], 11, 0, [], [], []⟩
theorem cis_ok : cis_c.Ok Tryz.prog 83 := by
  refine fn_ok cis_H 0 rfl _ Tryz.func83 rfl rfl trivial rfl rfl (by kernel_rfl) (fun _ => Nat.le_of_ble_eq_true rfl) ?_
  intro (x : Bs) hp hr
  try dsimp only [cis_c] at hp
  try simp only [cis_c, Rng, RngL, inR, and_true, true_and] at hr
  repeat' (first | (with_reducible refine Unf.h ?_) | ((conv => whnf); first | refine Fork.mk (fun h => ?_) (fun h => ?_) | (refine Side.mk ?_ ?_; focus (first | omega | (refine ⟨fun h => ?_, fun h => ?_⟩ <;> first | rfl | (cases h; done) | omega | (exfalso; omega) | (simp only [Bool.false_eq_true] at h; done)))) | refine RetE.mk () trivial ?_ | refine retK_r ?_ | exact rfl) | fail); all_goals try (conv => whnf); all_goals try (exfalso; omega)
def four_c : Ctr where
  D := Int
  args := fun n => [.int .i64 n]
  res := fun n _ => .fs 1 eB (fourB n)
theorem fourB_len (n : Int) : (fourB n).length = 4 := rfl
def four_H : Cfg := ⟨[], [], [], [], 15, 0, [], [], []⟩
theorem four_ok : four_c.Ok Tryz.prog 124 := by
  refine fn_ok four_H 0 rfl _ Tryz.func124 rfl rfl trivial rfl rfl (by kernel_rfl) (fun _ => Nat.le_of_ble_eq_true rfl) ?_
  intro (n : Int) hp hr
  try dsimp only [four_c] at hp
  try simp only [four_c, Rng, RngL, inR, and_true, true_and] at hr
  repeat' (first | (with_reducible refine Unf.h ?_) | ((conv => whnf); first | (refine Side.mk ?_ ?_; focus (first | exact nnS (by decide) | (simp [*, fourB]; done))) | refine RetE.mk () trivial ?_ | refine retK_r ?_ | exact rfl) | fail); all_goals try (conv => whnf); all_goals try (exfalso; omega)
def ckey_c : Ctr where
  D := Bs
  pre := fun x => x.length ≤ 1000000
  args := fun x => [.fs 1 eB x]
  res := fun x _ => .agg [.arr8 (keyL x)]
def ckey_H : Cfg := ⟨[(102, htagged_c)], [], [], [], 6, 0, [], [], []⟩
theorem ckey_ok : ckey_c.Ok Tryz.prog 61 := by
  refine fn_ok ckey_H 0 rfl _ Tryz.func61 rfl rfl ⟨htagged_ok, trivial⟩ rfl rfl (by kernel_rfl) (fun _ => Nat.le_of_ble_eq_true rfl) ?_
  intro (x : Bs) hp hr
  try dsimp only [ckey_c] at hp
  try simp only [ckey_c, Rng, RngL, inR, and_true, true_and] at hr
  have hp : x.length ≤ 1000000 := hp
  have hpt : htagged_c.pre (107#8, [x]) := ⟨by simp, by simpa using hp⟩
  repeat' (first | (with_reducible refine Unf.h ?_) | ((conv => whnf); first | (refine Side.mk ?_ ?_; focus (with_reducible rfl)) | refine CallS.mk (c := htagged_c) ((107#8, [x])) ?_) | fail); all_goals try (conv => whnf); all_goals try (exfalso; omega)
  refine Side.mk rfl ?_
  repeat' (first | (with_reducible refine Unf.h ?_) | ((conv => whnf); first | (refine Side.mk ?_ ?_; focus (first | assumption | (simp only [*, keyL]; done))) | refine RetE.mk () trivial ?_ | refine Got.mk (fun _ _ => ?_) | (with_reducible refine Unf.h ?_) | refine retK_r ?_ | exact rfl) | fail); all_goals try (conv => whnf); all_goals try (exfalso; omega)
def csalt_c : Ctr where
  D := H256 × Bs × Int
  pre := fun (_, x, _) => x.length ≤ 1000000
  args := fun (s, x, n) => [.agg [.arr8 s], .fs 1 eB x, .int .i64 n]
  res := fun (s, x, n) _ => .agg [.arr8 (saltL s x n)]
def csalt_H : Cfg := ⟨[(102, htagged_c), (124, four_c)], [(1, [], [3, 4, 5, 6], (.one 0 0 false (.one 1 0 false (.one 2 0 false (.one 3 2 false (.one 4 2 false (.one 5 2 false (.one 6 2 false .nil))))))), [])], [], [], 13, 0, [], [], []⟩
theorem csalt_ok : csalt_c.Ok Tryz.prog 87 := by
  refine fn_ok csalt_H 0 rfl _ Tryz.func87 rfl rfl ⟨htagged_ok, four_ok, trivial⟩ rfl rfl (by kernel_rfl) (fun _ => Nat.le_of_ble_eq_true rfl) ?_
  rintro ⟨s, x, n⟩ hp hr
  try dsimp only [csalt_c] at hp
  try simp only [csalt_c, Rng, RngL, inR, and_true, true_and] at hr
  have hp : x.length ≤ 1000000 := hp
  have hpt : htagged_c.pre (122#8, [s.toList, x, fourB n]) := ⟨by simp, by simp [fourB_len, hp]⟩
  repeat' (first | (with_reducible refine Unf.h ?_) | ((conv => whnf); first | (refine Side.mk ?_ ?_; focus (first | with_reducible rfl | exact True.intro | (intros; (try simp only [lenS, inR, cutS, loI, hiI, saltL, cutv2] at *); omega))) | refine Got.mk (fun _ _ => ?_) | refine CallS.mk (c := four_c) (n) ?_ | refine CallS.mk (c := htagged_c) ((122#8, [s.toList, x, fourB n])) ?_) | fail); all_goals try (conv => whnf); all_goals try (exfalso; omega)
  refine Side.mk (by simp only [cutv2]; rfl) ?_
  repeat' (first | (with_reducible refine Unf.h ?_) | ((conv => whnf); first | (refine Side.mk ?_ ?_; focus (first | assumption | (simp only [*, saltL]; done))) | refine RetE.mk () trivial ?_ | refine Got.mk (fun _ _ => ?_) | (with_reducible refine Unf.h ?_) | refine retK_r ?_ | exact rfl) | fail); all_goals try (conv => whnf); all_goals try (exfalso; omega)
def ctext_c : Ctr where
  D := Bs × Ver
  pre := fun (x, v) => x.length ≤ 1000000 ∧ v.val.length ≤ 1000000
  args := fun (x, v) => [.fs 1 eB x, .agg (eVr v)]
  res := fun _ _ => .own 0
  out := fun (x, v) _ => [(0, .row 5 1 eB (verT x v))]
  mm := 1
def ctext_H : Cfg := ⟨[(141, htext_c), (124, four_c)], [(1, [2, 5, 12], [3, 6, 13, 14], (.one 0 0 false (.one 1 0 false (.one 2 1 false (.one 4 0 false (.one 5 1 false (.one 7 0 false (.one 8 0 false (.one 9 0 false (.one 10 0 false (.one 11 0 false (.one 12 1 false (.one 3 2 true (.one 6 2 true (.one 13 2 false (.one 14 2 false (.one 15 0 false .nil)))))))))))))))), [])], [], [], 20, 0, [], [], []⟩
theorem ctext_ok : ctext_c.Ok Tryz.prog 123 := by
  refine fn_ok ctext_H 0 rfl _ Tryz.func123 rfl rfl ⟨htext_ok, four_ok, trivial⟩ rfl rfl (by kernel_rfl) (fun _ => Nat.le_of_ble_eq_true rfl) ?_
  rintro ⟨x, v⟩ hp hr
  try dsimp only [ctext_c] at hp
  try simp only [ctext_c, Rng, RngL, inR, and_true, true_and] at hr
  obtain ⟨hp1, hp2⟩ := hp
  have hpt : htext_c.pre (99#8, [x, fourB v.num, fourB v.ep, v.salt.toList, v.before.toList, v.val]) := ⟨by simp, by simp [fourB_len, hp1, hp2]⟩
  repeat' (first | (with_reducible refine Unf.h ?_) | ((conv => whnf); (refine Side.mk ?_ ?_; focus (exact True.intro))) | fail); all_goals try (conv => whnf); all_goals try (exfalso; omega)
  refine CallS.mk (c := four_c) (v.num) ?_
  repeat' (first | (with_reducible refine Unf.h ?_) | ((conv => whnf); first | (refine Side.mk ?_ ?_; focus (first | with_reducible rfl | exact True.intro)) | refine Got.mk (fun _ _ => ?_)) | fail); all_goals try (conv => whnf); all_goals try (exfalso; omega)
  refine CallS.mk (c := four_c) (v.ep) ?_
  repeat' (first | (with_reducible refine Unf.h ?_) | ((conv => whnf); first | (refine Side.mk ?_ ?_; focus (first | with_reducible rfl | exact True.intro | (intros; (try simp only [lenS, inR, cutS, loI, hiI] at *); omega))) | refine Got.mk (fun _ _ => ?_)) | fail); all_goals try (conv => whnf); all_goals try (exfalso; omega)
  refine CallS.mk (c := htext_c) ((99#8, [x, fourB v.num, fourB v.ep, v.salt.toList, v.before.toList, v.val])) ?_
  repeat' (first | (with_reducible refine Unf.h ?_) | ((conv => whnf); (refine Side.mk ?_ ?_; focus (with_reducible rfl))) | fail); all_goals try (conv => whnf); all_goals try (exfalso; omega)
  refine Side.mk (by simp only [cutv2]; rfl) ?_
  repeat' (first | (with_reducible refine Unf.h ?_) | ((conv => whnf); first | (refine Side.mk ?_ ?_; focus (first | assumption | (simp only [*, verT]; done))) | refine RetE.mk () trivial ?_ | refine Got.mk (fun _ _ => ?_) | (with_reducible refine Unf.h ?_) | refine retK_r ?_ | exact rfl) | fail); all_goals try (conv => whnf); all_goals try (exfalso; omega)
theorem verT_small {x : Bs} {v : Ver} (h1 : x.length ≤ 1000000) (h2 : v.val.length ≤ 1000000) : (verT x v).length ≤ 1000000000 :=
  txt_small _ _ (by simp) (by simp [fourB_len, h1, h2])
def ccommit_c : Ctr where
  D := Bs × Ver
  pre := fun (x, v) => x.length ≤ 1000000 ∧ v.val.length ≤ 1000000
  args := fun (x, v) => [.fs 1 eB x, .agg (eVr v)]
  res := fun (x, v) _ => .agg [.arr8 (cmL x v)]
def ccommit_H : Cfg := ⟨[(123, ctext_c), (114, sum_c)], [], [], [], 9, 0, [], [], []⟩
theorem ccommit_ok : ccommit_c.Ok Tryz.prog 86 := by
  refine fn_ok ccommit_H 0 rfl _ Tryz.func86 rfl rfl ⟨ctext_ok, sum_ok, trivial⟩ rfl rfl (by kernel_rfl) (fun _ => Nat.le_of_ble_eq_true rfl) ?_
  rintro ⟨x, v⟩ hp hr
  try dsimp only [ccommit_c] at hp
  try simp only [ccommit_c, Rng, RngL, inR, and_true, true_and] at hr
  obtain ⟨hp1, hp2⟩ := hp
  have hpt : ctext_c.pre (x, v) := ⟨hp1, hp2⟩
  have hps := verT_small hp1 hp2
  repeat' (first | (with_reducible refine Unf.h ?_) | ((conv => whnf); first | (refine Side.mk ?_ ?_; focus (first | with_reducible rfl | exact True.intro | assumption | (simp only [*, cmL]; done))) | refine RetE.mk () trivial ?_ | refine Got.mk (fun _ _ => ?_) | refine retK_r ?_ | exact rfl | refine CallS.mk (c := ctext_c) ((x, v)) ?_ | refine CallS.mk (c := sum_c) (verT x v) ?_) | fail); all_goals try (conv => whnf); all_goals try (exfalso; omega)
end Go.Proofs.YtdflndjlnkoliaaGreatDoor

namespace Go.Proofs.YtdflndjlnkoliaaGreatDoor
set_option linter.all false
open Go.RowKit
theorem formed_at {x : Bs} {l : List Ver} (h : formedC cmL zeroH x l) (i : Nat) (hi : i < l.length) : l[i].num = (i : Int) + 1 ∧ lastE 0 (l.take i) < l[i].ep ∧ l[i].ep < 2147483648 ∧ l[i].before = lastB (cmL x) zeroH (l.take i) ∧ l[i].val.length ≤ 64 := by
  have h2 : fmV (cmL x) 0 zeroH 0 (l.take (i + 1)) := by
    have h3 := h.2.2
    rw [← List.take_append_drop (i + 1) l] at h3
    exact fmV_take _ h3
  rw [List.take_succ_eq_append_getElem hi, fmV_app] at h2
  have h4 := h2.2
  rw [List.length_take, Nat.min_eq_left (by omega), Nat.zero_add] at h4
  exact h4
theorem fm_step {x : Bs} {l : List Ver} {i : Nat} (hi : i < l.length) (hf : fmV (cmL x) 0 zeroH 0 (l.take i)) (h1 : l[i].num = (i : Int) + 1) (h2 : lastE 0 (l.take i) < l[i].ep) (h3 : l[i].ep < 2147483648) (h4 : l[i].before = lastB (cmL x) zeroH (l.take i)) (h5 : l[i].val.length ≤ 64) :
    fmV (cmL x) 0 zeroH 0 (l.take (i + 1)) ∧ lastB (cmL x) zeroH (l.take (i + 1)) = cmL x l[i] ∧ lastE 0 (l.take (i + 1)) = l[i].ep := by
  rw [List.take_succ_eq_append_getElem hi]
  refine ⟨(fmV_app _ _ _ _ _ _).2 ⟨hf, ?_⟩, lastB_snoc _ _ _ _, lastE_snoc _ _ _⟩
  rw [List.length_take, Nat.min_eq_left (by omega), Nat.zero_add]
  exact ⟨h1, h2, h3, h4, h5⟩
def cformed_c : Ctr where
  D := Bs × List Ver
  pre := fun (x, l) => x.length ≤ 1000000 ∧ l.length ≤ 100000
  args := fun (x, l) => [.fs 1 eB x, .fs 67 eVr l]
  res := fun (x, l) _ => .dec (formedC cmL zeroH x l) inferInstance
def cformed_H : Cfg := ⟨[(83, cis_c), (86, ccommit_c)], [(10, [4], [1, 2, 5], (.one 0 0 false (.one 3 0 false (.one 4 1 false (.one 1 2 true (.one 2 2 true (.one 5 2 true (.one 6 0 false .nil))))))), [5])], [], [], 58, 0, [], [], []⟩
theorem cformed_ok : cformed_c.Ok Tryz.prog 85 := by
  refine fn_ok cformed_H 0 rfl _ Tryz.func85 rfl rfl ⟨cis_ok, ccommit_ok, trivial⟩ rfl rfl (by kernel_rfl) (fun _ => Nat.le_of_ble_eq_true rfl) ?_
  rintro ⟨x, l⟩ hp hr
  try dsimp only [cformed_c] at hp
  try simp only [cformed_c, Rng, RngL, inR, and_true, true_and] at hr
  obtain ⟨hp1, hp2⟩ := hp
  have hp1 : x.length ≤ 1000000 := hp1
  have hp2 : l.length ≤ 100000 := hp2
  by_cases hx : 1 ≤ x.length ∧ x.length ≤ 32
  · rcases Nat.eq_zero_or_pos l.length with hl | hl
    · have hn : ¬ formedC cmL zeroH x l := fun h => h.2.1 (List.eq_nil_of_length_eq_zero hl)
      repeat' (first | (with_reducible refine Unf.h ?_) | ((conv => whnf); first | refine Fork.mkn (fun h => ?_) (fun h => ?_) | refine Fork.mk (fun h => ?_) (fun h => ?_) | (refine Side.mk ?_ ?_; focus (first | with_reducible rfl | exact True.intro | (simp [*, hn]; done))) | refine RetE.mk () trivial ?_ | refine Got.mk (fun _ _ => ?_) | refine retK_r ?_ | exact rfl | refine CallS.mk (c := cis_c) (x) ?_) | fail); all_goals try (conv => whnf); all_goals try (exfalso; omega)
    · repeat' (first | (with_reducible refine Unf.h ?_) | ((conv => whnf); first | refine Fork.mkn (fun h => ?_) (fun h => ?_) | refine Fork.mk (fun h => ?_) (fun h => ?_) | (refine Side.mk ?_ ?_; focus (first | with_reducible rfl | exact True.intro)) | refine Got.mk (fun _ _ => ?_) | refine CallS.mk (c := cis_c) (x) ?_) | fail); all_goals try (conv => whnf); all_goals try (exfalso; omega)
      refine LoopS.autoN (I := Nat) (fun i => i ≤ l.length ∧ fmV (cmL x) 0 zeroH 0 (l.take i)) (fun i => [(19, .int .i64 (i : Int)), (6, .int .i64 (lastE 0 (l.take i)))]) (fun i => [(0, .box 30 [.arr8 (lastB (cmL x) zeroH (l.take i))])]) 1 (fun i => l.length - i) 0 ⟨Nat.zero_le _, trivial⟩ ?_ ?_
      · have e0 : lastE 0 (l.take 0) = 0 := rfl
        have e1 : lastB (cmL x) zeroH (l.take 0) = zeroH := rfl
        repeat' (first | (with_reducible refine Unf.h ?_) | ((conv => whnf); first | (refine Side.mk ?_ ?_; focus (first | with_reducible rfl | (refine congrArg (SV.int _) ?_; omega) | (simp only [*, e0, e1]; done))) | (with_reducible refine Unf.h ?_) | exact True.intro) | fail); all_goals try (conv => whnf); all_goals try (exfalso; omega)
      · rintro i ⟨hi, hf⟩
        by_cases hil : i < l.length
        · have hA : formedC cmL zeroH x l → (l[((i : Nat) : Int).toNat]'hil).num = (i : Int) + 1 ∧ lastE 0 (l.take i) < (l[((i : Nat) : Int).toNat]'hil).ep ∧ (l[((i : Nat) : Int).toNat]'hil).ep < 2147483648 ∧ (l[((i : Nat) : Int).toNat]'hil).before = lastB (cmL x) zeroH (l.take i) ∧ (l[((i : Nat) : Int).toNat]'hil).val.length ≤ 64 := fun hF => formed_at hF i hil
          repeat' (first | (with_reducible refine Unf.h ?_) | ((conv => whnf); first | refine Fork.mkn (fun h => ?_) (fun h => ?_) | refine Fork.mk (fun h => ?_) (fun h => ?_) | (refine Side.mk ?_ ?_; focus ((intros; (try simp only [lenS, inR, cutS, loI, hiI] at *); omega))) | (refine Idx.mk ?_ ?_; focus (omega)) | refine RetE.mk () trivial ?_ | refine retK_r ?_) | fail); all_goals try (conv => whnf); all_goals try (exfalso; omega)
          all_goals first
            | (refine Side.mk (iffF fun hF => ?_) ?_
               · obtain ⟨a1, a2, a3, a4, a5⟩ := hA hF
                 first
                   | omega
                   | exact absurd (congrArg Vector.toList a4) (by assumption)
               · repeat' (first | (with_reducible refine Unf.h ?_) | ((conv => whnf); exact rfl) | fail); all_goals try (conv => whnf); all_goals try (exfalso; omega))
            | skip
          obtain ⟨q1, q2, q3⟩ := fm_step hil hf (by assumption) (by show _ < (l[((i : Nat) : Int).toNat]'hil).ep; omega) (by show (l[((i : Nat) : Int).toNat]'hil).ep < _; omega) (Vector.toList_inj.1 (by assumption)) (by show (l[((i : Nat) : Int).toNat]'hil).val.length ≤ _; omega)
          have q2 : lastB (cmL x) zeroH (l.take (i + 1)) = cmL x (l[((i : Nat) : Int).toNat]'hil) := q2
          have q3 : lastE 0 (l.take (i + 1)) = (l[((i : Nat) : Int).toNat]'hil).ep := q3
          have hpc : ccommit_c.pre (x, l[((i : Nat) : Int).toNat]'hil) := ⟨hp1, by omega⟩
          refine CallS.mk (c := ccommit_c) ((x, l[((i : Nat) : Int).toNat]'hil)) ?_
          repeat' (first | (with_reducible first | refine Unf.h ?_ | refine loopK_n ?_) | ((conv => whnf); first | (refine Side.mk ?_ ?_; focus (first | with_reducible rfl | assumption | (intros; (try simp only [lenS, inR, cutS, loI, hiI] at *); omega))) | refine Got.mk (fun _ _ => ?_)) | fail); all_goals try (conv => whnf); all_goals try (exfalso; omega)
          refine ⟨i + 1, ⟨by omega, by omega, q1⟩, ?_⟩
          repeat' (first | (with_reducible refine Unf.h ?_) | ((conv => whnf); first | (refine Side.mk ?_ ?_; focus (first | with_reducible rfl | (refine congrArg (SV.int _) ?_; omega) | (simp only [*, q2, q3]; done))) | (with_reducible refine Unf.h ?_) | exact True.intro) | fail); all_goals try (conv => whnf); all_goals try (exfalso; omega)
        · have e : l.take i = l := List.take_of_length_le (by omega)
          rw [e] at hf
          have hF : formedC cmL zeroH x l := ⟨hx, fun h => by rw [h] at hl; exact absurd hl (by simp), hf⟩
          repeat' (first | (with_reducible refine Unf.h ?_) | ((conv => whnf); first | refine Fork.mk (fun h => ?_) (fun h => ?_) | (refine Side.mk ?_ ?_; focus ((refine ⟨fun h => ?_, fun h => ?_⟩ <;> first | rfl | (cases h; done) | omega | (exfalso; omega) | (simp only [Bool.false_eq_true] at h; done)))) | refine RetE.mk () trivial ?_ | refine retK_r ?_ | exact rfl) | fail); all_goals try (conv => whnf); all_goals try (exfalso; omega)
  · have hn : ¬ formedC cmL zeroH x l := fun h => hx h.1
    repeat' (first | (with_reducible refine Unf.h ?_) | ((conv => whnf); first | refine Fork.mkn (fun h => ?_) (fun h => ?_) | (refine Side.mk ?_ ?_; focus (first | with_reducible rfl | exact True.intro | (simp [*, hn]; done))) | refine RetE.mk () trivial ?_ | refine Got.mk (fun _ _ => ?_) | refine retK_r ?_ | exact rfl | refine CallS.mk (c := cis_c) (x) ?_) | fail); all_goals try (conv => whnf); all_goals try (exfalso; omega)
end Go.Proofs.YtdflndjlnkoliaaGreatDoor

namespace Go.Proofs.YtdflndjlnkoliaaGreatDoor
set_option linter.all false
open Go.RowKit
def cloneB_c : Ctr where
  D := Bs
  pre := fun l => l.length ≤ 1000000
  args := fun l => [.fs 1 eB l]
  res := fun l _ => .fs 1 eB l
def cloneB_H : Cfg := ⟨[], [], [], [], 8, 0, [], [], []⟩
theorem cloneB_ok : cloneB_c.Ok Tryz.prog 84 := by
  refine fn_ok cloneB_H 0 rfl _ Tryz.func84 rfl rfl trivial rfl rfl (by kernel_rfl) (fun _ => Nat.le_of_ble_eq_true rfl) ?_
  intro (l : Bs) hp hr
  try dsimp only [cloneB_c] at hp
  try simp only [cloneB_c, Rng, RngL, inR, and_true, true_and] at hr
  repeat' (first | (with_reducible refine Unf.h ?_) | ((conv => whnf); first | (refine Side.mk ?_ ?_; focus (first | with_reducible rfl | (intros; (try simp only [lenS, inR, cutS, loI, hiI] at *); omega) | exact List.eq_nil_of_length_eq_zero (by assumption))) | refine RetE.mk () trivial ?_ | refine boolK (fun h => ?_) ?_ | refine retK_r ?_ | exact rfl) | fail); all_goals try (conv => whnf)
def cloneV_c : Ctr where
  D := List Ver
  pre := fun l => l.length ≤ 100000
  args := fun l => [.fs 67 eVr l]
  res := fun _ _ => .own 0
  out := fun l _ => [(0, .row 115 67 eVr l)]
  mm := 1
def cloneV_H : Cfg := ⟨[], [], [], [], 8, 0, [], [], []⟩
theorem cloneV_ok : cloneV_c.Ok Tryz.prog 72 := by
  refine fn_ok cloneV_H 0 rfl _ Tryz.func72 rfl rfl trivial rfl rfl (by kernel_rfl) (fun _ => Nat.le_of_ble_eq_true rfl) ?_
  intro (l : List Ver) hp hr
  try dsimp only [cloneV_c] at hp
  try simp only [cloneV_c, Rng, RngL, inR, and_true, true_and] at hr
  repeat' (first | (with_reducible refine Unf.h ?_) | ((conv => whnf); first | (refine Side.mk ?_ ?_; focus (first | with_reducible rfl | (intros; (try simp only [lenS, inR, cutS, loI, hiI] at *); omega) | exact List.eq_nil_of_length_eq_zero (by assumption))) | refine RetE.mk () trivial ?_ | refine boolK (fun h => ?_) ?_ | refine retK_r ?_ | exact rfl) | fail); all_goals try (conv => whnf)
def growF (seed : H256) (x : Bs) (l : List Ver) (e : Int) (val : Bs) : List Ver × Int :=
  if okG cmL zeroH x l e val then (l ++ [newV cmL zeroH (saltL seed x (l.length + 1)) x l e val], 0) else ([], 1)
def cgrow_c : Ctr where
  D := H256 × Bs × List Ver × Int × Bs
  pre := fun (_, x, l, _, val) => x.length ≤ 100000 ∧ l.length ≤ 10000 ∧ val.length ≤ 100000
  args := fun (s, x, l, e, val) => [.agg [.arr8 s], .fs 1 eB x, .fs 67 eVr l, .int .i64 e, .fs 1 eB val]
  res := fun (s, x, l, e, val) _ => .tup [.fs 67 eVr (growF s x l e val).1, .int .i64 (growF s x l e val).2]
def cgrow_H : Cfg := ⟨[(83, cis_c), (84, cloneB_c), (85, cformed_c), (86, ccommit_c), (87, csalt_c), (72, cloneV_c)], [(10, [], [1, 2, 3, 4], (.one 0 0 false (.alt 1 false (.one 2 2 false (.one 3 2 false (.one 4 2 false (.one 5 0 false (.one 6 0 false .nil))))) (.one 2 2 false (.alt 1 false (.one 3 2 false (.one 4 2 false (.one 5 0 false (.one 6 0 false .nil)))) (.one 3 2 false (.one 1 2 false (.one 4 2 false (.one 5 0 false (.one 6 0 false .nil))))))))), [])], [39], [], 71, 0, [], [], []⟩
theorem cgrow_ok : cgrow_c.Ok Tryz.prog 41 := by
  refine fn_ok cgrow_H 0 rfl _ Tryz.func41 rfl rfl ⟨cis_ok, cloneB_ok, cformed_ok, ccommit_ok, csalt_ok, cloneV_ok, trivial⟩ rfl rfl (by kernel_rfl) (fun _ => Nat.le_of_ble_eq_true rfl) ?_
  rintro ⟨s, x, l, e, val⟩ hp hr
  try dsimp only [cgrow_c] at hp
  try simp only [cgrow_c, Rng, RngL, inR, and_true, true_and] at hr
  obtain ⟨hp1, hp2, hp3⟩ := hp
  have hp1 : x.length ≤ 100000 := hp1
  have hp2 : l.length ≤ 10000 := hp2
  have hp3 : val.length ≤ 100000 := hp3
  have hcb : cloneB_c.pre val := show val.length ≤ 1000000 by omega
  have hcv : cloneV_c.pre l := show l.length ≤ 100000 by omega
  have hcf : cformed_c.pre (x, l) := ⟨show x.length ≤ 1000000 by omega, show l.length ≤ 100000 by omega⟩
  have hcs : csalt_c.pre (s, x, (l.length : Int) + 1) := show x.length ≤ 1000000 by omega
  by_cases hb : (1 ≤ x.length ∧ x.length ≤ 32) ∧ val.length ≤ 64 ∧ 1 ≤ e ∧ e < 2147483648
  · obtain ⟨⟨b1, b2⟩, b3, b4, b5⟩ := hb
    by_cases hok : okG cmL zeroH x l e val
    · have hf : growF s x l e val = (l ++ [⟨(l.length : Int) + 1, e, saltL s x ((l.length : Int) + 1), lastB (cmL x) zeroH l, val⟩], 0) := if_pos hok
      have hpo := ((okG_prog cmL zeroH).1 hok).2
      repeat' (first | (with_reducible refine Unf.h ?_) | ((conv => whnf); first | refine Fork.mkn (fun h => ?_) (fun h => ?_) | refine Fork.mk (fun h => ?_) (fun h => ?_) | (refine Side.mk ?_ ?_; focus (first | with_reducible rfl | exact True.intro | assumption | (intros; (try simp only [lenS, inR, cutS, loI, hiI] at *); omega))) | refine Got.mk (fun _ _ => ?_) | refine CallS.mk (c := cis_c) (x) ?_ | refine CallS.mk (c := cloneB_c) (val) ?_) | fail); all_goals try (conv => whnf); all_goals try (exfalso; omega)
      refine CutS.auto (I := Unit) (fun _ => True) (fun _ => [(12, .ptr 1 0)]) (fun _ => [(0, .box 30 [.arr8 s]), (1, .box 115 [.int .i64 ((l.length : Int) + 1), .int .i64 e, .arr8 zeroH, .arr8 (lastB (cmL x) zeroH l), .fs 1 eB val])]) 2 ?_ ?_
      · repeat' (first | (with_reducible first | refine Unf.h ?_ | refine cutK_n ?_) | ((conv => whnf); first | refine Fork.mk (fun h => ?_) (fun h => ?_) | (refine Side.mk ?_ ?_; focus ((intros; (try simp only [lenS, inR, cutS, loI, hiI] at *); omega))) | (refine Idx.mk ?_ ?_; focus (omega))) | fail); all_goals try (conv => whnf); all_goals try (exfalso; omega)
        · have hne : l ≠ [] := fun h' => by rw [h'] at h; exact absurd h (by simp)
          have hF : formedC cmL zeroH x l := (hpo.resolve_left hne).1
          have hlast : (l.getLast hne) = l[((l.length : Int) - 1).toNat]'(by have := List.length_pos_iff.2 hne; omega) := by
            rw [List.getLast_eq_getElem]; congr 1; omega
          have hE := (hpo.resolve_left hne).2 hne
          have hB := lastB_at (cmL x) zeroH hne
          rw [hlast] at hE hB
          have hpc : ccommit_c.pre (x, l[((l.length : Int) - 1).toNat]'(by have := List.length_pos_iff.2 hne; omega)) := ⟨show x.length ≤ 1000000 by omega, by
            have h64 := (formed_at hF ((l.length : Int) - 1).toNat (by have := List.length_pos_iff.2 hne; omega)).2.2.2.2
            show (l[((l.length : Int) - 1).toNat]'(by have := List.length_pos_iff.2 hne; omega)).val.length ≤ 1000000
            omega⟩
          refine CallS.mk (c := cformed_c) ((x, l)) ?_
          repeat' (first | (with_reducible refine Unf.h ?_) | ((conv => whnf); first | refine Fork.mkn (fun h => ?_) (fun h => ?_) | refine Fork.mk (fun h => ?_) (fun h => ?_) | (refine Side.mk ?_ ?_; focus (first | with_reducible rfl | assumption)) | refine RetE.mk () trivial ?_ | refine Got.mk (fun _ _ => ?_) | refine retK_r ?_) | fail); all_goals try (conv => whnf); all_goals try (exfalso; omega)
          · exact absurd hF (by assumption)
          refine CallS.mk (c := ccommit_c) ((x, l[((l.length : Int) - 1).toNat]'(by have := List.length_pos_iff.2 hne; omega))) ?_
          repeat' (first | (with_reducible first | refine Unf.h ?_ | refine cutK_n ?_) | ((conv => whnf); first | (refine Side.mk ?_ ?_; focus (first | with_reducible rfl | assumption)) | refine Got.mk (fun _ _ => ?_)) | fail); all_goals try (conv => whnf); all_goals try (exfalso; omega)
          refine ⟨(), trivial, ?_⟩
          repeat' (first | (with_reducible refine Unf.h ?_) | ((conv => whnf); first | (refine Side.mk ?_ ?_; focus (first | with_reducible rfl | (simp only [*, hB]; done))) | (with_reducible refine Unf.h ?_) | exact True.intro) | fail); all_goals try (conv => whnf); all_goals try (exfalso; omega)
        · have hne : l = [] := List.eq_nil_of_length_eq_zero (by omega)
          subst hne
          all_goals try (conv => whnf); all_goals try (exfalso; omega)
          refine ⟨(), trivial, ?_⟩
          have e0 : lastB (cmL x) zeroH [] = zeroH := rfl
          repeat' (first | (with_reducible refine Unf.h ?_) | ((conv => whnf); first | (refine Side.mk ?_ ?_; focus (first | with_reducible rfl | (simp only [*, e0]; done))) | (with_reducible refine Unf.h ?_) | exact True.intro) | fail); all_goals try (conv => whnf); all_goals try (exfalso; omega)
      · intro _ _
        repeat' (first | (with_reducible refine Unf.h ?_) | ((conv => whnf); first | refine Both.mk ?_ ?_ | refine Both.mk ?_ ?_ | (refine Side.mk ?_ ?_; focus (first | with_reducible rfl | assumption)) | refine Got.mk (fun _ _ => ?_) | refine CallS.mk (c := csalt_c) ((s, x, (l.length : Int) + 1)) ?_ | refine CallS.mk (c := cloneV_c) (l) ?_) | fail); all_goals try (conv => whnf); all_goals try (exfalso; omega)
        all_goals
          refine Ex.mk [⟨(l.length : Int) + 1, e, saltL s x ((l.length : Int) + 1), lastB (cmL x) zeroH l, val⟩] rfl ?_
          repeat' (first | (with_reducible refine Unf.h ?_) | ((conv => whnf); first | (refine Side.mk ?_ ?_; focus (first | (intros; (try simp only [lenS, inR, cutS, loI, hiI, hf] at *); omega) | (simp only [*, hf]; done))) | refine RetE.mk () trivial ?_ | refine retK_r ?_ | exact rfl) | fail); all_goals try (conv => whnf); all_goals try (exfalso; omega)
    · have hf : growF s x l e val = ([], 1) := if_neg hok
      have hno : ¬ (l = [] ∨ formedC cmL zeroH x l ∧ ∀ h : l ≠ [], (l.getLast h).ep < e) := fun h => hok ((okG_prog cmL zeroH).2 ⟨⟨⟨b1, b2⟩, b3, b4, b5⟩, h⟩)
      have hne : l ≠ [] := fun h => hno (.inl h)
      have hlp := List.length_pos_iff.2 hne
      have hlast : (l.getLast hne) = l[((l.length : Int) - 1).toNat]'(by omega) := by
        rw [List.getLast_eq_getElem]; congr 1; omega
      have hno2 : ¬ (formedC cmL zeroH x l ∧ (l[((l.length : Int) - 1).toNat]'(by omega)).ep < e) := fun h => hno (.inr ⟨h.1, fun h' => by rw [hlast]; exact h.2⟩)
      repeat' (first | (with_reducible refine Unf.h ?_) | ((conv => whnf); first | refine Fork.mkn (fun h => ?_) (fun h => ?_) | refine Fork.mk (fun h => ?_) (fun h => ?_) | (refine Side.mk ?_ ?_; focus (first | with_reducible rfl | exact True.intro | assumption | (intros; (try simp only [lenS, inR, cutS, loI, hiI] at *); omega))) | refine Got.mk (fun _ _ => ?_) | refine CallS.mk (c := cis_c) (x) ?_ | refine CallS.mk (c := cloneB_c) (val) ?_) | fail); all_goals try (conv => whnf); all_goals try (exfalso; omega)
      refine CutS.auto (I := Empty) (fun _ => True) (fun _ => []) (fun _ => []) 0 ?_ (fun i => i.elim)
      repeat' (first | (with_reducible refine Unf.h ?_) | ((conv => whnf); first | refine Fork.mk (fun h => ?_) (fun h => ?_) | (refine Side.mk ?_ ?_; focus ((intros; (try simp only [lenS, inR, cutS, loI, hiI] at *); omega))) | (refine Idx.mk ?_ ?_; focus (omega))) | fail); all_goals try (conv => whnf); all_goals try (exfalso; omega)
      refine CallS.mk (c := cformed_c) ((x, l)) ?_
      repeat' (first | (with_reducible refine Unf.h ?_) | ((conv => whnf); first | refine Fork.mkn (fun h => ?_) (fun h => ?_) | refine Fork.mk (fun h => ?_) (fun h => ?_) | (refine Side.mk ?_ ?_; focus (first | with_reducible rfl | assumption | (simp only [*, hf]; done))) | refine RetE.mk () trivial ?_ | refine Got.mk (fun _ _ => ?_) | refine retK_r ?_ | exact rfl) | fail); all_goals try (conv => whnf); all_goals try (exfalso; omega)
      exact absurd ⟨by assumption, by omega⟩ hno2
  · have hn : ¬ okG cmL zeroH x l e val := fun h => hb ((okG_prog cmL zeroH).1 h).1
    have hf : growF s x l e val = ([], 1) := if_neg hn
    repeat' (first | (with_reducible refine Unf.h ?_) | ((conv => whnf); first | refine Fork.mkn (fun h => ?_) (fun h => ?_) | refine Fork.mk (fun h => ?_) (fun h => ?_) | (refine Side.mk ?_ ?_; focus (first | with_reducible rfl | exact True.intro | (simp only [*, hf]; done))) | refine RetE.mk () trivial ?_ | refine Got.mk (fun _ _ => ?_) | refine retK_r ?_ | exact rfl | refine CallS.mk (c := cis_c) (x) ?_) | fail); all_goals try (conv => whnf); all_goals try (exfalso; omega)
def uptoL (l : List Ver) (e : Int) : List Ver := l.takeWhile fun v => decide (v.ep ≤ e)
theorem upto_all {l : List Ver} {e : Int} {n : Nat} (h1 : n ≤ l.length) (h : ∀ i, ∀ hi : i < n, (l[i]'(by omega)).ep ≤ e) (hl : n = l.length ∨ ∃ hn : n < l.length, ¬ (l[n]'hn).ep ≤ e) : uptoL l e = l.take n := by
  induction l generalizing n with
  | nil => simp [uptoL]
  | cons v r ih =>
    cases n with
    | zero =>
      rcases hl with hl | ⟨hn, hl⟩
      · cases hl
      · have hl : ¬ v.ep ≤ e := hl
        simp [uptoL, List.takeWhile_cons, hl]
    | succ n =>
      have h0 : v.ep ≤ e := h 0 (by omega)
      have := ih (n := n) (by simpa using h1) (fun i hi => h (i + 1) (by omega)) (by
        rcases hl with hl | ⟨hn, hl⟩
        · exact .inl (by simpa using hl)
        · exact .inr ⟨by simpa using hn, hl⟩)
      unfold uptoL at this ⊢
      rw [List.takeWhile_cons, if_pos (by simpa using h0), this]; rfl
def cupto_c : Ctr where
  D := List Ver × Int
  pre := fun (l, _) => l.length ≤ 100000
  args := fun (l, e) => [.fs 67 eVr l, .int .i64 e]
  res := fun (l, e) _ => .fs 67 eVr (uptoL l e)
def cupto_H : Cfg := ⟨[(72, cloneV_c)], [], [], [], 25, 0, [], [], []⟩
theorem cupto_ok : cupto_c.Ok Tryz.prog 62 := by
  refine fn_ok cupto_H 0 rfl _ Tryz.func62 rfl rfl ⟨cloneV_ok, trivial⟩ rfl rfl (by kernel_rfl) (fun _ => Nat.le_of_ble_eq_true rfl) ?_
  rintro ⟨l, e⟩ hp hr
  try dsimp only [cupto_c] at hp
  try simp only [cupto_c, Rng, RngL, inR, and_true, true_and] at hr
  have hp : l.length ≤ 100000 := hp
  repeat' (first | (with_reducible refine Unf.h ?_) | fail); all_goals try (conv => whnf); all_goals try (exfalso; omega)
  refine LoopS.autoN (I := Nat) (fun n => n ≤ l.length ∧ ∀ i, ∀ hi : i < n, ∀ hl : i < l.length, (l[i]'hl).ep ≤ e) (fun n => [(5, .int .i64 (n : Int))]) (fun _ => []) 0 (fun n => l.length - n) 0 ⟨Nat.zero_le _, fun i hi => absurd hi (by omega)⟩ ?_ ?_
  · repeat' (first | (with_reducible refine Unf.h ?_) | ((conv => whnf); first | (refine Side.mk ?_ ?_; focus (first | with_reducible rfl | (refine congrArg (SV.int _) ?_; omega))) | (with_reducible refine Unf.h ?_) | exact True.intro) | fail); all_goals try (conv => whnf); all_goals try (exfalso; omega)
  · rintro n ⟨hn, hf⟩
    have hcv : cloneV_c.pre (l.take n) := by show (l.take n).length ≤ 100000; rw [List.length_take]; omega
    have e1 : cutL l none (some (n : Int)) = l.take n := by simp [cutL]
    repeat' (first | (with_reducible first | refine Unf.h ?_ | refine loopK_n ?_) | ((conv => whnf); first | refine Fork.mk (fun h => ?_) (fun h => ?_) | (refine Side.mk ?_ ?_; focus ((intros; (try simp only [lenS, inR, cutS, loI, hiI] at *); omega))) | (refine Idx.mk ?_ ?_; focus (omega))) | fail); all_goals try (conv => whnf); all_goals try (exfalso; omega)
    · refine ⟨n + 1, ⟨by omega, by omega, fun i hi hl => ?_⟩, ?_⟩
      · rcases Nat.lt_or_ge i n with h' | h'
        · exact hf i h' hl
        · obtain rfl : i = n := by omega
          exact h
      · repeat' (first | (with_reducible refine Unf.h ?_) | ((conv => whnf); first | (refine Side.mk ?_ ?_; focus (first | with_reducible rfl | (refine congrArg (SV.int _) ?_; omega))) | (with_reducible refine Unf.h ?_) | exact True.intro) | fail); all_goals try (conv => whnf); all_goals try (exfalso; omega)
    · have e2 : uptoL l e = l.take n := upto_all hn (fun i hi => hf i hi (by omega)) (.inr ⟨by omega, h⟩)
      rw [e1]
      refine CallS.mk (c := cloneV_c) ((l.take n)) ?_
      repeat' (first | (with_reducible refine Unf.h ?_) | ((conv => whnf); first | (refine Side.mk ?_ ?_; focus (first | with_reducible rfl | assumption | (simp only [*, e2]; done))) | refine RetE.mk () trivial ?_ | refine Got.mk (fun _ _ => ?_) | refine retK_r ?_ | exact rfl) | fail); all_goals try (conv => whnf); all_goals try (exfalso; omega)
    · have e2 : uptoL l e = l.take n := upto_all hn (fun i hi => hf i hi (by omega)) (.inl (by omega))
      rw [e1]
      refine CallS.mk (c := cloneV_c) ((l.take n)) ?_
      repeat' (first | (with_reducible refine Unf.h ?_) | ((conv => whnf); first | (refine Side.mk ?_ ?_; focus (first | with_reducible rfl | assumption | (simp only [*, e2]; done))) | refine RetE.mk () trivial ?_ | refine Got.mk (fun _ _ => ?_) | refine retK_r ?_ | exact rfl) | fail); all_goals try (conv => whnf); all_goals try (exfalso; omega)
end Go.Proofs.YtdflndjlnkoliaaGreatDoor

namespace Go.Proofs.YtdflndjlnkoliaaGreatDoor
set_option linter.all false
open Go.RowKit
theorem flatB {α : Type} : ∀ (l : List (List α)) (m : Nat), (∀ n ∈ l, n.length ≤ m) → l.flatten.length ≤ m * l.length
  | [], m, _ => by simp
  | n :: r, m, h => by
    have h1 := h n (by simp)
    have := flatB r m fun k hk => h k (by simp [hk])
    rw [List.flatten_cons, List.length_append, List.length_cons, Nat.mul_succ]; omega
theorem flat_step {α : Type} (l : List (List α)) (i : Nat) (h : i < l.length) : (l.take (i + 1)).flatten = (l.take i).flatten ++ l[i] := by
  rw [List.take_succ_eq_append_getElem h, List.flatten_append, List.flatten_cons, List.flatten_nil, List.append_nil]
def concat_c : Ctr where
  D := List Bs
  pre := fun l => 1 ≤ l.flatten.length ∧ l.length ≤ 100 ∧ ∀ p ∈ l, p.length ≤ 1000000
  args := fun l => [.fs 1 eP l]
  res := fun _ _ => .own 0
  out := fun l _ => [(0, .row 5 1 eB l.flatten)]
  mm := 1
def concat_H : Cfg := ⟨[(187, sgrow_c)], [], [], [], 36, 0, [], [], []⟩
theorem concat_ok : concat_c.Ok Tryz.prog 165 := by
  refine fn_ok concat_H 0 rfl _ Tryz.func165 rfl rfl ⟨sgrow_ok, trivial⟩ rfl rfl (by kernel_rfl) (fun _ => Nat.le_of_ble_eq_true rfl) ?_
  intro (l : List Bs) hp hr
  try dsimp only [concat_c] at hp
  try simp only [concat_c, Rng, RngL, inR, and_true, true_and] at hr
  obtain ⟨hp1, hp2, hp3⟩ := hp
  have hp1 : 1 ≤ l.flatten.length := hp1
  have hp2 : l.length ≤ 100 := hp2
  have hbd : ∀ i, (l.take i).flatten.length ≤ 100000000 := fun i => by
    have h1 := flatB (l.take i) 1000000 fun p hp => hp3 p (List.mem_of_mem_take hp)
    have h2 : (l.take i).length ≤ l.length := by simp; omega
    omega
  have hbl := hbd l.length
  rw [List.take_length] at hbl
  repeat' (first | (with_reducible refine Unf.h ?_) | fail); all_goals try (conv => whnf); all_goals try (exfalso; omega)
  refine LoopS.autoN (I := Nat) (fun i => i ≤ l.length) (fun i => [(11, .int .i64 (i : Int)), (3, .int .i64 (((l.take i).flatten.length : Nat) : Int))]) (fun _ => []) 0 (fun i => l.length - i) 0 (Nat.zero_le _) ?_ ?_
  · have e0 : (l.take 0).flatten.length = 0 := rfl
    repeat' (first | (with_reducible refine Unf.h ?_) | ((conv => whnf); first | (refine Side.mk ?_ ?_; focus (first | with_reducible rfl | (refine congrArg (SV.int _) ?_; omega))) | (with_reducible refine Unf.h ?_) | exact True.intro) | fail); all_goals try (conv => whnf); all_goals try (exfalso; omega)
  · intro i hi
    have hbi := hbd i
    by_cases hil : i < l.length
    · have hb : (l[((i : Nat) : Int).toNat]'hil).length ≤ 1000000 := hp3 _ (List.getElem_mem _)
      have es : (((l.take (i + 1)).flatten.length : Nat) : Int) = ((l.take i).flatten.length : Nat) + ((l[((i : Nat) : Int).toNat]'hil).length : Int) := by
        rw [flat_step l i hil, List.length_append]; rfl
      repeat' (first | (with_reducible first | refine Unf.h ?_ | refine loopK_n ?_) | ((conv => whnf); first | refine Fork.mk (fun h => ?_) (fun h => ?_) | (refine Side.mk ?_ ?_; focus ((intros; (try simp only [lenS, inR, cutS, loI, hiI, eP] at *); omega))) | (refine Idx.mk ?_ ?_; focus (omega))) | fail); all_goals try (conv => whnf); all_goals try (exfalso; omega)
      refine ⟨i + 1, ⟨by omega, by omega⟩, ?_⟩
      repeat' (first | (with_reducible refine Unf.h ?_) | ((conv => whnf); first | (refine Side.mk ?_ ?_; focus (first | with_reducible rfl | (refine congrArg (SV.int _) ?_; omega))) | (with_reducible refine Unf.h ?_) | exact True.intro) | fail); all_goals try (conv => whnf); all_goals try (exfalso; omega)
    · have e : l.take i = l := List.take_of_length_le (by omega)
      have hpg : sgrow_c.pre l.flatten.length := ⟨by omega, by omega⟩
      rw [e] at hbi ⊢
      repeat' (first | (with_reducible refine Unf.h ?_) | ((conv => whnf); refine Fork.mk (fun h => ?_) (fun h => ?_)) | fail); all_goals try (conv => whnf); all_goals try (exfalso; omega)
      refine CallS.mk (c := sgrow_c) (l.flatten.length) ?_
      repeat' (first | (with_reducible refine Unf.h ?_) | ((conv => whnf); first | (refine Side.mk ?_ ?_; focus (first | with_reducible rfl | assumption)) | refine Got.mk (fun _ _ => ?_)) | fail); all_goals try (conv => whnf); all_goals try (exfalso; omega)
      refine LoopS.autoN (I := Nat) (fun i => i ≤ l.length) (fun i => [(27, .int .i64 (i : Int)), (6, .own 0)]) (fun i => [(0, .row 5 1 eB (l.take i).flatten)]) 1 (fun i => l.length - i) 0 (Nat.zero_le _) ?_ ?_
      · have e0 : (l.take 0).flatten = [] := rfl
        repeat' (first | (with_reducible refine Unf.h ?_) | ((conv => whnf); first | (refine Side.mk ?_ ?_; focus (first | with_reducible rfl | (refine congrArg (SV.int _) ?_; omega) | (simp only [*, e0]; done))) | (with_reducible refine Unf.h ?_) | exact True.intro) | fail); all_goals try (conv => whnf); all_goals try (exfalso; omega)
      · intro i hi
        have hbi := hbd i
        by_cases hil : i < l.length
        · have hb : (l[((i : Nat) : Int).toNat]'hil).length ≤ 1000000 := hp3 _ (List.getElem_mem _)
          have es : (l.take (i + 1)).flatten = (l.take i).flatten ++ l[((i : Nat) : Int).toNat]'hil := flat_step l i hil
          repeat' (first | (with_reducible first | refine Unf.h ?_ | refine loopK_n ?_) | ((conv => whnf); first | refine Fork.mk (fun h => ?_) (fun h => ?_) | (refine Side.mk ?_ ?_; focus ((intros; (try simp only [lenS, inR, cutS, loI, hiI, eP] at *); omega))) | (refine Idx.mk ?_ ?_; focus (omega)) | refine Ex.mk _ rfl ?_) | fail); all_goals try (conv => whnf); all_goals try (exfalso; omega)
          refine ⟨i + 1, ⟨by omega, by omega⟩, ?_⟩
          repeat' (first | (with_reducible refine Unf.h ?_) | ((conv => whnf); first | (refine Side.mk ?_ ?_; focus (first | with_reducible rfl | (refine congrArg (SV.int _) ?_; omega) | (simp only [*, es]; done))) | (with_reducible refine Unf.h ?_) | exact True.intro) | fail); all_goals try (conv => whnf); all_goals try (exfalso; omega)
        · have e : l.take i = l := List.take_of_length_le (by omega)
          repeat' (first | (with_reducible refine Unf.h ?_) | ((conv => whnf); first | refine Fork.mk (fun h => ?_) (fun h => ?_) | (refine Side.mk ?_ ?_; focus ((simp only [*, e]; done))) | refine RetE.mk () trivial ?_ | refine retK_r ?_ | exact rfl) | fail); all_goals try (conv => whnf); all_goals try (exfalso; omega)
def wnum_c : Ctr where
  D := Bs × BitVec 64 × Nat
  pre := fun (b, _, n) => n ≤ 8 ∧ b.length ≤ 1000000
  args := fun (_, x, n) => [.ptr 0 0, .u64 x, .int .i64 (n : Int)]
  objs := fun (b, _, _) => [(0, .box 226 [.own 1, .bool false]), (1, .row 5 1 eB b)]
  nn := 2
  res := fun _ _ => .tup []
  out := fun (b, x, n) _ => [(0, .box 226 [.own 2, .bool false]), (2, .row 5 1 eB (b ++ beN n x))]
  mm := 1
def wnum_H : Cfg := ⟨[], [(4, [4], [10, 11, 14], (.one 0 0 false (.one 1 0 false (.one 2 0 false (.one 3 0 false (.one 4 1 false (.one 5 0 false (.one 6 0 false (.one 7 0 false (.one 8 0 false (.one 9 0 false (.one 10 2 true (.one 11 2 false (.one 12 0 false (.one 13 0 false (.one 14 2 false .nil))))))))))))))), [])], [], [], 35, 2, [], [], []⟩
theorem wnum_ok : wnum_c.Ok Tryz.prog 164 := by
  refine fn_ok wnum_H 2 rfl _ Tryz.func164 rfl rfl trivial rfl rfl (by kernel_rfl) (fun _ => Nat.le_of_ble_eq_true rfl) ?_
  rintro ⟨b, x, n⟩ hp hr
  try dsimp only [wnum_c] at hp
  try simp only [wnum_c, Rng, RngL, inR, and_true, true_and] at hr
  obtain ⟨hp1, hp2⟩ := hp
  have hp1 : n ≤ 8 := hp1
  have hp2 : b.length ≤ 1000000 := hp2
  repeat' (first | (with_reducible refine Unf.h ?_) | ((conv => whnf); (refine Side.mk ?_ ?_; focus ((intros; (try simp only [lenS, inR, cutS, loI, hiI] at *); omega)))) | fail); all_goals try (conv => whnf); all_goals try (exfalso; omega)
  refine LoopS.autoN (I := Nat) (fun k => k ≤ n) (fun k => [(6, .int .i64 ((n : Int) - 1 - k))]) (fun k => [(0, .box 226 [.own 2, .bool false]), (2, .row 5 1 eB (b ++ beUp x n k))]) 3 (fun k => n - k) 0 (Nat.zero_le _) ?_ ?_
  · have e0 : b ++ beUp x n 0 = b := by rw [beUp_zero, List.append_nil]
    repeat' (first | (with_reducible refine Unf.h ?_) | ((conv => whnf); first | (refine Side.mk ?_ ?_; focus (first | with_reducible rfl | (refine congrArg (SV.int _) ?_; omega) | (simp only [*, e0]; done))) | (with_reducible refine Unf.h ?_) | exact True.intro) | fail); all_goals try (conv => whnf); all_goals try (exfalso; omega)
  · intro k hk
    have hbl := beUp_len x n k
    rcases Nat.lt_or_ge k n with hkn | hkn
    · have es : b ++ beUp x n k ++ [(x >>> (8 * ((n : Int) - 1 - k)).toNat).setWidth 8] = b ++ beUp x n (k + 1) := by
        rw [show (8 * ((n : Int) - 1 - k)).toNat = 8 * (n - 1 - k) by omega, List.append_assoc, beUp_succ]
      repeat' (first | (with_reducible first | refine Unf.h ?_ | refine loopK_n ?_) | ((conv => whnf); first | refine Fork.mk (fun h => ?_) (fun h => ?_) | (refine Side.mk ?_ ?_; focus (first | omega | (intros; (try simp only [lenS, inR, cutS, loI, hiI] at *); omega))) | refine Ex.mk [_] rfl ?_) | fail); all_goals try (conv => whnf); all_goals try (exfalso; omega)
      all_goals
        refine ⟨k + 1, ⟨by omega, by omega⟩, ?_⟩
        repeat' (first | (with_reducible refine Unf.h ?_) | ((conv => whnf); first | (refine Side.mk ?_ ?_; focus (first | with_reducible rfl | (refine congrArg (SV.int _) ?_; omega) | (simp only [*, es]; done))) | (with_reducible refine Unf.h ?_) | exact True.intro) | fail); all_goals try (conv => whnf); all_goals try (exfalso; omega)
    · obtain rfl : k = n := by omega
      repeat' (first | (with_reducible refine Unf.h ?_) | ((conv => whnf); first | refine Fork.mk (fun h => ?_) (fun h => ?_) | (refine Side.mk ?_ ?_; focus (first | with_reducible rfl | (simp only [*, beUp_all]; done))) | refine RetE.mk () trivial ?_ | refine retK_n ?_ | exact rfl) | fail); all_goals try (conv => whnf); all_goals try (exfalso; omega)
def wu32_c : Ctr where
  D := Bs × BitVec 32
  pre := fun (b, _) => b.length ≤ 1000000
  args := fun (_, x) => [.ptr 0 0, .u32 x]
  objs := fun (b, _) => [(0, .box 226 [.own 1, .bool false]), (1, .row 5 1 eB b)]
  nn := 2
  res := fun _ _ => .tup []
  out := fun (b, x) _ => [(0, .box 226 [.own 2, .bool false]), (2, .row 5 1 eB (b ++ beN 4 (x.setWidth 64)))]
  mm := 1
def wu32_H : Cfg := ⟨[(164, wnum_c)], [], [], [], 8, 2, [], [], []⟩
theorem wu32_ok : wu32_c.Ok Tryz.prog 130 := by
  refine fn_ok wu32_H 2 rfl _ Tryz.func130 rfl rfl ⟨wnum_ok, trivial⟩ rfl rfl (by kernel_rfl) (fun _ => Nat.le_of_ble_eq_true rfl) ?_
  rintro ⟨b, x⟩ hp hr
  try dsimp only [wu32_c] at hp
  try simp only [wu32_c, Rng, RngL, inR, and_true, true_and] at hr
  have hp : b.length ≤ 1000000 := hp
  have hpn : wnum_c.pre (b, x.setWidth 64, 4) := ⟨by omega, hp⟩
  repeat' (first | (with_reducible refine Unf.h ?_) | fail); all_goals try (conv => whnf); all_goals try (exfalso; omega)
  refine CallS.mk (c := wnum_c) ((b, x.setWidth 64, 4)) ?_
  repeat' (first | (with_reducible refine Unf.h ?_) | ((conv => whnf); first | (refine Side.mk ?_ ?_; focus (first | with_reducible rfl | assumption | (refine congrArg (SV.int _) ?_; omega))) | refine RetE.mk () trivial ?_ | refine Got.mk (fun _ _ => ?_) | refine retK_n ?_ | exact rfl) | fail); all_goals try (conv => whnf); all_goals try (exfalso; omega)
def wplain_c : Ctr where
  D := Bs × Bs
  pre := fun (b, p) => b.length ≤ 1000000 ∧ p.length ≤ 1000000
  args := fun (_, p) => [.ptr 0 0, .fs 1 eB p]
  objs := fun (b, _) => [(0, .box 226 [.own 1, .bool false]), (1, .row 5 1 eB b)]
  nn := 2
  res := fun _ _ => .tup []
  out := fun (b, p) _ => [(0, .box 226 [.own 2, .bool false]), (2, .row 5 1 eB (b ++ p))]
  mm := 1
def wplain_H : Cfg := ⟨[], [], [], [], 22, 2, [], [], []⟩
theorem wplain_ok : wplain_c.Ok Tryz.prog 131 := by
  refine fn_ok wplain_H 2 rfl _ Tryz.func131 rfl rfl trivial rfl rfl (by kernel_rfl) (fun _ => Nat.le_of_ble_eq_true rfl) ?_
  rintro ⟨b, p⟩ hp hr
  try dsimp only [wplain_c] at hp
  try simp only [wplain_c, Rng, RngL, inR, and_true, true_and] at hr
  obtain ⟨hp1, hp2⟩ := hp
  have hp1 : b.length ≤ 1000000 := hp1
  have hp2 : p.length ≤ 1000000 := hp2
  repeat' (first | (with_reducible refine Unf.h ?_) | ((conv => whnf); first | (refine Side.mk ?_ ?_; focus (first | with_reducible rfl | (intros; (try simp only [lenS, inR, cutS, loI, hiI] at *); omega))) | refine RetE.mk () trivial ?_ | refine Ex.mk _ rfl ?_ | refine retK_n ?_ | exact rfl) | fail); all_goals try (conv => whnf); all_goals try (exfalso; omega)
def wout_c : Ctr where
  D := Bs
  pre := fun b => b.length ≤ 1000000
  args := fun _ => [.ptr 0 0]
  objs := fun b => [(0, .box 226 [.own 1, .bool false]), (1, .row 5 1 eB b)]
  nn := 2
  res := fun b _ => .tup [.fs 1 eB b, .int .i64 0]
def wout_H : Cfg := ⟨[(84, cloneB_c)], [], [], [], 17, 2, [], [], []⟩
theorem wout_ok : wout_c.Ok Tryz.prog 132 := by
  refine fn_ok wout_H 2 rfl _ Tryz.func132 rfl rfl ⟨cloneB_ok, trivial⟩ rfl rfl (by kernel_rfl) (fun _ => Nat.le_of_ble_eq_true rfl) ?_
  intro (b : Bs) hp hr
  try dsimp only [wout_c] at hp
  try simp only [wout_c, Rng, RngL, inR, and_true, true_and] at hr
  have hp : b.length ≤ 1000000 := hp
  have hpc : cloneB_c.pre b := hp
  repeat' (first | (with_reducible refine Unf.h ?_) | fail); all_goals try (conv => whnf); all_goals try (exfalso; omega)
  refine CallS.mk (c := cloneB_c) (b) ?_
  repeat' (first | (with_reducible refine Unf.h ?_) | ((conv => whnf); first | (refine Side.mk ?_ ?_; focus (first | with_reducible rfl | assumption)) | refine RetE.mk () trivial ?_ | refine Got.mk (fun _ _ => ?_) | refine retK_r ?_ | exact rfl) | fail); all_goals try (conv => whnf); all_goals try (exfalso; omega)
def fleaf_c : Ctr where
  D := Bs
  pre := fun b => b.length ≤ 1000000
  args := fun b => [.fs 1 eB b]
  res := fun b _ => .agg [.arr8 (sha (0#8 :: b))]
def fleaf_H : Cfg := ⟨[(165, concat_c), (114, sum_c)], [], [], [], 8, 0, [], [], []⟩
theorem fleaf_ok : fleaf_c.Ok Tryz.prog 133 := by
  refine fn_ok fleaf_H 0 rfl _ Tryz.func133 rfl rfl ⟨concat_ok, sum_ok, trivial⟩ rfl rfl (by kernel_rfl) (fun _ => Nat.le_of_ble_eq_true rfl) ?_
  intro (b : Bs) hp hr
  try dsimp only [fleaf_c] at hp
  try simp only [fleaf_c, Rng, RngL, inR, and_true, true_and] at hr
  have hp : b.length ≤ 1000000 := hp
  have hpc : concat_c.pre [[0#8], b] := ⟨by simp, by simp, by simp; omega⟩
  repeat' (first | (with_reducible refine Unf.h ?_) | ((conv => whnf); refine Ex.mk [_] rfl ?_) | fail); all_goals try (conv => whnf); all_goals try (exfalso; omega)
  refine CallS.mk (c := concat_c) ([[0#8], b]) ?_
  repeat' (first | (with_reducible refine Unf.h ?_) | fail); all_goals try (conv => whnf); all_goals try (exfalso; omega)
  refine Side.mk rfl ?_
  repeat' (first | (with_reducible refine Unf.h ?_) | ((conv => whnf); first | (refine Side.mk ?_ ?_; focus (assumption)) | refine Got.mk (fun _ _ => ?_) | (with_reducible refine Unf.h ?_)) | fail); all_goals try (conv => whnf); all_goals try (exfalso; omega)
  refine CallS.mk (c := sum_c) ((0#8 :: b)) ?_
  repeat' (first | (with_reducible refine Unf.h ?_) | ((conv => whnf); first | (refine Side.mk ?_ ?_; focus (first | with_reducible rfl | exact True.intro | (simp [*]; done))) | refine RetE.mk () trivial ?_ | refine Got.mk (fun _ _ => ?_) | refine retK_r ?_ | exact rfl) | fail); all_goals try (conv => whnf); all_goals try (exfalso; omega)
def hentry_c : Ctr where
  D := Int × H256
  pre := fun (e, _) => 0 ≤ e ∧ e < 2147483648
  args := fun (e, r) => [.int .i64 e, .agg [.arr8 r]]
  res := fun (e, r) _ => .agg [.arr8 (entH e r)]
theorem beN_four {e : Int} (h0 : 0 ≤ e) (h1 : e < 2147483648) : beN 4 ((BitVec.ofInt 32 e).setWidth 64) = fourB e := by
  obtain ⟨n, rfl⟩ : ∃ n : Nat, e = n := ⟨e.toNat, by omega⟩
  have e0 : (BitVec.ofInt 32 (n : Int)).setWidth 64 = BitVec.ofNat 64 n := by
    apply BitVec.eq_of_toNat_eq
    simp only [BitVec.ofInt_natCast, BitVec.toNat_setWidth, BitVec.toNat_ofNat]
    omega
  rw [e0]
  have key : ∀ k : Nat, k ≤ 24 → ((BitVec.ofNat 64 n) >>> k).setWidth 8 = BitVec.ofInt 8 ((n : Int) / 2 ^ k) := fun k _ => by
    apply BitVec.eq_of_toNat_eq
    rw [show ((n : Int) / 2 ^ k) = ((n / 2 ^ k : Nat) : Int) by push_cast; rfl, BitVec.ofInt_natCast]
    simp only [BitVec.toNat_setWidth, BitVec.toNat_ushiftRight, BitVec.toNat_ofNat, Nat.shiftRight_eq_div_pow]
    rw [Nat.mod_eq_of_lt (show n < 2 ^ 64 by omega)]
  have k0 := key 0 (by omega)
  have k1 := key 8 (by omega)
  have k2 := key 16 (by omega)
  have k3 := key 24 (by omega)
  rw [show ((n : Int) / 2 ^ 0) = (n : Int) by simp] at k0
  show [_, _, _, _] = [_, _, _, _]
  rw [← k0, ← k1, ← k2, ← k3]
def hentry_H : Cfg := ⟨[(130, wu32_c), (131, wplain_c), (132, wout_c), (133, fleaf_c)], [], [], [], 24, 0, [], [], []⟩
theorem hentry_ok : hentry_c.Ok Tryz.prog 90 := by
  refine fn_ok hentry_H 0 rfl _ Tryz.func90 rfl rfl ⟨wu32_ok, wplain_ok, wout_ok, fleaf_ok, trivial⟩ rfl rfl (by kernel_rfl) (fun _ => Nat.le_of_ble_eq_true rfl) ?_
  rintro ⟨e, r⟩ hp hr
  try dsimp only [hentry_c] at hp
  try simp only [hentry_c, Rng, RngL, inR, and_true, true_and] at hr
  obtain ⟨hp1, hp2⟩ := hp
  have hp1 : 0 ≤ e := hp1
  have hp2 : e < 2147483648 := hp2
  have e4 := beN_four hp1 hp2
  have e4' : [] ++ beN 4 ((BitVec.ofInt 32 e).setWidth 64) = fourB e := e4
  have hpu : wu32_c.pre ([], BitVec.ofInt 32 e) := show 0 ≤ 1000000 by omega
  have hpp : wplain_c.pre (fourB e, r.toList) := ⟨by rw [fourB_len]; omega, by simp⟩
  have hl36 : (fourB e ++ r.toList).length ≤ 1000000 := by simp [fourB_len]
  have hpo : wout_c.pre (fourB e ++ r.toList) := hl36
  have hpf : fleaf_c.pre (fourB e ++ r.toList) := hl36
  repeat' (first | (with_reducible refine Unf.h ?_) | fail); all_goals try (conv => whnf); all_goals try (exfalso; omega)
  refine CallS.mk (c := wu32_c) (([], BitVec.ofInt 32 e)) ?_
  repeat' (first | (with_reducible refine Unf.h ?_) | ((conv => whnf); first | (refine Side.mk ?_ ?_; focus (first | with_reducible rfl | exact True.intro | assumption)) | refine Got.mk (fun _ _ => ?_)) | fail); all_goals try (conv => whnf); all_goals try (exfalso; omega)
  refine CallS.mk (c := wplain_c) ((fourB e, r.toList)) ?_
  repeat' (first | (with_reducible refine Unf.h ?_) | ((conv => whnf); (refine Side.mk ?_ ?_; focus ((intros; (try simp only [lenS, inR, cutS, loI, hiI] at *); omega)))) | fail); all_goals try (conv => whnf); all_goals try (exfalso; omega)
  refine Side.mk (by simp only [cutv2]) ?_
  repeat' (first | (with_reducible refine Unf.h ?_) | ((conv => whnf); first | (refine Side.mk ?_ ?_; focus (first | with_reducible rfl | assumption | (simp [*]; done))) | refine Got.mk (fun _ _ => ?_)) | fail); all_goals try (conv => whnf); all_goals try (exfalso; omega)
  refine CallS.mk (c := wout_c) ((fourB e ++ r.toList)) ?_
  repeat' (first | (with_reducible refine Unf.h ?_) | ((conv => whnf); first | (refine Side.mk ?_ ?_; focus (first | with_reducible rfl | assumption)) | refine Got.mk (fun _ _ => ?_)) | fail); all_goals try (conv => whnf); all_goals try (exfalso; omega)
  refine CallS.mk (c := fleaf_c) ((fourB e ++ r.toList)) ?_
  repeat' (first | (with_reducible refine Unf.h ?_) | ((conv => whnf); first | (refine Side.mk ?_ ?_; focus (first | with_reducible rfl | assumption | (simp only [*, entH]; done))) | refine RetE.mk () trivial ?_ | refine Got.mk (fun _ _ => ?_) | refine retK_r ?_ | exact rfl) | fail); all_goals try (conv => whnf); all_goals try (exfalso; omega)
end Go.Proofs.YtdflndjlnkoliaaGreatDoor

namespace Go.Proofs.YtdflndjlnkoliaaGreatDoor
set_option linter.all false
section
variable {α : Type} (nodeA : α → α → α)
structure Prt (α : Type) where
  fr : Nat
  sz : Nat
  h : α
def halfK (n : Nat) : Nat → Nat → Nat
  | 0, k => k
  | f + 1, k => if k < n - k then halfK n f (2 * k) else k
def rootL (zero : α) : Nat → List α → α
  | 0, _ => zero
  | _ + 1, [] => zero
  | _ + 1, [x] => x
  | f + 1, l => nodeA (rootL zero f (l.take (halfK l.length l.length 1))) (rootL zero f (l.drop (halfK l.length l.length 1)))
def putSt : List (Prt α) → Prt α → List (Prt α)
  | [], p => [p]
  | a :: s, p => if a.sz = p.sz ∧ a.fr % (2 * a.sz) = 0 then putSt s ⟨a.fr, 2 * a.sz, nodeA a.h p.h⟩ else p :: a :: s
def putStk : List (Prt α) → Nat → List α → List (Prt α)
  | s, _, [] => s
  | s, n, x :: r => putStk (putSt nodeA s ⟨n, 1, x⟩) (n + 1) r
theorem putStk_app (s : List (Prt α)) (n : Nat) (l m : List α) : putStk nodeA s n (l ++ m) = putStk nodeA (putStk nodeA s n l) (n + l.length) m := by
  induction l generalizing s n with
  | nil => rfl
  | cons x r ih =>
    show putStk nodeA (putSt nodeA s ⟨n, 1, x⟩) (n + 1) (r ++ m) = _
    rw [ih]
    show _ = putStk nodeA (putStk nodeA (putSt nodeA s ⟨n, 1, x⟩) (n + 1) r) (n + (r.length + 1)) m
    rw [show n + 1 + r.length = n + (r.length + 1) by omega]
def topAt : List (Prt α) → Nat → Prop
  | [], _ => True
  | a :: _, n => a.fr + a.sz = n
theorem put_two (s : List (Prt α)) (n m : Nat) (x y : α) (hm : 0 < m) (hd : n % (2 * m) = 0) (ht : topAt s n) : putSt nodeA (putSt nodeA s ⟨n, m, x⟩) ⟨n + m, m, y⟩ = putSt nodeA s ⟨n, 2 * m, nodeA x y⟩ := by
  have h1 : putSt nodeA s ⟨n, m, x⟩ = ⟨n, m, x⟩ :: s := by
    cases s with
    | nil => rfl
    | cons a r =>
      unfold putSt
      rw [if_neg]
      rintro ⟨h1, h2⟩
      dsimp only at h1 h2
      have ht : a.fr + a.sz = n := ht
      rw [h1] at h2 ht
      have e : n = a.fr + m := ht.symm
      rw [e, Nat.add_mod, h2, Nat.zero_add, Nat.mod_mod] at hd
      rw [Nat.mod_eq_of_lt (by omega)] at hd
      omega
  rw [h1]
  show (if m = m ∧ n % (2 * m) = 0 then putSt nodeA s ⟨n, 2 * m, nodeA x y⟩ else _) = _
  rw [if_pos ⟨rfl, hd⟩]
theorem halfK_pow (j : Nat) : ∀ (f i : Nat), j ≤ f + i → i ≤ j → halfK (2 ^ (j + 1)) f (2 ^ i) = 2 ^ j
  | 0, i, h1, h2 => by
    have : i = j := by omega
    subst this; rfl
  | f + 1, i, h1, h2 => by
    have hij : 2 ^ i ≤ 2 ^ j := Nat.pow_le_pow_right (by decide) h2
    have hp : 2 ^ (j + 1) = 2 * 2 ^ j := by rw [Nat.pow_succ]; omega
    unfold halfK
    rcases Nat.lt_or_ge i j with h | h
    · have hlt : 2 ^ i < 2 ^ j := Nat.pow_lt_pow_right (by decide) h
      rw [if_pos (by omega), show 2 * 2 ^ i = 2 ^ (i + 1) by rw [Nat.pow_succ]; omega]
      exact halfK_pow j f (i + 1) (by omega) (by omega)
    · have : i = j := by omega
      subst this
      rw [if_neg (by omega)]
theorem two_pow_gt (j : Nat) : j < 2 ^ j := Nat.lt_two_pow_self
theorem rootL_pow (zero : α) {j f : Nat} {l : List α} (h : l.length = 2 ^ (j + 1)) : rootL nodeA zero (f + 1) l = nodeA (rootL nodeA zero f (l.take (2 ^ j))) (rootL nodeA zero f (l.drop (2 ^ j))) := by
  have h2 : 2 ≤ l.length := by rw [h, Nat.pow_succ]; have := Nat.pow_pos (n := j) (show 0 < 2 by decide); omega
  match l, h2 with
  | a :: b :: r, _ =>
    show nodeA (rootL nodeA zero f ((a :: b :: r).take (halfK (a :: b :: r).length (a :: b :: r).length 1))) _ = _
    have e := halfK_pow j (2 ^ (j + 1)) 0 (by have := two_pow_gt (j + 1); omega) (by omega)
    rw [Nat.pow_zero] at e
    rw [h, e]
theorem putStk_pow (zero : α) : ∀ (j : Nat) (l : List α) (s : List (Prt α)) (n f : Nat), l.length = 2 ^ j → n % 2 ^ j = 0 → topAt s n → j < f → putStk nodeA s n l = putSt nodeA s ⟨n, 2 ^ j, rootL nodeA zero f l⟩
  | 0, [x], s, n, f + 1, _, _, _, _ => rfl
  | j + 1, l, s, n, f + 1, h, hn, ht, hf => by
    have hp : 2 ^ (j + 1) = 2 * 2 ^ j := by rw [Nat.pow_succ]; omega
    have hpos := Nat.pow_pos (n := j) (show 0 < 2 by decide)
    have h1 : (l.take (2 ^ j)).length = 2 ^ j := by rw [List.length_take]; omega
    have h2 : (l.drop (2 ^ j)).length = 2 ^ j := by rw [List.length_drop]; omega
    have hn1 : n % 2 ^ j = 0 := by
      rw [hp] at hn
      exact Nat.mod_eq_zero_of_dvd (Nat.dvd_trans ⟨2, by omega⟩ (Nat.dvd_of_mod_eq_zero hn))
    have e := (List.take_append_drop (2 ^ j) l).symm
    rw [e, putStk_app, h1, putStk_pow zero j _ s n f h1 hn1 ht (by omega), ← e]
    have ht2 : topAt (putSt nodeA s ⟨n, 2 ^ j, rootL nodeA zero f (l.take (2 ^ j))⟩) (n + 2 ^ j) := by
      clear h e
      generalize rootL nodeA zero f (l.take (2 ^ j)) = x
      cases s with
      | nil => rfl
      | cons a r =>
        unfold putSt
        rw [if_neg]
        · rfl
        · rintro ⟨q1, q2⟩
          dsimp only at q1 q2
          have ht : a.fr + a.sz = n := ht
          rw [q1] at q2 ht
          rw [hp, ← ht, Nat.add_mod, q2, Nat.zero_add, Nat.mod_mod, Nat.mod_eq_of_lt (by omega)] at hn
          omega
    have hn2 : (n + 2 ^ j) % 2 ^ j = 0 := by rw [Nat.add_mod_right]; exact hn1
    rw [putStk_pow zero j _ _ (n + 2 ^ j) f h2 hn2 ht2 (by omega), put_two nodeA s n (2 ^ j) _ _ hpos (by rw [← hp]; exact hn) ht, rootL_pow nodeA zero h, hp]
def segSz (fr to : Nat) : Nat → Nat → Nat
  | 0, n => n
  | f + 1, n => if 2 * n ≤ to - fr ∧ fr % (2 * n) = 0 then segSz fr to f (2 * n) else n
def sizeS (fr to : Nat) : Nat := segSz fr to (to - fr) 1
theorem segN_spec (fr to : Nat) : ∀ (f n j : Nat), n = 2 ^ j → n ≤ to - fr → fr % n = 0 → to - fr < n + f → ∃ i, segSz fr to f n = 2 ^ i ∧ 2 ^ i ≤ to - fr ∧ fr % 2 ^ i = 0 ∧ ¬ (2 * 2 ^ i ≤ to - fr ∧ fr % (2 * 2 ^ i) = 0)
  | 0, n, j, h, h1, h2, h3 => by omega
  | f + 1, n, j, h, h1, h2, h3 => by
    unfold segSz
    have hpos : 0 < n := by rw [h]; exact Nat.pow_pos (by decide)
    split
    · rename_i hc
      exact segN_spec fr to f (2 * n) (j + 1) (by rw [h, Nat.pow_succ]; omega) hc.1 hc.2 (by omega)
    · rename_i hc
      exact ⟨j, h, by rw [← h]; exact h1, by rw [← h]; exact h2, by rw [← h]; exact hc⟩
theorem sizeS_spec {fr to : Nat} (h : fr < to) : ∃ i, sizeS fr to = 2 ^ i ∧ 2 ^ i ≤ to - fr ∧ fr % 2 ^ i = 0 ∧ ¬ (2 * 2 ^ i ≤ to - fr ∧ fr % (2 * 2 ^ i) = 0) :=
  segN_spec fr to (to - fr) 1 0 rfl (by omega) (Nat.mod_one _) (by omega)
def segR (zero : α) : Nat → Nat → List α → List α
  | 0, _, _ => []
  | _ + 1, _, [] => []
  | f + 1, fr, l => rootL nodeA zero l.length (l.take (sizeS fr (fr + l.length))) :: segR zero f (fr + sizeS fr (fr + l.length)) (l.drop (sizeS fr (fr + l.length)))
def topOk : List (Prt α) → Nat → Nat → Prop
  | [], _, _ => True
  | a :: _, n, to => a.fr + a.sz = n ∧ ¬ (2 * a.sz ≤ to - a.fr ∧ a.fr % (2 * a.sz) = 0)
theorem putStk_segs (zero : α) : ∀ (f : Nat) (l : List α) (s : List (Prt α)) (n : Nat), l.length ≤ f → topOk s n (n + l.length) → (putStk nodeA s n l).reverse.map (·.h) = s.reverse.map (·.h) ++ segR nodeA zero f n l
  | 0, l, s, n, hf, ht => by
    obtain rfl := List.eq_nil_of_length_eq_zero (by omega : l.length = 0)
    simp [putStk, segR]
  | f + 1, [], s, n, hf, ht => by simp [putStk, segR]
  | f + 1, x :: r, s, n, hf, ht => by
    obtain ⟨i, e1, e2, e3, e4⟩ := sizeS_spec (show n < n + (x :: r).length by simp)
    generalize hl : x :: r = l at *
    have hpos := Nat.pow_pos (n := i) (show 0 < 2 by decide)
    have h1 : (l.take (2 ^ i)).length = 2 ^ i := by rw [List.length_take]; omega
    have hta : topAt s n := by cases s with
      | nil => trivial
      | cons a q => exact ht.1
    have hseg : segR nodeA zero (f + 1) n l = rootL nodeA zero l.length (l.take (2 ^ i)) :: segR nodeA zero f (n + 2 ^ i) (l.drop (2 ^ i)) := by
      subst hl
      show rootL nodeA zero _ ((x :: r).take (sizeS n (n + (x :: r).length))) :: segR nodeA zero f (n + sizeS n (n + (x :: r).length)) ((x :: r).drop (sizeS n (n + (x :: r).length))) = _
      rw [e1]
    have hli : i < l.length := by have := two_pow_gt i; omega
    have hput : putSt nodeA s ⟨n, 2 ^ i, rootL nodeA zero l.length (l.take (2 ^ i))⟩ = ⟨n, 2 ^ i, rootL nodeA zero l.length (l.take (2 ^ i))⟩ :: s := by
      cases s with
      | nil => rfl
      | cons a q =>
        unfold putSt
        rw [if_neg]
        rintro ⟨q1, q2⟩
        dsimp only at q1 q2
        obtain ⟨g1, g2⟩ := ht
        exact g2 ⟨by omega, q2⟩
    have e := (List.take_append_drop (2 ^ i) l).symm
    rw [hseg]
    conv => lhs; rw [e, putStk_app, h1, putStk_pow nodeA zero i _ s n l.length h1 e3 hta hli, hput]
    have hd : (l.drop (2 ^ i)).length = l.length - 2 ^ i := List.length_drop ..
    have key := putStk_segs zero f (l.drop (2 ^ i)) (⟨n, 2 ^ i, rootL nodeA zero l.length (l.take (2 ^ i))⟩ :: s) (n + 2 ^ i) (by omega) (by
      refine ⟨rfl, ?_⟩
      dsimp only
      rw [hd, show n + 2 ^ i + (l.length - 2 ^ i) = n + l.length by omega]
      rw [show n + l.length - n = n + l.length - n from rfl] at e4
      exact e4)
    rw [key]
    simp
theorem halfK_spec (n : Nat) : ∀ (f k j : Nat), k = 2 ^ j → k < n → n ≤ k + f → ∃ i, halfK n f k = 2 ^ i ∧ 2 ^ i < n ∧ n ≤ 2 * 2 ^ i
  | 0, k, j, h, h1, h2 => by omega
  | f + 1, k, j, h, h1, h2 => by
    have hpos : 0 < k := by rw [h]; exact Nat.pow_pos (by decide)
    unfold halfK
    split
    · rename_i hc
      exact halfK_spec n f (2 * k) (j + 1) (by rw [h, Nat.pow_succ]; omega) (by omega) (by omega)
    · rename_i hc
      exact ⟨j, h, by omega, by omega⟩
theorem half_ok {n : Nat} (h : 2 ≤ n) : ∃ i, halfK n n 1 = 2 ^ i ∧ 2 ^ i < n ∧ n ≤ 2 * 2 ^ i := halfK_spec n n 1 0 rfl (by omega) (by omega)
theorem rootL_two (zero : α) {f : Nat} {l : List α} (h : 2 ≤ l.length) : rootL nodeA zero (f + 1) l = nodeA (rootL nodeA zero f (l.take (halfK l.length l.length 1))) (rootL nodeA zero f (l.drop (halfK l.length l.length 1))) := by
  match l, h with
  | a :: b :: r, _ => rfl
theorem rootL_any (zero : α) : ∀ (f g : Nat) (l : List α), l.length ≤ f → l.length ≤ g → rootL nodeA zero f l = rootL nodeA zero g l
  | 0, 0, l, _, _ => rfl
  | 0, g + 1, l, h, _ => by obtain rfl := List.eq_nil_of_length_eq_zero (by omega : l.length = 0); rfl
  | f + 1, 0, l, _, h => by obtain rfl := List.eq_nil_of_length_eq_zero (by omega : l.length = 0); rfl
  | f + 1, g + 1, l, h1, h2 => by
    by_cases hl : 2 ≤ l.length
    · obtain ⟨i, e, q1, q2⟩ := half_ok hl
      have hpos := Nat.pow_pos (n := i) (show 0 < 2 by decide)
      rw [rootL_two nodeA zero hl, rootL_two nodeA zero hl, e, rootL_any zero f g _ (by rw [List.length_take]; omega) (by rw [List.length_take]; omega), rootL_any zero f g _ (by rw [List.length_drop]; omega) (by rw [List.length_drop]; omega)]
    · match l, hl with
      | [], _ => rfl
      | [x], _ => rfl
      | a :: b :: r, hl => exact absurd (by simp) hl
def foldRt (zero : α) : List α → α
  | [] => zero
  | [x] => x
  | x :: y :: r => nodeA x (foldRt zero (y :: r))
theorem pow_between {i j n : Nat} (h1 : 2 ^ i ≤ n) (h2 : n < 2 * 2 ^ i) (h3 : 2 ^ j ≤ n) (h4 : n < 2 * 2 ^ j) : i = j := by
  rcases Nat.lt_trichotomy i j with h | h | h
  · have := Nat.pow_le_pow_right (show 0 < 2 by decide) (show i + 1 ≤ j from h)
    rw [Nat.pow_succ] at this; omega
  · exact h
  · have := Nat.pow_le_pow_right (show 0 < 2 by decide) (show j + 1 ≤ i from h)
    rw [Nat.pow_succ] at this; omega
theorem zero_size {n : Nat} (h : 0 < n) : ∃ i, sizeS 0 n = 2 ^ i ∧ 2 ^ i ≤ n ∧ n < 2 * 2 ^ i := by
  obtain ⟨i, e1, e2, _, e4⟩ := sizeS_spec h
  refine ⟨i, e1, by omega, ?_⟩
  rcases Nat.lt_or_ge n (2 * 2 ^ i) with h | h
  · exact h
  · exact absurd ⟨by omega, Nat.zero_mod _⟩ e4
theorem size_shift {k n to : Nat} (hn : n % 2 ^ k = 0) (h0 : n < to) (h : to - n ≤ 2 ^ k) (m : Nat) (hm : m + (to - n) ≤ 2 ^ k) : sizeS (n + m) (to + m) = sizeS m (m + (to - n)) := by
  obtain ⟨i, e1, e2, e3, e4⟩ := sizeS_spec (show n + m < to + m by omega)
  obtain ⟨j, g1, g2, g3, g4⟩ := sizeS_spec (show m < m + (to - n) by omega)
  have le : ∀ a : Nat, 2 ^ a ≤ to - n → ((n + m) % 2 ^ a = 0 ↔ m % 2 ^ a = 0) := by
    intro a ha
    have hak : a ≤ k := by
      rcases Nat.lt_or_ge k a with h' | h'
      · have := Nat.pow_lt_pow_right (show 1 < 2 by decide) h'; omega
      · exact h'
    have hd : n % 2 ^ a = 0 := Nat.mod_eq_zero_of_dvd (Nat.dvd_trans (Nat.pow_dvd_pow 2 hak) (Nat.dvd_of_mod_eq_zero hn))
    rw [Nat.add_mod, hd, Nat.zero_add, Nat.mod_mod]
  have p2 : ∀ a : Nat, 2 * 2 ^ a = 2 ^ (a + 1) := fun a => by rw [Nat.pow_succ]; omega
  rw [e1, g1]
  rw [p2] at e4 g4
  have ei : m % 2 ^ i = 0 := (le i (by omega)).1 e3
  have ej : (n + m) % 2 ^ j = 0 := (le j (by omega)).2 g3
  rcases Nat.lt_trichotomy i j with h' | h' | h'
  · exfalso
    have hpw := Nat.pow_le_pow_right (show 0 < 2 by decide) (show i + 1 ≤ j from h')
    exact e4 ⟨by omega, Nat.mod_eq_zero_of_dvd (Nat.dvd_trans (Nat.pow_dvd_pow 2 (show i + 1 ≤ j from h')) (Nat.dvd_of_mod_eq_zero ej))⟩
  · rw [h']
  · exfalso
    have hpw := Nat.pow_le_pow_right (show 0 < 2 by decide) (show j + 1 ≤ i from h')
    exact g4 ⟨by omega, Nat.mod_eq_zero_of_dvd (Nat.dvd_trans (Nat.pow_dvd_pow 2 (show j + 1 ≤ i from h')) (Nat.dvd_of_mod_eq_zero ei))⟩
theorem segR_shift (zero : α) {k n : Nat} (hn : n % 2 ^ k = 0) : ∀ (f m : Nat) (l : List α), m + l.length ≤ 2 ^ k → segR nodeA zero f (n + m) l = segR nodeA zero f m l
  | 0, m, l, _ => rfl
  | f + 1, m, [], _ => rfl
  | f + 1, m, x :: r, h => by
    have hs := size_shift (to := n + (x :: r).length) hn (by simp) (by omega) m (by omega)
    rw [show n + (x :: r).length - n = (x :: r).length by omega, show n + (x :: r).length + m = n + m + (x :: r).length by omega] at hs
    show rootL nodeA zero _ ((x :: r).take (sizeS (n + m) (n + m + (x :: r).length))) :: segR nodeA zero f (n + m + sizeS (n + m) (n + m + (x :: r).length)) ((x :: r).drop (sizeS (n + m) (n + m + (x :: r).length))) = rootL nodeA zero _ ((x :: r).take (sizeS m (m + (x :: r).length))) :: segR nodeA zero f (m + sizeS m (m + (x :: r).length)) ((x :: r).drop (sizeS m (m + (x :: r).length)))
    rw [hs]
    obtain ⟨i, g1, g2, _, _⟩ := sizeS_spec (show m < m + (x :: r).length by simp)
    rw [g1, Nat.add_assoc n m, segR_shift zero hn f (m + 2 ^ i) _ (by rw [List.length_drop]; omega)]
theorem segR_ne (zero : α) {f n : Nat} {l : List α} (h : l ≠ []) : segR nodeA zero (f + 1) n l ≠ [] := by
  cases l with
  | nil => exact absurd rfl h
  | cons x r => exact fun e => by cases e
theorem fold_segs (zero : α) : ∀ (f : Nat) (l : List α), l.length ≤ f → foldRt nodeA zero (segR nodeA zero f 0 l) = rootL nodeA zero f l
  | 0, l, h => by obtain rfl := List.eq_nil_of_length_eq_zero (by omega : l.length = 0); rfl
  | f + 1, [], h => rfl
  | f + 1, [x], h => by
    have e : sizeS 0 1 = 1 := rfl
    show foldRt nodeA zero (rootL nodeA zero 1 ([x].take (sizeS 0 (0 + [x].length))) :: segR nodeA zero f (0 + sizeS 0 (0 + [x].length)) ([x].drop (sizeS 0 (0 + [x].length)))) = x
    rw [show (0 + [x].length) = 1 from rfl, e]
    cases f <;> rfl
  | f + 1, x :: y :: r, h => by
    obtain ⟨i, e1, e2, e3⟩ := zero_size (show 0 < (x :: y :: r).length by simp)
    obtain ⟨j, g1, g2, g3⟩ := half_ok (show 2 ≤ (x :: y :: r).length by simp)
    have hseg : segR nodeA zero (f + 1) 0 (x :: y :: r) = rootL nodeA zero (x :: y :: r).length ((x :: y :: r).take (2 ^ i)) :: segR nodeA zero f (2 ^ i) ((x :: y :: r).drop (2 ^ i)) := by
      show rootL nodeA zero _ ((x :: y :: r).take (sizeS 0 (0 + (x :: y :: r).length))) :: segR nodeA zero f (0 + sizeS 0 (0 + (x :: y :: r).length)) ((x :: y :: r).drop (sizeS 0 (0 + (x :: y :: r).length))) = _
      rw [Nat.zero_add, e1, Nat.zero_add]
    have hlen : 2 ≤ (x :: y :: r).length := by simp
    generalize x :: y :: r = l at *
    have hpos := Nat.pow_pos (n := i) (show 0 < 2 by decide)
    rw [hseg]
    rcases Nat.lt_or_ge (2 ^ i) l.length with hlt | hge
    · have hij : i = j := by
        rcases Nat.lt_or_ge l.length (2 * 2 ^ j) with h' | h'
        · exact pow_between (by omega) e3 (by omega) h'
        · exfalso
          have el : l.length = 2 ^ (j + 1) := by rw [Nat.pow_succ]; omega
          have : i = j + 1 := pow_between (n := l.length) (by omega) e3 (by omega) (by rw [← el]; omega)
          rw [this] at hlt; omega
      have hd : (l.drop (2 ^ i)).length = l.length - 2 ^ i := List.length_drop ..
      have hsh : segR nodeA zero f (2 ^ i) (l.drop (2 ^ i)) = segR nodeA zero f 0 (l.drop (2 ^ i)) := by
        have := segR_shift nodeA zero (k := i) (n := 2 ^ i) (Nat.mod_self _) f 0 (l.drop (2 ^ i)) (by omega)
        rwa [Nat.add_zero] at this
      have hf : foldRt nodeA zero (rootL nodeA zero l.length (l.take (2 ^ i)) :: segR nodeA zero f 0 (l.drop (2 ^ i))) = nodeA (rootL nodeA zero l.length (l.take (2 ^ i))) (foldRt nodeA zero (segR nodeA zero f 0 (l.drop (2 ^ i)))) := by
        obtain ⟨f', rfl⟩ : ∃ f', f = f' + 1 := ⟨f - 1, by omega⟩
        have hne := segR_ne nodeA zero (f := f') (n := 0) (show l.drop (2 ^ i) ≠ [] from fun e => by rw [e] at hd; simp at hd; omega)
        generalize segR nodeA zero (f' + 1) 0 (l.drop (2 ^ i)) = q at *
        cases q with
        | nil => exact absurd rfl hne
        | cons a b => rfl
      rw [hsh, hf, fold_segs zero f _ (by omega), rootL_two nodeA zero hlen, g1, ← hij, rootL_any nodeA zero l.length f _ (by rw [List.length_take]; omega) (by rw [List.length_take]; omega)]
    · have el : l.length = 2 ^ i := by omega
      have hd : l.drop (2 ^ i) = [] := List.drop_eq_nil_of_le (by omega)
      have ht : l.take (2 ^ i) = l := List.take_of_length_le (by omega)
      rw [hd, ht]
      have : segR nodeA zero f (2 ^ i) ([] : List α) = [] := by cases f <;> rfl
      rw [this]
      exact rootL_any nodeA zero l.length (f + 1) l (Nat.le_refl _) h
termination_by f => f
theorem size_prog {fr to L T : Nat} (h : fr < to) (h1 : 2 ^ L ≤ to - fr) (h2 : to - fr < 2 ^ (L + 1)) (h3 : fr % 2 ^ T = 0) (h4 : fr ≠ 0 → fr % 2 ^ (T + 1) ≠ 0) : sizeS fr to = if fr = 0 then 2 ^ L else 2 ^ min L T := by
  obtain ⟨i, e1, e2, e3, e4⟩ := sizeS_spec h
  have hpp : 2 * 2 ^ i = 2 ^ (i + 1) := by rw [Nat.pow_succ]; omega
  rw [hpp] at e4
  have hiL : i ≤ L := by
    rcases Nat.lt_or_ge L i with h' | h'
    · have := Nat.pow_le_pow_right (show 0 < 2 by decide) (show L + 1 ≤ i from h'); omega
    · exact h'
  by_cases h0 : fr = 0
  · rw [if_pos h0, e1]
    subst h0
    rcases Nat.lt_or_ge i L with h' | h'
    · exact absurd ⟨Nat.le_trans (Nat.pow_le_pow_right (by decide) (show i + 1 ≤ L from h')) h1, Nat.zero_mod _⟩ e4
    · rw [show i = L by omega]
  · rw [if_neg h0, e1]
    have hiT : i ≤ T := by
      rcases Nat.lt_or_ge T i with h' | h'
      · exact absurd (Nat.mod_eq_zero_of_dvd (Nat.dvd_trans (Nat.pow_dvd_pow 2 (show T + 1 ≤ i from h')) (Nat.dvd_of_mod_eq_zero e3))) (h4 h0)
      · exact h'
    rcases Nat.lt_or_ge i (min L T) with h' | h'
    · exact absurd ⟨Nat.le_trans (Nat.pow_le_pow_right (by decide) (show i + 1 ≤ L by omega)) h1, Nat.mod_eq_zero_of_dvd (Nat.dvd_trans (Nat.pow_dvd_pow 2 (show i + 1 ≤ T by omega)) (Nat.dvd_of_mod_eq_zero h3))⟩ e4
    · rw [show i = min L T by omega]
end
end Go.Proofs.YtdflndjlnkoliaaGreatDoor

namespace Go.Proofs.YtdflndjlnkoliaaGreatDoor
set_option linter.all false
open Go.RowKit
def nodeH (a b : H256) : H256 := sha (1#8 :: (a.toList ++ b.toList))
def fnode_c : Ctr where
  D := H256 × H256
  args := fun (a, b) => [.agg [.arr8 a], .agg [.arr8 b]]
  res := fun (a, b) _ => .agg [.arr8 (nodeH a b)]
def fnode_H : Cfg := ⟨[(165, concat_c), (114, sum_c)], [(1, [], [0, 3, 4, 5, 6], (.one 1 0 false (.one 2 0 false (.one 0 2 false (.one 3 2 false (.one 4 2 false (.one 5 2 false (.one 6 2 false .nil))))))), [])], [], [], 11, 0, [], [], []⟩
theorem fnode_ok : fnode_c.Ok Tryz.prog 147 := by
  refine fn_ok fnode_H 0 rfl _ Tryz.func147 rfl rfl ⟨concat_ok, sum_ok, trivial⟩ rfl rfl (by kernel_rfl) (fun _ => Nat.le_of_ble_eq_true rfl) ?_
  rintro ⟨a, b⟩ hp hr
  try dsimp only [fnode_c] at hp
  try simp only [fnode_c, Rng, RngL, inR, and_true, true_and] at hr
  have hpc : concat_c.pre [[1#8], a.toList, b.toList] := ⟨by simp, by simp, by simp⟩
  repeat' (first | (with_reducible refine Unf.h ?_) | ((conv => whnf); first | (refine Side.mk ?_ ?_; focus (first | exact True.intro | (intros; (try simp only [lenS, inR, cutS, loI, hiI, cutv2] at *); omega))) | refine Ex.mk [_] rfl ?_) | fail); all_goals try (conv => whnf); all_goals try (exfalso; omega)
  refine CallS.mk (c := concat_c) ([[1#8], a.toList, b.toList]) ?_
  repeat' (first | (with_reducible refine Unf.h ?_) | fail); all_goals try (conv => whnf); all_goals try (exfalso; omega)
  refine Side.mk (by simp only [cutv2]; rfl) ?_
  have ef : ([[1#8], a.toList, b.toList] : List Bs).flatten = 1#8 :: (a.toList ++ b.toList) := by simp
  repeat' (first | (with_reducible refine Unf.h ?_) | ((conv => whnf); first | (refine Side.mk ?_ ?_; focus (assumption)) | refine Got.mk (fun _ _ => ?_) | (with_reducible refine Unf.h ?_)) | fail); all_goals try (conv => whnf); all_goals try (exfalso; omega)
  refine CallS.mk (c := sum_c) ((1#8 :: (a.toList ++ b.toList))) ?_
  repeat' (first | (with_reducible refine Unf.h ?_) | ((conv => whnf); first | (refine Side.mk ?_ ?_; focus (first | exact True.intro | (simp only [*, nodeH]; done))) | refine RetE.mk () trivial ?_ | refine Got.mk (fun _ _ => ?_) | refine retK_r ?_ | exact rfl) | fail); all_goals try (conv => whnf); all_goals try (exfalso; omega)
abbrev Part := Prt H256
abbrev ePt (p : Part) : List SV := [.int .i64 (p.fr : Int), .int .i64 (p.sz : Int), .arr8 p.h]
theorem putSt_bd {M F : Nat} : ∀ (s : List Part) (p : Part), (∀ a ∈ s, 1 ≤ a.sz ∧ a.sz ≤ M ∧ a.fr ≤ F) → 1 ≤ p.sz → p.sz ≤ 2 * M → p.fr ≤ F → ∀ a ∈ putSt nodeH s p, 1 ≤ a.sz ∧ a.sz ≤ 2 * M ∧ a.fr ≤ F
  | [], p, _, h0, h1, h2, a, ha => by obtain rfl := List.mem_singleton.1 ha; exact ⟨h0, h1, h2⟩
  | b :: s, p, h, h0, h1, h2, a, ha => by
    unfold putSt at ha
    have hb := h b (by simp)
    split at ha
    · exact putSt_bd s _ (fun c hc => h c (by simp [hc])) (by show 1 ≤ 2 * b.sz; omega) (by show 2 * b.sz ≤ _; omega) (by show b.fr ≤ F; exact hb.2.2) a ha
    · rcases List.mem_cons.1 ha with rfl | ha
      · exact ⟨h0, h1, h2⟩
      · have := h a ha; exact ⟨this.1, by omega, this.2.2⟩
theorem putSt_len : ∀ (s : List Part) (p : Part), (putSt nodeH s p).length ≤ s.length + 1
  | [], p => Nat.le_refl _
  | b :: s, p => by
    unfold putSt
    split
    · have := putSt_len s ⟨b.fr, 2 * b.sz, nodeH b.h p.h⟩
      rw [List.length_cons]; omega
    · simp
def fput_c : Ctr where
  D := List Part × Part
  pre := fun (s, p) => s.length ≤ 1000 ∧ (∀ a ∈ s, 1 ≤ a.sz ∧ a.sz ≤ 1152921504606846976 ∧ a.fr ≤ 1152921504606846976) ∧ p.sz ≤ 1152921504606846976 ∧ p.fr ≤ 1152921504606846976
  args := fun (_, p) => [.own 0, .agg (ePt p)]
  objs := fun (s, _) => [(0, .row 244 34 ePt s.reverse)]
  nn := 1
  res := fun _ _ => .own 1
  out := fun (s, p) _ => [(1, .row 244 34 ePt (putSt nodeH s p).reverse)]
  mm := 1
def fput_H : Cfg := ⟨[(147, fnode_c)], [(4, [1, 3, 6, 8], [9, 11], (.one 0 0 false (.one 1 1 false (.one 2 0 false (.one 3 1 false (.one 4 0 false (.one 5 0 false (.one 6 1 false (.one 7 0 false (.one 8 1 false (.one 9 2 true (.one 10 0 false (.one 11 2 false .nil)))))))))))), [])], [], [], 49, 1, [44], [], []⟩
theorem fput_ok : fput_c.Ok Tryz.prog 144 := by
  refine fn_ok fput_H 1 rfl _ Tryz.func144 rfl rfl ⟨fnode_ok, trivial⟩ rfl rfl (by kernel_rfl) (fun _ => Nat.le_of_ble_eq_true rfl) ?_
  rintro ⟨s0, p0⟩ hp hr
  try dsimp only [fput_c] at hp
  try simp only [fput_c, Rng, RngL, inR, and_true, true_and] at hr
  obtain ⟨hp1, hp2, hp3, hp4⟩ := hp
  have hp1 : s0.length ≤ 1000 := hp1
  have hp3 : p0.sz ≤ 1152921504606846976 := hp3
  have hp4 : p0.fr ≤ 1152921504606846976 := hp4
  repeat' (first | (with_reducible refine Unf.h ?_) | fail); all_goals try (conv => whnf); all_goals try (exfalso; omega)
  refine LoopS.mk (I := List Part × Part) (fun (t, p) => t.length ≤ s0.length ∧ (∀ a ∈ t, 1 ≤ a.sz ∧ a.sz ≤ 1152921504606846976 ∧ a.fr ≤ 1152921504606846976) ∧ p.sz ≤ 2305843009213693952 ∧ p.fr ≤ 1152921504606846976 ∧ putSt nodeH t.reverse p = putSt nodeH s0 p0) (fun (t, p) => [(0, .own 2), (3, .ptr 1 0)]) (fun (t, p) => [(1, .box 244 (ePt p)), (2, .row 244 34 ePt t)]) 3 (fun (t, _) => t.length) (s0.reverse, p0) ⟨by simp, fun a ha => hp2 a (List.mem_reverse.1 ha), by show p0.sz ≤ _; omega, hp4, by rw [List.reverse_reverse]⟩ ?_ ?_
  · repeat' (first | (with_reducible refine Unf.h ?_) | ((conv => whnf); first | (refine Side.mk ?_ ?_; focus (with_reducible rfl)) | (with_reducible refine Unf.h ?_) | exact True.intro) | fail); all_goals try (conv => whnf); all_goals try (exfalso; omega)
  · rintro ⟨t, p⟩ ⟨g1, g2, g3, g4, g5⟩
    have g1 : t.length ≤ s0.length := g1
    have g3 : p.sz ≤ 2305843009213693952 := g3
    have g4 : p.fr ≤ 1152921504606846976 := g4
    have g5 : putSt nodeH t.reverse p = putSt nodeH s0 p0 := g5
    rcases Nat.eq_zero_or_pos t.length with ht | ht
    · obtain rfl := List.eq_nil_of_length_eq_zero ht
      have e : (putSt nodeH s0 p0).reverse = [] ++ [p] := by rw [← g5]; rfl
      repeat' (first | (with_reducible refine Unf.h ?_) | ((conv => whnf); first | refine Fork.mk (fun h => ?_) (fun h => ?_) | (refine Side.mk ?_ ?_; focus (first | (intros; (try simp only [lenS, inR, cutS, loI, hiI, e] at *); omega) | (simp only [*, e]; done))) | refine RetE.mk () trivial ?_ | refine Ex.mk [_] rfl ?_ | refine retK_r ?_ | exact rfl) | fail); all_goals try (conv => whnf); all_goals try (exfalso; omega)
    · obtain ⟨a, ha⟩ : ∃ a, t[((t.length : Int) - 1).toNat]'(by omega) = a := ⟨_, rfl⟩
      obtain ⟨q, hq⟩ : ∃ q, t.take ((t.length : Int) - 1).toNat = q := ⟨_, rfl⟩
      have etq : t = q ++ [a] := by
        rw [← hq, ← ha]
        have := List.take_succ_eq_append_getElem (l := t) (i := ((t.length : Int) - 1).toNat) (by omega)
        rw [← this, show ((t.length : Int) - 1).toNat + 1 = t.length by omega, List.take_length]
      obtain ⟨a0, a1, a2⟩ := g2 a (by rw [etq]; simp)
      have er : t.reverse = a :: q.reverse := by rw [etq]; simp
      subst ha
      have emod : ((t[((t.length : Int) - 1).toNat]'(by omega)).fr : Int) % (2 * ((t[((t.length : Int) - 1).toNat]'(by omega)).sz : Int)) = (((t[((t.length : Int) - 1).toNat]'(by omega)).fr % (2 * (t[((t.length : Int) - 1).toNat]'(by omega)).sz) : Nat) : Int) := by push_cast; rfl
      by_cases hm : (t[((t.length : Int) - 1).toNat]'(by omega)).sz = p.sz ∧ (t[((t.length : Int) - 1).toNat]'(by omega)).fr % (2 * (t[((t.length : Int) - 1).toNat]'(by omega)).sz) = 0
      · have g6 : putSt nodeH q.reverse ⟨(t[((t.length : Int) - 1).toNat]'(by omega)).fr, 2 * (t[((t.length : Int) - 1).toNat]'(by omega)).sz, nodeH (t[((t.length : Int) - 1).toNat]'(by omega)).h p.h⟩ = putSt nodeH s0 p0 := by
          rw [← g5, er]
          exact (if_pos hm).symm
        obtain ⟨m1, m2⟩ := hm
        rw [m2] at emod
        have hql : q.length + 1 = t.length := by rw [etq]; simp
        have hqm : ∀ a ∈ q, a ∈ t := fun a ha => by rw [etq]; simp [ha]
        clear etq er
        repeat' (first | (with_reducible refine Unf.h ?_) | ((conv => whnf); first | refine Fork.mkn (fun h => ?_) (fun h => ?_) | refine Fork.mk (fun h => ?_) (fun h => ?_) | (refine Side.mk ?_ ?_; focus (first | omega | (intros; (try simp only [lenS, inR, cutS, loI, hiI] at *); omega))) | (refine Idx.mk ?_ ?_; focus (omega))) | fail); all_goals try (conv => whnf); all_goals try (exfalso; omega)
        refine CallS.mk (c := fnode_c) (((t[((t.length : Int) - 1).toNat]'(by omega)).h, p.h)) ?_
        repeat' (first | (with_reducible first | refine Unf.h ?_ | refine loopK_n ?_) | ((conv => whnf); first | (refine Side.mk ?_ ?_; focus (first | with_reducible rfl | exact True.intro | omega | (intros; (try simp only [lenS, inR, cutS, loI, hiI] at *); omega))) | refine Got.mk (fun _ _ => ?_)) | fail); all_goals try (conv => whnf); all_goals try (exfalso; omega)
        refine ⟨(q, ⟨(t[((t.length : Int) - 1).toNat]'(by omega)).fr, 2 * (t[((t.length : Int) - 1).toNat]'(by omega)).sz, nodeH (t[((t.length : Int) - 1).toNat]'(by omega)).h p.h⟩), ⟨by show q.length < t.length; omega, by show q.length ≤ _; omega, fun a ha => g2 a (hqm a ha), by show 2 * _ ≤ _; omega, a2, g6⟩, ?_⟩
        repeat' (first | (with_reducible refine Unf.h ?_) | ((conv => whnf); first | (refine Side.mk ?_ ?_; focus (first | with_reducible rfl | (simp only [*, hq]; done) | (simp [*, hq]; done))) | (with_reducible refine Unf.h ?_) | exact True.intro) | fail); all_goals try (conv => whnf); all_goals try (exfalso; omega)
      · have e : (putSt nodeH s0 p0).reverse = t ++ [p] := by
          rw [← g5, er]
          have : putSt nodeH (t[((t.length : Int) - 1).toNat]'(by omega) :: q.reverse) p = p :: t[((t.length : Int) - 1).toNat]'(by omega) :: q.reverse := if_neg hm
          rw [this]
          conv => rhs; rw [etq]
          simp
        clear etq er
        repeat' (first | (with_reducible refine Unf.h ?_) | ((conv => whnf); first | refine Fork.mkn (fun h => ?_) (fun h => ?_) | refine Fork.mk (fun h => ?_) (fun h => ?_) | (refine Side.mk ?_ ?_; focus (first | omega | (intros; (try simp only [lenS, inR, cutS, loI, hiI] at *); omega) | (simp only [*]; done))) | (refine Idx.mk ?_ ?_; focus (omega)) | refine RetE.mk () trivial ?_ | refine Ex.mk [_] rfl ?_ | refine retK_r ?_ | exact rfl) | fail); all_goals try (conv => whnf); all_goals try (exfalso; omega)
        all_goals first
          | (refine Side.mk (congrArg (SO.row _ _ _) e.symm) ?_; all_goals try (conv => whnf); all_goals try (exfalso; omega); done)
          | (exfalso; omega)
          | skip
end Go.Proofs.YtdflndjlnkoliaaGreatDoor

namespace Go.Proofs.YtdflndjlnkoliaaGreatDoor
set_option linter.all false
open Go.RowKit
abbrev Ppl := List (Bs × List Ver)
abbrev eS : Bs → SV := fun s => .str s
abbrev eZ : Int → SV := fun n => .int .i64 n
abbrev nmO (ps : Ppl) : SO := .mp 9 3 inferInstance eS eZ (numsL 0 ps)
abbrev stG (seed : H256) (l : Fo) (ss : List Sld) (ps : Ppl) : List Ob := [(0, .box 89 [.arr8 seed, .ptr 1 0, .own 3, .own 4, .own 5]), (1, .box 100 [.own 2]), (2, .row 192 132 eNd l), (3, .row 143 67 eSl ss), (4, .row 175 2 ePn ps), (5, nmO ps)]
abbrev Dir := H256 × Fo × List Sld × Ppl
theorem mkeyS : MKey Tryz.prog 9 eS := mkey_str Tryz.underlying9
theorem zeroI : ZeroIs Tryz.prog 3 (.int .i64 0) := ⟨_, Tryz.zeroValue3, fun w A σ => by simp [SV.hv, SV.h1, SV.hc, inR]⟩
def enew_c : Ctr where
  D := H256
  args := fun s => [.agg [.arr8 s]]
  res := fun _ _ => .ptr 0 0
  out := fun s _ => stG s [] [] []
  mm := 6
def enew_H : Cfg := ⟨[], [], [], [], 9, 0, [], [], []⟩
theorem enew_ok : enew_c.Ok Tryz.prog 15 := by
  refine fn_ok enew_H 0 rfl _ Tryz.func15 rfl rfl trivial rfl rfl (by kernel_rfl) (fun _ => Nat.le_of_ble_eq_true rfl) ?_
  intro (s : H256) hp hr
  try dsimp only [enew_c] at hp
  try simp only [enew_c, Rng, RngL, inR, and_true, true_and] at hr
  repeat' (first | (with_reducible refine Unf.h ?_) | fail); all_goals try (conv => whnf); all_goals try (exfalso; omega)
  refine MkS.mk inferInstance eS eZ ?_
  repeat' (first | (with_reducible refine Unf.h ?_) | ((conv => whnf); first | (refine Side.mk ?_ ?_; focus (with_reducible rfl)) | refine RetE.mk () trivial ?_ | refine retK_r ?_) | fail); all_goals try (conv => whnf); all_goals try (exfalso; omega)
  refine Side.mk rfl ?_
  repeat' (first | (with_reducible refine Unf.h ?_) | ((conv => whnf); exact rfl) | fail); all_goals try (conv => whnf); all_goals try (exfalso; omega)
def eps_c : Ctr where
  D := Dir
  args := fun _ => [.ptr 0 0]
  objs := fun (s, l, ss, ps) => stG s l ss ps
  nn := 6
  res := fun (_, _, ss, _) _ => .int .i64 (ss.length : Int)
  out := fun (s, l, ss, ps) _ => stG s l ss ps
def eps_H : Cfg := ⟨[], [], [], [], 10, 6, [], [], []⟩
theorem eps_ok : eps_c.Ok Tryz.prog 21 := by
  refine fn_ok eps_H 6 rfl _ Tryz.func21 rfl rfl trivial rfl rfl (by kernel_rfl) (fun _ => Nat.le_of_ble_eq_true rfl) ?_
  rintro ⟨s, l, ss, ps⟩ hp hr
  try dsimp only [eps_c] at hp
  try simp only [eps_c, Rng, RngL, inR, and_true, true_and] at hr
  repeat' (first | (with_reducible refine Unf.h ?_) | ((conv => whnf); first | (refine Side.mk ?_ ?_; focus (first | with_reducible rfl | (refine congrArg (SV.int _) ?_; omega))) | refine RetE.mk () trivial ?_ | refine retK_r ?_ | exact rfl) | fail); all_goals try (conv => whnf); all_goals try (exfalso; omega)
def lastTr (ss : List Sld) : Int := if h : ss ≠ [] then (ss.getLast h).tree else -1
def etree_c : Ctr where
  D := Dir
  args := fun _ => [.ptr 0 0]
  objs := fun (s, l, ss, ps) => stG s l ss ps
  nn := 6
  res := fun (_, _, ss, _) _ => .int .i64 (lastTr ss)
  out := fun (s, l, ss, ps) _ => stG s l ss ps
def etree_H : Cfg := ⟨[], [(3, [3, 7, 12], [], (.one 0 0 false (.one 1 0 false (.one 2 0 false (.one 3 1 false (.one 4 0 false (.one 5 0 false (.one 6 0 false (.one 7 1 false (.one 8 0 false (.one 9 0 false (.one 10 0 false (.one 11 0 false (.one 12 1 false (.one 13 0 false .nil)))))))))))))), [])], [], [], 22, 6, [], [], []⟩
theorem etree_ok : etree_c.Ok Tryz.prog 66 := by
  refine fn_ok etree_H 6 rfl _ Tryz.func66 rfl rfl trivial rfl rfl (by kernel_rfl) (fun _ => Nat.le_of_ble_eq_true rfl) ?_
  rintro ⟨s, l, ss, ps⟩ hp hr
  try dsimp only [etree_c] at hp
  try simp only [etree_c, Rng, RngL, inR, and_true, true_and] at hr
  rcases Nat.eq_zero_or_pos ss.length with h0 | h0
  · have e : lastTr ss = -1 := by rw [List.eq_nil_of_length_eq_zero h0]; rfl
    repeat' (first | (with_reducible refine Unf.h ?_) | ((conv => whnf); first | refine Fork.mk (fun h => ?_) (fun h => ?_) | (refine Side.mk ?_ ?_; focus (first | with_reducible rfl | (refine congrArg (SV.int _) ?_; omega))) | refine RetE.mk () trivial ?_ | refine retK_r ?_ | exact rfl) | fail); all_goals try (conv => whnf); all_goals try (exfalso; omega)
  · have e : lastTr ss = (ss[((ss.length : Int) - 1).toNat]'(by omega)).tree := by
      unfold lastTr
      rw [dif_pos (List.length_pos_iff.1 h0), List.getLast_eq_getElem]
      congr 2; omega
    repeat' (first | (with_reducible refine Unf.h ?_) | ((conv => whnf); first | refine Fork.mk (fun h => ?_) (fun h => ?_) | (refine Side.mk ?_ ?_; focus (first | with_reducible rfl | omega | (refine congrArg (SV.int _) ?_; omega) | (intros; (try simp only [lenS, inR, cutS, loI, hiI, e] at *); omega))) | (refine Idx.mk ?_ ?_; focus (omega)) | refine RetE.mk () trivial ?_ | refine retK_r ?_ | exact rfl) | fail); all_goals try (conv => whnf); all_goals try (exfalso; omega)
def chOf_c : Ctr where
  D := H256 × Ppl × Bs
  pre := fun (_, _, x) => x.length ≤ 1000000
  args := fun (_, _, x) => [.ptr 0 0, .fs 1 eB x]
  objs := fun (s, ps, _) => [(0, .box 89 [.arr8 s, .ptr 1 0, .own 2, .own 3, .own 4]), (3, .row 175 2 ePn ps), (4, nmO ps)]
  nn := 5
  res := fun (_, ps, x) _ => .fs 67 eVr (chainP ps x)
  out := fun (s, ps, _) _ => [(0, .box 89 [.arr8 s, .ptr 1 0, .own 2, .own 3, .own 4]), (3, .row 175 2 ePn ps), (4, nmO ps)]
def chOf_H : Cfg := ⟨[], [(1, [3], [5, 6], (.one 0 0 false (.one 1 0 false (.one 2 0 false (.one 3 1 false (.one 4 0 false (.one 5 2 true (.one 6 2 false (.one 7 0 false (.one 8 0 false (.one 9 0 false (.one 10 0 false (.one 11 0 false .nil)))))))))))), [])], [], [], 26, 5, [], [], []⟩
theorem chOf_ok : chOf_c.Ok Tryz.prog 42 := by
  refine fn_ok chOf_H 5 rfl _ Tryz.func42 rfl rfl trivial rfl rfl (by kernel_rfl) (fun _ => Nat.le_of_ble_eq_true rfl) ?_
  rintro ⟨s, ps, x⟩ hp hr
  try dsimp only [chOf_c] at hp
  try simp only [chOf_c, Rng, RngL, inR, and_true, true_and] at hr
  have hp : x.length ≤ 1000000 := hp
  have hk := mkeyS
  have hz := zeroI
  repeat' (first | (with_reducible refine Unf.h ?_) | ((conv => whnf); refine Ex.mk _ rfl ?_) | fail); all_goals try (conv => whnf); all_goals try (exfalso; omega)
  refine LookS.mk x rfl hk _ hz ⟨rfl, fun _ => rfl⟩ (fun b hb => ?_) (fun hm => ?_)
  · obtain ⟨j, hj, hkj, e1, e2, e3⟩ := numsL_hit 0 ps hb
    obtain rfl : b = (j : Int) := by simpa using hkj
    have e : chainP ps x = (ps[((j : Nat) : Int).toNat]'hj).2 := by unfold chainP; rw [e2]; rfl
    repeat' (first | (with_reducible refine Unf.h ?_) | ((conv => whnf); first | (refine Side.mk ?_ ?_; focus (first | with_reducible rfl | omega | (simp only [*, e]; done))) | (refine Idx.mk ?_ ?_; focus (omega)) | refine RetE.mk () trivial ?_ | (with_reducible refine Unf.h ?_) | refine retK_r ?_ | exact rfl) | fail); all_goals try (conv => whnf); all_goals try (exfalso; omega)
  · have e : chainP ps x = [] := by unfold chainP; rw [(numsL_miss [] 0 ps hm).1]; rfl
    repeat' (first | (with_reducible refine Unf.h ?_) | ((conv => whnf); first | (refine Side.mk ?_ ?_; focus (first | with_reducible rfl | assumption)) | refine RetE.mk () trivial ?_ | (with_reducible refine Unf.h ?_) | refine retK_r ?_ | exact rfl) | fail); all_goals try (conv => whnf); all_goals try (exfalso; omega)
end Go.Proofs.YtdflndjlnkoliaaGreatDoor

namespace Go.Proofs.YtdflndjlnkoliaaGreatDoor
set_option linter.all false
open Go.RowKit
abbrev eH (v : H256) : List SV := [.arr8 v]
def fofL (fr : Nat) (l : List H256) : List H256 := (putStk nodeH [] fr l).reverse.map (·.h)
theorem stk_snoc (fr : Nat) (l : List H256) (x : H256) : putStk nodeH [] fr (l ++ [x]) = putSt nodeH (putStk nodeH [] fr l) ⟨fr + l.length, 1, x⟩ := by rw [putStk_app]; rfl
theorem stk_bd (fr : Nat) : ∀ (k : Nat) (l : List H256), l.length = k → (putStk nodeH [] fr l).length ≤ k ∧ ∀ a ∈ putStk nodeH [] fr l, 1 ≤ a.sz ∧ a.sz ≤ 2 ^ k ∧ a.fr ≤ fr + k
  | 0, l, h => by obtain rfl := List.eq_nil_of_length_eq_zero h; exact ⟨Nat.le_refl _, fun a ha => by cases ha⟩
  | k + 1, l, h => by
    have hne : l ≠ [] := fun e => by subst e; cases h
    obtain ⟨qs, p, rfl⟩ : ∃ qs p, l = qs ++ [p] := ⟨l.dropLast, l.getLast hne, (List.dropLast_concat_getLast hne).symm⟩
    have hq : qs.length = k := by simpa using h
    obtain ⟨h1, h2⟩ := stk_bd fr k qs hq
    rw [stk_snoc]
    refine ⟨Nat.le_trans (putSt_len _ _) (by omega), fun a ha => ?_⟩
    have hpos := Nat.pow_pos (n := k) (show 0 < 2 by decide)
    have := putSt_bd (M := 2 ^ k) (F := fr + k) _ ⟨fr + qs.length, 1, p⟩ h2 (Nat.le_refl _) (by show 1 ≤ _; omega) (by show fr + qs.length ≤ _; omega) a ha
    exact ⟨this.1, by rw [Nat.pow_succ]; omega, by omega⟩
def fhs_c : Ctr where
  D := List Part
  pre := fun t => t.length ≤ 1000
  args := fun t => [.fs 34 ePt t]
  res := fun t _ => .fs 32 eH (t.map (·.h))
def fhs_H : Cfg := ⟨[], [], [], [], 19, 0, [], [], []⟩
theorem fhs_ok : fhs_c.Ok Tryz.prog 145 := by
  refine fn_ok fhs_H 0 rfl _ Tryz.func145 rfl rfl trivial rfl rfl (by kernel_rfl) (fun _ => Nat.le_of_ble_eq_true rfl) ?_
  intro (t : List Part) hp hr
  try dsimp only [fhs_c] at hp
  try simp only [fhs_c, Rng, RngL, inR, and_true, true_and] at hr
  have hp : t.length ≤ 1000 := hp
  repeat' (first | (with_reducible refine Unf.h ?_) | fail); all_goals try (conv => whnf); all_goals try (exfalso; omega)
  refine LoopS.autoN (I := Nat) (fun i => i ≤ t.length) (fun i => [(8, .int .i64 (i : Int)), (3, .own 0)]) (fun i => [(0, .row 30 32 eH ((t.take i).map (·.h)))]) 1 (fun i => t.length - i) 0 (Nat.zero_le _) ?_ ?_
  · have e0 : (t.take 0).map (·.h) = [] := rfl
    repeat' (first | (with_reducible refine Unf.h ?_) | ((conv => whnf); first | (refine Side.mk ?_ ?_; focus (first | with_reducible rfl | assumption | (refine congrArg (SV.int _) ?_; omega))) | (with_reducible refine Unf.h ?_) | exact True.intro) | fail); all_goals try (conv => whnf); all_goals try (exfalso; omega)
  · intro i hi
    by_cases hil : i < t.length
    · have es : (t.take (i + 1)).map (·.h) = (t.take i).map (·.h) ++ [(t[((i : Nat) : Int).toNat]'hil).h] := by
        rw [List.take_succ_eq_append_getElem hil, List.map_append]; rfl
      have hl : ((t.take i).map (·.h)).length ≤ 1000 := by simp; omega
      repeat' (first | (with_reducible first | refine Unf.h ?_ | refine loopK_n ?_) | ((conv => whnf); first | refine Fork.mk (fun h => ?_) (fun h => ?_) | (refine Side.mk ?_ ?_; focus ((intros; (try simp only [lenS, inR, cutS, loI, hiI] at *); omega))) | (refine Idx.mk ?_ ?_; focus (omega)) | refine Ex.mk [_] rfl ?_) | fail); all_goals try (conv => whnf); all_goals try (exfalso; omega)
      refine ⟨i + 1, ⟨by omega, by omega⟩, ?_⟩
      repeat' (first | (with_reducible refine Unf.h ?_) | ((conv => whnf); first | (refine Side.mk ?_ ?_; focus (first | with_reducible rfl | (refine congrArg (SV.int _) ?_; omega) | (simp only [*, es]; done))) | (with_reducible refine Unf.h ?_) | exact True.intro) | fail); all_goals try (conv => whnf); all_goals try (exfalso; omega)
    · have e : t.take i = t := List.take_of_length_le (by omega)
      repeat' (first | (with_reducible refine Unf.h ?_) | ((conv => whnf); first | refine Fork.mk (fun h => ?_) (fun h => ?_) | (refine Side.mk ?_ ?_; focus ((simp only [*, e]; done))) | refine RetE.mk () trivial ?_ | refine retK_r ?_ | exact rfl) | fail); all_goals try (conv => whnf); all_goals try (exfalso; omega)
def fof_c : Ctr where
  D := Nat × List H256
  pre := fun (fr, l) => fr ≤ 1000000 ∧ l.length ≤ 40
  args := fun (fr, l) => [.int .i64 (fr : Int), .fs 32 eH l]
  res := fun (fr, l) _ => .tup [.agg [.int .i64 (fr : Int), .int .i64 ((fr : Int) + l.length), .fs 32 eH (fofL fr l)], .int .i64 0]
def fof_H : Cfg := ⟨[(144, fput_c), (145, fhs_c)], [], [], [], 46, 0, [], [], []⟩
theorem fof_ok : fof_c.Ok Tryz.prog 107 := by
  refine fn_ok fof_H 0 rfl _ Tryz.func107 rfl rfl ⟨fput_ok, fhs_ok, trivial⟩ rfl rfl (by kernel_rfl) (fun _ => Nat.le_of_ble_eq_true rfl) ?_
  rintro ⟨fr, l⟩ hp hr
  try dsimp only [fof_c] at hp
  try simp only [fof_c, Rng, RngL, inR, and_true, true_and] at hr
  obtain ⟨hp1, hp2⟩ := hp
  have hp1 : fr ≤ 1000000 := hp1
  have hp2 : l.length ≤ 40 := hp2
  repeat' (first | (with_reducible refine Unf.h ?_) | ((conv => whnf); first | refine Fork.mk (fun h => ?_) (fun h => ?_) | (refine Side.mk ?_ ?_; focus ((intros; (try simp only [lenS, inR, cutS, loI, hiI] at *); omega)))) | fail); all_goals try (conv => whnf); all_goals try (exfalso; omega)
  refine LoopS.autoN (I := Nat) (fun i => i ≤ l.length) (fun i => [(25, .int .i64 (i : Int)), (6, .own 1)]) (fun i => [(0, .box 205 [.int .i64 0, .int .i64 0, .nils]), (1, .row 244 34 ePt (putStk nodeH [] fr (l.take i)).reverse)]) 2 (fun i => l.length - i) 0 (Nat.zero_le _) ?_ ?_
  · have e0 : (putStk nodeH [] fr (l.take 0)).reverse = [] := rfl
    repeat' (first | (with_reducible refine Unf.h ?_) | ((conv => whnf); first | (refine Side.mk ?_ ?_; focus (first | with_reducible rfl | assumption | (refine congrArg (SV.int _) ?_; omega))) | (with_reducible refine Unf.h ?_) | exact True.intro) | fail); all_goals try (conv => whnf); all_goals try (exfalso; omega)
  · intro i hi
    by_cases hil : i < l.length
    · obtain ⟨x, hx⟩ : ∃ x, l[((i : Nat) : Int).toNat]'hil = x := ⟨_, rfl⟩
      have hx2 : l[i]'hil = x := hx
      have hli : (l.take i).length = i := by rw [List.length_take]; omega
      have es : putStk nodeH [] fr (l.take (i + 1)) = putSt nodeH (putStk nodeH [] fr (l.take i)) ⟨fr + i, 1, x⟩ := by
        rw [List.take_succ_eq_append_getElem hil, hx2, stk_snoc, hli]
      obtain ⟨b1, b2⟩ := stk_bd fr _ (l.take i) hli
      have hpw : 2 ^ i ≤ 2 ^ 40 := Nat.pow_le_pow_right (by decide) (by omega)
      have hpf : fput_c.pre (putStk nodeH [] fr (l.take i), ⟨fr + i, 1, x⟩) := ⟨by show (putStk nodeH [] fr (l.take i)).length ≤ 1000; omega, fun a ha => by have := b2 a ha; exact ⟨this.1, by omega, by omega⟩, by show 1 ≤ 1152921504606846976; omega, by show fr + i ≤ 1152921504606846976; omega⟩
      repeat' (first | (with_reducible refine Unf.h ?_) | ((conv => whnf); first | refine Fork.mk (fun h => ?_) (fun h => ?_) | (refine Side.mk ?_ ?_; focus ((intros; (try simp only [lenS, inR, cutS, loI, hiI] at *); omega))) | (refine Idx.mk ?_ ?_; focus (omega))) | fail); all_goals try (conv => whnf); all_goals try (exfalso; omega)
      rw [hx]
      refine CallS.mk (c := fput_c) ((putStk nodeH [] fr (l.take i), ⟨fr + i, 1, x⟩)) ?_
      repeat' (first | (with_reducible first | refine Unf.h ?_ | refine loopK_n ?_) | ((conv => whnf); first | (refine Side.mk ?_ ?_; focus (first | with_reducible rfl | assumption | (intros; (try simp only [lenS, inR, cutS, loI, hiI] at *); omega) | (simp [*]; done))) | refine Got.mk (fun _ _ => ?_)) | fail); all_goals try (conv => whnf); all_goals try (exfalso; omega)
      refine ⟨i + 1, ⟨by omega, by omega⟩, ?_⟩
      repeat' (first | (with_reducible refine Unf.h ?_) | ((conv => whnf); first | (refine Side.mk ?_ ?_; focus (first | with_reducible rfl | (refine congrArg (SV.int _) ?_; omega) | (simp only [*, es]; done))) | (with_reducible refine Unf.h ?_) | exact True.intro) | fail); all_goals try (conv => whnf); all_goals try (exfalso; omega)
    · have e : l.take i = l := List.take_of_length_le (by omega)
      rw [e]
      obtain ⟨b1, b2⟩ := stk_bd fr _ l rfl
      have hph : fhs_c.pre (putStk nodeH [] fr l).reverse := by show (putStk nodeH [] fr l).reverse.length ≤ 1000; rw [List.length_reverse]; omega
      repeat' (first | (with_reducible refine Unf.h ?_) | ((conv => whnf); first | refine Fork.mk (fun h => ?_) (fun h => ?_) | (refine Side.mk ?_ ?_; focus ((intros; (try simp only [lenS, inR, cutS, loI, hiI] at *); omega)))) | fail); all_goals try (conv => whnf); all_goals try (exfalso; omega)
      refine CallS.mk (c := fhs_c) ((putStk nodeH [] fr l).reverse) ?_
      repeat' (first | (with_reducible refine Unf.h ?_) | ((conv => whnf); first | (refine Side.mk ?_ ?_; focus (first | with_reducible rfl | assumption | (simp only [*, fofL]; done))) | refine RetE.mk () trivial ?_ | refine Got.mk (fun _ _ => ?_) | refine retK_r ?_ | exact rfl) | fail); all_goals try (conv => whnf); all_goals try (exfalso; omega)
def eent_c : Ctr where
  D := Dir
  pre := fun (_, _, ss, _) => ss.length ≤ 1000
  args := fun _ => [.ptr 0 0]
  objs := fun (s, l, ss, ps) => stG s l ss ps
  nn := 6
  res := fun (_, _, ss, _) _ => .fs 32 eH (ss.map (·.entry))
  out := fun (s, l, ss, ps) _ => stG s l ss ps
def eent_H : Cfg := ⟨[], [], [], [], 22, 6, [], [], []⟩
theorem eent_ok : eent_c.Ok Tryz.prog 31 := by
  refine fn_ok eent_H 6 rfl _ Tryz.func31 rfl rfl trivial rfl rfl (by kernel_rfl) (fun _ => Nat.le_of_ble_eq_true rfl) ?_
  rintro ⟨s, l, ss, ps⟩ hp hr
  try dsimp only [eent_c] at hp
  try simp only [eent_c, Rng, RngL, inR, and_true, true_and] at hr
  have hp : ss.length ≤ 1000 := hp
  repeat' (first | (with_reducible refine Unf.h ?_) | fail); all_goals try (conv => whnf); all_goals try (exfalso; omega)
  refine LoopS.mk (I := Nat) (fun i => i ≤ ss.length) (fun i => [(11, .int .i64 (i : Int)), (10, .int .i64 (ss.length : Int)), (9, .own 3), (3, .own 6), (0, .ptr 0 0)]) (fun i => stG s l ss ps ++ [(6, .row 30 32 eH ((ss.take i).map (·.entry)))]) 7 (fun i => ss.length - i) 0 (Nat.zero_le _) ?_ ?_
  · have e0 : (ss.take 0).map (·.entry) = [] := rfl
    repeat' (first | (with_reducible refine Unf.h ?_) | ((conv => whnf); first | (refine Side.mk ?_ ?_; focus (first | with_reducible rfl | assumption | (refine congrArg (SV.int _) ?_; omega))) | (with_reducible refine Unf.h ?_) | exact True.intro) | fail); all_goals try (conv => whnf); all_goals try (exfalso; omega)
  · intro i hi
    by_cases hil : i < ss.length
    · have es : (ss.take (i + 1)).map (·.entry) = (ss.take i).map (·.entry) ++ [(ss[((i : Nat) : Int).toNat]'hil).entry] := by
        rw [List.take_succ_eq_append_getElem hil, List.map_append]; rfl
      have hl : ((ss.take i).map (·.entry)).length ≤ 1000 := by simp; omega
      repeat' (first | (with_reducible first | refine Unf.h ?_ | refine loopK_n ?_) | ((conv => whnf); first | refine Fork.mk (fun h => ?_) (fun h => ?_) | (refine Side.mk ?_ ?_; focus (first | omega | (intros; (try simp only [lenS, inR, cutS, loI, hiI] at *); omega))) | (refine Idx.mk ?_ ?_; focus (omega)) | refine Ex.mk [_] rfl ?_) | fail); all_goals try (conv => whnf); all_goals try (exfalso; omega)
      refine ⟨i + 1, ⟨by omega, by omega⟩, ?_⟩
      repeat' (first | (with_reducible refine Unf.h ?_) | ((conv => whnf); first | (refine Side.mk ?_ ?_; focus (first | with_reducible rfl | (refine congrArg (SV.int _) ?_; omega) | (simp only [*, es]; done))) | (with_reducible refine Unf.h ?_) | exact True.intro) | fail); all_goals try (conv => whnf); all_goals try (exfalso; omega)
    · have e : ss.take i = ss := List.take_of_length_le (by omega)
      repeat' (first | (with_reducible refine Unf.h ?_) | ((conv => whnf); first | refine Fork.mk (fun h => ?_) (fun h => ?_) | (refine Side.mk ?_ ?_; focus (first | with_reducible rfl | (simp only [*, e]; done))) | refine RetE.mk () trivial ?_ | refine retK_r ?_ | exact rfl) | fail); all_goals try (conv => whnf); all_goals try (exfalso; omega)
end Go.Proofs.YtdflndjlnkoliaaGreatDoor

namespace Go.Proofs.YtdflndjlnkoliaaGreatDoor
set_option linter.all false
open Go.RowKit
theorem four_doc (n : Int) : beN 4 (BitVec.ofInt 64 n % 4294967296#64) = fourB n := by
  have key : ∀ k : Nat, k = 0 ∨ k = 8 ∨ k = 16 ∨ k = 24 → ((BitVec.ofInt 64 n % 4294967296#64) >>> k).setWidth 8 = BitVec.ofInt 8 (n / 2 ^ k) := fun k hk => by
    apply BitVec.eq_of_toNat_eq
    simp only [BitVec.toNat_setWidth, BitVec.toNat_ushiftRight, BitVec.toNat_umod, BitVec.toNat_ofInt, BitVec.toNat_ofNat, Nat.shiftRight_eq_div_pow]
    have h64 : (n % 18446744073709551616).toNat = n % 18446744073709551616 := by omega
    rcases hk with rfl | rfl | rfl | rfl
    all_goals
      simp only [Nat.reducePow, Nat.reduceMod, Int.reducePow, Int.cast_ofNat_Int]
      omega
  have k0 := key 0 (by omega)
  have k1 := key 8 (by omega)
  have k2 := key 16 (by omega)
  have k3 := key 24 (by omega)
  rw [show (n / 2 ^ 0) = n by simp] at k0
  show [_, _, _, _] = [_, _, _, _]
  rw [← k0, ← k1, ← k2, ← k3]
def rfour_c : Ctr where
  D := Int
  args := fun n => [.int .i64 n]
  res := fun n _ => .fs 1 eB (fourB n)
def rfour_H : Cfg := ⟨[(77, number_c)], [], [], [], 7, 0, [], [], []⟩
theorem rfour_ok : rfour_c.Ok Tryz.prog 121 := by
  refine fn_ok rfour_H 0 rfl _ Tryz.func121 rfl rfl ⟨number_ok, trivial⟩ rfl rfl (by kernel_rfl) (fun _ => Nat.le_of_ble_eq_true rfl) ?_
  intro (n : Int) hp hr
  try dsimp only [rfour_c] at hp
  try simp only [rfour_c, Rng, RngL, inR, and_true, true_and] at hr
  have e := four_doc n
  have hpn : number_c.pre (BitVec.ofInt 64 n % 4294967296#64, 4) := show 4 ≤ 1000 by omega
  repeat' (first | (with_reducible refine Unf.h ?_) | ((conv => whnf); (refine Side.mk ?_ ?_; focus ((simp [*]; done)))) | fail); all_goals try (conv => whnf); all_goals try (exfalso; omega)
  refine CallS.mk (c := number_c) ((BitVec.ofInt 64 n % 4294967296#64, 4)) ?_
  repeat' (first | (with_reducible refine Unf.h ?_) | ((conv => whnf); first | (refine Side.mk ?_ ?_; focus (first | with_reducible rfl | assumption | (refine congrArg (SV.int _) ?_; omega) | (simp only [*, e]; done))) | refine RetE.mk () trivial ?_ | refine Got.mk (fun _ _ => ?_) | refine retK_r ?_ | exact rfl) | fail); all_goals try (conv => whnf); all_goals try (exfalso; omega)
def rkey14_c : Ctr where
  D := Bs
  pre := fun x => x.length ≤ 1000000
  args := fun x => [.fs 1 eB x]
  res := fun x _ => .agg [.arr8 (keyL x)]
def rkey14_H : Cfg := ⟨[(96, rtagged_c)], [], [], [], 6, 0, [], [], []⟩
theorem rkey14_ok : rkey14_c.Ok Tryz.prog 52 := by
  refine fn_ok rkey14_H 0 rfl _ Tryz.func52 rfl rfl ⟨rtagged_ok, trivial⟩ rfl rfl (by kernel_rfl) (fun _ => Nat.le_of_ble_eq_true rfl) ?_
  intro (x : Bs) hp hr
  try dsimp only [rkey14_c] at hp
  try simp only [rkey14_c, Rng, RngL, inR, and_true, true_and] at hr
  have hp : x.length ≤ 1000000 := hp
  have hpt : rtagged_c.pre (107#8, [x]) := ⟨by simp, by simpa using hp⟩
  repeat' (first | (with_reducible refine Unf.h ?_) | ((conv => whnf); first | (refine Side.mk ?_ ?_; focus (with_reducible rfl)) | refine CallS.mk (c := rtagged_c) ((107#8, [x])) ?_) | fail); all_goals try (conv => whnf); all_goals try (exfalso; omega)
  refine Side.mk rfl ?_
  repeat' (first | (with_reducible refine Unf.h ?_) | ((conv => whnf); first | (refine Side.mk ?_ ?_; focus (first | assumption | (simp only [*, keyL]; done))) | refine RetE.mk () trivial ?_ | refine Got.mk (fun _ _ => ?_) | (with_reducible refine Unf.h ?_) | refine retK_r ?_ | exact rfl) | fail); all_goals try (conv => whnf); all_goals try (exfalso; omega)
def rsalt14_c : Ctr where
  D := H256 × Bs × Int
  pre := fun (_, x, _) => x.length ≤ 1000000
  args := fun (s, x, n) => [.agg [.arr8 s], .fs 1 eB x, .int .i64 n]
  res := fun (s, x, n) _ => .agg [.arr8 (saltL s x n)]
def rsalt14_H : Cfg := ⟨[(96, rtagged_c), (121, rfour_c)], [(1, [], [3, 4, 5, 6], (.one 0 0 false (.one 1 0 false (.one 2 0 false (.one 3 2 false (.one 4 2 false (.one 5 2 false (.one 6 2 false .nil))))))), [])], [], [], 13, 0, [], [], []⟩
theorem rsalt14_ok : rsalt14_c.Ok Tryz.prog 80 := by
  refine fn_ok rsalt14_H 0 rfl _ Tryz.func80 rfl rfl ⟨rtagged_ok, rfour_ok, trivial⟩ rfl rfl (by kernel_rfl) (fun _ => Nat.le_of_ble_eq_true rfl) ?_
  rintro ⟨s, x, n⟩ hp hr
  try dsimp only [rsalt14_c] at hp
  try simp only [rsalt14_c, Rng, RngL, inR, and_true, true_and] at hr
  have hp : x.length ≤ 1000000 := hp
  have hpt : rtagged_c.pre (122#8, [s.toList, x, fourB n]) := ⟨by simp, by simp [fourB_len, hp]⟩
  repeat' (first | (with_reducible refine Unf.h ?_) | ((conv => whnf); first | (refine Side.mk ?_ ?_; focus (first | with_reducible rfl | exact True.intro | (intros; (try simp only [lenS, inR, cutS, loI, hiI, saltL, cutv2] at *); omega))) | refine Got.mk (fun _ _ => ?_) | refine CallS.mk (c := rfour_c) (n) ?_ | refine CallS.mk (c := rtagged_c) ((122#8, [s.toList, x, fourB n])) ?_) | fail); all_goals try (conv => whnf); all_goals try (exfalso; omega)
  refine Side.mk (by simp only [cutv2]; rfl) ?_
  repeat' (first | (with_reducible refine Unf.h ?_) | ((conv => whnf); first | (refine Side.mk ?_ ?_; focus (first | assumption | (simp only [*, saltL]; done))) | refine RetE.mk () trivial ?_ | refine Got.mk (fun _ _ => ?_) | (with_reducible refine Unf.h ?_) | refine retK_r ?_ | exact rfl) | fail); all_goals try (conv => whnf); all_goals try (exfalso; omega)
def rvtext_c : Ctr where
  D := Bs × Ver
  pre := fun (x, v) => x.length ≤ 1000000 ∧ v.val.length ≤ 1000000
  args := fun (x, v) => [.fs 1 eB x, .agg (eVr v)]
  res := fun _ _ => .own 0
  out := fun (x, v) _ => [(0, .row 5 1 eB (verT x v))]
  mm := 1
def rvtext_H : Cfg := ⟨[(138, rtext_c), (121, rfour_c)], [(1, [2, 5, 12], [3, 6, 13, 14], (.one 0 0 false (.one 1 0 false (.one 2 1 false (.one 4 0 false (.one 5 1 false (.one 7 0 false (.one 8 0 false (.one 9 0 false (.one 10 0 false (.one 11 0 false (.one 12 1 false (.one 3 2 true (.one 6 2 true (.one 13 2 false (.one 14 2 false (.one 15 0 false .nil)))))))))))))))), [])], [], [], 20, 0, [], [], []⟩
theorem rvtext_ok : rvtext_c.Ok Tryz.prog 122 := by
  refine fn_ok rvtext_H 0 rfl _ Tryz.func122 rfl rfl ⟨rtext_ok, rfour_ok, trivial⟩ rfl rfl (by kernel_rfl) (fun _ => Nat.le_of_ble_eq_true rfl) ?_
  rintro ⟨x, v⟩ hp hr
  try dsimp only [rvtext_c] at hp
  try simp only [rvtext_c, Rng, RngL, inR, and_true, true_and] at hr
  obtain ⟨hp1, hp2⟩ := hp
  have hpt : rtext_c.pre (99#8, [x, fourB v.num, fourB v.ep, v.salt.toList, v.before.toList, v.val]) := ⟨by simp, by simp [fourB_len, hp1, hp2]⟩
  repeat' (first | (with_reducible refine Unf.h ?_) | ((conv => whnf); (refine Side.mk ?_ ?_; focus (exact True.intro))) | fail); all_goals try (conv => whnf); all_goals try (exfalso; omega)
  refine CallS.mk (c := rfour_c) (v.num) ?_
  repeat' (first | (with_reducible refine Unf.h ?_) | ((conv => whnf); first | (refine Side.mk ?_ ?_; focus (first | with_reducible rfl | exact True.intro)) | refine Got.mk (fun _ _ => ?_)) | fail); all_goals try (conv => whnf); all_goals try (exfalso; omega)
  refine CallS.mk (c := rfour_c) (v.ep) ?_
  repeat' (first | (with_reducible refine Unf.h ?_) | ((conv => whnf); first | (refine Side.mk ?_ ?_; focus (first | with_reducible rfl | exact True.intro | (intros; (try simp only [lenS, inR, cutS, loI, hiI] at *); omega))) | refine Got.mk (fun _ _ => ?_)) | fail); all_goals try (conv => whnf); all_goals try (exfalso; omega)
  refine CallS.mk (c := rtext_c) ((99#8, [x, fourB v.num, fourB v.ep, v.salt.toList, v.before.toList, v.val])) ?_
  repeat' (first | (with_reducible refine Unf.h ?_) | ((conv => whnf); (refine Side.mk ?_ ?_; focus (with_reducible rfl))) | fail); all_goals try (conv => whnf); all_goals try (exfalso; omega)
  refine Side.mk (by simp only [cutv2]; rfl) ?_
  repeat' (first | (with_reducible refine Unf.h ?_) | ((conv => whnf); first | (refine Side.mk ?_ ?_; focus (first | assumption | (simp only [*, verT]; done))) | refine RetE.mk () trivial ?_ | refine Got.mk (fun _ _ => ?_) | (with_reducible refine Unf.h ?_) | refine retK_r ?_ | exact rfl) | fail); all_goals try (conv => whnf); all_goals try (exfalso; omega)
def rcommit_c : Ctr where
  D := Bs × Ver
  pre := fun (x, v) => x.length ≤ 1000000 ∧ v.val.length ≤ 1000000
  args := fun (x, v) => [.fs 1 eB x, .agg (eVr v)]
  res := fun (x, v) _ => .agg [.arr8 (cmL x v)]
def rcommit_H : Cfg := ⟨[(122, rvtext_c), (117, refsum_c)], [], [], [], 9, 0, [], [], []⟩
theorem rcommit_ok : rcommit_c.Ok Tryz.prog 81 := by
  refine fn_ok rcommit_H 0 rfl _ Tryz.func81 rfl rfl ⟨rvtext_ok, refsum_ok, trivial⟩ rfl rfl (by kernel_rfl) (fun _ => Nat.le_of_ble_eq_true rfl) ?_
  rintro ⟨x, v⟩ hp hr
  try dsimp only [rcommit_c] at hp
  try simp only [rcommit_c, Rng, RngL, inR, and_true, true_and] at hr
  obtain ⟨hp1, hp2⟩ := hp
  have hpt : rvtext_c.pre (x, v) := ⟨hp1, hp2⟩
  have hps := verT_small hp1 hp2
  have hpr : refsum_c.pre (verT x v) := hps
  repeat' (first | (with_reducible refine Unf.h ?_) | ((conv => whnf); first | (refine Side.mk ?_ ?_; focus (first | with_reducible rfl | assumption | (simp only [*, cmL]; done))) | refine RetE.mk () trivial ?_ | refine Got.mk (fun _ _ => ?_) | refine retK_r ?_ | exact rfl | refine CallS.mk (c := rvtext_c) ((x, v)) ?_ | refine CallS.mk (c := refsum_c) (verT x v) ?_) | fail); all_goals try (conv => whnf); all_goals try (exfalso; omega)
end Go.Proofs.YtdflndjlnkoliaaGreatDoor

namespace Go.Proofs.YtdflndjlnkoliaaGreatDoor
set_option linter.all false
open Go.RowKit
abbrev Bs0 := List (BitVec 8)
def rowB' (e : Nat) (w : World) (v : Value) (b : Bs0) : Prop := b.length ≤ 140737488355328 ∧ w.ownsRow 0 e 1 v b.length (b.map (bV .u8))
theorem rowB'.lt {e : Nat} {w : World} {v : Value} {b : Bs0} (h : rowB' e w v b) {k : Nat} (hk : blkO v = some k) : k < w.heap.size := by
  rw [(own_blk h.2).1] at hk
  exact (h.2.lt k hk).2
theorem rowB'.later {e : Nat} {w w' : World} {v : Value} {b : Bs0} (h : rowB' e w v b) (hb : ∀ k, blkO v = some k → w'.heap[k]? = w.heap[k]?) : rowB' e w' v b := by
  refine ⟨h.1, h.2.1, ?_⟩
  rcases h.2.2 with hn | ⟨g, cap, cur, rfl, hb0, hg, rest⟩
  · exact .inl hn
  · exact .inr ⟨g, cap, cur, rfl, hb0, (hb g rfl).trans hg, rest⟩
abbrev VB := Value × Bs0
def apartL (l : List VB) : Prop := l.Pairwise fun p q => ∀ k, blkO p.1 = some k → blkO q.1 ≠ some k
def subsAO (e : Nat) (l : List VB) : AO where
  own := fun k => ∃ p ∈ l, blkO p.1 = some k
  holds := fun w _ => (∀ p ∈ l, rowB' e w p.1 p.2) ∧ apartL l
  plain := True
  lt := fun h ⟨p, hp, hk⟩ => (h.1 p hp).lt hk
  later := fun h _ hb => ⟨fun p hp => (h.1 p hp).later fun k hk => hb k ⟨p, hp, hk⟩, h.2⟩
  any := fun _ h => h
section
variable {P : Program} [TabC P] {S : Sig} {σ : Sg} {env : Env} {objs : List Ob} {nx : Nat} {a : Act} {w : World} {A : Own}
theorem St.re {S' : Sig} {σ' : Sg} {env' : Env} {objs' : List Ob} {nx' : Nat} (h : St P S σ env objs nx a w) (hA0 : S'.A0 = S.A0) (hn : S'.n = S.n) (hs : Sg.le σ σ') (hown : ∀ b, owns σ' objs' b ↔ owns σ objs b)
    (hslots : ∀ t s, lk env' t = some s → s.hv w (S.A σ objs) σ' (a.tmps.getD t undef)) (hdom : ∀ k, nx' ≤ k → σ' k = none)
    (hholds : ∀ o ∈ objs', o.2.holds w (S.A σ objs) σ' o.1) (hdisj : Disj σ' objs') (hist : Mod S'.M0 S'.w0 w) (own0 : ∀ b, owns σ objs b → S'.M0 b ∨ S'.w0.heap.size ≤ b) (a0 : ∀ b, S.A0 b → b < w.heap.size)
    (base : ∀ k, k < S'.nn → ∀ v, σ' k = some v → S'.s0 k = some v) (nnx : S'.nn ≤ nx') (hds : S'.ds = S.ds := by rfl) : St P S' σ' env' objs' nx' a w := by
  have hA : ∀ b, S'.A σ' objs' b ↔ S.A σ objs b := fun b => by simp only [Sig.A, hA0, hown b]
  have hl : Later w (S.A σ objs) w (S'.A σ' objs') := Later.own fun b hb => (hA b).1 hb
  exact { slots := fun t s ht => (hslots t s ht).later hl, dom := hdom, size := by rw [hn]; exact h.size, defers := by rw [hds]; exact h.defers
          obs := ⟨fun o ho => (hholds o ho).later hl (fun _ _ => rfl), hdisj, fun b hb => by rw [hA0]; exact h.obs.lt b ((hown b).1 hb)⟩
          hist := hist, own0 := fun b hb => own0 b ((hown b).1 hb), a0 := by rw [hA0]; exact a0, mks := by rw [hds, hA0]; exact h.mks, glob := h.glob.later hl, base := base, nnx := nnx }
inductive CloseS (j e : Nat) (l1 l2 : List VB) (v : Value) (m : Nat) (K : KS) (env : Env) (objs : List Ob) (nx : Nat) : Prop
  | mk (b : Bs0) (o3 o4 : List Ob) (so : SO) (h3 : rmO objs m = some (.row e 1 eB b, o3)) (hj : lk o3 j = some (.ab (subsAO e (l1 ++ l2)))) (h4 : setO o3 j j (.ab (subsAO e (l1 ++ (v, b) :: l2))) = some o4) (k : K env o4 nx)
end
section
variable {P : Program} [TabC P] {fn : Nat} {D : Type} {pre : D → Prop} {arg f : D → Bs0} {e : Nat}
end
def soSame (s s' : SO) : Prop := (∀ σ k, SO.own σ k s = SO.own σ k s') ∧ ∀ w A σ k, s.holds w A σ k = s'.holds w A σ k
def oSame : List Ob → List Ob → Prop
  | [], [] => True
  | (k, s) :: r, (k', s') :: r' => k = k' ∧ soSame s s' ∧ oSame r r'
  | _, _ => False
theorem soSame.row {e z : Nat} {α β : Type} {enc : α → List SV} {enc' : β → List SV} {xs : List α} {ys : List β} (h : xs.map enc = ys.map enc') : soSame (.row e z enc xs) (.row e z enc' ys) :=
  ⟨fun _ _ => rfl, fun w A σ k => by show rowH w A σ k e z (xs.map enc) = rowH w A σ k e z (ys.map enc'); rw [h]⟩
theorem oSame.owns {σ : Sg} : ∀ {a b : List Ob}, oSame a b → owns σ a = owns σ b
  | [], [], _ => rfl
  | (k, s) :: r, (k', s') :: r', ⟨h1, h2, h3⟩ => by
    subst h1
    funext x
    show (SO.own σ k s x ∨ Go.Proofs.YtdflndjlnkoliaaGreatDoor.owns σ r x) = (SO.own σ k s' x ∨ Go.Proofs.YtdflndjlnkoliaaGreatDoor.owns σ r' x)
    rw [h2.1, oSame.owns h3]
theorem oSame.disj {σ : Sg} : ∀ {a b : List Ob}, oSame a b → Disj σ a → Disj σ b
  | [], [], _, h => h
  | (k, s) :: r, (k', s') :: r', ⟨h1, h2, h3⟩, h => by
    subst h1
    refine ⟨fun b hb => ?_, oSame.disj h3 h.2⟩
    have hb' : SO.own σ k s' b := hb
    rw [← h2.1] at hb'
    rw [← oSame.owns h3]
    exact h.1 b hb'
theorem oSame.mem : ∀ {a b : List Ob}, oSame a b → ∀ o ∈ b, ∃ o' ∈ a, o'.1 = o.1 ∧ soSame o'.2 o.2
  | [], [], _, o, h => by cases h
  | (k, s) :: r, (k', s') :: r', ⟨h1, h2, h3⟩, o, h => by
    rcases List.mem_cons.1 h with rfl | h
    · exact ⟨(k, s), List.mem_cons_self, h1, h2⟩
    · obtain ⟨o', ho', e⟩ := oSame.mem h3 o h
      exact ⟨o', List.mem_cons_of_mem _ ho', e⟩
theorem oSame.obs {σ : Sg} {A0 : Own} {a b : List Ob} {w : World} (h : oSame a b) (ho : Obs σ A0 a w) : Obs σ A0 b w :=
  ⟨fun o hm => by
    obtain ⟨o', hm', h1, h2⟩ := h.mem o hm
    have := ho.holds o' hm'
    rw [h1, h2.2, h.owns] at this
    exact this, h.disj ho.disj, fun x hx => ho.lt x (by rw [h.owns]; exact hx)⟩
theorem Ctr.Ok.out {P : Program} [TabC P] {f : Nat} {c : Ctr} (h : c.Ok P f) {out' : c.D → c.E → List Ob} (hs : ∀ d e, c.pre d → c.post d e → oSame (c.out d e) (out' d e)) : ({ c with out := out' } : Ctr).Ok P f := by
  intro d hpre A0 w σ vs hA hobs hargs hdom hgl
  refine (h d hpre A0 w σ vs hA hobs hargs hdom hgl).mono ?_
  rintro en w' ⟨e', v, σ', rfl, hp, hsame, hdom', hres, hm, hobs', hnew⟩
  have hh := hs d e' hpre hp
  refine ⟨e', v, σ', rfl, hp, hsame, hdom', ?_, hm, hh.obs hobs', ?_⟩
  · show (c.res d e').hv w' (Av A0 σ' (out' d e')) σ' v
    unfold Av at hres ⊢
    rw [← hh.owns]; exact hres
  · intro b hb
    have hb' : owns σ' (out' d e') b := hb
    rw [← hh.owns] at hb'
    exact hnew b hb'
def soSub (s s' : SO) : Prop := (∀ σ k x, SO.own σ k s' x → SO.own σ k s x) ∧ ∀ w A σ k, s.holds w A σ k → s'.holds w A σ k
def oSub : List Ob → List Ob → Prop
  | [], [] => True
  | (k, s) :: r, (k', s') :: r' => k = k' ∧ soSub s s' ∧ oSub r r'
  | _, _ => False
theorem oSub.owns {σ : Sg} {x : Nat} : ∀ {a b : List Ob}, oSub a b → Go.Proofs.YtdflndjlnkoliaaGreatDoor.owns σ b x → Go.Proofs.YtdflndjlnkoliaaGreatDoor.owns σ a x
  | [], [], _, h => h
  | (k, s) :: r, (k', s') :: r', ⟨h1, h2, h3⟩, h => by
    subst h1
    exact h.imp (h2.1 σ k x) (oSub.owns h3)
theorem oSub.disj {σ : Sg} : ∀ {a b : List Ob}, oSub a b → Disj σ a → Disj σ b
  | [], [], _, h => h
  | (k, s) :: r, (k', s') :: r', ⟨h1, h2, h3⟩, h => by
    subst h1
    exact ⟨fun b hb hr => h.1 b (h2.1 σ k b hb) (oSub.owns h3 hr), oSub.disj h3 h.2⟩
theorem oSub.mem : ∀ {a b : List Ob}, oSub a b → ∀ o ∈ b, ∃ o' ∈ a, o'.1 = o.1 ∧ soSub o'.2 o.2
  | [], [], _, o, h => by cases h
  | (k, s) :: r, (k', s') :: r', ⟨h1, h2, h3⟩, o, h => by
    rcases List.mem_cons.1 h with rfl | h
    · exact ⟨(k, s), List.mem_cons_self, h1, h2⟩
    · obtain ⟨o', ho', e⟩ := oSub.mem h3 o h
      exact ⟨o', List.mem_cons_of_mem _ ho', e⟩
theorem oSub.obs {σ : Sg} {A0 : Own} {a b : List Ob} {w : World} (h : oSub a b) (ho : Obs σ A0 a w) : Obs σ A0 b w :=
  ⟨fun o hm => by
    obtain ⟨o', hm', h1, h2⟩ := h.mem o hm
    have := ho.holds o' hm'
    rw [h1] at this
    exact (h2.2 _ _ _ _ this).later (Later.own fun k hk => hk.imp id h.owns) (fun _ _ => rfl), h.disj ho.disj, fun x hx => ho.lt x (h.owns hx)⟩
theorem Ctr.Ok.sub {P : Program} [TabC P] {f : Nat} {c : Ctr} (h : c.Ok P f) {out' : c.D → c.E → List Ob} (hs : ∀ d e, c.pre d → c.post d e → oSub (c.out d e) (out' d e)) : ({ c with out := out' } : Ctr).Ok P f := by
  intro d hpre A0 w σ vs hA hobs hargs hdom hgl
  refine (h d hpre A0 w σ vs hA hobs hargs hdom hgl).mono ?_
  rintro en w' ⟨e', v, σ', rfl, hp, hsame, hdom', hres, hm, hobs', hnew⟩
  have hh := hs d e' hpre hp
  exact ⟨e', v, σ', rfl, hp, hsame, hdom', hres.later (Later.own fun k hk => hk.imp id hh.owns), hm, hh.obs hobs', fun b hb => hnew b (hh.owns hb)⟩
end Go.Proofs.YtdflndjlnkoliaaGreatDoor

namespace Go.Proofs.YtdflndjlnkoliaaGreatDoor
set_option linter.all false
open Go.RowKit
def leL : List SV → List SV → Prop
  | [], [] => True
  | s :: r, t :: q => (s = t ∨ (s = .nils ∧ ∃ (z : Nat) (α : Type) (enc : α → List SV), t = @SV.fs z α enc [])) ∧ leL r q
  | _, _ => False
theorem hL_le {w : World} {A : Own} {σ : Sg} : ∀ {ps qs : List SV} {cs : List Value}, leL ps qs → hL w A ps σ cs → hL w A qs σ cs
  | [], [], _, _, h => h
  | s :: r, t :: q, cs, ⟨h1, h2⟩, ⟨a, b, e, ha, hb⟩ => by
    refine ⟨a, b, e, ?_, hL_le h2 hb⟩
    rcases h1 with rfl | ⟨rfl, z, α, enc, rfl⟩
    · exact ha
    · simp only [SV.hc] at ha ⊢
      subst ha
      refine ⟨none, 0, rfl, Nat.zero_le _, Nat.zero_le _, ?_⟩
      simp
  | [], _ :: _, _, h, _ => h.elim
  | _ :: _, [], _, h, _ => h.elim
section
variable {P : Program} [TabC P] {S : Sig} {σ : Sg} {env : Env} {objs : List Ob} {nx : Nat} {a : Act} {w : World}
theorem St.nilA {t : Nat} {ps qs : List SV} (hst : St P S σ env objs nx a w) (ht : lk env t = some (.agg ps)) (hl : leL ps qs) : St P S σ ((t, .agg qs) :: env) objs nx a w := by
  refine hst.re (S' := S) rfl rfl (Sg.le.refl _) (fun k => Iff.rfl) (fun t' s' hx => ?_) hst.dom hst.obs.holds hst.obs.disj hst.hist (fun k hk => hst.own0 k hk) hst.a0 hst.base hst.nnx
  unfold lk at hx
  split at hx
  · rename_i hb
    obtain rfl := Nat.eq_of_beq_eq_true hb
    cases hx
    have := hst.slots t _ ht
    simp only [SV.hv, SV.h1] at this ⊢
    obtain ⟨cs, h1, h2⟩ := this
    exact ⟨cs, h1, hL_le hl h2⟩
  · exact hst.slots t' s' hx
theorem OpsK.bslA {H : Cfg} {all r : List Oper} {K : KS} (t k off lo hi : Nat) (ht : lk env t = some (.bsl k off lo hi)) (h : nn1 objs (.bsl k off lo hi) fun o s => ∃ l : List (BitVec 8), s = .fs 1 eB l ∧ OpsK P H all r K ((t, .fs 1 eB l) :: env) o nx) : OpsK P H all r K env objs nx := ⟨fun {S Q ops} hcs hn ha hK => by
  obtain ⟨o', s', ⟨l, rfl, h⟩, g, e⟩ := nn1_sound (P := P) h
  intro σ a w hst
  have hst1 := g.1 S env nx σ a w hst
  refine h.h hcs hn ha hK σ a w (hst1.re (S' := S) rfl rfl (Sg.le.refl _) (fun k => Iff.rfl) (fun t' s' hx => ?_) hst1.dom hst1.obs.holds hst1.obs.disj hst1.hist (fun k hk => hst1.own0 k hk) hst1.a0 hst1.base hst1.nnx)
  unfold lk at hx
  split at hx
  · rename_i hb
    obtain rfl := Nat.eq_of_beq_eq_true hb
    cases hx
    have h1 := hst.slots t _ ht
    exact hv_up (e hst h1)
  · exact hst1.slots t' s' hx⟩
theorem OpsK.nilA {H : Cfg} {all r : List Oper} {K : KS} (t : Nat) (ps qs : List SV) (ht : lk env t = some (.agg ps)) (hl : leL ps qs) (h : OpsK P H all r K ((t, .agg qs) :: env) objs nx) : OpsK P H all r K env objs nx := ⟨fun {S Q ops} hcs hn ha hK => by
  intro σ a w hst
  exact h.h hcs hn ha hK σ a w (hst.nilA ht hl)⟩
theorem OrdK.nilA {H : Cfg} {all : List Oper} {o0 : List Ob} {N : List Nat} {r : Ord} {ph k : Bool} {K : KS} (t : Nat) (ps qs : List SV) (ht : lk env t = some (.agg ps)) (hl : leL ps qs)
    (h : OrdK P H all o0 N r ph k K ((t, .agg qs) :: env) objs nx) : OrdK P H all o0 N r ph k K env objs nx := ⟨fun {S Q ops} hcs hn ha hN hK => by
  intro σ a w w0 e0 a0 hst0 hS hst hph hk
  exact h.h hcs hn ha hN hK σ a w w0 e0 a0 hst0 hS (hst.nilA ht hl) hph hk⟩
end
end Go.Proofs.YtdflndjlnkoliaaGreatDoor

namespace Go.Proofs.YtdflndjlnkoliaaGreatDoor
set_option linter.all false
open Go.RowKit
def rleaf15_c : Ctr where
  D := Bs
  pre := fun b => b.length ≤ 1000000
  args := fun b => [.fs 1 eB b]
  res := fun b _ => .agg [.arr8 (sha (0#8 :: b))]
def rleaf15_H : Cfg := ⟨[(117, refsum_c)], [], [], [], 10, 0, [], [], []⟩
theorem rleaf15_ok : rleaf15_c.Ok Tryz.prog 78 := by
  refine fn_ok rleaf15_H 0 rfl _ Tryz.func78 rfl rfl ⟨refsum_ok, trivial⟩ rfl rfl (by kernel_rfl) (fun _ => Nat.le_of_ble_eq_true rfl) ?_
  intro (b : Bs) hp hr
  try dsimp only [rleaf15_c] at hp
  try simp only [rleaf15_c, Rng, RngL, inR, and_true, true_and] at hr
  have hp : b.length ≤ 1000000 := hp
  have hps : refsum_c.pre (0#8 :: b) := by show (0#8 :: b).length ≤ 1000000000; simp; omega
  repeat' (first | (with_reducible refine Unf.h ?_) | ((conv => whnf); first | (refine Side.mk ?_ ?_; focus ((intros; (try simp only [lenS, inR, cutS, loI, hiI] at *); omega))) | refine Ex.mk [_] rfl ?_) | fail); all_goals try (conv => whnf); all_goals try (exfalso; omega)
  refine CallS.mk (c := refsum_c) ((0#8 :: b)) ?_
  repeat' (first | (with_reducible refine Unf.h ?_) | ((conv => whnf); first | (refine Side.mk ?_ ?_; focus (first | with_reducible rfl | assumption | (simp [*]; done))) | refine RetE.mk () trivial ?_ | refine Got.mk (fun _ _ => ?_) | refine retK_r ?_ | exact rfl) | fail); all_goals try (conv => whnf); all_goals try (exfalso; omega)
def rtext15_c : Ctr where
  D := H256 × H256
  args := fun (a, b) => [.agg [.arr8 a], .agg [.arr8 b]]
  res := fun _ _ => .own 0
  out := fun (a, b) _ => [(0, .row 5 1 eB (1#8 :: (a.toList ++ b.toList)))]
  mm := 1
def rtext15_H : Cfg := ⟨[], [], [], [], 13, 0, [], [], []⟩
theorem rtext15_ok : rtext15_c.Ok Tryz.prog 158 := by
  refine fn_ok rtext15_H 0 rfl _ Tryz.func158 rfl rfl trivial rfl rfl (by kernel_rfl) (fun _ => Nat.le_of_ble_eq_true rfl) ?_
  rintro ⟨a, b⟩ hp hr
  try dsimp only [rtext15_c] at hp
  try simp only [rtext15_c, Rng, RngL, inR, and_true, true_and] at hr
  repeat (first | (with_reducible refine Unf.h ?_) | ((conv => whnf); (with_reducible first | refine Unf.h ?_ | refine loopK_n ?_ | refine cutK_n ?_)))
  conv => whnf
  refine Side.mk (by simp [cutS, loI, hiI]) ?_
  refine OpsK.bslA 8 0 0 _ _ rfl ?_
  repeat (first | (with_reducible refine Unf.h ?_) | ((conv => whnf); (with_reducible first | refine Unf.h ?_ | refine loopK_n ?_ | refine cutK_n ?_)))
  conv => whnf
  refine Side.mk (by simp [hiI]) ?_
  refine ⟨_, rfl, ?_⟩
  repeat (first | (with_reducible refine Unf.h ?_) | ((conv => whnf); (with_reducible first | refine Unf.h ?_ | refine loopK_n ?_ | refine cutK_n ?_)))
  conv => whnf
  refine Ex.mk [1#8] rfl ?_
  repeat (first | (with_reducible refine Unf.h ?_) | ((conv => whnf); (with_reducible first | refine Unf.h ?_ | refine loopK_n ?_ | refine cutK_n ?_)))
  conv => whnf
  refine Side.mk (by constructor <;> (simp [EF.els]; try omega)) ?_
  repeat (first | (with_reducible refine Unf.h ?_) | ((conv => whnf); (with_reducible first | refine Unf.h ?_ | refine loopK_n ?_ | refine cutK_n ?_)))
  conv => whnf
  refine Side.mk (by simp [cutS, loI, hiI]) ?_
  refine OpsK.bslA 11 1 0 _ _ rfl ?_
  repeat (first | (with_reducible refine Unf.h ?_) | ((conv => whnf); (with_reducible first | refine Unf.h ?_ | refine loopK_n ?_ | refine cutK_n ?_)))
  conv => whnf
  refine Side.mk (by simp [hiI]) ?_
  refine ⟨_, rfl, ?_⟩
  repeat (first | (with_reducible refine Unf.h ?_) | ((conv => whnf); (with_reducible first | refine Unf.h ?_ | refine loopK_n ?_ | refine cutK_n ?_)))
  conv => whnf
  refine Ex.mk _ rfl ?_
  repeat' (first | (with_reducible refine Unf.h ?_) | ((conv => whnf); first | (refine Side.mk ?_ ?_; focus ((intros; (try simp only [lenS, inR, cutS, loI, hiI] at *); omega))) | refine RetE.mk () trivial ?_ | refine retK_r ?_) | fail); all_goals try (conv => whnf); all_goals try (exfalso; omega)
  refine Side.mk (congrArg (SO.row _ _ _) (by simp only [cutv2]; simp)) ?_
  repeat' (first | (with_reducible refine Unf.h ?_) | ((conv => whnf); exact rfl) | fail); all_goals try (conv => whnf); all_goals try (exfalso; omega)
def rnode15_c : Ctr where
  D := H256 × H256
  args := fun (a, b) => [.agg [.arr8 a], .agg [.arr8 b]]
  res := fun (a, b) _ => .agg [.arr8 (nodeH a b)]
def rnode15_H : Cfg := ⟨[(158, rtext15_c), (117, refsum_c)], [], [], [], 9, 0, [], [], []⟩
theorem rnode15_ok : rnode15_c.Ok Tryz.prog 118 := by
  refine fn_ok rnode15_H 0 rfl _ Tryz.func118 rfl rfl ⟨rtext15_ok, refsum_ok, trivial⟩ rfl rfl (by kernel_rfl) (fun _ => Nat.le_of_ble_eq_true rfl) ?_
  rintro ⟨a, b⟩ hp hr
  try dsimp only [rnode15_c] at hp
  try simp only [rnode15_c, Rng, RngL, inR, and_true, true_and] at hr
  have hps : refsum_c.pre (1#8 :: (a.toList ++ b.toList)) := by show (1#8 :: (a.toList ++ b.toList)).length ≤ 1000000000; simp
  repeat' (first | (with_reducible refine Unf.h ?_) | fail); all_goals try (conv => whnf); all_goals try (exfalso; omega)
  refine CallS.mk (c := rtext15_c) ((a, b)) ?_
  repeat' (first | (with_reducible refine Unf.h ?_) | ((conv => whnf); first | (refine Side.mk ?_ ?_; focus (first | with_reducible rfl | exact True.intro)) | refine Got.mk (fun _ _ => ?_)) | fail); all_goals try (conv => whnf); all_goals try (exfalso; omega)
  refine CallS.mk (c := refsum_c) ((1#8 :: (a.toList ++ b.toList))) ?_
  repeat' (first | (with_reducible refine Unf.h ?_) | ((conv => whnf); first | (refine Side.mk ?_ ?_; focus (first | with_reducible rfl | assumption | (simp only [*, nodeH]; done))) | refine RetE.mk () trivial ?_ | refine Got.mk (fun _ _ => ?_) | refine retK_r ?_ | exact rfl) | fail); all_goals try (conv => whnf); all_goals try (exfalso; omega)
def rentry17_c : Ctr where
  D := Int × H256
  args := fun (e, r) => [.int .i64 e, .agg [.arr8 r]]
  res := fun (e, r) _ => .agg [.arr8 (entH e r)]
def rentry17_H : Cfg := ⟨[(77, number_c), (78, rleaf15_c)], [], [], [], 14, 0, [], [], []⟩
theorem rentry17_ok : rentry17_c.Ok Tryz.prog 34 := by
  refine fn_ok rentry17_H 0 rfl _ Tryz.func34 rfl rfl ⟨number_ok, rleaf15_ok, trivial⟩ rfl rfl (by kernel_rfl) (fun _ => Nat.le_of_ble_eq_true rfl) ?_
  rintro ⟨ep, r⟩ hp hr
  try dsimp only [rentry17_c] at hp
  try simp only [rentry17_c, Rng, RngL, inR, and_true, true_and] at hr
  have e4 := four_doc ep
  have hpn : number_c.pre (BitVec.ofInt 64 ep % 4294967296#64, 4) := show 4 ≤ 1000 by omega
  have hpf : rleaf15_c.pre (fourB ep ++ r.toList) := by show (fourB ep ++ r.toList).length ≤ 1000000; simp [fourB_len]
  repeat' (first | (with_reducible refine Unf.h ?_) | ((conv => whnf); (refine Side.mk ?_ ?_; focus ((simp [*]; done)))) | fail); all_goals try (conv => whnf); all_goals try (exfalso; omega)
  first | refine CallS.mk (c := number_c) ((BitVec.ofInt 64 ep % 4294967296#64, 4)) ?_ | refine Or2.l (CallS.mk (c := number_c) ((BitVec.ofInt 64 ep % 4294967296#64, 4)) ?_) | refine Or2.r (CallS.mk (c := number_c) ((BitVec.ofInt 64 ep % 4294967296#64, 4)) ?_)
  repeat (first | (with_reducible refine Unf.h ?_) | ((conv => whnf); first | (refine Side.mk ?_ ?_; focus (first | with_reducible rfl | assumption | exact True.intro | rfl)) | (with_reducible refine Unf.h ?_)))
  conv => whnf
  refine Got.mk (fun e he => ?_)
  repeat (first | (with_reducible refine Unf.h ?_) | ((conv => whnf); (with_reducible first | refine Unf.h ?_ | refine loopK_n ?_ | refine cutK_n ?_)))
  conv => whnf
  refine Side.mk (by simp [cutS, loI, hiI]) ?_
  refine OpsK.bslA 11 0 0 _ _ rfl ?_
  repeat (first | (with_reducible refine Unf.h ?_) | ((conv => whnf); (with_reducible first | refine Unf.h ?_ | refine loopK_n ?_ | refine cutK_n ?_)))
  conv => whnf
  refine Side.mk (by simp [hiI]) ?_
  refine ⟨_, rfl, ?_⟩
  repeat (first | (with_reducible refine Unf.h ?_) | ((conv => whnf); (with_reducible first | refine Unf.h ?_ | refine loopK_n ?_ | refine cutK_n ?_)))
  conv => whnf
  have hnl := beN_len (BitVec.ofInt 64 ep % 4294967296#64) 4
  have hrl : (List.drop (loI none).toNat (List.take (hiI 32 none).toNat r.toList)).length = 32 := by simp [cutv2]
  refine Ex.mk _ rfl ?_
  repeat (first | (with_reducible refine Unf.h ?_) | ((conv => whnf); (with_reducible first | refine Unf.h ?_ | refine loopK_n ?_ | refine cutK_n ?_)))
  conv => whnf
  refine Side.mk (by constructor <;> (simp only [EF.els, List.length_map, List.length_append, hnl, hrl]; omega)) ?_
  rw [cutv2, e4]
  repeat' (first | ((conv => whnf); (with_reducible refine Unf.h ?_)) | fail); all_goals try (conv => whnf); all_goals try (exfalso; omega)
  refine CallS.mk (c := rleaf15_c) ((fourB ep ++ r.toList)) ?_
  repeat' (first | (with_reducible refine Unf.h ?_) | ((conv => whnf); first | (refine Side.mk ?_ ?_; focus (first | with_reducible rfl | assumption | (simp only [*, entH]; done))) | refine RetE.mk () trivial ?_ | refine Got.mk (fun _ _ => ?_) | refine retK_r ?_ | exact rfl) | fail); all_goals try (conv => whnf); all_goals try (exfalso; omega)
def zeroR : H256 := sha []
def segZ : Nat → Nat → Nat → List Nat
  | 0, _, _ => []
  | f + 1, fr, to => if fr < to then sizeS fr to :: segZ f (fr + sizeS fr to) to else []
theorem size_pos {fr to : Nat} (h : fr < to) : 1 ≤ sizeS fr to ∧ sizeS fr to ≤ to - fr := by
  obtain ⟨i, e1, e2, _, _⟩ := sizeS_spec h
  rw [e1]
  exact ⟨Nat.pow_pos (by decide), e2⟩
theorem segZ_len : ∀ (f fr to : Nat), (segZ f fr to).length ≤ f
  | 0, _, _ => Nat.le_refl _
  | f + 1, fr, to => by
    unfold segZ
    split
    · have := segZ_len f (fr + sizeS fr to) to
      simp only [List.length_cons]; omega
    · simp
theorem segZ_fuel : ∀ (f g fr to : Nat), to - fr ≤ f → to - fr ≤ g → segZ f fr to = segZ g fr to
  | 0, 0, _, _, _, _ => rfl
  | 0, g + 1, fr, to, h, _ => by
    unfold segZ
    rw [if_neg (by omega)]
  | f + 1, 0, fr, to, _, h => by
    conv => lhs; unfold segZ
    rw [if_neg (by omega)]; rfl
  | f + 1, g + 1, fr, to, h1, h2 => by
    unfold segZ
    split
    · rename_i h
      have := size_pos h
      rw [segZ_fuel f g _ _ (by omega) (by omega)]
    · rfl
abbrev eN (n : Nat) : List SV := [.int .i64 (n : Int)]
end Go.Proofs.YtdflndjlnkoliaaGreatDoor

namespace Go.Proofs.YtdflndjlnkoliaaGreatDoor
set_option linter.all false
open Go.RowKit
def rlist_c (n : Nat) : Ctr where
  D := List H256
  pre := fun l => l.length < n ∧ l.length ≤ 1000000
  args := fun l => [.fs 32 eH l]
  res := fun l _ => .agg [.arr8 (rootL nodeH zeroR n l)]
def rlist_H (n : Nat): Cfg := ⟨[(117, refsum_c), (76, (rlist_c n)), (118, rnode15_c)], [(8, [], [3, 7, 8, 9], (.one 0 0 false (.one 1 0 false (.one 2 0 false (.one 4 0 false (.one 5 0 false (.one 6 0 false (.one 3 2 false (.one 7 2 false (.one 8 2 false (.one 9 2 false .nil)))))))))), [])], [], [], 31, 0, [], [], []⟩
theorem rlist_ok (n : Nat) (h : (rlist_c n).Ok Tryz.prog 76): (rlist_c (n + 1)).Ok Tryz.prog 76 := by
  refine fn_ok (rlist_H n) 0 rfl _ Tryz.func76 rfl rfl ⟨refsum_ok, h, rnode15_ok, trivial⟩ rfl rfl (by kernel_rfl) (fun _ => Nat.le_of_ble_eq_true rfl) ?_
  intro (l : List H256) hp hr
  try dsimp only [rlist_c] at hp
  try simp only [rlist_c, Rng, RngL, inR, and_true, true_and] at hr
  obtain ⟨hp1, hp2⟩ := hp
  have hp1 : l.length < n + 1 := hp1
  have hp2 : l.length ≤ 1000000 := hp2
  have hpr : refsum_c.pre [] := by show 0 ≤ 1000000000; omega
  rcases Nat.lt_or_ge l.length 2 with hl | hl
  · match l, hl with
    | [], _ =>
      have e : rootL nodeH zeroR (n + 1) [] = sha [] := rfl
      repeat' (first | (with_reducible refine Unf.h ?_) | ((conv => whnf); first | refine Fork.mk (fun h => ?_) (fun h => ?_) | (refine Side.mk ?_ ?_; focus ((intros; (try simp only [lenS, inR, cutS, loI, hiI] at *); omega))) | (refine Idx.mk ?_ ?_; focus (omega)) | refine RetE.mk () trivial ?_ | refine retK_r ?_ | exact rfl) | fail); all_goals try (conv => whnf); all_goals try (exfalso; omega)
      refine CallS.mk (c := refsum_c) ([]) ?_
      repeat' (first | (with_reducible refine Unf.h ?_) | ((conv => whnf); first | (refine Side.mk ?_ ?_; focus (first | with_reducible rfl | assumption | (simp only [*, e]; done))) | refine RetE.mk () trivial ?_ | refine Got.mk (fun _ _ => ?_) | refine retK_r ?_ | exact rfl) | fail); all_goals try (conv => whnf); all_goals try (exfalso; omega)
    | [x], _ =>
      have e : rootL nodeH zeroR (n + 1) [x] = x := rfl
      repeat' (first | (with_reducible refine Unf.h ?_) | ((conv => whnf); first | refine Fork.mk (fun h => ?_) (fun h => ?_) | (refine Side.mk ?_ ?_; focus ((simp [*, e]; done))) | (refine Idx.mk ?_ ?_; focus (omega)) | refine RetE.mk () trivial ?_ | refine retK_r ?_ | exact rfl) | fail); all_goals try (conv => whnf); all_goals try (exfalso; omega)
      exact absurd h (by simp)
  · obtain ⟨i, hk1, hk2, hk3⟩ := half_ok hl
    have hkp := Nat.pow_pos (n := i) (show 0 < 2 by decide)
    rw [← hk1] at hk2 hk3 hkp
    have hroot := rootL_two nodeH zeroR (f := n) hl
    obtain ⟨K, hK⟩ : ∃ K, halfK l.length l.length 1 = K := ⟨_, rfl⟩
    rw [hK] at hroot hk2 hk3 hkp
    have hpa : (rlist_c n).pre (l.take K) := ⟨by show (l.take K).length < n; rw [List.length_take]; omega, by show (l.take K).length ≤ 1000000; rw [List.length_take]; omega⟩
    have hpb : (rlist_c n).pre (l.drop K) := ⟨by show (l.drop K).length < n; rw [List.length_drop]; omega, by show (l.drop K).length ≤ 1000000; rw [List.length_drop]; omega⟩
    have ca : cutL l none (some (K : Int)) = l.take K := by simp [cutL]
    have cb : cutL l (some (K : Int)) none = l.drop K := by simp [cutL]
    repeat' (first | (with_reducible refine Unf.h ?_) | ((conv => whnf); refine Fork.mk (fun h => ?_) (fun h => ?_)) | fail); all_goals try (conv => whnf); all_goals try (exfalso; omega)
    refine LoopS.autoN (I := Nat × Nat) (fun (f, k) => halfK l.length f k = K ∧ 1 ≤ k ∧ k ≤ l.length ∧ l.length ≤ k + f) (fun (f, k) => [(3, .int .i64 (k : Int))]) (fun _ => [(0, .box 30 [.arr8 zeroH])]) 1 (fun (f, _) => f) (l.length, 1) ⟨hK, Nat.le_refl _, by omega, by omega⟩ ?_ ?_
    · repeat' (first | (with_reducible refine Unf.h ?_) | ((conv => whnf); first | (refine Side.mk ?_ ?_; focus (first | with_reducible rfl | (refine congrArg (SV.int _) ?_; omega))) | (with_reducible refine Unf.h ?_) | exact True.intro) | fail); all_goals try (conv => whnf); all_goals try (exfalso; omega)
    · rintro ⟨f, k⟩ ⟨g1, g2, g3, g4⟩
      have g1 : halfK l.length f k = K := g1
      have g2 : 1 ≤ k := g2
      have g3 : k ≤ l.length := g3
      have g4 : l.length ≤ k + f := g4
      by_cases hc : k < l.length - k
      · obtain ⟨f, rfl⟩ : ∃ f', f = f' + 1 := ⟨f - 1, by omega⟩
        have g5 : halfK l.length f (2 * k) = K := by rw [← g1]; exact (if_pos hc).symm
        repeat' (first | (with_reducible first | refine Unf.h ?_ | refine loopK_n ?_) | ((conv => whnf); first | refine Fork.mk (fun h => ?_) (fun h => ?_) | (refine Side.mk ?_ ?_; focus ((intros; (try simp only [lenS, inR, cutS, loI, hiI] at *); omega)))) | fail); all_goals try (conv => whnf); all_goals try (exfalso; omega)
        refine ⟨(f, 2 * k), ⟨by show f < f + 1; omega, g5, by omega, by omega, by omega⟩, ?_⟩
        repeat' (first | (with_reducible refine Unf.h ?_) | ((conv => whnf); first | (refine Side.mk ?_ ?_; focus (first | with_reducible rfl | (refine congrArg (SV.int _) ?_; omega))) | (with_reducible refine Unf.h ?_) | exact True.intro) | fail); all_goals try (conv => whnf); all_goals try (exfalso; omega)
      · have g5 : k = K := by
          rw [← g1]
          cases f with
          | zero => rfl
          | succ f => exact (if_neg hc).symm
        subst g5
        repeat' (first | (with_reducible refine Unf.h ?_) | ((conv => whnf); first | refine Fork.mk (fun h => ?_) (fun h => ?_) | (refine Side.mk ?_ ?_; focus ((intros; (try simp only [lenS, inR, cutS, loI, hiI] at *); omega)))) | fail); all_goals try (conv => whnf); all_goals try (exfalso; omega)
        rw [ca]
        refine CallS.mk (c := rlist_c n) (l.take k) ?_
        repeat' (first | (with_reducible refine Unf.h ?_) | ((conv => whnf); first | (refine Side.mk ?_ ?_; focus (first | with_reducible rfl | assumption)) | refine Got.mk (fun _ _ => ?_)) | fail); all_goals try (conv => whnf); all_goals try (exfalso; omega)
        rw [cb]
        refine CallS.mk (c := rlist_c n) (l.drop k) ?_
        repeat' (first | (with_reducible refine Unf.h ?_) | ((conv => whnf); first | (refine Side.mk ?_ ?_; focus (first | with_reducible rfl | assumption)) | refine Got.mk (fun _ _ => ?_)) | fail); all_goals try (conv => whnf); all_goals try (exfalso; omega)
        refine CallS.mk (c := rnode15_c) ((rootL nodeH zeroR n (l.take k), rootL nodeH zeroR n (l.drop k))) ?_
        repeat' (first | (with_reducible refine Unf.h ?_) | ((conv => whnf); first | (refine Side.mk ?_ ?_; focus (first | with_reducible rfl | exact True.intro | (simp only [*, hroot]; done))) | refine RetE.mk () trivial ?_ | refine Got.mk (fun _ _ => ?_) | refine retK_r ?_ | exact rfl) | fail); all_goals try (conv => whnf); all_goals try (exfalso; omega)
theorem rlist_all : ∀ n, (rlist_c n).Ok Tryz.prog 76
  | 0 => fun _ h => absurd h.1 (Nat.not_lt_zero _)
  | n + 1 => rlist_ok n (rlist_all n)
theorem rlist1000_ok : (rlist_c 1000).Ok Tryz.prog 76 := rlist_all 1000
theorem segZ_cons {fr to : Nat} (h : fr < to) : segZ (to - fr) fr to = sizeS fr to :: segZ (to - (fr + sizeS fr to)) (fr + sizeS fr to) to := by
  obtain ⟨z1, z2⟩ := size_pos h
  obtain ⟨f, hf⟩ : ∃ f, to - fr = f + 1 := ⟨to - fr - 1, by omega⟩
  rw [hf]
  show (if fr < to then _ else _) = _
  rw [if_pos h, segZ_fuel f (to - (fr + sizeS fr to)) _ _ (by omega) (by omega)]
def segsH (fr : Nat) (l : List H256) : List H256 := segR nodeH zeroR l.length fr l
end Go.Proofs.YtdflndjlnkoliaaGreatDoor

namespace Go.Proofs.YtdflndjlnkoliaaGreatDoor
set_option linter.all false
open Go.RowKit
theorem fof_seg (fr : Nat) (l : List H256) : fofL fr l = segsH fr l := by
  unfold fofL segsH
  rw [putStk_segs nodeH zeroR l.length l [] fr (Nat.le_refl _) trivial]; rfl
end Go.Proofs.YtdflndjlnkoliaaGreatDoor

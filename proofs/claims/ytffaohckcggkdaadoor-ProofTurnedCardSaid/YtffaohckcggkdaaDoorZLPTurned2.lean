import Derived.Test.YtffaohckcggkdaaDoorZLPTurned1
import Derived.Test.YtffaohckcggkdaaDoorLaw
namespace Go.Proofs.YtffaohckcggkdaaDoor
set_option linter.all false
open Go.RowKit
/-! proofs: what fits, and what is right -/
def okT (p : Prf) (k : H256) : List Bs := if finOk p then txsT p k p.steps else []
def ptexts_c : Ctr where
  D := Prf × H256
  pre := fun (p, _) => p.steps.length ≤ 100000
  args := fun (p, k) => [.agg (ePrf p), .agg [.arr8 k]]
  res := fun (p, k) _ => .fs 1 eP (okT p k)
theorem drop_at {α : Type} (l : List α) (n : Nat) (h : n < l.length) : l.drop n = l[n] :: l.drop (n + 1) := List.drop_eq_getElem_cons h
def ptexts_H : Cfg := ⟨[(53, pend_c), (51, sum_c), (54, bit_c), (55, pinner_c)], [(8, [3, 6], [1, 7, 8, 9, 10], (.one 0 0 false (.one 2 0 false (.one 3 1 false (.one 4 0 false (.one 5 0 false (.one 6 1 false (.alt 1 true (.alt 7 true (.one 8 2 true (.one 9 2 true (.one 10 2 false .nil))) (.one 8 2 true (.one 7 2 true (.one 9 2 true (.one 10 2 false .nil))))) (.alt 7 true (.alt 1 true (.one 8 2 true (.one 9 2 true (.one 10 2 false .nil))) (.one 8 2 true (.one 1 2 true (.one 9 2 true (.one 10 2 false .nil))))) (.one 8 2 true (.alt 1 true (.one 7 2 true (.one 9 2 true (.one 10 2 false .nil))) (.one 7 2 true (.one 1 2 true (.one 9 2 true (.one 10 2 false .nil)))))))))))))), [])], [], [], 58, 0, [], [8]⟩
theorem ptexts_ok : ptexts_c.Ok Tryd.prog 21 := by
  refine fn_ok ptexts_H 0 rfl _ Tryd.func21 rfl rfl ⟨pend_ok, sum_ok, bit_ok, pinner_ok, trivial⟩ rfl rfl (by kernel_rfl) (fun _ => Nat.le_of_ble_eq_true rfl) ?_
  rintro ⟨p, k⟩ hp hr
  try dsimp only [ptexts_c] at hp
  try simp only [ptexts_c, Rng, RngL, inR, and_true, true_and] at hr
  repeat' (first | (with_reducible refine Unf.h ?_) | ((conv => whnf); first | refine Fork.mkn (fun h => ?_) (fun h => ?_) | (refine Side.mk ?_ ?_; focus (first | with_reducible rfl | exact True.intro | (intros; (try simp only [lenS, inR, cutS, loI, hiI] at *); omega))) | refine RetE.mk () trivial ?_ | refine Got.mk (fun _ _ => ?_) | refine retK_r ?_ | refine CallS.mk (c := pend_c) (p) ?_) | fail); all_goals try (conv => whnf)
  · have e : okT p k = [] := if_neg h
    repeat' (first | (with_reducible refine Unf.h ?_) | ((conv => whnf); first | (refine Side.mk ?_ ?_; focus (assumption)) | exact rfl) | fail); all_goals try (conv => whnf)
  have hres : resT p = endT p := if_pos h
  have hok : okT p k = txsT p k p.steps := if_pos h
  refine LoopS.autoN (fun n : Nat => n ≤ p.steps.length) (fun n => [(8, .int .i64 ((n : Int) - 1)), (5, .fs 1 eB (topT p k (p.steps.drop n))), (7, .own 3)]) (fun n => [(0, .box 36 (ePrf p)), (1, .box 25 [.arr8 k]), (3, .row 48 1 eP (txsT p k (p.steps.drop n)))]) 4 (fun n => n) p.steps.length (Nat.le_refl _) ?_ ?_
  · repeat' (first | (with_reducible refine Unf.h ?_) | ((conv => whnf); first | (refine Side.mk ?_ ?_; focus (first | with_reducible rfl | (simp only [*, List.drop_length, topT, txsT, hres]; done))) | (with_reducible refine Unf.h ?_)) | fail); all_goals try (conv => whnf)
    refine Side.mk (by rw [List.drop_length, hres]; rfl) ?_
    repeat' (first | (with_reducible refine Unf.h ?_) | ((conv => whnf); exact True.intro) | fail); all_goals try (conv => whnf)
  · intro n hn
    have hl := txsT_len p k (p.steps.drop n)
    rw [List.length_drop] at hl
    by_cases h0 : n = 0
    · subst h0
      repeat' (first | (with_reducible refine Unf.h ?_) | ((conv => whnf); first | refine Fork.mk (fun h => ?_) (fun h => ?_) | (refine Side.mk ?_ ?_; focus ((simp only [*, List.drop_zero, hok]; done))) | refine RetE.mk () trivial ?_ | refine retK_r ?_ | exact rfl) | fail); all_goals try (conv => whnf)
      exfalso; omega
    · have hi : ((n : Int) - 1).toNat < p.steps.length := by omega
      have hd : p.steps.drop (n - 1) = p.steps[((n : Int) - 1).toNat]'hi :: p.steps.drop n := by
        rw [drop_at p.steps (n - 1) (by omega)]
        congr 1
        · congr 1; omega
        · congr 1; omega
      repeat' (first | (with_reducible refine Unf.h ?_) | ((conv => whnf); first | refine Fork.mk (fun h => ?_) (fun h => ?_) | (refine Side.mk ?_ ?_; focus (omega)) | refine RetE.mk () trivial ?_ | refine retK_r ?_ | exact rfl) | fail); all_goals try (conv => whnf)
      refine CutS.auto (I := Unit) (fun _ => True) (fun _ => [(9, .ptr 4 0), (10, .ptr 5 0), (7, .own 3)]) (fun _ => [(0, .box 36 (ePrf p)), (1, .box 25 [.arr8 k]), (3, .row 48 1 eP (txsT p k (p.steps.drop n))), (4, .box 25 [.arr8 (sha (topT p k (p.steps.drop n)))]), (5, .box 100 (eStp (p.steps[((n : Int) - 1).toNat]'hi)))]) 6 ?_ ?_
      · repeat' (first | (with_reducible first | refine Unf.h ?_ | refine cutK_n ?_) | ((conv => whnf); first | refine Both.mk ?_ ?_ | (refine Side.mk ?_ ?_; focus (first | with_reducible rfl | exact True.intro)) | (refine Idx.mk ?_ ?_; focus (omega)) | refine Got.mk (fun _ _ => ?_) | refine CallS.mk (c := sum_c) (topT p k (p.steps.drop n)) ?_) | fail); all_goals try (conv => whnf)
        all_goals (refine ⟨(), trivial, ?_⟩)
        all_goals repeat' (first | (with_reducible refine Unf.h ?_) | ((conv => whnf); first | (refine Side.mk ?_ ?_; focus (with_reducible rfl)) | (with_reducible refine Unf.h ?_) | exact True.intro) | fail); all_goals try (conv => whnf)
      · intro _ _
        generalize p.steps[((n : Int) - 1).toNat]'hi = s at *
        repeat' (first | (with_reducible refine Unf.h ?_) | fail); all_goals try (conv => whnf)
        refine CallS.mk (c := bit_c) ((k, s.len)) ?_
        repeat' (first | (with_reducible refine Unf.h ?_) | ((conv => whnf); first | refine Fork.mk (fun h => ?_) (fun h => ?_) | (refine Side.mk ?_ ?_; focus (first | with_reducible rfl | exact True.intro)) | refine Got.mk (fun _ _ => ?_)) | fail); all_goals try (conv => whnf)
        · have e : topT p k (p.steps.drop (n - 1)) = innerT s.len s.bits s.other (sha (topT p k (p.steps.drop n))) := by rw [hd]; exact if_pos h
          have e2 : txsT p k (p.steps.drop (n - 1)) = txsT p k (p.steps.drop n) ++ [innerT s.len s.bits s.other (sha (topT p k (p.steps.drop n)))] := by rw [← e, hd]; rfl
          clear hd
          refine CallS.mk (c := pinner_c) ((s.len, s.bits, s.other, sha (topT p k (p.steps.drop n)))) ?_
          repeat' (first | (with_reducible first | refine Unf.h ?_ | refine loopK_n ?_) | ((conv => whnf); first | (refine Side.mk ?_ ?_; focus (first | with_reducible rfl | exact True.intro | (intros; (try simp only [lenS, inR, cutS, loI, hiI] at *); omega))) | refine Got.mk (fun _ _ => ?_) | refine Ex.mk [_] rfl ?_) | fail); all_goals try (conv => whnf)
          refine ⟨n - 1, ⟨by omega, by omega⟩, ?_⟩
          repeat' (first | (with_reducible refine Unf.h ?_) | ((conv => whnf); first | (refine Side.mk ?_ ?_; focus (first | with_reducible rfl | (refine congrArg (SV.int _) ?_; omega) | (simp only [*, e, e2]; done))) | (with_reducible refine Unf.h ?_) | exact True.intro) | fail); all_goals try (conv => whnf)
        · have e : topT p k (p.steps.drop (n - 1)) = innerT s.len s.bits (sha (topT p k (p.steps.drop n))) s.other := by rw [hd]; exact if_neg h
          have e2 : txsT p k (p.steps.drop (n - 1)) = txsT p k (p.steps.drop n) ++ [innerT s.len s.bits (sha (topT p k (p.steps.drop n))) s.other] := by rw [← e, hd]; rfl
          clear hd
          refine CallS.mk (c := pinner_c) ((s.len, s.bits, sha (topT p k (p.steps.drop n)), s.other)) ?_
          repeat' (first | (with_reducible first | refine Unf.h ?_ | refine loopK_n ?_) | ((conv => whnf); first | (refine Side.mk ?_ ?_; focus (first | with_reducible rfl | exact True.intro | (intros; (try simp only [lenS, inR, cutS, loI, hiI] at *); omega))) | refine Got.mk (fun _ _ => ?_) | refine Ex.mk [_] rfl ?_) | fail); all_goals try (conv => whnf)
          refine ⟨n - 1, ⟨by omega, by omega⟩, ?_⟩
          repeat' (first | (with_reducible refine Unf.h ?_) | ((conv => whnf); first | (refine Side.mk ?_ ?_; focus (first | with_reducible rfl | (refine congrArg (SV.int _) ?_; omega) | (simp only [*, e, e2]; done))) | (with_reducible refine Unf.h ?_) | exact True.intro) | fail); all_goals try (conv => whnf)
def down (k : H256) : Pfx → List Stp → Option Pfx
  | room, [] => some room
  | room, s :: r => if holdsP s.pfx k ∧ withinP room s.pfx ∧ childOk s.pfx (bitI k s.len) then down k (childP s.pfx (bitI k s.len)) r else none
theorem down_cons (k : H256) (room : Pfx) (s : Stp) (r : List Stp) : down k room (s :: r) = if holdsP s.pfx k ∧ withinP room s.pfx ∧ childOk s.pfx (bitI k s.len) then down k (childP s.pfx (bitI k s.len)) r else none := rfl
def endP (room : Pfx) (p : Prf) (k : H256) : Prop := p.fin = 0 ∧ p.steps.length = 0 ∨ p.fin = 1 ∧ holdsP room p.key ∨ p.fin = 2 ∧ p.plen < 256 ∧ withinP room p.pfx ∧ ¬ holdsP p.pfx k
instance (room : Pfx) (p : Prf) (k : H256) : Decidable (endP room p k) := inferInstanceAs (Decidable (_ ∧ _ ∨ _ ∧ _ ∨ _ ∧ _ ∧ _ ∧ ¬ _))
def fitsP (p : Prf) (k : H256) : Prop := match down k zeroP p.steps with
  | none => False
  | some room => endP room p k
instance (p : Prf) (k : H256) : Decidable (fitsP p k) := by
  unfold fitsP; split <;> infer_instance
theorem fits_none {p : Prf} {k : H256} (h : none = down k zeroP p.steps) : ¬ fitsP p k := by unfold fitsP; rw [← h]; exact id
theorem end0 {r : Pfx} {p : Prf} {k : H256} (h : p.fin = 0) : endP r p k ↔ p.steps.length = 0 := ⟨fun h' => by rcases h' with h' | h' | h' <;> first | exact h'.2 | (exfalso; have := h'.1; omega), fun h' => .inl ⟨h, h'⟩⟩
theorem end1 {r : Pfx} {p : Prf} {k : H256} (h : p.fin = 1) : endP r p k ↔ holdsP r p.key := ⟨fun h' => by rcases h' with h' | h' | h' <;> first | exact h'.2 | (exfalso; have := h'.1; omega), fun h' => .inr (.inl ⟨h, h'⟩)⟩
theorem end2 {r : Pfx} {p : Prf} {k : H256} (h : p.fin = 2) : endP r p k ↔ p.plen < 256 ∧ withinP r p.pfx ∧ ¬ holdsP p.pfx k := ⟨fun h' => by rcases h' with h' | h' | h' <;> first | exact h'.2 | (exfalso; have := h'.1; omega), fun h' => .inr (.inr ⟨h, h'⟩)⟩
theorem end3 {r : Pfx} {p : Prf} {k : H256} (h0 : ¬ p.fin = 0) (h1 : ¬ p.fin = 1) (h2 : ¬ p.fin = 2) : ¬ endP r p k := fun h' => by rcases h' with h' | h' | h' <;> exact absurd h'.1 (by assumption)
def fits_c : Ctr where
  D := Prf × H256
  pre := fun (p, _) => p.steps.length ≤ 100000
  args := fun (p, k) => [.agg (ePrf p), .agg [.arr8 k]]
  res := fun (p, k) _ => .dec (fitsP p k) inferInstance
def fits_H : Cfg := ⟨[(76, holds_c), (79, within_c), (54, bit_c), (80, child_c)], [(7, [1, 2, 5], [6, 7, 11, 12], (.one 0 0 false (.one 1 1 false (.one 2 1 false (.one 3 0 false (.one 4 0 false (.one 5 1 false (.alt 6 true (.alt 7 true (.one 8 0 false (.one 9 0 false (.one 10 0 false (.one 11 2 true (.one 12 2 false (.one 13 0 false .nil)))))) (.one 11 2 true (.one 7 2 false (.one 8 0 false (.one 9 0 false (.one 10 0 false (.one 12 2 false (.one 13 0 false .nil)))))))) (.one 11 2 true (.one 6 2 true (.one 7 2 false (.one 8 0 false (.one 9 0 false (.one 10 0 false (.one 12 2 false (.one 13 0 false .nil))))))))))))))), [])], [], [], 77, 0, [], []⟩
theorem fits_ok : fits_c.Ok Tryd.prog 50 := by
  refine fn_ok fits_H 0 rfl _ Tryd.func50 rfl rfl ⟨holds_ok, within_ok, bit_ok, child_ok, trivial⟩ rfl rfl (by kernel_rfl) (fun _ => Nat.le_of_ble_eq_true rfl) ?_
  rintro ⟨p, k⟩ hp hr
  try dsimp only [fits_c] at hp
  try simp only [fits_c, Rng, RngL, inR, and_true, true_and] at hr
  repeat' (first | (with_reducible refine Unf.h ?_) | fail); all_goals try (conv => whnf)
  refine LoopS.auto (I := Nat × Pfx) (fun q => q.1 ≤ p.steps.length ∧ down k q.2 (p.steps.drop q.1) = down k zeroP p.steps) (fun q => [(13, .int .i64 q.1)]) (fun q => [(2, .box 27 [.int .i64 q.2.len, .arr8 q.2.bits]), (1, .box 25 [.arr8 k]), (0, .box 36 (ePrf p))]) (fun q => p.steps.length - q.1) (0, zeroP) ⟨Nat.zero_le _, rfl⟩ ?_ ?_
  · repeat' (first | (with_reducible refine Unf.h ?_) | ((conv => whnf); first | (refine Side.mk ?_ ?_; focus (first | with_reducible rfl | (refine congrArg (SV.int _) ?_; omega))) | (with_reducible refine Unf.h ?_) | exact True.intro) | fail); all_goals try (conv => whnf)
  · intro q hq
    obtain ⟨hq1, hq2⟩ := hq
    by_cases hlt : q.1 < p.steps.length
    · rw [drop_at p.steps q.1 hlt] at hq2
      have hi : (q.1 : Int).toNat < p.steps.length := by omega
      have es : p.steps[q.1]'hlt = p.steps[(q.1 : Int).toNat]'hi := by congr 1
      rw [es] at hq2
      generalize hs : p.steps[(q.1 : Int).toNat]'hi = s at *
      rw [down_cons] at hq2
      repeat' (first | (with_reducible first | refine Unf.h ?_ | refine loopK_n ?_) | ((conv => whnf); first | refine Both.mk ?_ ?_ | refine Fork.mkn (fun h => ?_) (fun h => ?_) | refine Fork.mk (fun h => ?_) (fun h => ?_) | (refine Side.mk ?_ ?_; focus (first | with_reducible rfl | exact True.intro | omega | (intros; (try simp only [lenS, inR, cutS, loI, hiI, hs] at *); omega) | (simp only [*, hs]; done))) | (refine Idx.mk ?_ ?_; focus (omega)) | refine RetE.mk () trivial ?_ | refine Got.mk (fun _ _ => ?_) | refine retK_r ?_ | exact rfl | refine CallS.mk (c := holds_c) ((⟨s.len, s.bits⟩, k)) ?_ | refine CallS.mk (c := within_c) ((q.2, ⟨s.len, s.bits⟩)) ?_ | refine CallS.mk (c := bit_c) ((k, s.len)) ?_ | refine CallS.mk (c := child_c) ((⟨s.len, s.bits⟩, bitI k s.len)) ?_) | fail); all_goals try (conv => whnf)
      · rw [if_neg (fun h' => h h'.1)] at hq2
        refine Side.mk (iffF (fits_none hq2)) ?_
        repeat' (first | (with_reducible refine Unf.h ?_) | ((conv => whnf); exact rfl) | fail); all_goals try (conv => whnf)
      · rw [if_neg (fun h' => h h'.2.1)] at hq2
        refine Side.mk (iffF (fits_none hq2)) ?_
        repeat' (first | (with_reducible refine Unf.h ?_) | ((conv => whnf); exact rfl) | fail); all_goals try (conv => whnf)
      all_goals first
        | (refine Side.mk (iffF (fits_none (by rw [if_neg (fun h' => h h'.2.2)] at hq2; exact hq2))) ?_)
        | (rw [if_pos ⟨by assumption, by assumption, h⟩] at hq2; refine ⟨(q.1 + 1, childP ⟨s.len, s.bits⟩ (bitI k s.len)), ⟨by show _ - (q.1 + 1) < _; omega, by show q.1 + 1 ≤ _; omega, hq2⟩, ?_⟩)
      all_goals repeat' (first | (with_reducible refine Unf.h ?_) | ((conv => whnf); first | (refine Side.mk ?_ ?_; focus (first | with_reducible rfl | (refine congrArg (SV.int _) ?_; omega))) | (with_reducible refine Unf.h ?_) | exact rfl | exact True.intro) | fail); all_goals try (conv => whnf)
    · have e : p.steps.drop q.1 = [] := List.drop_eq_nil_of_le (by omega)
      rw [e] at hq2
      have hq3 : fitsP p k ↔ endP q.2 p k := by unfold fitsP; rw [← hq2]; exact Iff.rfl
      repeat' (first | (with_reducible refine Unf.h ?_) | ((conv => whnf); first | refine Fork.mk (fun h => ?_) (fun h => ?_) | (refine Idx.mk ?_ ?_; focus (omega)) | refine RetE.mk () trivial ?_ | refine retK_r ?_) | fail); all_goals try (conv => whnf)
      · exfalso; omega
      · refine Side.mk ((hq3.trans (end0 h)).trans ⟨fun h' => by omega, fun h' => by omega⟩).symm ?_
        repeat' (first | (with_reducible refine Unf.h ?_) | ((conv => whnf); exact rfl) | fail); all_goals try (conv => whnf)
      · refine CallS.mk (c := holds_c) ((q.2, p.key)) ?_
        repeat' (first | (with_reducible refine Unf.h ?_) | ((conv => whnf); first | (refine Side.mk ?_ ?_; focus (first | with_reducible rfl | exact True.intro)) | refine RetE.mk () trivial ?_ | refine Got.mk (fun _ _ => ?_) | refine retK_r ?_) | fail); all_goals try (conv => whnf)
        refine Side.mk (hq3.trans (end1 h)).symm ?_
        repeat' (first | (with_reducible refine Unf.h ?_) | ((conv => whnf); exact rfl) | fail); all_goals try (conv => whnf)
      · refine CallS.mk (c := within_c) ((q.2, ⟨p.plen, p.bits⟩)) ?_
        repeat' (first | (with_reducible refine Unf.h ?_) | ((conv => whnf); first | refine Fork.mk (fun h => ?_) (fun h => ?_) | (refine Side.mk ?_ ?_; focus (first | with_reducible rfl | exact True.intro)) | refine RetE.mk () trivial ?_ | refine Got.mk (fun _ _ => ?_) | refine retK_r ?_) | fail); all_goals try (conv => whnf)
        · refine CallS.mk (c := holds_c) ((⟨p.plen, p.bits⟩, k)) ?_
          repeat' (first | (with_reducible refine Unf.h ?_) | ((conv => whnf); first | (refine Side.mk ?_ ?_; focus (first | with_reducible rfl | exact True.intro)) | refine RetE.mk () trivial ?_ | refine Got.mk (fun _ _ => ?_) | refine retK_r ?_) | fail); all_goals try (conv => whnf)
          refine Side.mk ⟨fun h' => (hq3.trans (end2 (by assumption))).2 ⟨by assumption, h, h'⟩, fun h' => ((hq3.trans (end2 (by assumption))).1 h').2.2⟩ ?_
          repeat' (first | (with_reducible refine Unf.h ?_) | ((conv => whnf); exact rfl) | fail); all_goals try (conv => whnf)
        · refine Side.mk (iffF fun h' => h ((hq3.trans (end2 (by assumption))).1 h').2.1) ?_
          repeat' (first | (with_reducible refine Unf.h ?_) | ((conv => whnf); exact rfl) | fail); all_goals try (conv => whnf)
      · refine Side.mk (iffF fun h' => h ((hq3.trans (end2 (by assumption))).1 h').1) ?_
        repeat' (first | (with_reducible refine Unf.h ?_) | ((conv => whnf); exact rfl) | fail); all_goals try (conv => whnf)
      · refine Side.mk (iffF fun h' => end3 (by assumption) (by assumption) (by assumption) (hq3.1 h')) ?_
        repeat' (first | (with_reducible refine Unf.h ?_) | ((conv => whnf); exact rfl) | fail); all_goals try (conv => whnf)
end Go.Proofs.YtffaohckcggkdaaDoor

namespace Go.Proofs.YtffaohckcggkdaaDoor
set_option linter.all false
open Go.RowKit
/-! proofs: Check, and what is handed over -/
theorem fits_fin {p : Prf} {k : H256} (h : fitsP p k) : finOk p := by
  unfold fitsP at h
  split at h
  · exact h.elim
  · rcases h with h | h | h <;> exact ⟨by have := h.1; omega, by have := h.1; omega⟩
def okP (p : Prf) (k root : H256) : Prop := fitsP p k ∧ sha (topT p k p.steps) = root
instance (p : Prf) (k root : H256) : Decidable (okP p k root) := inferInstanceAs (Decidable (_ ∧ _))
def hasP (p : Prf) (k root : H256) : Prop := okP p k root ∧ p.fin = 1 ∧ p.key = k
instance (p : Prf) (k root : H256) : Decidable (hasP p k root) := inferInstanceAs (Decidable (_ ∧ _ ∧ _))
def valP (p : Prf) (k root : H256) : H256 := if hasP p k root then p.value else zeroH
theorem okT_last {p : Prf} {k : H256} (h : finOk p) (i : Nat) (hi : i = p.steps.length) (hl : i < (okT p k).length) : (okT p k)[i] = topT p k p.steps := by
  have e : okT p k = txsT p k p.steps := if_pos h
  have := txsT_last p k p.steps
  rw [← e, ← hi, List.getElem?_eq_getElem hl] at this
  exact Option.some.inj this
def check_c : Ctr where
  D := Prf × H256 × H256
  pre := fun (p, _, _) => p.steps.length ≤ 100000
  args := fun (p, k, r) => [.agg (ePrf p), .agg [.arr8 k], .agg [.arr8 r]]
  res := fun (p, k, r) _ => .tup [.agg [.arr8 (valP p k r)], .dec (hasP p k r) inferInstance, .dec (okP p k r) inferInstance]
def check_H : Cfg := ⟨[(50, fits_c), (21, ptexts_c), (51, sum_c)], [(4, [5, 7], [6], (.one 0 0 false (.one 1 0 false (.one 2 0 false (.one 3 0 false (.one 4 0 false (.one 5 1 false (.one 7 1 false (.one 6 2 true (.one 8 0 false .nil))))))))), [])], [], [], 40, 0, [], []⟩
theorem check_ok : check_c.Ok Tryd.prog 16 := by
  refine fn_ok check_H 0 rfl _ Tryd.func16 rfl rfl ⟨fits_ok, ptexts_ok, sum_ok, trivial⟩ rfl rfl (by kernel_rfl) (fun _ => Nat.le_of_ble_eq_true rfl) ?_
  rintro ⟨p, k, r⟩ hp hr
  try dsimp only [check_c] at hp
  try simp only [check_c, Rng, RngL, inR, and_true, true_and] at hr
  have hpre : fits_c.pre (p, k) := hp
  have hpre2 : ptexts_c.pre (p, k) := hp
  repeat' (first | (with_reducible refine Unf.h ?_) | ((conv => whnf); first | refine Fork.mkn (fun h => ?_) (fun h => ?_) | (refine Side.mk ?_ ?_; focus (first | with_reducible rfl | assumption)) | refine RetE.mk () trivial ?_ | refine Got.mk (fun _ _ => ?_) | refine retK_r ?_ | refine CallS.mk (c := fits_c) ((p, k)) ?_) | fail); all_goals try (conv => whnf)
  · have h1 : ¬ okP p k r := fun h' => h h'.1
    have h2 : ¬ hasP p k r := fun h' => h1 h'.1
    have h3 : valP p k r = zeroH := if_neg h2
    repeat' (first | (with_reducible refine Unf.h ?_) | ((conv => whnf); first | (refine Side.mk ?_ ?_; focus (first | (simp only [*, h3]; done) | (simp [*, h3]; done))) | exact rfl) | fail); all_goals try (conv => whnf)
  have hf := fits_fin (show fitsP p k by assumption)
  have hlen : (okT p k).length = p.steps.length + 1 := by rw [show okT p k = txsT p k p.steps from if_pos hf, txsT_len]
  have hlast : (okT p k)[((((okT p k).length : Nat) : Int) - 1).toNat]'(by omega) = topT p k p.steps := okT_last hf _ (by omega) _
  repeat' (first | (with_reducible refine Unf.h ?_) | ((conv => whnf); first | (refine Side.mk ?_ ?_; focus (first | with_reducible rfl | assumption | (intros; (try simp only [lenS, inR, cutS, loI, hiI] at *); omega))) | (refine Idx.mk ?_ ?_; focus (omega)) | refine Got.mk (fun _ _ => ?_) | refine CallS.mk (c := ptexts_c) ((p, k)) ?_) | fail); all_goals try (conv => whnf)
  refine CallS.mk (c := sum_c) ((topT p k p.steps)) ?_
  repeat' (first | (with_reducible refine Unf.h ?_) | fail); all_goals try (conv => whnf)
  refine Side.mk (congrArg (SV.fs 1 eB) hlast) ?_
  repeat' (first | (with_reducible refine Unf.h ?_) | ((conv => whnf); first | refine Fork.mkn (fun h => ?_) (fun h => ?_) | refine Fork.mk (fun h => ?_) (fun h => ?_) | (refine Side.mk ?_ ?_; focus (exact True.intro)) | refine RetE.mk () trivial ?_ | refine Got.mk (fun _ _ => ?_) | refine retK_r ?_) | fail); all_goals try (conv => whnf)
  · have h1 : ¬ okP p k r := fun h' => h (congrArg Vector.toList h'.2)
    have h2 : ¬ hasP p k r := fun h' => h1 h'.1
    have h3 : valP p k r = zeroH := if_neg h2
    repeat' (first | (with_reducible refine Unf.h ?_) | ((conv => whnf); first | (refine Side.mk ?_ ?_; focus (first | (simp only [*, h3]; done) | (simp [*, h3]; done))) | exact rfl) | fail); all_goals try (conv => whnf)
  · have h1 : okP p k r := ⟨by assumption, Vector.toList_inj.1 (by assumption)⟩
    have h2 : hasP p k r := ⟨h1, by assumption, Vector.toList_inj.1 h⟩
    have h3 : valP p k r = p.value := if_pos h2
    repeat' (first | (with_reducible refine Unf.h ?_) | ((conv => whnf); first | (refine Side.mk ?_ ?_; focus (first | (refine ⟨fun h => ?_, fun h => ?_⟩ <;> first | rfl | (cases h; done) | omega | (exfalso; omega) | (simp only [Bool.false_eq_true] at h; done)) | (simp only [*, h3]; done))) | exact rfl) | fail); all_goals try (conv => whnf)
  · have h1 : okP p k r := ⟨by assumption, Vector.toList_inj.1 (by assumption)⟩
    have h2 : ¬ hasP p k r := fun h' => h (congrArg Vector.toList h'.2.2)
    have h3 : valP p k r = zeroH := if_neg h2
    repeat' (first | (with_reducible refine Unf.h ?_) | ((conv => whnf); first | (refine Side.mk ?_ ?_; focus (first | (refine ⟨fun h => ?_, fun h => ?_⟩ <;> first | rfl | (cases h; done) | omega | (exfalso; omega) | (simp only [Bool.false_eq_true] at h; done)) | (simp only [*, h3]; done) | (simp [*, h3]; done))) | exact rfl) | fail); all_goals try (conv => whnf)
  · have h1 : okP p k r := ⟨by assumption, Vector.toList_inj.1 (by assumption)⟩
    have h2 : ¬ hasP p k r := fun h' => h h'.2.1
    have h3 : valP p k r = zeroH := if_neg h2
    repeat' (first | (with_reducible refine Unf.h ?_) | ((conv => whnf); first | (refine Side.mk ?_ ?_; focus (first | (refine ⟨fun h => ?_, fun h => ?_⟩ <;> first | rfl | (cases h; done) | omega | (exfalso; omega) | (simp only [Bool.false_eq_true] at h; done)) | (simp only [*, h3]; done) | (simp [*, h3]; done))) | exact rfl) | fail); all_goals try (conv => whnf)
def from_c : Ctr where
  D := Prf
  pre := fun p => p.steps.length ≤ 100000
  args := fun p => [.agg (ePrf p)]
  res := fun p _ => .agg (ePrf p)
def from_H : Cfg := ⟨[], [(5, [1, 3, 6], [7, 8, 10], (.one 0 0 false (.one 1 1 false (.one 2 0 false (.one 3 1 false (.one 4 0 false (.one 5 0 false (.one 6 1 false (.one 7 2 true (.one 8 2 false (.one 9 0 false (.one 10 2 false .nil))))))))))), [])], [], [], 36, 0, [], []⟩
theorem from_ok : from_c.Ok Tryd.prog 17 := by
  refine fn_ok from_H 0 rfl _ Tryd.func17 rfl rfl trivial rfl rfl (by kernel_rfl) (fun _ => Nat.le_of_ble_eq_true rfl) ?_
  intro (p : Prf) hp hr
  try dsimp only [from_c] at hp
  try simp only [from_c, Rng, RngL, inR, and_true, true_and] at hr
  repeat' (first | (with_reducible refine Unf.h ?_) | fail); all_goals try (conv => whnf)
  refine LoopS.autoN (fun i : Nat => i ≤ p.steps.length) (fun i => [(4, .int .i64 i)]) (fun i => [(2, .box 36 [.own 3, .int .i64 p.fin, .arr8 p.key, .arr8 p.value, .int .i64 p.plen, .arr8 p.bits, .arr8 p.left, .arr8 p.right]), (3, .row 100 65 eStp (p.steps.take i)), (1, .box 36 [.nils, .int .i64 0, .arr8 zeroH, .arr8 zeroH, .int .i64 0, .arr8 zeroH, .arr8 zeroH, .arr8 zeroH]), (0, .box 29 (ePrf p))]) 4 (fun i => p.steps.length - i) 0 (Nat.zero_le _) ?_ ?_
  · repeat' (first | (with_reducible refine Unf.h ?_) | ((conv => whnf); first | (refine Side.mk ?_ ?_; focus (first | with_reducible rfl | (refine congrArg (SV.int _) ?_; omega) | (simp [*]; done))) | (with_reducible refine Unf.h ?_) | exact True.intro) | fail); all_goals try (conv => whnf)
  · intro i hi
    repeat' (first | (with_reducible first | refine Unf.h ?_ | refine loopK_n ?_) | ((conv => whnf); first | refine Fork.mk (fun h => ?_) (fun h => ?_) | (refine Side.mk ?_ ?_; focus ((intros; (try simp only [lenS, inR, cutS, loI, hiI] at *); omega))) | (refine Idx.mk ?_ ?_; focus (omega)) | refine RetE.mk () trivial ?_ | refine Ex.mk [_] rfl ?_ | refine retK_r ?_) | fail); all_goals try (conv => whnf)
    · refine ⟨i + 1, ⟨by omega, by omega⟩, ?_⟩
      have e : p.steps.take (i + 1) = p.steps.take i ++ [p.steps[(i : Int).toNat]'(by omega)] := List.take_succ_eq_append_getElem (by omega)
      repeat' (first | (with_reducible refine Unf.h ?_) | ((conv => whnf); first | (refine Side.mk ?_ ?_; focus (first | with_reducible rfl | (refine congrArg (SV.int _) ?_; omega) | (simp only [*, e]; done))) | (with_reducible refine Unf.h ?_) | exact True.intro) | fail); all_goals try (conv => whnf)
    · have e : p.steps.take i = p.steps := List.take_of_length_le (by omega)
      repeat' (first | (with_reducible refine Unf.h ?_) | ((conv => whnf); first | (refine Side.mk ?_ ?_; focus (first | with_reducible rfl | (simp only [*, e]; done))) | exact rfl) | fail); all_goals try (conv => whnf)
end Go.Proofs.YtffaohckcggkdaaDoor

namespace Go.Proofs.YtffaohckcggkdaaDoor
set_option linter.all false
open Go.RowKit
/-! no forest; what is no tree -/
def putN_c : Ctr where
  D := Int × H256 × H256
  args := fun (t, k, v) => [.nilp, .int .i64 t, .agg [.arr8 k], .agg [.arr8 v]]
  res := fun _ _ => .tup [.int .i64 0, .int .i64 1]
def putN_H : Cfg := ⟨[(72, isN_c), (74, path_c), (69, add_c), (75, join_c), (54, bit_c)], [(7, [6, 10, 15, 19, 20], [], (.one 0 0 false (.one 1 0 false (.one 2 0 false (.one 3 0 false (.one 4 0 false (.one 5 0 false (.one 6 1 false (.one 7 0 false (.one 8 0 false (.one 9 0 false (.one 10 1 false (.one 11 0 false (.one 12 0 false (.one 13 0 false (.one 14 0 false (.one 15 1 false (.one 16 0 false (.one 17 0 false (.one 18 0 false (.one 19 1 false (.one 20 1 false (.one 21 0 false (.one 22 0 false (.one 23 0 false (.one 24 0 false .nil))))))))))))))))))))))))), []), (12, [3, 7, 9], [10, 11], (.one 0 0 false (.one 1 0 false (.one 2 0 false (.one 3 1 false (.one 4 0 false (.one 5 0 false (.one 6 0 false (.one 7 1 false (.one 8 0 false (.one 9 1 false (.one 10 2 true (.one 11 2 false .nil)))))))))))), [])], [], [], 101, 0, [], []⟩
theorem putN_ok : putN_c.Ok Tryd.prog 44 := by
  refine fn_ok putN_H 0 rfl _ Tryd.func44 rfl rfl ⟨isN_ok, path_ok, add_ok, join_ok, bit_ok, trivial⟩ rfl rfl (by kernel_rfl) (fun _ => Nat.le_of_ble_eq_true rfl) ?_
  rintro ⟨t, k, v⟩ hp hr
  try dsimp only [putN_c] at hp
  try simp only [putN_c, Rng, RngL, inR, and_true, true_and] at hr
  repeat' (first | (with_reducible refine Unf.h ?_) | ((conv => whnf); first | (refine Side.mk ?_ ?_; focus (first | with_reducible rfl | exact True.intro)) | refine RetE.mk () trivial ?_ | refine Got.mk (fun _ _ => ?_) | refine retK_r ?_ | exact rfl | refine CallS.mk (c := isN_c) (t) ?_) | fail); all_goals try (conv => whnf)
def putX_c : Ctr where
  D := Fo × Int × H256 × H256
  pre := fun (l, t, _, _) => ¬ isT l t
  args := fun (_, t, k, v) => [.ptr 0 0, .int .i64 t, .agg [.arr8 k], .agg [.arr8 v]]
  objs := fun (l, _) => fo l
  nn := 2
  res := fun _ _ => .tup [.int .i64 0, .int .i64 1]
  out := fun (l, _) _ => fo l
def putX_H : Cfg := ⟨[(72, is_c), (74, path_c), (69, add_c), (75, join_c), (54, bit_c)], [(7, [6, 10, 15, 19, 20], [], (.one 0 0 false (.one 1 0 false (.one 2 0 false (.one 3 0 false (.one 4 0 false (.one 5 0 false (.one 6 1 false (.one 7 0 false (.one 8 0 false (.one 9 0 false (.one 10 1 false (.one 11 0 false (.one 12 0 false (.one 13 0 false (.one 14 0 false (.one 15 1 false (.one 16 0 false (.one 17 0 false (.one 18 0 false (.one 19 1 false (.one 20 1 false (.one 21 0 false (.one 22 0 false (.one 23 0 false (.one 24 0 false .nil))))))))))))))))))))))))), []), (12, [3, 7, 9], [10, 11], (.one 0 0 false (.one 1 0 false (.one 2 0 false (.one 3 1 false (.one 4 0 false (.one 5 0 false (.one 6 0 false (.one 7 1 false (.one 8 0 false (.one 9 1 false (.one 10 2 true (.one 11 2 false .nil)))))))))))), [])], [], [], 101, 2, [], []⟩
theorem putX_ok : putX_c.Ok Tryd.prog 44 := by
  refine fn_ok putX_H 2 rfl _ Tryd.func44 rfl rfl ⟨is_ok, path_ok, add_ok, join_ok, bit_ok, trivial⟩ rfl rfl (by kernel_rfl) (fun _ => Nat.le_of_ble_eq_true rfl) ?_
  rintro ⟨l, t, k, v⟩ hp hr
  try dsimp only [putX_c] at hp
  try simp only [putX_c, Rng, RngL, inR, and_true, true_and] at hr
  repeat' (first | (with_reducible refine Unf.h ?_) | ((conv => whnf); first | refine Fork.mkn (fun h => ?_) (fun h => ?_) | (refine Side.mk ?_ ?_; focus (first | with_reducible rfl | exact True.intro)) | refine RetE.mk () trivial ?_ | refine Got.mk (fun _ _ => ?_) | refine retK_r ?_ | exact rfl | refine CallS.mk (c := is_c) ((l, t)) ?_) | fail); all_goals try (conv => whnf)
  exact absurd (show isT l t by assumption) hp
def rootF (l : Fo) (t : Int) : H256 := if t = -1 then emptyH else (nd l t).hash
def root_c : Ctr where
  D := Fo × Int
  pre := fun (l, t) => isT l t
  args := fun (_, t) => [.ptr 0 0, .int .i64 t]
  objs := fun (l, _) => fo l
  nn := 2
  res := fun (l, t) _ => .tup [.agg [.arr8 (rootF l t)], .int .i64 0]
  out := fun (l, _) _ => fo l
def root_H : Cfg := ⟨[(72, is_c), (30, hempty_c)], [], [], [], 24, 2, [], []⟩
theorem root_ok : root_c.Ok Tryd.prog 40 := by
  refine fn_ok root_H 2 rfl _ Tryd.func40 rfl rfl ⟨is_ok, hempty_ok, trivial⟩ rfl rfl (by kernel_rfl) (fun _ => Nat.le_of_ble_eq_true rfl) ?_
  rintro ⟨l, t⟩ hp hr
  try dsimp only [root_c] at hp
  try simp only [root_c, Rng, RngL, inR, and_true, true_and] at hr
  obtain ⟨ht0, ht1⟩ := hp
  repeat' (first | (with_reducible refine Unf.h ?_) | ((conv => whnf); first | refine Fork.mkn (fun h => ?_) (fun h => ?_) | refine Fork.mk (fun h => ?_) (fun h => ?_) | (refine Side.mk ?_ ?_; focus (first | with_reducible rfl | exact True.intro | omega)) | (refine Idx.mk ?_ ?_; focus (omega)) | refine RetE.mk () trivial ?_ | refine Got.mk (fun _ _ => ?_) | refine retK_r ?_ | exact rfl | refine CallS.mk (c := is_c) ((l, t)) ?_ | refine CallS.mk (c := hempty_c) (()) ?_) | fail); all_goals try (conv => whnf)
  · refine Side.mk (congrArg SV.arr8 (if_pos h).symm) (by repeat' (first | (with_reducible refine Unf.h ?_) | ((conv => whnf); first | (refine Side.mk ?_ ?_; focus (with_reducible rfl)) | exact rfl) | fail); all_goals try (conv => whnf))
  · refine Side.mk (congrArg SV.arr8 ?_) (by repeat' (first | (with_reducible refine Unf.h ?_) | ((conv => whnf); first | (refine Side.mk ?_ ?_; focus (with_reducible rfl)) | exact rfl) | fail); all_goals try (conv => whnf))
    rw [nd_get l t (by omega) (by omega)]
    exact (if_neg h).symm
def rootX_c : Ctr where
  D := Fo × Int
  pre := fun (l, t) => ¬ isT l t
  args := fun (_, t) => [.ptr 0 0, .int .i64 t]
  objs := fun (l, _) => fo l
  nn := 2
  res := fun _ _ => .tup [.agg [.arr8 zeroH], .int .i64 1]
  out := fun (l, _) _ => fo l
def rootX_H : Cfg := ⟨[(72, is_c), (30, hempty_c)], [], [], [], 24, 2, [], []⟩
theorem rootX_ok : rootX_c.Ok Tryd.prog 40 := by
  refine fn_ok rootX_H 2 rfl _ Tryd.func40 rfl rfl ⟨is_ok, hempty_ok, trivial⟩ rfl rfl (by kernel_rfl) (fun _ => Nat.le_of_ble_eq_true rfl) ?_
  rintro ⟨l, t⟩ hp hr
  try dsimp only [rootX_c] at hp
  try simp only [rootX_c, Rng, RngL, inR, and_true, true_and] at hr
  repeat' (first | (with_reducible refine Unf.h ?_) | ((conv => whnf); first | refine Fork.mkn (fun h => ?_) (fun h => ?_) | refine Fork.mk (fun h => ?_) (fun h => ?_) | (refine Side.mk ?_ ?_; focus (first | with_reducible rfl | exact True.intro | omega)) | (refine Idx.mk ?_ ?_; focus (omega)) | refine RetE.mk () trivial ?_ | refine Got.mk (fun _ _ => ?_) | refine retK_r ?_ | exact rfl | refine CallS.mk (c := is_c) ((l, t)) ?_) | fail); all_goals try (conv => whnf)
  all_goals exact absurd (show isT l t by assumption) hp
def rootN_c : Ctr where
  D := Int
  args := fun t => [.nilp, .int .i64 t]
  res := fun _ _ => .tup [.agg [.arr8 zeroH], .int .i64 1]
def rootN_H : Cfg := ⟨[(72, isN_c), (30, hempty_c)], [], [], [], 24, 0, [], []⟩
theorem rootN_ok : rootN_c.Ok Tryd.prog 40 := by
  refine fn_ok rootN_H 0 rfl _ Tryd.func40 rfl rfl ⟨isN_ok, hempty_ok, trivial⟩ rfl rfl (by kernel_rfl) (fun _ => Nat.le_of_ble_eq_true rfl) ?_
  intro (t : Int) hp hr
  try dsimp only [rootN_c] at hp
  try simp only [rootN_c, Rng, RngL, inR, and_true, true_and] at hr
  repeat' (first | (with_reducible refine Unf.h ?_) | ((conv => whnf); first | (refine Side.mk ?_ ?_; focus (first | with_reducible rfl | exact True.intro)) | refine RetE.mk () trivial ?_ | refine Got.mk (fun _ _ => ?_) | refine retK_r ?_ | exact rfl | refine CallS.mk (c := isN_c) (t) ?_) | fail); all_goals try (conv => whnf)
def getN_c : Ctr where
  D := Int × H256
  args := fun (t, k) => [.nilp, .int .i64 t, .agg [.arr8 k]]
  res := fun _ _ => .tup [.agg [.arr8 zeroH], .bool false]
def getN_H : Cfg := ⟨[(72, isN_c), (74, path_c)], [(4, [6, 10, 16, 20, 21], [], (.one 0 0 false (.one 1 0 false (.one 2 0 false (.one 3 0 false (.one 4 0 false (.one 5 0 false (.one 6 1 false (.one 7 0 false (.one 8 0 false (.one 9 0 false (.one 10 1 false (.one 11 0 false (.one 12 0 false (.one 13 0 false (.one 14 0 false (.one 15 0 false (.one 16 1 false (.one 17 0 false (.one 18 0 false (.one 19 0 false (.one 20 1 false (.one 21 1 false (.one 22 0 false (.one 23 0 false .nil)))))))))))))))))))))))), [])], [], [], 55, 0, [], []⟩
theorem getN_ok : getN_c.Ok Tryd.prog 45 := by
  refine fn_ok getN_H 0 rfl _ Tryd.func45 rfl rfl ⟨isN_ok, path_ok, trivial⟩ rfl rfl (by kernel_rfl) (fun _ => Nat.le_of_ble_eq_true rfl) ?_
  rintro ⟨t, k⟩ hp hr
  try dsimp only [getN_c] at hp
  try simp only [getN_c, Rng, RngL, inR, and_true, true_and] at hr
  repeat' (first | (with_reducible refine Unf.h ?_) | ((conv => whnf); first | (refine Side.mk ?_ ?_; focus (first | with_reducible rfl | exact True.intro)) | refine RetE.mk () trivial ?_ | refine Got.mk (fun _ _ => ?_) | refine retK_r ?_ | exact rfl | refine CallS.mk (c := isN_c) (t) ?_) | fail); all_goals try (conv => whnf)
def addN_c : Ctr where
  D := Nd
  args := fun n => [.nilp, .agg (eNd n)]
  res := fun _ _ => .tup [.int .i64 0, .int .i64 1]
def addN_H : Cfg := ⟨[(68, under_c), (69, add_c)], [], [], [], 40, 0, [], []⟩
theorem addN_ok : addN_c.Ok Tryd.prog 35 := by
  refine fn_ok addN_H 0 rfl _ Tryd.func35 rfl rfl ⟨under_ok, add_ok, trivial⟩ rfl rfl (by kernel_rfl) (fun _ => Nat.le_of_ble_eq_true rfl) ?_
  intro (n : Nd) hp hr
  try dsimp only [addN_c] at hp
  try simp only [addN_c, Rng, RngL, inR, and_true, true_and] at hr
  repeat' (first | (with_reducible refine Unf.h ?_) | ((conv => whnf); first | (refine Side.mk ?_ ?_; focus (with_reducible rfl)) | refine RetE.mk () trivial ?_ | refine retK_r ?_ | exact rfl) | fail); all_goals try (conv => whnf)
def listN_c : Ctr where
  D := Int
  args := fun t => [.nilp, .int .i64 t]
  res := fun _ _ => .nils
def listN_H : Cfg := ⟨[(72, isN_c)], [], [], [], 28, 0, [], []⟩
theorem listN_ok : listN_c.Ok Tryd.prog 43 := by
  refine fn_ok listN_H 0 rfl _ Tryd.func43 rfl rfl ⟨isN_ok, trivial⟩ rfl rfl (by kernel_rfl) (fun _ => Nat.le_of_ble_eq_true rfl) ?_
  intro (t : Int) hp hr
  try dsimp only [listN_c] at hp
  try simp only [listN_c, Rng, RngL, inR, and_true, true_and] at hr
  repeat' (first | (with_reducible refine Unf.h ?_) | ((conv => whnf); first | (refine Side.mk ?_ ?_; focus (first | with_reducible rfl | exact True.intro | (dsimp only [resS, listN_c]; done))) | refine RetE.mk () trivial ?_ | refine Got.mk (fun _ _ => ?_) | refine retK_r ?_ | exact rfl | refine CallS.mk (c := isN_c) (t) ?_) | fail); all_goals try (conv => whnf)
end Go.Proofs.YtffaohckcggkdaaDoor

namespace Go.Proofs.YtffaohckcggkdaaDoor
set_option linter.all false
open Go.RowKit
/-! no forest, no tree: the law's function -/
def none_c : Ctr where
  D := Int × H256 × H256
  args := fun (t, k, v) => [.int .i64 t, .agg [.arr8 k], .agg [.arr8 v]]
  res := fun _ _ => .bool true
theorem isT_nil {t : Int} : isT [] t ↔ t = -1 := ⟨fun h => by have := h.1; have := h.2; simp at this; omega, fun h => by subst h; exact ⟨by decide, by decide⟩⟩
abbrev leaf0 : Nd := ⟨true, zeroH, zeroH, 0, zeroH, 0, 0, zeroH⟩
def none_H : Cfg := ⟨[(44, putN_c), (40, rootN_c), (45, getN_c), (35, addN_c), (33, sizeN_c), (43, listN_c), (44, put_c), (44, putX_c), (40, root_c), (40, rootX_c), (33, size_c), (25, awake11_c)], [], [], [], 114, 0, [], []⟩
theorem none_ok : none_c.Ok Tryd.prog 11 := by
  refine fn_ok none_H 0 rfl _ Tryd.func11 rfl rfl ⟨putN_ok, rootN_ok, getN_ok, addN_ok, sizeN_ok, listN_ok, put_ok, putX_ok, root_ok, rootX_ok, size_ok, awake11_ok, trivial⟩ rfl rfl (by kernel_rfl) (fun _ => Nat.le_of_ble_eq_true rfl) ?_
  rintro ⟨t, k, v⟩ hp hr
  try dsimp only [none_c] at hp
  try simp only [none_c, Rng, RngL, inR, and_true, true_and] at hr
  by_cases ht : t = -1
  · subst ht
    have hpre : put_c.pre ([], -1, k, v) := ⟨by simp, closed_nil, by decide, by decide⟩
    have e := put_none k v
    have hpre2 : root_c.pre ((putF [] (-1) k v).1, -1) := ⟨by decide, by omega⟩
    repeat' (first | (with_reducible refine Unf.h ?_) | fail); all_goals try (conv => whnf)
    refine Or2.l (CallS.mk (c := putN_c) ((-1, k, v)) ?_)
    repeat' (first | (with_reducible refine Unf.h ?_) | ((conv => whnf); first | (refine Side.mk ?_ ?_; focus (first | with_reducible rfl | exact True.intro)) | refine Got.mk (fun _ _ => ?_) | refine Or2.l (CallS.mk (c := rootN_c) ((-1 : Int)) ?_) | refine CallS.mk (c := getN_c) ((-1, k)) ?_ | refine CallS.mk (c := addN_c) (leaf0) ?_) | fail); all_goals try (conv => whnf)
    refine Or2.r (Or2.l (CallS.mk (c := put_c) (([], -1, k, v)) ?_))
    repeat' (first | (with_reducible refine Unf.h ?_) | ((conv => whnf); first | refine Fork.mk (fun h => ?_) (fun h => ?_) | (refine Side.mk ?_ ?_; focus (first | with_reducible rfl | exact True.intro | assumption | omega)) | refine RetE.mk () trivial ?_ | refine Got.mk (fun _ _ => ?_) | refine retK_r ?_ | exact rfl | refine Or2.r (Or2.l (CallS.mk (c := root_c) (((putF [] (-1) k v).1, -1)) ?_)) | refine CallS.mk (c := awake11_c) (()) ?_) | fail); all_goals try (conv => whnf)
    refine Or2.l (CallS.mk (c := sizeN_c) (()) ?_)
    repeat' (first | (with_reducible refine Unf.h ?_) | ((conv => whnf); first | refine Fork.mk (fun h => ?_) (fun h => ?_) | (refine Side.mk ?_ ?_; focus (first | with_reducible rfl | exact True.intro | assumption | omega | exact dF (by omega))) | refine RetE.mk () trivial ?_ | refine Got.mk (fun _ _ => ?_) | refine retK_r ?_ | exact rfl | refine CallS.mk (c := listN_c) ((-1 : Int)) ?_) | fail); all_goals try (conv => whnf)
    all_goals (exfalso; omega)
  · have hpre : putX_c.pre ([], t, k, v) := fun h => ht (isT_nil.1 h)
    have hpre2 : rootX_c.pre ([], t) := fun h => ht (isT_nil.1 h)
    repeat' (first | (with_reducible refine Unf.h ?_) | fail); all_goals try (conv => whnf)
    refine Or2.l (CallS.mk (c := putN_c) ((t, k, v)) ?_)
    repeat' (first | (with_reducible refine Unf.h ?_) | ((conv => whnf); first | (refine Side.mk ?_ ?_; focus (first | with_reducible rfl | exact True.intro)) | refine Got.mk (fun _ _ => ?_) | refine Or2.l (CallS.mk (c := rootN_c) ((-1 : Int)) ?_) | refine CallS.mk (c := getN_c) ((-1, k)) ?_ | refine CallS.mk (c := addN_c) (leaf0) ?_) | fail); all_goals try (conv => whnf)
    refine Or2.r (Or2.r (CallS.mk (c := putX_c) (([], t, k, v)) ?_))
    repeat' (first | (with_reducible refine Unf.h ?_) | ((conv => whnf); first | refine Fork.mk (fun h => ?_) (fun h => ?_) | (refine Side.mk ?_ ?_; focus (first | with_reducible rfl | exact True.intro | assumption | omega)) | refine RetE.mk () trivial ?_ | refine Got.mk (fun _ _ => ?_) | refine retK_r ?_ | exact rfl | refine Or2.r (Or2.r (CallS.mk (c := rootX_c) (([], t)) ?_)) | refine CallS.mk (c := awake11_c) (()) ?_) | fail); all_goals try (conv => whnf)
    refine Or2.l (CallS.mk (c := sizeN_c) (()) ?_)
    repeat' (first | (with_reducible refine Unf.h ?_) | ((conv => whnf); first | refine Fork.mk (fun h => ?_) (fun h => ?_) | (refine Side.mk ?_ ?_; focus (first | with_reducible rfl | exact True.intro | omega | (simp [*]; done))) | refine RetE.mk () trivial ?_ | refine Got.mk (fun _ _ => ?_) | refine retK_r ?_ | exact rfl | refine CallS.mk (c := listN_c) (t) ?_) | fail); all_goals try (conv => whnf)
    · refine Or2.r (CallS.mk (c := size_c) ([]) ?_)
      repeat' (first | (with_reducible refine Unf.h ?_) | ((conv => whnf); first | (refine Side.mk ?_ ?_; focus (first | with_reducible rfl | exact True.intro | (simp [*]; done))) | refine RetE.mk () trivial ?_ | refine Got.mk (fun _ _ => ?_) | refine retK_r ?_ | exact rfl) | fail); all_goals try (conv => whnf)
    · exact absurd (by simp [ht]) h
end Go.Proofs.YtffaohckcggkdaaDoor

namespace Go.Proofs.YtffaohckcggkdaaDoor
set_option linter.all false
open Go.RowKit
/-! layer 12: the fixed fact; no tree -/
abbrev prf0 (e : Int) : Prf := ⟨[], e, zeroH, zeroH, 0, zeroH, zeroH, zeroH⟩
def awake12_c : Ctr where
  D := Unit
  args := fun _ => []
  res := fun _ _ => .bool true
theorem formed_zero : formedP zeroP := ⟨by decide, by decide, cutB_zero zeroH⟩
theorem holds_zero (k : H256) : holdsP zeroP k := ⟨formed_zero, (cutB_zero k)⟩
theorem fits_0 (k : H256) : fitsP (prf0 0) k := .inl ⟨rfl, rfl⟩
theorem ok_0 : okP (prf0 0) key1 emptyH := ⟨fits_0 _, rfl⟩
def awake12_H : Cfg := ⟨[(31, rempty_c), (16, check_c)], [], [], [], 13, 0, [], []⟩
theorem awake12_ok : awake12_c.Ok Tryd.prog 14 := by
  refine fn_ok awake12_H 0 rfl _ Tryd.func14 rfl rfl ⟨rempty_ok, check_ok, trivial⟩ rfl rfl (by kernel_rfl) (fun _ => Nat.le_of_ble_eq_true rfl) ?_
  intro (_ : Unit) hp hr
  have hpre : check_c.pre (prf0 0, key1, emptyH) := Nat.zero_le _
  repeat' (first | (with_reducible refine Unf.h ?_) | ((conv => whnf); first | (refine Side.mk ?_ ?_; focus (exact True.intro)) | refine Got.mk (fun _ _ => ?_) | refine CallS.mk (c := rempty_c) (()) ?_) | fail); all_goals try (conv => whnf)
  refine CallS.mk (c := check_c) ((prf0 0, key1, emptyH)) ?_
  repeat' (first | (with_reducible refine Unf.h ?_) | ((conv => whnf); first | (refine Side.mk ?_ ?_; focus (first | with_reducible rfl | assumption)) | refine RetE.mk () trivial ?_ | refine Got.mk (fun _ _ => ?_) | refine retK_r ?_) | fail); all_goals try (conv => whnf)
  refine Side.mk (decide_eq_true ok_0) ?_
  repeat' (first | (with_reducible refine Unf.h ?_) | ((conv => whnf); exact rfl) | fail); all_goals try (conv => whnf)
def nodeHash_c : Ctr where
  D := Fo × Int
  args := fun (_, i) => [.ptr 0 0, .int .i64 i]
  objs := fun (l, _) => fo l
  nn := 2
  res := fun (l, i) _ => .agg [.arr8 (nd l i).hash]
  out := fun (l, _) _ => fo l
def nodeHash_H : Cfg := ⟨[(34, node_c)], [], [], [], 15, 2, [], []⟩
theorem nodeHash_ok : nodeHash_c.Ok Tryd.prog 77 := by
  refine fn_ok nodeHash_H 2 rfl _ Tryd.func77 rfl rfl ⟨node_ok, trivial⟩ rfl rfl (by kernel_rfl) (fun _ => Nat.le_of_ble_eq_true rfl) ?_
  rintro ⟨l, i⟩ hp hr
  try dsimp only [nodeHash_c] at hp
  try simp only [nodeHash_c, Rng, RngL, inR, and_true, true_and] at hr
  repeat' (first | (with_reducible refine Unf.h ?_) | ((conv => whnf); first | (refine Side.mk ?_ ?_; focus (first | with_reducible rfl | exact True.intro)) | refine RetE.mk () trivial ?_ | refine Got.mk (fun _ _ => ?_) | refine retK_r ?_ | exact rfl | refine CallS.mk (c := node_c) ((l, i)) ?_) | fail); all_goals try (conv => whnf)
def showN_c : Ctr where
  D := Int × H256
  args := fun (t, k) => [.nilp, .int .i64 t, .agg [.arr8 k]]
  res := fun _ _ => .tup [.agg (ePrf (prf0 0)), .int .i64 1]
def showN_H : Cfg := ⟨[(40, rootN_c), (34, node_c), (76, holds_c), (54, bit_c), (77, nodeHash_c)], [(9, [1, 3], [5, 7, 9], (.one 0 0 false (.one 1 1 false (.one 2 0 false (.one 3 1 false (.one 4 0 false (.one 5 2 true (.one 6 0 false (.one 7 2 true (.one 8 0 false (.one 9 2 false .nil)))))))))), [10]), (11, [1, 4, 8], [5, 9, 11, 13, 15, 17], (.one 0 0 false (.one 1 1 false (.one 2 0 false (.one 3 0 false (.one 4 1 false (.one 6 0 false (.one 7 0 false (.one 8 1 false (.one 10 0 false (.one 5 2 true (.one 9 2 true (.one 11 2 true (.one 12 0 false (.one 13 2 false (.one 14 0 false (.one 15 2 false (.one 16 0 false (.one 17 2 false .nil)))))))))))))))))), [10]), (12, [1, 3], [], (.one 0 0 false (.one 1 1 false (.one 2 0 false (.one 3 1 false (.one 4 0 false (.one 5 0 false .nil)))))), []), (15, [1, 3], [6, 8, 9, 11], (.one 0 0 false (.one 1 1 false (.one 2 0 false (.one 3 1 false (.one 4 0 false (.one 5 0 false (.one 6 2 true (.one 7 0 false (.one 8 2 true (.one 9 2 false (.one 10 0 false (.one 11 2 false .nil)))))))))))), [])], [], [], 90, 0, [], []⟩
theorem showN_ok : showN_c.Ok Tryd.prog 46 := by
  refine fn_ok showN_H 0 rfl _ Tryd.func46 rfl rfl ⟨rootN_ok, node_ok, holds_ok, bit_ok, nodeHash_ok, trivial⟩ rfl rfl (by kernel_rfl) (fun _ => Nat.le_of_ble_eq_true rfl) ?_
  rintro ⟨t, k⟩ hp hr
  try dsimp only [showN_c] at hp
  try simp only [showN_c, Rng, RngL, inR, and_true, true_and] at hr
  repeat' (first | (with_reducible refine Unf.h ?_) | ((conv => whnf); first | refine Fork.mkn (fun h => ?_) (fun h => ?_) | (refine Side.mk ?_ ?_; focus (first | with_reducible rfl | exact True.intro)) | refine RetE.mk () trivial ?_ | refine Got.mk (fun _ _ => ?_) | refine retK_r ?_ | exact rfl | refine CallS.mk (c := rootN_c) (t) ?_) | fail); all_goals try (conv => whnf)
  exfalso; omega
def showX_c : Ctr where
  D := Fo × Int × H256
  pre := fun (l, t, k) => ¬ isT l t
  args := fun (_, t, k) => [.ptr 0 0, .int .i64 t, .agg [.arr8 k]]
  objs := fun (l, _) => fo l
  nn := 2
  res := fun _ _ => .tup [.agg (ePrf (prf0 0)), .int .i64 1]
  out := fun (l, _) _ => fo l
def showX_H : Cfg := ⟨[(40, rootX_c), (34, node_c), (76, holds_c), (54, bit_c), (77, nodeHash_c)], [(9, [1, 3], [5, 7, 9], (.one 0 0 false (.one 1 1 false (.one 2 0 false (.one 3 1 false (.one 4 0 false (.one 5 2 true (.one 6 0 false (.one 7 2 true (.one 8 0 false (.one 9 2 false .nil)))))))))), [10]), (11, [1, 4, 8], [5, 9, 11, 13, 15, 17], (.one 0 0 false (.one 1 1 false (.one 2 0 false (.one 3 0 false (.one 4 1 false (.one 6 0 false (.one 7 0 false (.one 8 1 false (.one 10 0 false (.one 5 2 true (.one 9 2 true (.one 11 2 true (.one 12 0 false (.one 13 2 false (.one 14 0 false (.one 15 2 false (.one 16 0 false (.one 17 2 false .nil)))))))))))))))))), [10]), (12, [1, 3], [], (.one 0 0 false (.one 1 1 false (.one 2 0 false (.one 3 1 false (.one 4 0 false (.one 5 0 false .nil)))))), []), (15, [1, 3], [6, 8, 9, 11], (.one 0 0 false (.one 1 1 false (.one 2 0 false (.one 3 1 false (.one 4 0 false (.one 5 0 false (.one 6 2 true (.one 7 0 false (.one 8 2 true (.one 9 2 false (.one 10 0 false (.one 11 2 false .nil)))))))))))), [])], [], [], 90, 2, [], []⟩
theorem showX_ok : showX_c.Ok Tryd.prog 46 := by
  refine fn_ok showX_H 2 rfl _ Tryd.func46 rfl rfl ⟨rootX_ok, node_ok, holds_ok, bit_ok, nodeHash_ok, trivial⟩ rfl rfl (by kernel_rfl) (fun _ => Nat.le_of_ble_eq_true rfl) ?_
  rintro ⟨l, t, k⟩ hp hr
  try dsimp only [showX_c] at hp
  try simp only [showX_c, Rng, RngL, inR, and_true, true_and] at hr
  repeat' (first | (with_reducible refine Unf.h ?_) | ((conv => whnf); first | refine Fork.mkn (fun h => ?_) (fun h => ?_) | (refine Side.mk ?_ ?_; focus (first | with_reducible rfl | assumption)) | refine RetE.mk () trivial ?_ | refine Got.mk (fun _ _ => ?_) | refine retK_r ?_ | exact rfl | refine CallS.mk (c := rootX_c) ((l, t)) ?_) | fail); all_goals try (conv => whnf)
  exfalso; omega
def show0_c : Ctr where
  D := Fo × H256
  args := fun (_, k) => [.ptr 0 0, .int .i64 (-1), .agg [.arr8 k]]
  objs := fun (l, _) => fo l
  nn := 2
  res := fun (_, _) _ => .tup [.agg (ePrf (prf0 0)), .int .i64 0]
  out := fun (l, _) _ => fo l
def show0_H : Cfg := ⟨[(40, root_c), (34, node_c), (76, holds_c), (54, bit_c), (77, nodeHash_c)], [(9, [1, 3], [5, 7, 9], (.one 0 0 false (.one 1 1 false (.one 2 0 false (.one 3 1 false (.one 4 0 false (.one 5 2 true (.one 6 0 false (.one 7 2 true (.one 8 0 false (.one 9 2 false .nil)))))))))), [10]), (11, [1, 4, 8], [5, 9, 11, 13, 15, 17], (.one 0 0 false (.one 1 1 false (.one 2 0 false (.one 3 0 false (.one 4 1 false (.one 6 0 false (.one 7 0 false (.one 8 1 false (.one 10 0 false (.one 5 2 true (.one 9 2 true (.one 11 2 true (.one 12 0 false (.one 13 2 false (.one 14 0 false (.one 15 2 false (.one 16 0 false (.one 17 2 false .nil)))))))))))))))))), [10]), (12, [1, 3], [], (.one 0 0 false (.one 1 1 false (.one 2 0 false (.one 3 1 false (.one 4 0 false (.one 5 0 false .nil)))))), []), (15, [1, 3], [6, 8, 9, 11], (.one 0 0 false (.one 1 1 false (.one 2 0 false (.one 3 1 false (.one 4 0 false (.one 5 0 false (.one 6 2 true (.one 7 0 false (.one 8 2 true (.one 9 2 false (.one 10 0 false (.one 11 2 false .nil)))))))))))), [])], [], [], 90, 2, [], []⟩
theorem show0_ok : show0_c.Ok Tryd.prog 46 := by
  refine fn_ok show0_H 2 rfl _ Tryd.func46 rfl rfl ⟨root_ok, node_ok, holds_ok, bit_ok, nodeHash_ok, trivial⟩ rfl rfl (by kernel_rfl) (fun _ => Nat.le_of_ble_eq_true rfl) ?_
  rintro ⟨l, k⟩ hp hr
  try dsimp only [show0_c] at hp
  try simp only [show0_c, Rng, RngL, inR, and_true, true_and] at hr
  have hpre : root_c.pre (l, -1) := ⟨by decide, by omega⟩
  repeat' (first | (with_reducible refine Unf.h ?_) | ((conv => whnf); first | refine Fork.mkn (fun h => ?_) (fun h => ?_) | (refine Side.mk ?_ ?_; focus (first | with_reducible rfl | assumption)) | refine RetE.mk () trivial ?_ | refine Got.mk (fun _ _ => ?_) | refine retK_r ?_ | exact rfl | refine CallS.mk (c := root_c) ((l, -1)) ?_) | fail); all_goals try (conv => whnf)
  refine LoopS.autoN (I := Unit) (fun _ => True) (fun _ => [(1, .int .i64 (-1))]) (fun _ => [(0, .box 85 [.own 1]), (1, .row 51 132 eNd l), (2, .box 25 [.arr8 k]), (3, .box 36 [.nils, .int .i64 0, .arr8 zeroH, .arr8 zeroH, .int .i64 0, .arr8 zeroH, .arr8 zeroH, .arr8 zeroH]), (5, .box 36 [.nils, .int .i64 0, .arr8 zeroH, .arr8 zeroH, .int .i64 0, .arr8 zeroH, .arr8 zeroH, .arr8 zeroH]), (4, .box 25 [.arr8 (rootF l (-1))])]) 6 (fun _ => 0) () trivial ?_ ?_
  · repeat' (first | (with_reducible refine Unf.h ?_) | ((conv => whnf); first | (refine Side.mk ?_ ?_; focus (with_reducible rfl)) | (with_reducible refine Unf.h ?_) | exact True.intro) | fail); all_goals try (conv => whnf)
  · intro _ _
    have ht : ¬ inF l (-1) := fun h' => by have := h'.1; omega
    repeat' (first | (with_reducible refine Unf.h ?_) | ((conv => whnf); first | refine Fork.mkn (fun h => ?_) (fun h => ?_) | (refine Side.mk ?_ ?_; focus (first | with_reducible rfl | exact True.intro)) | refine RetE.mk () trivial ?_ | refine Got.mk (fun _ _ => ?_) | refine retK_r ?_ | exact rfl | refine CallS.mk (c := node_c) ((l, -1)) ?_) | fail); all_goals try (conv => whnf)
    all_goals exact absurd (show inF l (-1) by assumption) ht
def pnone_c : Ctr where
  D := (Int × Int) × H256 × H256
  args := fun (t, k, r) => [.agg [.int .i64 t.1, .int .i64 t.2], .agg [.arr8 k], .agg [.arr8 r]]
  res := fun _ _ => .bool true
def pnone_H : Cfg := ⟨[(46, showN_c), (46, showX_c), (46, show0_c), (16, check_c), (14, awake12_c), (21, ptexts_c)], [(1, [1, 3], [], (.one 0 0 false (.one 1 1 false (.one 2 0 false (.one 3 1 false (.one 4 0 false (.one 5 0 false .nil)))))), [])], [], [], 81, 0, [], []⟩
theorem pnone_ok : pnone_c.Ok Tryd.prog 10 := by
  refine fn_ok pnone_H 0 rfl _ Tryd.func10 rfl rfl ⟨showN_ok, showX_ok, show0_ok, check_ok, awake12_ok, ptexts_ok, trivial⟩ rfl rfl (by kernel_rfl) (fun _ => Nat.le_of_ble_eq_true rfl) ?_
  rintro ⟨t, k, r⟩ hp hr
  try dsimp only [pnone_c] at hp
  try simp only [pnone_c, Rng, RngL, inR, and_true, true_and] at hr
  have hc : check_c.pre (prf0 t.2, k, r) := Nat.zero_le _
  have hx : ptexts_c.pre (prf0 t.2, k) := Nat.zero_le _
  have hn : ¬ (0 ≤ t.2 ∧ t.2 ≤ 2) → ¬ okP (prf0 t.2) k r ∧ ¬ hasP (prf0 t.2) k r ∧ okT (prf0 t.2) k = [] := fun h =>
    have h1 : ¬ finOk (prf0 t.2) := h
    have h2 : ¬ okP (prf0 t.2) k r := fun h' => h1 (fits_fin h'.1)
    ⟨h2, fun h' => h2 h'.1, if_neg h1⟩
  repeat' (first | (with_reducible refine Unf.h ?_) | fail); all_goals try (conv => whnf)
  refine Or2.l (CallS.mk (c := showN_c) ((t.1, k)) ?_)
  repeat' (first | (with_reducible refine Unf.h ?_) | ((conv => whnf); first | (refine Side.mk ?_ ?_; focus (first | with_reducible rfl | exact True.intro)) | refine Got.mk (fun _ _ => ?_)) | fail); all_goals try (conv => whnf)
  by_cases ht : t.1 = -1
  · refine Or2.r (Or2.r (CallS.mk (c := show0_c) (([], k)) ?_))
    by_cases he : 0 ≤ t.2 ∧ t.2 ≤ 2
    · repeat' (first | (with_reducible refine Unf.h ?_) | ((conv => whnf); first | refine Fork.mkn (fun h => ?_) (fun h => ?_) | refine Fork.mk (fun h => ?_) (fun h => ?_) | (refine Side.mk ?_ ?_; focus (first | with_reducible rfl | exact True.intro | assumption | omega | (refine congrArg (SV.int _) ?_; omega))) | refine RetE.mk () trivial ?_ | refine Got.mk (fun _ _ => ?_) | refine retK_r ?_ | exact rfl | refine CallS.mk (c := check_c) ((prf0 t.2, k, r)) ?_ | refine CallS.mk (c := awake12_c) (()) ?_) | fail); all_goals try (conv => whnf)
      all_goals first | (exfalso; omega) | contradiction | exact absurd (show decide ((0 : Int) = 0) = decide (t.1 = -1) by simp [ht]) (by assumption)
    · obtain ⟨h1, h2, h3⟩ := hn he
      repeat' (first | (with_reducible refine Unf.h ?_) | ((conv => whnf); first | refine Fork.mkn (fun h => ?_) (fun h => ?_) | refine Fork.mk (fun h => ?_) (fun h => ?_) | (refine Side.mk ?_ ?_; focus (first | with_reducible rfl | exact True.intro | assumption | omega | (refine congrArg (SV.int _) ?_; omega) | (simp [*, h3]; done))) | refine RetE.mk () trivial ?_ | refine Got.mk (fun _ _ => ?_) | refine retK_r ?_ | exact rfl | refine CallS.mk (c := check_c) ((prf0 t.2, k, r)) ?_ | refine CallS.mk (c := awake12_c) (()) ?_ | refine CallS.mk (c := ptexts_c) ((prf0 t.2, k)) ?_) | fail); all_goals try (conv => whnf)
      all_goals first | (exfalso; omega) | contradiction | exact absurd (by assumption) h1 | exact absurd (by assumption) h2 | exact absurd (show decide ((0 : Int) = 0) = decide (t.1 = -1) by simp [ht]) (by assumption)
  · have hpre : showX_c.pre ([], t.1, k) := fun h => ht (isT_nil.1 h)
    refine Or2.r (Or2.l (CallS.mk (c := showX_c) (([], t.1, k)) ?_))
    by_cases he : 0 ≤ t.2 ∧ t.2 ≤ 2
    · repeat' (first | (with_reducible refine Unf.h ?_) | ((conv => whnf); first | refine Fork.mkn (fun h => ?_) (fun h => ?_) | refine Fork.mk (fun h => ?_) (fun h => ?_) | (refine Side.mk ?_ ?_; focus (first | with_reducible rfl | exact True.intro | assumption | omega)) | refine RetE.mk () trivial ?_ | refine Got.mk (fun _ _ => ?_) | refine retK_r ?_ | exact rfl | refine CallS.mk (c := check_c) ((prf0 t.2, k, r)) ?_ | refine CallS.mk (c := awake12_c) (()) ?_) | fail); all_goals try (conv => whnf)
      all_goals first | (exfalso; omega) | contradiction | exact absurd (show decide ((1 : Int) = 0) = decide (t.1 = -1) by simp [ht]) (by assumption)
    · obtain ⟨h1, h2, h3⟩ := hn he
      repeat' (first | (with_reducible refine Unf.h ?_) | ((conv => whnf); first | refine Fork.mkn (fun h => ?_) (fun h => ?_) | refine Fork.mk (fun h => ?_) (fun h => ?_) | (refine Side.mk ?_ ?_; focus (first | with_reducible rfl | exact True.intro | assumption | omega | (simp [*, h3]; done))) | refine RetE.mk () trivial ?_ | refine Got.mk (fun _ _ => ?_) | refine retK_r ?_ | exact rfl | refine CallS.mk (c := check_c) ((prf0 t.2, k, r)) ?_ | refine CallS.mk (c := awake12_c) (()) ?_ | refine CallS.mk (c := ptexts_c) ((prf0 t.2, k)) ?_) | fail); all_goals try (conv => whnf)
      all_goals first | (exfalso; omega) | contradiction | exact absurd (by assumption) h1 | exact absurd (by assumption) h2 | exact absurd (show decide ((1 : Int) = 0) = decide (t.1 = -1) by simp [ht]) (by assumption)
end Go.Proofs.YtffaohckcggkdaaDoor

namespace Go.Proofs.YtffaohckcggkdaaDoor
set_option linter.all false
open Go.RowKit
/-! two proofs of one root -/
theorem txt_inj1 {t t' : BitVec 8} {l l' : List Bs} (h : txt t l = txt t' l') : t = t' := (List.cons.inj h).1
theorem part_inj {a b : Bs} {x y : Bs} (hl : a.length = b.length) (h : part a ++ x = part b ++ y) : a = b ∧ x = y := by
  unfold part at h
  rw [hl, List.append_assoc, List.append_assoc] at h
  have h2 := List.append_cancel_left h
  exact List.append_inj h2 hl
theorem leafT_inj {k v k' v' : H256} (h : leafT k v = leafT k' v') : k = k' ∧ v = v' := by
  have h1 := (List.cons.inj h).2
  simp only [List.flatMap_cons, List.flatMap_nil] at h1
  obtain ⟨e1, h2⟩ := part_inj (by simp) h1
  obtain ⟨e2, _⟩ := part_inj (by simp) h2
  exact ⟨Vector.toList_inj.1 e1, Vector.toList_inj.1 e2⟩
theorem innerT_inj {n n' : Int} {b l r b' l' r' : H256} (hn : 0 ≤ n ∧ n ≤ 256) (hn' : 0 ≤ n' ∧ n' ≤ 256) (h : innerT n b l r = innerT n' b' l' r') : n = n' ∧ b = b' ∧ l = l' ∧ r = r' := by
  have h1 := (List.cons.inj h).2
  simp only [List.flatMap_cons, List.flatMap_nil] at h1
  obtain ⟨e0, h2⟩ := part_inj (by simp) h1
  obtain ⟨e1, h3⟩ := part_inj (by simp) h2
  obtain ⟨e2, h4⟩ := part_inj (by simp) h3
  obtain ⟨e3, _⟩ := part_inj (by simp) h4
  refine ⟨?_, Vector.toList_inj.1 e1, Vector.toList_inj.1 e2, Vector.toList_inj.1 e3⟩
  simp only [List.cons.injEq, and_true] at e0
  obtain ⟨ea, eb⟩ := e0
  have ha := congrArg BitVec.toNat ea
  have hb := congrArg BitVec.toNat eb
  simp only [BitVec.toNat_ofInt] at ha hb
  omega
/-- no two different ones with one hash -/
def clashP (A B : List Bs) : Prop := (A.any fun a => B.any fun b => decide (¬ a = b ∧ sha a = sha b)) = true
instance (A B : List Bs) : Decidable (clashP A B) := inferInstanceAs (Decidable (_ = true))
theorem clash_iff {A B : List Bs} : clashP A B ↔ ∃ a ∈ A, ∃ b ∈ B, ¬ a = b ∧ sha a = sha b := by
  unfold clashP; simp [List.any_eq_true]
theorem top_mem (p : Prf) (k : H256) : ∀ l : List Stp, topT p k l ∈ txsT p k l
  | [] => by simp [topT, txsT]
  | s :: r => by simp [topT, txsT]
theorem txs_tail (p : Prf) (k : H256) (s : Stp) (r : List Stp) : ∀ x ∈ txsT p k r, x ∈ txsT p k (s :: r) := fun x hx => by simp [txsT, hx]
/-- what fits says of the steps and the end -/
def restOk (p : Prf) (k : H256) (r : List Stp) : Prop := (∀ s ∈ r, holdsP s.pfx k) ∧ finOk p ∧ (p.fin = 2 → formedP p.pfx ∧ ¬ holdsP p.pfx k)
theorem down_holds {k : H256} : ∀ {r : List Stp} {room x : Pfx}, down k room r = some x → ∀ s ∈ r, holdsP s.pfx k
  | [], _, _, _ => by simp
  | s :: r, room, x, h => by
    rw [down_cons] at h
    split at h
    · rename_i hc
      intro s' hs'
      rcases List.mem_cons.1 hs' with e | e
      · subst e; exact hc.1
      · exact down_holds h s' e
    · cases h
theorem fits_rest {p : Prf} {k : H256} (h : fitsP p k) : restOk p k p.steps := by
  have hf := fits_fin h
  unfold fitsP at h
  split at h
  · exact h.elim
  · rename_i room hr
    refine ⟨down_holds hr, hf, fun h2 => ?_⟩
    have := (end2 h2).1 h
    exact ⟨this.2.1.1, this.2.2⟩
theorem formed_len {p : Pfx} (h : formedP p) : 0 ≤ p.len ∧ p.len ≤ 256 := ⟨h.1, h.2.1⟩
theorem stepT_cases (k : H256) (s : Stp) (t : Bs) : ∃ x y, stepT k s t = innerT s.len s.bits x y ∧ (bitI k s.len = 1 → y = sha t) ∧ (¬ bitI k s.len = 1 → x = sha t) := by
  unfold stepT
  split
  · rename_i h; exact ⟨_, _, rfl, fun _ => rfl, fun h' => absurd h h'⟩
  · rename_i h; exact ⟨_, _, rfl, fun h' => absurd h' h, fun _ => rfl⟩
theorem endT_step {p : Prf} {k : H256} {s : Stp} {t : Bs} (hp : finOk p) (h2 : p.fin = 2 → formedP p.pfx ∧ ¬ holdsP p.pfx k) (hs : holdsP s.pfx k) (h : endT p = stepT k s t) : False := by
  obtain ⟨x, y, e, _, _⟩ := stepT_cases k s t
  rw [e] at h
  unfold endT at h
  split at h
  · have := txt_inj1 h; revert this; decide
  · split at h
    · have := txt_inj1 h; revert this; decide
    · obtain ⟨hf, hn⟩ := h2 (by have := hp.1; have := hp.2; omega)
      obtain ⟨e1, e2, _⟩ := innerT_inj (formed_len hf) (formed_len hs.1) h
      apply hn
      have e1' : p.plen = s.len := e1
      have : p.pfx = s.pfx := by unfold Prf.pfx Stp.pfx; rw [e1', e2]
      rw [this]; exact hs
def sameEnd (p q : Prf) (k : H256) : Prop := (p.fin = 1 ∧ p.key = k ↔ q.fin = 1 ∧ q.key = k) ∧ (p.fin = 1 → q.fin = 1 → p.value = q.value)
theorem endT_same {p q : Prf} {k : H256} (hp : finOk p) (hq : finOk q) (h : endT p = endT q) : sameEnd p q k := by
  have hp1 := hp.1
  have hp2 := hp.2
  have hq1 := hq.1
  have hq2 := hq.2
  by_cases h1 : p.fin = 1
  · by_cases h2 : q.fin = 1
    · unfold endT at h
      rw [if_neg (by omega), if_pos h1, if_neg (by omega), if_pos h2] at h
      obtain ⟨e1, e2⟩ := leafT_inj h
      exact ⟨by rw [e1]; simp [h1, h2], fun _ _ => e2⟩
    · exfalso
      unfold endT at h
      rw [if_neg (show ¬ p.fin = 0 by omega), if_pos h1] at h
      split at h
      · have := txt_inj1 h; revert this; decide
      · first
          | (rw [if_neg h2] at h; have := txt_inj1 h; revert this; decide)
          | (have := txt_inj1 h; revert this; decide)
  · by_cases h2 : q.fin = 1
    · exfalso
      unfold endT at h
      rw [if_neg (show ¬ q.fin = 0 by omega), if_pos h2] at h
      split at h
      · have := txt_inj1 h; revert this; decide
      · first
          | (rw [if_neg h1] at h; have := txt_inj1 h; revert this; decide)
          | (have := txt_inj1 h; revert this; decide)
    · exact ⟨⟨fun h' => absurd h'.1 h1, fun h' => absurd h'.1 h2⟩, fun h' => absurd h' h1⟩
theorem turned_core {p q : Prf} {k : H256} {A B : List Bs} (hc : ∀ a ∈ A, ∀ b ∈ B, sha a = sha b → a = b) : ∀ (r s : List Stp), restOk p k r → restOk q k s → (∀ x ∈ txsT p k r, x ∈ A) → (∀ x ∈ txsT q k s, x ∈ B) → sha (topT p k r) = sha (topT q k s) → sameEnd p q k
  | r, s, hr, hs, hA, hB, h => by
    have e := hc _ (hA _ (top_mem p k r)) _ (hB _ (top_mem q k s)) h
    match r, s, hr, hs, hA, hB, e with
    | [], [], hr, hs, hA, hB, e => exact endT_same hr.2.1 hs.2.1 e
    | [], s :: r', hr, hs, hA, hB, e => exact (endT_step hr.2.1 hr.2.2 (hs.1 s (by simp)) e).elim
    | s :: r', [], hr, hs, hA, hB, e => exact (endT_step hs.2.1 hs.2.2 (hr.1 s (by simp)) e.symm).elim
    | a :: r', b :: s', hr, hs, hA, hB, e =>
      obtain ⟨x, y, e1, f1, g1⟩ := stepT_cases k a (topT p k r')
      obtain ⟨x', y', e2, f2, g2⟩ := stepT_cases k b (topT q k s')
      have e' : innerT a.len a.bits x y = innerT b.len b.bits x' y' := by rw [← e1, ← e2]; exact e
      obtain ⟨i1', i2, i3, i4⟩ := innerT_inj (formed_len (hr.1 a (by simp)).1) (formed_len (hs.1 b (by simp)).1) e'
      have i1 : a.len = b.len := i1'
      have hsha : sha (topT p k r') = sha (topT q k s') := by
        by_cases hb : bitI k a.len = 1
        · rw [← f1 hb, ← f2 (by rw [← i1]; exact hb), i4]
        · rw [← g1 hb, ← g2 (by rw [← i1]; exact hb), i3]
      exact turned_core hc r' s' ⟨fun z hz => hr.1 z (by simp [hz]), hr.2⟩ ⟨fun z hz => hs.1 z (by simp [hz]), hs.2⟩ (fun z hz => hA z (txs_tail p k a r' z hz)) (fun z hz => hB z (txs_tail q k b s' z hz)) hsha
theorem turned_law {p q : Prf} {k root : H256} (hp : okP p k root) (hq : okP q k root) (hc : ¬ clashP (okT p k) (okT q k)) : (hasP p k root ↔ hasP q k root) ∧ valP p k root = valP q k root := by
  have hA : okT p k = txsT p k p.steps := if_pos (fits_fin hp.1)
  have hB : okT q k = txsT q k q.steps := if_pos (fits_fin hq.1)
  rw [hA, hB] at hc
  have hs := turned_core (A := txsT p k p.steps) (B := txsT q k q.steps) (k := k) (fun a ha b hb e => Classical.byContradiction fun hn => hc (clash_iff.2 ⟨a, ha, b, hb, hn, e⟩)) p.steps q.steps (fits_rest hp.1) (fits_rest hq.1) (fun _ h => h) (fun _ h => h) (hp.2.trans hq.2.symm)
  have hi : hasP p k root ↔ hasP q k root := ⟨fun h => ⟨hq, hs.1.1 h.2⟩, fun h => ⟨hp, hs.1.2 h.2⟩⟩
  refine ⟨hi, ?_⟩
  unfold valP
  by_cases h : hasP p k root
  · rw [if_pos h, if_pos (hi.1 h)]
    exact hs.2 h.2.1 (hi.1 h).2.1
  · rw [if_neg h, if_neg fun h' => h (hi.2 h')]
end Go.Proofs.YtffaohckcggkdaaDoor

namespace Go.Proofs.YtffaohckcggkdaaDoor
set_option linter.all false
open Go.RowKit
/-! the law of two proofs: its function -/
def clash_c : Ctr where
  D := List Bs × List Bs
  pre := fun (a, b) => (∀ x ∈ a, x.length ≤ 1000000000) ∧ ∀ x ∈ b, x.length ≤ 1000000000
  args := fun (a, b) => [.fs 1 eP a, .fs 1 eP b]
  res := fun (a, b) _ => .dec (clashP a b) inferInstance
def clw (x y : Bs) : Prop := ¬ x = y ∧ sha x = sha y
theorem mem_take_succ {a : List Bs} {i : Nat} (hi : i < a.length) {x : Bs} (h : x ∈ a.take (i + 1)) : x ∈ a.take i ∨ x = a[i] := by
  rw [List.take_succ_eq_append_getElem hi] at h
  rcases List.mem_append.1 h with h | h
  · exact .inl h
  · exact .inr (by simpa using h)
def clash_H : Cfg := ⟨[(26, same_c), (24, refsum_c)], [(7, [3, 7], [8, 14, 15, 19, 20], (.one 0 0 false (.one 1 0 false (.one 2 0 false (.one 3 1 false (.one 4 0 false (.one 5 0 false (.one 6 0 false (.one 7 1 false (.one 8 2 false (.one 9 0 false (.one 10 0 false (.one 11 0 false (.one 12 0 false (.one 13 0 false (.one 16 0 false (.one 17 0 false (.one 18 0 false (.alt 14 false (.alt 15 false (.one 19 2 false (.one 20 2 false (.one 21 0 false (.one 22 0 false .nil)))) (.one 19 2 false (.one 15 2 false (.one 20 2 false (.one 21 0 false (.one 22 0 false .nil)))))) (.one 19 2 false (.one 14 2 false (.one 15 2 false (.one 20 2 false (.one 21 0 false (.one 22 0 false .nil)))))))))))))))))))))))), [])], [], [], 42, 0, [], []⟩
theorem clash_ok : clash_c.Ok Tryd.prog 20 := by
  refine fn_ok clash_H 0 rfl _ Tryd.func20 rfl rfl ⟨same_ok, refsum_ok, trivial⟩ rfl rfl (by kernel_rfl) (fun _ => Nat.le_of_ble_eq_true rfl) ?_
  rintro ⟨a, b⟩ hp hr
  try dsimp only [clash_c] at hp
  try simp only [clash_c, Rng, RngL, inR, and_true, true_and] at hr
  obtain ⟨pa, pb⟩ := hp
  repeat' (first | (with_reducible refine Unf.h ?_) | fail); all_goals try (conv => whnf)
  refine LoopS.auto (fun i : Nat => i ≤ a.length ∧ ∀ x ∈ a.take i, ∀ y ∈ b, ¬ clw x y) (fun i => [(5, .int .i64 i)]) (fun i => []) (fun i => a.length - i) 0 ⟨Nat.zero_le _, by simp⟩ ?_ ?_
  · repeat' (first | (with_reducible refine Unf.h ?_) | ((conv => whnf); first | (refine Side.mk ?_ ?_; focus (first | with_reducible rfl | (refine congrArg (SV.int _) ?_; omega))) | (with_reducible refine Unf.h ?_) | exact True.intro) | fail); all_goals try (conv => whnf)
  · intro i hi
    obtain ⟨hi1, hi2⟩ := hi
    repeat' (first | (with_reducible refine Unf.h ?_) | ((conv => whnf); first | refine Fork.mk (fun h => ?_) (fun h => ?_) | refine RetE.mk () trivial ?_ | refine retK_r ?_) | fail); all_goals try (conv => whnf)
    · have hia : i < a.length := by omega
      have hic : (i : Int).toNat < a.length := by omega
      have ha := pa _ (List.getElem_mem hic)
      refine LoopS.auto (fun j : Nat => j ≤ b.length ∧ ∀ y ∈ b.take j, ¬ clw (a[(i : Int).toNat]'hic) y) (fun j => [(6, .int .i64 j)]) (fun j => []) (fun j => b.length - j) 0 ⟨Nat.zero_le _, by simp⟩ ?_ ?_
      · repeat' (first | (with_reducible refine Unf.h ?_) | ((conv => whnf); first | (refine Side.mk ?_ ?_; focus (first | with_reducible rfl | (refine congrArg (SV.int _) ?_; omega))) | (with_reducible refine Unf.h ?_) | exact True.intro) | fail); all_goals try (conv => whnf)
      · intro j hj
        obtain ⟨hj1, hj2⟩ := hj
        repeat' (first | (with_reducible first | refine Unf.h ?_ | refine loopK_n ?_) | ((conv => whnf); first | refine Fork.mk (fun h => ?_) (fun h => ?_) | (refine Side.mk ?_ ?_; focus ((intros; (try simp only [lenS, inR, cutS, loI, hiI] at *); omega))) | (refine Idx.mk ?_ ?_; focus (omega))) | fail); all_goals try (conv => whnf)
        · have hjb : j < b.length := by omega
          have hjc : (j : Int).toNat < b.length := by omega
          have hb := pb _ (List.getElem_mem hjc)
          generalize hx : a[(i : Int).toNat]'hic = x at *
          generalize hy : b[(j : Int).toNat]'hjc = y at *
          refine CallS.mk (c := same_c) ((x, y)) ?_
          have d1 : b.length - (j + 1) < b.length - j := by omega
          have d2 : j + 1 ≤ b.length := by omega
          have hcl : ¬ x = y → sha x = sha y → clashP a b := fun h1 h2 => clash_iff.2 ⟨x, by rw [← hx]; exact List.getElem_mem hic, y, by rw [← hy]; exact List.getElem_mem hjc, h1, h2⟩
          have nxt : ¬ clw x y → ∀ z ∈ b.take (j + 1), ¬ clw x z := fun hn z hz => by
            rcases mem_take_succ hjb hz with hz | hz
            · exact hj2 z hz
            · have e : b[j]'hjb = b[(j : Int).toNat]'hjc := by congr 1
              rw [hz, e, hy]; exact hn
          repeat' (first | (with_reducible first | refine Unf.h ?_ | refine loopK_n ?_) | ((conv => whnf); first | refine Both.mk ?_ ?_ | refine Both.mk ?_ ?_ | refine Fork.mkn (fun h => ?_) (fun h => ?_) | (refine Side.mk ?_ ?_; focus (first | with_reducible rfl | exact True.intro | (intros; (try simp only [lenS, inR, cutS, loI, hiI, hx, hy] at *); omega))) | (refine Idx.mk ?_ ?_; focus (omega)) | refine Got.mk (fun _ _ => ?_)) | fail); all_goals try (conv => whnf)
          all_goals first
            | (refine CallS.mk (c := refsum_c) (x) ?_
               repeat' (first | (with_reducible refine Unf.h ?_) | ((conv => whnf); first | (refine Side.mk ?_ ?_; focus (first | assumption | (simp only [*, hx, hy]; done))) | refine Got.mk (fun _ _ => ?_)) | fail); all_goals try (conv => whnf)
               all_goals refine CallS.mk (c := refsum_c) (y) ?_
               all_goals (repeat' (first | (with_reducible first | refine Unf.h ?_ | refine loopK_n ?_) | ((conv => whnf); first | refine Fork.mk (fun h => ?_) (fun h => ?_) | (refine Side.mk ?_ ?_; focus (first | assumption | (intros; (try simp only [lenS, inR, cutS, loI, hiI, hx, hy] at *); omega) | (simp only [*, hx, hy]; done))) | refine RetE.mk () trivial ?_ | refine Got.mk (fun _ _ => ?_) | refine retK_r ?_) | fail); all_goals try (conv => whnf))
               all_goals first
                 | (refine Side.mk (iffT (hcl (by assumption) (Vector.toList_inj.1 (by assumption)))) ?_; repeat' (first | (with_reducible refine Unf.h ?_) | ((conv => whnf); exact rfl) | fail); all_goals try (conv => whnf))
                 | (refine ⟨j + 1, ⟨d1, d2, nxt fun hc => absurd (congrArg Vector.toList hc.2) (by assumption)⟩, ?_⟩; repeat' (first | (with_reducible refine Unf.h ?_) | ((conv => whnf); first | (refine Side.mk ?_ ?_; focus (first | with_reducible rfl | (refine congrArg (SV.int _) ?_; omega))) | (with_reducible refine Unf.h ?_) | exact True.intro) | fail); all_goals try (conv => whnf)))
            | (refine ⟨j + 1, ⟨d1, d2, nxt fun hc => hc.1 (by assumption)⟩, ?_⟩; repeat' (first | (with_reducible refine Unf.h ?_) | ((conv => whnf); first | (refine Side.mk ?_ ?_; focus (first | with_reducible rfl | (refine congrArg (SV.int _) ?_; omega))) | (with_reducible refine Unf.h ?_) | exact True.intro) | fail); all_goals try (conv => whnf))
        · refine ⟨i + 1, ⟨by omega, by omega, fun z hz y hy => ?_⟩, ?_⟩
          · rcases mem_take_succ hia hz with hz | hz
            · exact hi2 z hz y hy
            · have e : a[i]'hia = a[(i : Int).toNat]'hic := by congr 1
              rw [hz, e]
              exact hj2 y (by rw [List.take_of_length_le (by omega)]; exact hy)
          · repeat' (first | (with_reducible refine Unf.h ?_) | ((conv => whnf); first | (refine Side.mk ?_ ?_; focus (first | with_reducible rfl | (refine congrArg (SV.int _) ?_; omega))) | (with_reducible refine Unf.h ?_) | exact True.intro) | fail); all_goals try (conv => whnf)
    · refine Side.mk (iffF fun hc => ?_) ?_
      · obtain ⟨x, hx, y, hy, hn, he⟩ := clash_iff.1 hc
        exact hi2 x (by rw [List.take_of_length_le (by omega)]; exact hx) y hy ⟨hn, he⟩
      · repeat' (first | (with_reducible refine Unf.h ?_) | ((conv => whnf); exact rfl) | fail); all_goals try (conv => whnf)
theorem txsT_small (p : Prf) (k : H256) : ∀ l : List Stp, ∀ x ∈ txsT p k l, x.length ≤ 1000000000
  | [], x, hx => by
    obtain rfl : x = endT p := by simpa [txsT] using hx
    exact endT_len p
  | s :: r, x, hx => by
    rcases List.mem_append.1 hx with hx | hx
    · exact txsT_small p k r x hx
    · obtain rfl : x = stepT k s (topT p k r) := by simpa using hx
      exact topT_len p k (s :: r)
theorem okT_small (p : Prf) (k : H256) : ∀ x ∈ okT p k, x.length ≤ 1000000000 := fun x hx => by
  unfold okT at hx
  split at hx
  · exact txsT_small p k _ x hx
  · cases hx
def pturned_c : Ctr where
  D := Prf × Prf × H256
  args := fun (p, q, k) => [.agg (ePrf p), .agg (ePrf q), .agg [.arr8 k]]
  res := fun _ _ => .bool true
def pturned_H : Cfg := ⟨[(14, awake12_c), (17, from_c), (21, ptexts_c), (16, check_c), (51, sum_c), (24, refsum_c), (20, clash_c)], [(3, [0, 2], [1, 3], (.one 0 1 false (.one 2 1 false (.one 1 2 true (.one 3 2 false (.one 4 0 false .nil))))), []), (7, [0, 2, 3], [1, 4, 9, 10], (.one 0 1 false (.one 2 1 false (.one 3 1 false (.alt 1 true (.alt 4 true (.one 5 0 false (.one 6 0 false (.one 7 0 false (.one 8 0 false (.one 9 2 true (.one 10 2 false (.one 11 0 false (.one 12 0 false .nil)))))))) (.one 9 2 true (.one 4 2 false (.one 5 0 false (.one 6 0 false (.one 7 0 false (.one 8 0 false (.one 10 2 false (.one 11 0 false (.one 12 0 false .nil)))))))))) (.one 9 2 true (.one 1 2 true (.one 4 2 false (.one 5 0 false (.one 6 0 false (.one 7 0 false (.one 8 0 false (.one 10 2 false (.one 11 0 false (.one 12 0 false .nil)))))))))))))), []), (8, [0, 2, 3], [1, 4, 9, 10], (.one 0 1 false (.one 2 1 false (.one 3 1 false (.alt 1 true (.alt 4 true (.one 5 0 false (.one 6 0 false (.one 7 0 false (.one 8 0 false (.one 9 2 true (.one 10 2 false (.one 11 0 false (.one 12 0 false .nil)))))))) (.one 9 2 true (.one 4 2 false (.one 5 0 false (.one 6 0 false (.one 7 0 false (.one 8 0 false (.one 10 2 false (.one 11 0 false (.one 12 0 false .nil)))))))))) (.one 9 2 true (.one 1 2 true (.one 4 2 false (.one 5 0 false (.one 6 0 false (.one 7 0 false (.one 8 0 false (.one 10 2 false (.one 11 0 false (.one 12 0 false .nil)))))))))))))), []), (11, [1, 3], [2, 4, 5], (.one 0 0 false (.one 1 1 false (.one 3 1 false (.one 2 2 true (.one 4 2 false (.one 5 2 false (.one 6 0 false .nil))))))), [])], [], [], 84, 0, [], [7, 8]⟩
theorem pturned_ok : pturned_c.Ok Tryd.prog 4 := by
  refine fn_ok pturned_H 0 rfl _ Tryd.func4 rfl rfl ⟨awake12_ok, from_ok, ptexts_ok, check_ok, sum_ok, refsum_ok, clash_ok, trivial⟩ rfl rfl (by kernel_rfl) (fun _ => Nat.le_of_ble_eq_true rfl) ?_
  rintro ⟨p, q, k⟩ hp hr
  try dsimp only [pturned_c] at hp
  try simp only [pturned_c, Rng, RngL, inR, and_true, true_and] at hr
  repeat' (first | (with_reducible refine Unf.h ?_) | ((conv => whnf); first | refine Fork.mk (fun h => ?_) (fun h => ?_) | (refine Side.mk ?_ ?_; focus (first | with_reducible rfl | exact True.intro)) | refine RetE.mk () trivial ?_ | refine Got.mk (fun _ _ => ?_) | refine retK_r ?_ | exact rfl | refine CallS.mk (c := awake12_c) (()) ?_) | fail); all_goals try (conv => whnf)
  have hpre1 : ptexts_c.pre (p, k) := by show _ ≤ _; omega
  have hpre2 : from_c.pre p := by show _ ≤ _; omega
  have hpre3 : ptexts_c.pre (q, k) := by show _ ≤ _; omega
  have hpre4 : from_c.pre q := by show _ ≤ _; omega
  repeat' (first | (with_reducible refine Unf.h ?_) | ((conv => whnf); first | refine Fork.mk (fun h => ?_) (fun h => ?_) | (refine Side.mk ?_ ?_; focus (first | with_reducible rfl | assumption | (intros; (try simp only [lenS, inR, cutS, loI, hiI] at *); omega))) | (refine Idx.mk ?_ ?_; focus (omega)) | refine RetE.mk () trivial ?_ | refine Got.mk (fun _ _ => ?_) | refine retK_r ?_ | exact rfl | refine CallS.mk (c := from_c) (p) ?_ | refine CallS.mk (c := ptexts_c) ((p, k)) ?_) | fail); all_goals try (conv => whnf)
  by_cases hf : finOk p
  · have hok : okT p k = txsT p k p.steps := if_pos hf
    have hlen : (okT p k).length = p.steps.length + 1 := by rw [hok, txsT_len]
    have hi : (((okT p k).length : Int) - 1).toNat < (okT p k).length := by omega
    have hlast : (okT p k)[(((okT p k).length : Int) - 1).toNat]'hi = topT p k p.steps := okT_last hf _ (by omega) hi
    have htl := topT_len p k p.steps
    have hpre5 : ∀ r, check_c.pre (p, k, r) := fun r => by show _ ≤ _; omega
    have hpre6 : ∀ r, check_c.pre (q, k, r) := fun r => by show _ ≤ _; omega
    generalize hT : topT p k p.steps = T at *
    clear hok
    repeat' (first | (with_reducible refine Unf.h ?_) | ((conv => whnf); refine CallS.mk (c := refsum_c) (T) ?_) | fail); all_goals try (conv => whnf)
    refine Side.mk (congrArg (SV.fs 1 eB) hlast) ?_
    repeat' (first | (with_reducible refine Unf.h ?_) | ((conv => whnf); first | (refine Side.mk ?_ ?_; focus (assumption)) | refine Got.mk (fun _ _ => ?_)) | fail); all_goals try (conv => whnf)
    refine CutS.auto (I := Unit) (fun _ => True) (fun _ => [(9, .ptr 4 0), (10, .dec (hasP p k (sha T)) inferInstance), (11, .dec (okP p k (sha T)) inferInstance)]) (fun _ => [(0, .box 29 (ePrf p)), (1, .box 29 (ePrf q)), (2, .box 25 [.arr8 k]), (3, .box 25 [.arr8 (sha T)]), (4, .box 25 [.arr8 (valP p k (sha T))])]) 5 ?_ ?_
    · repeat' (first | (with_reducible first | refine Unf.h ?_ | refine cutK_n ?_) | ((conv => whnf); first | refine Both.mk ?_ ?_ | refine Both.mk ?_ ?_ | (refine Side.mk ?_ ?_; focus (first | with_reducible rfl | assumption)) | refine Got.mk (fun _ _ => ?_) | refine CallS.mk (c := from_c) (p) ?_ | refine CallS.mk (c := check_c) ((p, k, sha T)) ?_) | fail); all_goals try (conv => whnf)
      all_goals (refine ⟨(), trivial, ?_⟩)
      all_goals repeat' (first | (with_reducible refine Unf.h ?_) | ((conv => whnf); first | (refine Side.mk ?_ ?_; focus (with_reducible rfl)) | (with_reducible refine Unf.h ?_) | exact True.intro) | fail); all_goals try (conv => whnf)
    intro _ _
    repeat' (first | (with_reducible refine Unf.h ?_) | fail); all_goals try (conv => whnf)
    refine CutS.auto (I := Unit) (fun _ => True) (fun _ => [(12, .ptr 5 0), (13, .dec (hasP q k (sha T)) inferInstance), (14, .dec (okP q k (sha T)) inferInstance)]) (fun _ => [(0, .box 29 (ePrf p)), (1, .box 29 (ePrf q)), (2, .box 25 [.arr8 k]), (3, .box 25 [.arr8 (sha T)]), (4, .box 25 [.arr8 (valP p k (sha T))]), (5, .box 25 [.arr8 (valP q k (sha T))])]) 6 ?_ ?_
    · repeat' (first | (with_reducible first | refine Unf.h ?_ | refine cutK_n ?_) | ((conv => whnf); first | refine Both.mk ?_ ?_ | refine Both.mk ?_ ?_ | (refine Side.mk ?_ ?_; focus (first | with_reducible rfl | assumption)) | refine Got.mk (fun _ _ => ?_) | refine CallS.mk (c := from_c) (q) ?_ | refine CallS.mk (c := check_c) ((q, k, sha T)) ?_) | fail); all_goals try (conv => whnf)
      all_goals (refine ⟨(), trivial, ?_⟩)
      all_goals repeat' (first | (with_reducible refine Unf.h ?_) | ((conv => whnf); first | (refine Side.mk ?_ ?_; focus (with_reducible rfl)) | (with_reducible refine Unf.h ?_) | exact True.intro) | fail); all_goals try (conv => whnf)
    intro _ _
    have hsm := okT_small p k
    have hsn := okT_small q k
    have hpre7 : clash_c.pre (okT p k, okT q k) := ⟨hsm, hsn⟩
    have law := turned_law (p := p) (q := q) (k := k) (root := sha T)
    repeat' (first | (with_reducible refine Unf.h ?_) | ((conv => whnf); first | refine Fork.mkn (fun h => ?_) (fun h => ?_) | refine Fork.mk (fun h => ?_) (fun h => ?_) | (refine Side.mk ?_ ?_; focus (first | with_reducible rfl | assumption)) | refine RetE.mk () trivial ?_ | refine Got.mk (fun _ _ => ?_) | refine retK_r ?_ | exact rfl | refine CallS.mk (c := from_c) (q) ?_ | refine CallS.mk (c := ptexts_c) ((q, k)) ?_ | refine CallS.mk (c := clash_c) ((okT p k, okT q k)) ?_) | fail); all_goals try (conv => whnf)
    · have hc : clashP (okT p k) (okT q k) := Classical.byContradiction fun hn => h (decide_eq_decide.2 (law (by assumption) (by assumption) hn).1)
      refine Side.mk (decide_eq_true hc) ?_
      repeat' (first | (with_reducible refine Unf.h ?_) | ((conv => whnf); exact rfl) | fail); all_goals try (conv => whnf)
    · have hc : clashP (okT p k) (okT q k) := Classical.byContradiction fun hn => h (congrArg Vector.toList (law (by assumption) (by assumption) hn).2)
      refine Side.mk (decide_eq_true hc) ?_
      repeat' (first | (with_reducible refine Unf.h ?_) | ((conv => whnf); exact rfl) | fail); all_goals try (conv => whnf)
  · have hok : (okT p k).length = 0 := by rw [show okT p k = [] from if_neg hf]; rfl
    rename_i h
    exfalso; omega
end Go.Proofs.YtffaohckcggkdaaDoor

/- MY OWN ENGINE: the variables that the rows of this seat list. -/
namespace Go.Proofs.YtffaohckcggkdaaDoor
set_option linter.all false
open Go.RowKit Go.ChangeShapes Go.WideShapes Go.ChangeAt
theorem Tryd.own : ownKnob Tryd.prog.godebug = none := by kernel_rfl
theorem Tryd.laidOut : laidOutB Tryd.prog = true := by kernel_rfl
def laidL {H : Type} : List (String × DataW H) := [("rolodex/hash.begin", Rows.laid_rolodex_hash_begin), ("rolodex/hash.rounds", Rows.laid_rolodex_hash_rounds)]
theorem gBegin : Tryd.prog.globalNamed "rolodex/hash.begin" = some 0 := by kernel_rfl
theorem gRounds : Tryd.prog.globalNamed "rolodex/hash.rounds" = some 1 := by kernel_rfl
theorem tBegin : (Tryd.prog.globals[0]?).map (·.type) = some 135 := by kernel_rfl
theorem tRounds : (Tryd.prog.globals[1]?).map (·.type) = some 138 := by kernel_rfl
theorem dBegin : (Rows.laid_rolodex_hash_begin : DataW Unit) = .agg (gv0.toList.map fun b => .lit (.int .u32 (b.toNat : Int))) := by kernel_rfl
theorem dRounds : (Rows.laid_rolodex_hash_rounds : DataW Unit) = .agg (gv1.toList.map fun b => .lit (.int .u32 (b.toNat : Int))) := by kernel_rfl
theorem glob_of_laid {W : World} (h : laidMetH Tryd.prog laidL W) : Glob Tryd.prog W none0 := by
  rw [MakeChecks.laidMetH_plain _ _ _ (by kernel_rfl)] at h
  obtain ⟨ps, ⟨g0, t0, cs0, f0, p0, q0, hg0, ht0, hv0, hd0, ⟨g1, t1, cs1, f1, p1, q1, hg1, ht1, hv1, hd1, _, _⟩, _⟩, _, _⟩ := h
  obtain rfl := Option.some.inj (gBegin.symm.trans hg0)
  obtain rfl := Option.some.inj (gRounds.symm.trans hg1)
  obtain rfl := Option.some.inj (tBegin.symm.trans ht0)
  obtain rfl := Option.some.inj (tRounds.symm.trans ht1)
  rw [dBegin] at hd0
  rw [dRounds] at hd1
  intro g ps hm
  have hm' : (g, ps) = (0, [SV.arr32 gv0]) ∨ (g, ps) = (1, [SV.arr32 gv1]) := by
    have e : TabC.gl Tryd.prog = [(0, [SV.arr32 gv0]), (1, [SV.arr32 gv1])] := rfl
    rw [e] at hm
    simpa using hm
  rcases hm' with e | e
  · cases e
    exact glob_arr32 (i := ⟨.ar 8 110, 8, 32⟩) (j := ⟨.int .u32, 1, 4⟩) hg0 hv0 rfl rfl rfl rfl rfl rfl hd0
  · cases e
    exact glob_arr32 (i := ⟨.ar 64 110, 64, 256⟩) (j := ⟨.int .u32, 1, 4⟩) hg1 hv1 rfl rfl rfl rfl rfl rfl hd1
theorem door_met (os : Os) (args : Array Value) : laidMetH Tryd.prog laidL ((World.doorLaid Tryd.prog 400 os).forCall (fun _ _ => 0) ⟨#[], args, []⟩).memory :=
  laidMetH_of_parts3 (fuel := 8) (laidMet_of_run' 8 (by kernel_rfl) (by kernel_rfl)) (by kernel_rfl) (by kernel_rfl)
/-! what the arguments are -/
section
variable {H : Type} {enc : TypeId × Value → H} {W : World} {spare : Nat → Bool} {held : Bool}
theorem o_hash : Opens Tryd.prog enc W spare held 25 (fun v : H256 => [.arr8 v]) := o_arr8 (i := ⟨.ar 32 5, 32, 32⟩) (j := ⟨.int .u8, 1, 1⟩) rfl rfl rfl rfl rfl rfl
theorem o_int : Opens Tryd.prog enc W spare held 3 (fun n : Int => [.int .i64 n]) := o_i64 (i := ⟨.int .i64, 1, 8⟩) rfl rfl
theorem o_boolT : Opens Tryd.prog enc W spare held 4 (fun b : Bool => [.bool b]) := o_bool (i := ⟨.bool, 1, 1⟩) rfl rfl
theorem o_pfx : Opens Tryd.prog enc W spare held 27 ePfx :=
  (o_struct (i := ⟨.st [(0, 3), (1, 25)], 33, 40⟩) rfl rfl (o_field (off := 0) (off2 := 1) (j := ⟨.int .i64, 1, 8⟩) rfl o_int (fun _ => rfl) rfl (o_last (j := ⟨.ar 32 5, 32, 32⟩) rfl o_hash (fun _ => rfl))) (fun _ => rfl) (by kernel_rfl)).map (fun p => (⟨p.1, p.2⟩ : Pfx)) (fun _ => rfl)
theorem o_node : Opens Tryd.prog enc W spare held 51 eNd :=
  (o_struct (i := ⟨.st [(0, 4), (1, 25), (33, 25), (65, 27), (98, 3), (99, 3), (100, 25)], 132, 160⟩) rfl rfl
    (o_field (off := 0) (off2 := 1) (j := ⟨.bool, 1, 1⟩) rfl o_boolT (fun _ => rfl) rfl
    (o_field (off := 1) (off2 := 33) (j := ⟨.ar 32 5, 32, 32⟩) rfl o_hash (fun _ => rfl) rfl
    (o_field (off := 33) (off2 := 65) (j := ⟨.ar 32 5, 32, 32⟩) rfl o_hash (fun _ => rfl) rfl
    (o_field (off := 65) (off2 := 98) (j := ⟨.st [(0, 3), (1, 25)], 33, 40⟩) rfl o_pfx (fun _ => rfl) rfl
    (o_field (off := 98) (off2 := 99) (j := ⟨.int .i64, 1, 8⟩) rfl o_int (fun _ => rfl) rfl
    (o_field (off := 99) (off2 := 100) (j := ⟨.int .i64, 1, 8⟩) rfl o_int (fun _ => rfl) rfl
    (o_last (j := ⟨.ar 32 5, 32, 32⟩) rfl o_hash (fun _ => rfl)))))))) (fun _ => rfl) (by kernel_rfl)).map (fun p => (⟨p.1, p.2.1, p.2.2.1, p.2.2.2.1.len, p.2.2.2.1.bits, p.2.2.2.2.1, p.2.2.2.2.2.1, p.2.2.2.2.2.2⟩ : Nd)) (fun _ => rfl)
end
end Go.Proofs.YtffaohckcggkdaaDoor

namespace Go.Proofs.YtffaohckcggkdaaDoor
set_option linter.all false
open Go.RowKit Go.ChangeShapes Go.WideShapes Go.ChangeAt
section
variable {H : Type} {enc : TypeId × Value → H} {W : World} {spare : Nat → Bool} {held : Bool}
theorem o_pair : Opens Tryd.prog enc W spare held 56 eKV :=
  (o_struct (i := ⟨.st [(0, 25), (32, 25)], 64, 64⟩) rfl rfl
    (o_field (off := 0) (off2 := 32) (j := ⟨.ar 32 5, 32, 32⟩) rfl o_hash (fun _ => rfl) rfl
    (o_last (j := ⟨.ar 32 5, 32, 32⟩) rfl o_hash (fun _ => rfl))) (fun _ => rfl) (by kernel_rfl)).map (fun p => ((p.1, p.2) : KV)) (fun _ => rfl)
theorem o_pairs : Opens Tryd.prog enc W spare held 22 (fun l : List KV => [.fs 64 eKV l]) :=
  o_slice (i := ⟨.sl 56, 1, 24⟩) (j := ⟨.st [(0, 25), (32, 25)], 64, 64⟩) rfl rfl rfl rfl rfl o_pair (fun _ => rfl)
end
end Go.Proofs.YtffaohckcggkdaaDoor

namespace Go.Proofs.YtffaohckcggkdaaDoor
set_option linter.all false
open Go.RowKit Go.ChangeShapes Go.WideShapes Go.ChangeAt
section
variable {H : Type} {enc : TypeId × Value → H} {W : World} {spare : Nat → Bool} {held : Bool}
theorem o_two : Opens Tryd.prog enc W spare held 90 (fun t : Int × Int => [.int .i64 t.1, .int .i64 t.2]) := fun fuel cs x hx => by
  obtain ⟨xs, m, _, hx1, hlen, hxl, hel⟩ := DataW.trod_array (ty_array (i := ⟨.ar 2 3, 2, 16⟩) rfl rfl) hx
  rw [ty_cells (i := ⟨.ar 2 3, 2, 16⟩) rfl] at hlen
  have e0 := hel 0 (by decide)
  have e1 := hel 1 (by decide)
  rw [ty_cells (t := 3) (i := ⟨.int .i64, 1, 8⟩) rfl, List.getElem?_eq_getElem (by omega)] at e0 e1
  obtain ⟨a, ha⟩ := o_int _ _ _ e0
  obtain ⟨b, hb⟩ := o_int _ _ _ e1
  refine ⟨(a, b), ?_⟩
  have hlen2 : cs.length = 2 := hlen
  clear hx hel hx1 hlen e0 e1
  have e : cs = (cs.drop (0 * 1)).take 1 ++ (cs.drop (1 * 1)).take 1 := by
    rcases cs with _ | ⟨c, _ | ⟨d, _ | ⟨f, r⟩⟩⟩
    · simp at hlen2
    · simp at hlen2
    · rfl
    · simp at hlen2
  rw [e]
  exact hL_app (x := [.int .i64 a]) (y := [.int .i64 b]) ha hb
theorem o_step : Opens Tryd.prog enc W spare held 101 eStp :=
  (o_struct (i := ⟨.st [(0, 27), (33, 25)], 65, 72⟩) rfl rfl
    (o_field (off := 0) (off2 := 33) (j := ⟨.st [(0, 3), (1, 25)], 33, 40⟩) rfl o_pfx (fun _ => rfl) rfl
    (o_last (j := ⟨.ar 32 5, 32, 32⟩) rfl o_hash (fun _ => rfl))) (fun _ => rfl) (by kernel_rfl)).map (fun p => (⟨p.1.len, p.1.bits, p.2⟩ : Stp)) (fun _ => rfl)
theorem o_steps : Opens Tryd.prog enc W spare held 23 (fun l : List Stp => [.fs 65 eStp l]) :=
  o_slice (i := ⟨.sl 101, 1, 24⟩) (j := ⟨.st [(0, 27), (33, 25)], 65, 72⟩) rfl rfl rfl rfl rfl o_step (fun _ => rfl)
theorem o_proof : Opens Tryd.prog enc W spare held 29 ePrf :=
  (o_struct (i := ⟨.st [(0, 23), (1, 3), (2, 25), (34, 25), (66, 27), (99, 25), (131, 25)], 163, 200⟩) rfl rfl
    (o_field (off := 0) (off2 := 1) (j := ⟨.sl 101, 1, 24⟩) rfl o_steps (fun _ => rfl) rfl
    (o_field (off := 1) (off2 := 2) (j := ⟨.int .i64, 1, 8⟩) rfl o_int (fun _ => rfl) rfl
    (o_field (off := 2) (off2 := 34) (j := ⟨.ar 32 5, 32, 32⟩) rfl o_hash (fun _ => rfl) rfl
    (o_field (off := 34) (off2 := 66) (j := ⟨.ar 32 5, 32, 32⟩) rfl o_hash (fun _ => rfl) rfl
    (o_field (off := 66) (off2 := 99) (j := ⟨.st [(0, 3), (1, 25)], 33, 40⟩) rfl o_pfx (fun _ => rfl) rfl
    (o_field (off := 99) (off2 := 131) (j := ⟨.ar 32 5, 32, 32⟩) rfl o_hash (fun _ => rfl) rfl
    (o_last (j := ⟨.ar 32 5, 32, 32⟩) rfl o_hash (fun _ => rfl)))))))) (fun _ => rfl) (by kernel_rfl)).map (fun p => (⟨p.1, p.2.1, p.2.2.1, p.2.2.2.1, p.2.2.2.2.1.len, p.2.2.2.2.1.bits, p.2.2.2.2.2.1, p.2.2.2.2.2.2⟩ : Prf)) (fun _ => rfl)
end
end Go.Proofs.YtffaohckcggkdaaDoor

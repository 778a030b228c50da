import Derived.Test.YtmbkoigeekofdaaDoorZLDNone1
import Derived.Test.YtmbkoigeekofdaaDoorFn
namespace Go.Proofs.YtmbkoigeekofdaaDoor
set_option linter.all false
open Go.RowKit
def closed (l : Fo) : Prop := ∀ i : Int, inF l i → (nd l i).leaf = true ∨ (0 ≤ (nd l i).left ∧ (nd l i).left < i) ∧ (0 ≤ (nd l i).right ∧ (nd l i).right < i)
def isT (l : Fo) (t : Int) : Prop := -1 ≤ t ∧ t < l.length
instance (l : Fo) (t : Int) : Decidable (isT l t) := inferInstanceAs (Decidable (_ ∧ _))
def goes (l : Fo) (k : H256) (t : Int) : Prop := t ≠ -1 ∧ (nd l t).leaf = false ∧ holdsP (nd l t).pfx k
instance (l : Fo) (k : H256) (t : Int) : Decidable (goes l k t) := inferInstanceAs (Decidable (_ ∧ _ ∧ _))
def nxt (l : Fo) (k : H256) (t : Int) : Int := if bitI k (nd l t).plen = 1 then (nd l t).right else (nd l t).left
def path (l : Fo) (k : H256) (t : Int) : List Int × Int := if h : goes l k t ∧ -1 ≤ nxt l k t ∧ nxt l k t < t then (t :: (path l k (nxt l k t)).1, (path l k (nxt l k t)).2) else ([], t)
termination_by (t + 1).toNat
decreasing_by all_goals omega
theorem nxt_ok {l : Fo} {k : H256} {t : Int} (hc : closed l) (ht : isT l t) (hg : goes l k t) : 0 ≤ nxt l k t ∧ nxt l k t < t := by
  rcases hc t ⟨by have := ht.1; have := hg.1; omega, ht.2⟩ with h | h
  · rw [hg.2.1] at h; cases h
  · unfold nxt; split
    · exact h.2
    · exact h.1
theorem path_go {l : Fo} {k : H256} {t : Int} (hc : closed l) (ht : isT l t) (hg : goes l k t) : path l k t = (t :: (path l k (nxt l k t)).1, (path l k (nxt l k t)).2) := by
  have := nxt_ok hc ht hg
  rw [path, dif_pos ⟨hg, by omega, by omega⟩]
theorem path_stop {l : Fo} {k : H256} {t : Int} (hg : ¬ goes l k t) : path l k t = ([], t) := by
  rw [path, dif_neg fun h => hg h.1]
theorem path_len {l : Fo} {k : H256} : ∀ (n : Nat) (t : Int), (t + 1).toNat ≤ n → (path l k t).1.length ≤ (t + 1).toNat
  | n, t, hn => by
    rw [path]
    split
    · rename_i h
      match n with
      | 0 => omega
      | n + 1 =>
        have := path_len (l := l) (k := k) n (nxt l k t) (by omega)
        simp only [List.length_cons]; omega
    · simp
def path_c : Ctr where
  D := Fo × Int × H256
  pre := fun (l, t, _) => l.length ≤ 10000000 ∧ closed l ∧ isT l t
  args := fun (_, t, k) => [.ptr 0 0, .int .i64 t, .agg [.arr8 k]]
  objs := fun (l, _) => fo l
  nn := 2
  res := fun (l, t, k) _ => .tup [.own 2, .int .i64 (path l k t).2]
  out := fun (l, t, k) _ => fo l ++ [(2, .row 3 1 eI (path l k t).1)]
  mm := 1
def path_H : Cfg := ⟨[(56, holds_c), (40, bit_c)], [(2, [6, 10, 17, 21, 22], [23], (.one 0 0 false (.one 1 0 false (.one 2 0 false (.one 3 0 false (.one 4 0 false (.one 5 0 false (.one 6 1 false (.one 7 0 false (.one 8 0 false (.one 9 0 false (.one 10 1 false (.one 11 0 false (.one 12 0 false (.one 13 0 false (.one 14 0 false (.one 15 0 false (.one 16 0 false (.one 17 1 false (.one 18 0 false (.one 19 0 false (.one 20 0 false (.one 21 1 false (.one 22 1 false (.one 23 2 false (.one 24 0 false .nil))))))))))))))))))))))))), [])], [], [], 58, 2, [], [], []⟩
theorem path_ok : path_c.Ok Tryd.prog 37 := by
  refine fn_ok path_H 2 rfl _ Tryd.func37 rfl rfl ⟨holds_ok, bit_ok, trivial⟩ rfl rfl (by kernel_rfl) (fun _ => Nat.le_of_ble_eq_true rfl) ?_
  rintro ⟨l, t, k⟩ hp hr
  try dsimp only [path_c] at hp
  try simp only [path_c, Rng, RngL, inR, and_true, true_and] at hr
  obtain ⟨hlen, hc, ht⟩ := hp
  repeat' (first | (with_reducible refine Unf.h ?_) | fail); all_goals try (conv => whnf)
  refine LoopS.autoN (I := Int × List Int) (fun p => isT l p.1 ∧ p.2.length + (path l k p.1).1.length ≤ 10000001 ∧ p.2 ++ (path l k p.1).1 = (path l k t).1 ∧ (path l k p.1).2 = (path l k t).2) (fun p => [(1, .int .i64 p.1), (8, .own 3)]) (fun p => [(2, .box 32 [.arr8 k]), (0, .box 71 [.own 1]), (1, .row 40 132 eNd l), (3, .row 3 1 eI p.2)]) 4 (fun p => (p.1 + 1).toNat) (t, []) ⟨ht, ?_, rfl, rfl⟩ ?_ ?_
  · have := path_len (l := l) (k := k) _ t (Nat.le_refl _)
    have := ht.2
    simp only [List.length_nil]; omega
  · repeat' (first | (with_reducible refine Unf.h ?_) | ((conv => whnf); first | (refine Side.mk ?_ ?_; focus (with_reducible rfl)) | (with_reducible refine Unf.h ?_) | exact True.intro) | fail); all_goals try (conv => whnf)
  · intro p hq
    obtain ⟨hp1, hpl, hp2, hp3⟩ := hq
    have hp0 := hp1.1
    have hpn := hp1.2
    repeat' (first | (with_reducible refine Unf.h ?_) | ((conv => whnf); first | refine Fork.mkn (fun h => ?_) (fun h => ?_) | (refine Side.mk ?_ ?_; focus (omega)) | (refine Idx.mk ?_ ?_; focus (omega)) | refine RetE.mk () trivial ?_ | refine retK_r ?_) | fail); all_goals try (conv => whnf)
    · have hin : p.1.toNat < l.length := by omega
      have en := nd_get l p.1 (by omega) hin
      cases hb : (l[p.1.toNat]'hin).leaf
      · rw [en] at hb
        repeat' (first | (with_reducible refine Unf.h ?_) | ((conv => whnf); first | refine Fork.mk (fun h => ?_) (fun h => ?_) | (refine Side.mk ?_ ?_; focus (first | with_reducible rfl | exact True.intro | omega | (intros; (try simp only [lenS, inR, cutS, loI, hiI, en, Nd.pfx] at *); omega) | (simp only [*, en, Nd.pfx]; done))) | (refine Idx.mk ?_ ?_; focus (omega)) | refine RetE.mk () trivial ?_ | refine Got.mk (fun _ _ => ?_) | refine Ex.mk [_] rfl ?_ | (with_reducible refine Unf.h ?_) | refine retK_r ?_ | refine CallS.mk (c := holds_c) (((nd l p.1).pfx, k)) ?_) | fail); all_goals try (conv => whnf)
        · have hg : goes l k p.1 := ⟨by assumption, hb, h⟩
          have hx := nxt_ok hc hp1 hg
          have hgo := path_go hc hp1 hg
          rw [hgo] at hp2 hp3 hpl
          simp only [List.length_cons] at hpl
          have hnew : (nxt l k p.1 + 1).toNat < (p.1 + 1).toNat ∧ isT l (nxt l k p.1) ∧ (p.2 ++ [p.1]).length + (path l k (nxt l k p.1)).1.length ≤ 10000001 ∧ (p.2 ++ [p.1]) ++ (path l k (nxt l k p.1)).1 = (path l k t).1 ∧ (path l k (nxt l k p.1)).2 = (path l k t).2 :=
            ⟨by omega, ⟨by omega, by omega⟩, by simp only [List.length_append, List.length_cons, List.length_nil]; omega, by rw [← hp2]; simp, hp3⟩
          refine CallS.mk (c := bit_c) ((k, (nd l p.1).plen)) ?_
          repeat' (first | (with_reducible first | refine Unf.h ?_ | refine loopK_n ?_) | ((conv => whnf); first | refine Fork.mk (fun h => ?_) (fun h => ?_) | (refine Side.mk ?_ ?_; focus (first | with_reducible rfl | exact True.intro | (simp only [*, en]; done))) | refine Got.mk (fun _ _ => ?_)) | fail); all_goals try (conv => whnf)
          · have hn : nxt l k p.1 = (nd l p.1).right := if_pos h
            refine ⟨(nxt l k p.1, p.2 ++ [p.1]), hnew, ?_⟩
            repeat' (first | (with_reducible refine Unf.h ?_) | ((conv => whnf); first | (refine Side.mk ?_ ?_; focus (first | with_reducible rfl | (simp only [*, hn, en]; done))) | (with_reducible refine Unf.h ?_) | exact True.intro) | fail); all_goals try (conv => whnf)
          · have hn : nxt l k p.1 = (nd l p.1).left := if_neg h
            refine ⟨(nxt l k p.1, p.2 ++ [p.1]), hnew, ?_⟩
            repeat' (first | (with_reducible refine Unf.h ?_) | ((conv => whnf); first | (refine Side.mk ?_ ?_; focus (first | with_reducible rfl | (simp only [*, hn, en]; done))) | (with_reducible refine Unf.h ?_) | exact True.intro) | fail); all_goals try (conv => whnf)
        · have hg : ¬ goes l k p.1 := fun h' => h h'.2.2
          rw [path_stop hg] at hp2 hp3
          simp only [List.append_nil] at hp2
          repeat' (first | (with_reducible refine Unf.h ?_) | ((conv => whnf); first | (refine Side.mk ?_ ?_; focus (first | with_reducible rfl | (refine congrArg (SV.int _) ?_; omega) | (simp only [*, hp2, hp3]; done))) | exact rfl) | fail); all_goals try (conv => whnf)
      · rw [en] at hb
        have hg : ¬ goes l k p.1 := fun h' => by rw [h'.2.1] at hb; cases hb
        rw [path_stop hg] at hp2 hp3
        simp only [List.append_nil] at hp2
        repeat' (first | (with_reducible refine Unf.h ?_) | ((conv => whnf); first | (refine Side.mk ?_ ?_; focus (first | with_reducible rfl | (refine congrArg (SV.int _) ?_; omega) | (simp only [*, hp2, hp3]; done))) | refine RetE.mk () trivial ?_ | (with_reducible refine Unf.h ?_) | refine retK_r ?_ | exact rfl) | fail); all_goals try (conv => whnf)
    · have hg : ¬ goes l k p.1 := fun h' => h'.1 h
      rw [path_stop hg] at hp2 hp3
      simp only [List.append_nil] at hp2
      clear h
      repeat' (first | (with_reducible refine Unf.h ?_) | ((conv => whnf); first | (refine Side.mk ?_ ?_; focus (first | with_reducible rfl | (refine congrArg (SV.int _) ?_; omega) | (simp only [*, hp2, hp3]; done))) | exact rfl) | fail); all_goals try (conv => whnf)
end Go.Proofs.YtmbkoigeekofdaaDoor

namespace Go.Proofs.YtmbkoigeekofdaaDoor
set_option linter.all false
open Go.RowKit
/-- the node over two that meet nowhere -/
def joinN (l : Fo) (a b : Int) : Nd :=
  let m := meetP (nd l a).cover (nd l b).cover
  if bitI (nd l a).cover.bits m.len = 1 then ⟨false, zeroH, zeroH, m.len, m.bits, b, a, zeroH⟩ else ⟨false, zeroH, zeroH, m.len, m.bits, a, b, zeroH⟩
def join_c : Ctr where
  D := Fo × Int × Int
  pre := fun (l, a, b) => l.length ≤ 10000000 ∧ inF l a ∧ inF l b
  args := fun (_, a, b) => [.ptr 0 0, .int .i64 a, .int .i64 b]
  objs := fun (l, _) => fo l
  nn := 2
  res := fun (l, _) _ => .int .i64 l.length
  out := fun (l, a, b) _ => [(0, .box 71 [.own 2]), (2, .row 40 132 eNd (l ++ [mk l (joinN l a b)]))]
  mm := 1
def join_H : Cfg := ⟨[(58, cover_c), (59, meet_c), (40, bit_c), (38, add_c)], [(1, [3, 6, 11, 14], [7, 15, 16, 17, 18, 19], (.one 0 0 false (.one 1 0 false (.one 2 0 false (.one 3 1 false (.one 4 0 false (.one 5 0 false (.one 6 1 false (.one 8 0 false (.one 9 0 false (.one 10 0 false (.one 11 1 false (.one 12 0 false (.one 13 0 false (.one 14 1 false (.alt 7 true (.alt 15 true (.alt 16 true (.one 17 2 true (.one 18 2 false (.one 19 2 false .nil))) (.one 17 2 true (.one 16 2 true (.one 18 2 false (.one 19 2 false .nil))))) (.alt 16 true (.alt 15 true (.one 17 2 true (.one 18 2 false (.one 19 2 false .nil))) (.one 17 2 true (.one 15 2 false (.one 18 2 false (.one 19 2 false .nil))))) (.one 17 2 true (.alt 15 true (.one 16 2 true (.one 18 2 false (.one 19 2 false .nil))) (.one 16 2 true (.one 15 2 false (.one 18 2 false (.one 19 2 false .nil)))))))) (.alt 16 true (.alt 7 true (.alt 15 true (.one 17 2 true (.one 18 2 false (.one 19 2 false .nil))) (.one 17 2 true (.one 15 2 false (.one 18 2 false (.one 19 2 false .nil))))) (.one 17 2 true (.one 7 2 true (.one 15 2 false (.one 18 2 false (.one 19 2 false .nil)))))) (.one 17 2 true (.alt 7 true (.alt 15 true (.one 16 2 true (.one 18 2 false (.one 19 2 false .nil))) (.one 16 2 true (.one 15 2 false (.one 18 2 false (.one 19 2 false .nil))))) (.one 16 2 true (.one 7 2 true (.one 15 2 false (.one 18 2 false (.one 19 2 false .nil))))))))))))))))))))))), [])], [], [], 43, 2, [], [1], []⟩
theorem join_ok : join_c.Ok Tryd.prog 39 := by
  refine fn_ok join_H 2 rfl _ Tryd.func39 rfl rfl ⟨cover_ok, meet_ok, bit_ok, add_ok, trivial⟩ rfl rfl (by kernel_rfl) (fun _ => Nat.le_of_ble_eq_true rfl) ?_
  rintro ⟨l, a, b⟩ hp hr
  try dsimp only [join_c] at hp
  try simp only [join_c, Rng, RngL, inR, and_true, true_and] at hr
  obtain ⟨hlen, ⟨ha0, ha1⟩, hb0, hb1⟩ := hp
  have ea := nd_get l a ha0 (by omega)
  have eb := nd_get l b hb0 (by omega)
  repeat' (first | (with_reducible refine Unf.h ?_) | fail); all_goals try (conv => whnf)
  refine CutS.auto (I := Unit) (fun _ => True) (fun _ => [(7, .ptr 2 0), (8, .ptr 3 0)]) (fun _ => [(0, .box 71 [.own 1]), (1, .row 40 132 eNd l), (2, .box 36 (ePfx (nd l a).cover)), (3, .box 36 (ePfx (nd l b).cover))]) 4 ?_ ?_
  · repeat' (first | (with_reducible refine Unf.h ?_) | ((conv => whnf); first | refine Both.mk ?_ ?_ | (refine Side.mk ?_ ?_; focus (omega)) | (refine Idx.mk ?_ ?_; focus (omega))) | fail); all_goals try (conv => whnf)
    all_goals refine CallS.mk (c := cover_c) ((nd l a)) ?_
    all_goals (repeat' (first | (with_reducible refine Unf.h ?_) | ((conv => whnf); first | refine Both.mk ?_ ?_ | (refine Side.mk ?_ ?_; focus (first | exact True.intro | (simp only [*, ea]; done))) | refine Got.mk (fun _ _ => ?_)) | fail); all_goals try (conv => whnf))
    all_goals refine CallS.mk (c := cover_c) ((nd l b)) ?_
    all_goals (repeat' (first | (with_reducible first | refine Unf.h ?_ | refine cutK_n ?_) | ((conv => whnf); first | refine Both.mk ?_ ?_ | (refine Side.mk ?_ ?_; focus (first | exact True.intro | (simp only [*, eb]; done))) | refine Got.mk (fun _ _ => ?_)) | fail); all_goals try (conv => whnf))
    all_goals (refine ⟨(), trivial, ?_⟩)
    all_goals (repeat' (first | (with_reducible refine Unf.h ?_) | ((conv => whnf); first | (refine Side.mk ?_ ?_; focus (with_reducible rfl)) | (with_reducible refine Unf.h ?_) | exact True.intro) | fail); all_goals try (conv => whnf))
  · intro _ _
    repeat' (first | (with_reducible refine Unf.h ?_) | ((conv => whnf); first | refine Fork.mk (fun h => ?_) (fun h => ?_) | (refine Side.mk ?_ ?_; focus (first | with_reducible rfl | exact True.intro)) | refine Got.mk (fun _ _ => ?_) | refine CallS.mk (c := meet_c) (((nd l a).cover, (nd l b).cover)) ?_ | refine CallS.mk (c := bit_c) (((nd l a).cover.bits, (meetP (nd l a).cover (nd l b).cover).len)) ?_) | fail); all_goals try (conv => whnf)
    · have hj : joinN l a b = ⟨false, zeroH, zeroH, (meetP (nd l a).cover (nd l b).cover).len, (meetP (nd l a).cover (nd l b).cover).bits, b, a, zeroH⟩ := if_pos h
      have hadd : addable l (joinN l a b) := .inr (by rw [hj]; exact ⟨⟨hb0, hb1⟩, ha0, ha1⟩)
      refine CallS.mk (c := add_c) ((l, joinN l a b)) ?_
      repeat' (first | (with_reducible refine Unf.h ?_) | ((conv => whnf); first | (refine Side.mk ?_ ?_; focus (first | with_reducible rfl | (refine congrArg (SV.int _) ?_; omega) | (simp only [*, hj]; done) | (dsimp only [resS, join_c, add_c]; (refine ⟨?_, ?_⟩; all_goals (repeat' apply And.intro); all_goals first | omega | assumption | (simp only [lenS, inR, cutS, loI, hiI, hj]; omega) | (simp; done) | (simp only [*, hj]; done) | (simp only [*, hj, List.map_cons, List.map_nil, eB]; done) | (simp [*, hj]; done))))) | refine RetE.mk () trivial ?_ | refine Got.mk (fun _ _ => ?_) | refine retK_r ?_ | exact rfl) | fail); all_goals try (conv => whnf)
    · have hj : joinN l a b = ⟨false, zeroH, zeroH, (meetP (nd l a).cover (nd l b).cover).len, (meetP (nd l a).cover (nd l b).cover).bits, a, b, zeroH⟩ := if_neg h
      have hadd : addable l (joinN l a b) := .inr (by rw [hj]; exact ⟨⟨ha0, ha1⟩, hb0, hb1⟩)
      refine CallS.mk (c := add_c) ((l, joinN l a b)) ?_
      repeat' (first | (with_reducible refine Unf.h ?_) | ((conv => whnf); first | (refine Side.mk ?_ ?_; focus (first | with_reducible rfl | (refine congrArg (SV.int _) ?_; omega) | (simp only [*, hj]; done) | (dsimp only [resS, join_c, add_c]; (refine ⟨?_, ?_⟩; all_goals (repeat' apply And.intro); all_goals first | omega | assumption | (simp only [lenS, inR, cutS, loI, hiI, hj]; omega) | (simp; done) | (simp only [*, hj]; done) | (simp only [*, hj, List.map_cons, List.map_nil, eB]; done) | (simp [*, hj]; done))))) | refine RetE.mk () trivial ?_ | refine Got.mk (fun _ _ => ?_) | refine retK_r ?_ | exact rfl) | fail); all_goals try (conv => whnf)
end Go.Proofs.YtmbkoigeekofdaaDoor

namespace Go.Proofs.YtmbkoigeekofdaaDoor
set_option linter.all false
open Go.RowKit
/-! a key put -/
abbrev leafN (k v : H256) : Nd := ⟨true, k, v, 0, zeroH, 0, 0, zeroH⟩
def turnN (k : H256) (n : Nd) (m : Int) : Nd := if bitI k n.plen = 1 then ⟨n.leaf, n.key, n.value, n.plen, n.bits, n.left, m, n.hash⟩ else ⟨n.leaf, n.key, n.value, n.plen, n.bits, m, n.right, n.hash⟩
def upS (k : H256) (a : Int) (s : Fo × Int) : Fo × Int := (s.1 ++ [mk s.1 (turnN k (nd s.1 a) s.2)], s.1.length)
def upF (k : H256) : List Int → Fo × Int → Fo × Int
  | [], s => s
  | a :: r, s => upS k a (upF k r s)
def meets (l : Fo) (k : H256) (e : Int) : Prop := e ≠ -1 ∧ ¬ ((nd l e).leaf = true ∧ (nd l e).key = k)
instance (l : Fo) (k : H256) (e : Int) : Decidable (meets l k e) := inferInstanceAs (Decidable (_ ∧ ¬ (_ ∧ _)))
def startF (l : Fo) (k v : H256) (e : Int) : Fo × Int :=
  let l1 := l ++ [mk l (leafN k v)]
  if meets l k e then (l1 ++ [mk l1 (joinN l1 e l.length)], l1.length) else (l1, l.length)
def putF (l : Fo) (t : Int) (k v : H256) : Fo × Int := upF k (path l k t).1 (startF l k v (path l k t).2)
theorem path_mem {l : Fo} {k : H256} (hc : closed l) : ∀ (n : Nat) (t : Int), (t + 1).toNat ≤ n → isT l t → (∀ a ∈ (path l k t).1, inF l a ∧ (nd l a).leaf = false) ∧ isT l (path l k t).2
  | n, t, hn, ht => by
    by_cases hg : goes l k t
    · have hx := nxt_ok hc ht hg
      rw [path_go hc ht hg]
      match n with
      | 0 => have := ht.1; omega
      | n + 1 =>
        have ih := path_mem (k := k) hc n (nxt l k t) (by omega) ⟨by omega, by have := ht.2; omega⟩
        refine ⟨fun a ha => ?_, ih.2⟩
        rcases List.mem_cons.1 ha with rfl | ha
        · exact ⟨⟨by have := ht.1; have := hg.1; omega, ht.2⟩, hg.2.1⟩
        · exact ih.1 a ha
    · rw [path_stop hg]; exact ⟨fun a ha => (by cases ha), ht⟩
theorem startF_ok {l : Fo} {k v : H256} {e : Int} : ∃ m, (startF l k v e).1 = l ++ m ∧ 1 ≤ m.length ∧ m.length ≤ 2 ∧ (startF l k v e).2 = l.length + m.length - 1 := by
  unfold startF
  simp only
  split
  · exact ⟨_, List.append_assoc _ _ _, by simp, by simp, by simp; omega⟩
  · exact ⟨_, rfl, by simp, by simp, by simp⟩
theorem upF_ok {l : Fo} {k : H256} {s : Fo × Int} (h : ∃ m, s.1 = l ++ m ∧ 1 ≤ m.length ∧ s.2 = l.length + m.length - 1) : ∀ r : List Int, ∃ m, (upF k r s).1 = l ++ m ∧ 1 ≤ m.length ∧ (upF k r s).2 = l.length + m.length - 1 ∧ (upF k r s).1.length = s.1.length + r.length
  | [] => by obtain ⟨m, h1, h2, h3⟩ := h; exact ⟨m, h1, h2, h3, rfl⟩
  | a :: r => by
    obtain ⟨m, h1, h2, h3, h4⟩ := upF_ok h r
    refine ⟨m ++ [mk (upF k r s).1 (turnN k (nd (upF k r s).1 a) (upF k r s).2)], ?_, by simp, ?_, ?_⟩
    · show (upF k r s).1 ++ _ = _
      conv => lhs; rw [h1]
      rw [List.append_assoc, h1]
    · show ((upF k r s).1.length : Int) = _
      rw [h1]; simp; omega
    · show ((upF k r s).1 ++ _).length = _
      simp only [List.length_append, List.length_cons, List.length_nil]; omega
def put_c : Ctr where
  D := Fo × Int × H256 × H256
  pre := fun (l, t, _, _) => l.length ≤ 400000 ∧ closed l ∧ isT l t
  args := fun (_, t, k, v) => [.ptr 0 0, .int .i64 t, .agg [.arr8 k], .agg [.arr8 v]]
  objs := fun (l, _) => fo l
  nn := 2
  res := fun (l, t, k, v) _ => .tup [.int .i64 (putF l t k v).2, .int .i64 0]
  out := fun (l, t, k, v) _ => [(0, .box 71 [.own 2]), (2, .row 40 132 eNd (putF l t k v).1)]
  mm := 1
def put_H : Cfg := ⟨[(25, is_c), (37, path_c), (38, add_c), (39, join_c), (40, bit_c)], [(7, [6, 10, 15, 19, 20], [], (.one 0 0 false (.one 1 0 false (.one 2 0 false (.one 3 0 false (.one 4 0 false (.one 5 0 false (.one 6 1 false (.one 7 0 false (.one 8 0 false (.one 9 0 false (.one 10 1 false (.one 11 0 false (.one 12 0 false (.one 13 0 false (.one 14 0 false (.one 15 1 false (.one 16 0 false (.one 17 0 false (.one 18 0 false (.one 19 1 false (.one 20 1 false (.one 21 0 false (.one 22 0 false (.one 23 0 false (.one 24 0 false .nil))))))))))))))))))))))))), []), (12, [3, 7, 9], [10, 11], (.one 0 0 false (.one 1 0 false (.one 2 0 false (.one 3 1 false (.one 4 0 false (.one 5 0 false (.one 6 0 false (.one 7 1 false (.one 8 0 false (.one 9 1 false (.one 10 2 true (.one 11 2 false .nil)))))))))))), [])], [65], [], 101, 2, [], [7], []⟩
theorem put_ok : put_c.Ok Tryd.prog 20 := by
  refine fn_ok put_H 2 rfl _ Tryd.func20 rfl rfl ⟨is_ok, path_ok, add_ok, join_ok, bit_ok, trivial⟩ rfl rfl (by kernel_rfl) (fun _ => Nat.le_of_ble_eq_true rfl) ?_
  rintro ⟨l, t, k, v⟩ hp hr
  try dsimp only [put_c] at hp
  try simp only [put_c, Rng, RngL, inR, and_true, true_and] at hr
  obtain ⟨hlen, hc, ht⟩ := hp
  have hpl := path_len (l := l) (k := k) _ t (Nat.le_refl _)
  have ht1 := ht.1
  have ht2 := ht.2
  obtain ⟨hpm, hpe⟩ := path_mem (k := k) hc _ t (Nat.le_refl _) ht
  have hl1 : addable l (leafN k v) := .inl rfl
  have hpre1 : path_c.pre (l, t, k) := ⟨by omega, hc, ht⟩
  have hpre2 : add_c.pre (l, leafN k v) := ⟨by omega, hl1⟩
  repeat' (first | (with_reducible refine Unf.h ?_) | ((conv => whnf); first | refine Fork.mkn (fun h => ?_) (fun h => ?_) | refine Fork.mk (fun h => ?_) (fun h => ?_) | (refine Side.mk ?_ ?_; focus (first | with_reducible rfl | exact True.intro | assumption | omega | (intros; (try simp only [lenS, inR, cutS, loI, hiI] at *); omega))) | refine RetE.mk () trivial ?_ | refine Got.mk (fun _ _ => ?_) | refine retK_r ?_ | exact rfl | refine CallS.mk (c := is_c) ((l, t)) ?_ | refine CallS.mk (c := path_c) ((l, t, k)) ?_ | refine CallS.mk (c := add_c) ((l, leafN k v)) ?_) | fail); all_goals try (conv => whnf)
  rename_i hfull _ _
  generalize hA : (path l k t).1 = A at *
  generalize he : (path l k t).2 = e at *
  clear h
  have hml : (l ++ [mk l (leafN k v)]).length = l.length + 1 := by simp
  have hl1e : startF l k v e = if meets l k e then ((l ++ [mk l (leafN k v)]) ++ [mk (l ++ [mk l (leafN k v)]) (joinN (l ++ [mk l (leafN k v)]) e l.length)], ((l ++ [mk l (leafN k v)]).length : Int)) else (l ++ [mk l (leafN k v)], (l.length : Int)) := rfl
  have hpe1 := hpe.1
  have hpe2 := hpe.2
  generalize hl1d : l ++ [mk l (leafN k v)] = l1 at *
  have hnd : ∀ i : Int, i < l.length → nd l1 i = nd l i := fun i hi => by rw [← hl1d]; exact nd_app _ _ _ hi
  refine CutS.auto (I := Unit) (fun _ => True) (fun _ => [(12, .int .i64 (startF l k v e).2), (10, .own 5)]) (fun _ => [(0, .box 71 [.own 4]), (4, .row 40 132 eNd (startF l k v e).1), (2, .box 32 [.arr8 k]), (3, .box 32 [.arr8 v]), (5, .row 3 1 eI A)]) 6 ?_ ?_
  · repeat' (first | (with_reducible refine Unf.h ?_) | fail); all_goals try (conv => whnf)
    refine CutS.auto (I := Unit) (fun _ => True) (fun _ => [(65, .dec (meets l k e) inferInstance), (10, .own 5)]) (fun _ => [(0, .box 71 [.own 4]), (4, .row 40 132 eNd l1), (2, .box 32 [.arr8 k]), (3, .box 32 [.arr8 v]), (5, .row 3 1 eI A)]) 6 ?_ ?_
    · repeat' (first | (with_reducible first | refine Unf.h ?_ | refine cutK_n ?_) | ((conv => whnf); first | refine Fork.mkn (fun h => ?_) (fun h => ?_) | (refine Side.mk ?_ ?_; focus (omega)) | (refine Idx.mk ?_ ?_; focus (omega))) | fail); all_goals try (conv => whnf)
      · have hin : e.toNat < l1.length := by omega
        have en : l1[e.toNat]'hin = nd l e := by rw [nd_get _ e (by omega) hin, hnd _ hpe2]
        cases hb : (l1[e.toNat]'hin).leaf
        · rw [en] at hb
          have hm : meets l k e := ⟨by assumption, fun h' => by rw [h'.1] at hb; cases hb⟩
          repeat' (first | (with_reducible first | refine Unf.h ?_ | refine cutK_n ?_) | ((conv => whnf); (with_reducible refine Unf.h ?_)) | fail); all_goals try (conv => whnf)
          refine ⟨(), trivial, ?_⟩
          repeat' (first | (with_reducible refine Unf.h ?_) | ((conv => whnf); first | (refine Side.mk ?_ ?_; focus (first | with_reducible rfl | (refine ⟨fun h => ?_, fun h => ?_⟩ <;> first | rfl | (cases h; done) | omega | (exfalso; omega) | (simp only [Bool.false_eq_true] at h; done)))) | (with_reducible refine Unf.h ?_) | exact True.intro) | fail); all_goals try (conv => whnf)
        · rw [en] at hb
          have hm : (¬ (nd l e).key.toList = k.toList) ↔ meets l k e := ⟨fun h' => ⟨by assumption, fun hh => h' (by rw [hh.2])⟩, fun h' hk => h'.2 ⟨hb, Vector.toList_inj.1 hk⟩⟩
          repeat' (first | (with_reducible first | refine Unf.h ?_ | refine cutK_n ?_) | ((conv => whnf); first | (refine Side.mk ?_ ?_; focus (omega)) | (refine Idx.mk ?_ ?_; focus (omega)) | (with_reducible refine Unf.h ?_)) | fail); all_goals try (conv => whnf)
          refine ⟨(), trivial, ?_⟩
          repeat' (first | (with_reducible refine Unf.h ?_) | ((conv => whnf); first | (refine Side.mk ?_ ?_; focus (first | with_reducible rfl | (simp only [*]; done))) | (with_reducible refine Unf.h ?_) | exact True.intro) | fail); all_goals try (conv => whnf)
      · have hm : ¬ meets l k e := fun h' => h'.1 (by assumption)
        all_goals try (conv => whnf)
        refine ⟨(), trivial, ?_⟩
        repeat' (first | ((conv => whnf); (with_reducible refine Unf.h ?_)) | fail); all_goals try (conv => whnf)
        refine Side.mk (iffF hm) ?_
        repeat' (first | (with_reducible refine Unf.h ?_) | ((conv => whnf); first | (refine Side.mk ?_ ?_; focus (with_reducible rfl)) | exact True.intro) | fail); all_goals try (conv => whnf)
    · intro _ _
      repeat' (first | (with_reducible first | refine Unf.h ?_ | refine cutK_n ?_) | ((conv => whnf); refine Fork.mk (fun h => ?_) (fun h => ?_)) | fail); all_goals try (conv => whnf)
      · have hj : join_c.pre (l1, e, (l.length : Int)) := ⟨by omega, ⟨by have := (show meets l k e by assumption).1; omega, by omega⟩, by omega, by omega⟩
        refine CallS.mk (c := join_c) ((l1, e, (l.length : Int))) ?_
        repeat' (first | (with_reducible first | refine Unf.h ?_ | refine cutK_n ?_) | ((conv => whnf); first | (refine Side.mk ?_ ?_; focus (first | with_reducible rfl | assumption)) | refine Got.mk (fun _ _ => ?_)) | fail); all_goals try (conv => whnf)
        have hs : startF l k v e = _ := hl1e.trans (if_pos (by assumption))
        refine ⟨(), trivial, ?_⟩
        repeat' (first | (with_reducible refine Unf.h ?_) | ((conv => whnf); first | (refine Side.mk ?_ ?_; focus (first | with_reducible rfl | (simp only [*, hs]; done))) | (with_reducible refine Unf.h ?_) | exact True.intro) | fail); all_goals try (conv => whnf)
      · have hs : startF l k v e = _ := hl1e.trans (if_neg (by assumption))
        all_goals try (conv => whnf)
        refine ⟨(), trivial, ?_⟩
        repeat' (first | (with_reducible refine Unf.h ?_) | ((conv => whnf); first | (refine Side.mk ?_ ?_; focus (first | with_reducible rfl | (simp only [*, hs]; done))) | (with_reducible refine Unf.h ?_) | exact True.intro) | fail); all_goals try (conv => whnf)
  · intro _ _
    generalize hS : startF l k v e = s0 at *
    have hs0 : ∃ m, s0.1 = l ++ m ∧ 1 ≤ m.length ∧ s0.2 = l.length + m.length - 1 := by
      obtain ⟨m, h1, h2, h3, h4⟩ := startF_ok (l := l) (k := k) (v := v) (e := e)
      rw [hS] at h1 h4
      exact ⟨m, h1, h2, h4⟩
    have hs0l : s0.1.length ≤ l.length + 2 := by
      obtain ⟨m, h1, h2, h3, h4⟩ := startF_ok (l := l) (k := k) (v := v) (e := e)
      rw [hS] at h1
      rw [h1, List.length_append]; omega
    repeat' (first | (with_reducible refine Unf.h ?_) | ((conv => whnf); (refine Side.mk ?_ ?_; focus ((intros; (try simp only [lenS, inR, cutS, loI, hiI] at *); omega)))) | fail); all_goals try (conv => whnf)
    refine LoopS.auto (fun n : Nat => n ≤ A.length) (fun n => [(13, .int .i64 ((n : Int) - 1)), (12, .int .i64 (upF k (A.drop n) s0).2), (10, .own 5)]) (fun n => [(0, .box 71 [.own 4]), (4, .row 40 132 eNd (upF k (A.drop n) s0).1), (2, .box 32 [.arr8 k]), (3, .box 32 [.arr8 v]), (5, .row 3 1 eI A)]) (fun n => n) A.length (Nat.le_refl _) ?_ ?_
    · repeat' (first | (with_reducible refine Unf.h ?_) | ((conv => whnf); first | (refine Side.mk ?_ ?_; focus (first | with_reducible rfl | (simp only [*, List.drop_length, upF]; done))) | (with_reducible refine Unf.h ?_) | exact True.intro) | fail); all_goals try (conv => whnf)
    · intro n hn
      obtain ⟨m, h1, h2, h3, h4⟩ := upF_ok (k := k) hs0 (A.drop n)
      have h1l : (upF k (A.drop n) s0).1.length = l.length + m.length := by rw [h1]; simp
      have hdl : (A.drop n).length ≤ A.length := by simp
      repeat' (first | (with_reducible refine Unf.h ?_) | ((conv => whnf); first | refine Fork.mk (fun h => ?_) (fun h => ?_) | (refine Side.mk ?_ ?_; focus (omega)) | (refine Idx.mk ?_ ?_; focus (omega)) | refine RetE.mk () trivial ?_ | refine retK_r ?_) | fail); all_goals try (conv => whnf)
      · have hidx : ((n : Int) - 1).toNat < A.length := by omega
        obtain ⟨⟨ha0, ha1⟩, hal⟩ := hpm _ (List.getElem_mem hidx)
        have hdrop : A.drop (n - 1) = A[((n : Int) - 1).toNat]'hidx :: A.drop n := by
          have := List.drop_eq_getElem_cons (l := A) (i := n - 1) (by omega)
          rw [this]
          congr 1
          · congr 1; omega
          · congr 1; omega
        have hup : upF k (A.drop (n - 1)) s0 = upS k (A[((n : Int) - 1).toNat]'hidx) (upF k (A.drop n) s0) := by rw [hdrop]; rfl
        generalize hav : A[((n : Int) - 1).toNat]'hidx = av at *
        generalize hL : upF k (A.drop n) s0 = sn at *
        have hbd : av.toNat < sn.1.length := by omega
        have hea : (sn.1)[av.toNat]'hbd = nd sn.1 av := nd_get _ av ha0 _
        have hla : nd sn.1 av = nd l av := by rw [h1]; exact nd_app _ _ _ ha1
        have hch : inF sn.1 (nd sn.1 av).left ∧ inF sn.1 (nd sn.1 av).right := by
          rw [hla]
          rcases hc av ⟨ha0, ha1⟩ with hx | hx
          · rw [hal] at hx; cases hx
          · exact ⟨⟨hx.1.1, by omega⟩, hx.2.1, by omega⟩
        have hM : inF sn.1 sn.2 := ⟨by omega, by omega⟩
        have hadd : add_c.pre (sn.1, turnN k (nd sn.1 av) sn.2) := ⟨by omega, .inr (by unfold turnN; split; exact ⟨hch.1, hM⟩; exact ⟨hM, hch.2⟩)⟩
        have hle : inR sn.2 := ⟨by have := hM.1; omega, by have := hM.2; omega⟩
        have hupe : upS k av sn = (sn.1 ++ [mk sn.1 (turnN k (nd sn.1 av) sn.2)], (sn.1.length : Int)) := rfl
        rw [hupe] at hup
        clear h1 hla hS hl1e hs0 hA hpm hav hL hupe hdrop
        repeat' (first | (with_reducible refine Unf.h ?_) | ((conv => whnf); first | (refine Side.mk ?_ ?_; focus (omega)) | (refine Idx.mk ?_ ?_; focus (omega))) | fail); all_goals try (conv => whnf)
        refine CallS.mk (c := bit_c) ((k, (nd sn.1 av).plen)) ?_
        repeat' (first | (with_reducible refine Unf.h ?_) | ((conv => whnf); first | refine Fork.mk (fun h => ?_) (fun h => ?_) | (refine Side.mk ?_ ?_; focus (first | with_reducible rfl | exact True.intro | (simp only [*, hea]; done))) | refine Got.mk (fun _ _ => ?_)) | fail); all_goals try (conv => whnf)
        · have ht2 : turnN k (nd sn.1 av) sn.2 = _ := if_pos h
          refine CallS.mk (c := add_c) ((sn.1, turnN k (nd sn.1 av) sn.2)) ?_
          rw [ht2] at hadd hup ⊢
          repeat' (first | (with_reducible first | refine Unf.h ?_ | refine loopK_n ?_) | ((conv => whnf); first | (refine Side.mk ?_ ?_; focus (first | with_reducible rfl | assumption | (intros; (try simp only [lenS, inR, cutS, loI, hiI, hea] at *); omega) | (simp only [*, hea]; done))) | refine Got.mk (fun _ _ => ?_)) | fail); all_goals try (conv => whnf)
          refine ⟨n - 1, ⟨by omega, by omega⟩, ?_⟩
          repeat' (first | (with_reducible refine Unf.h ?_) | ((conv => whnf); first | (refine Side.mk ?_ ?_; focus (first | with_reducible rfl | (refine congrArg (SV.int _) ?_; omega) | (simp only [*, hup]; done))) | (with_reducible refine Unf.h ?_) | exact True.intro) | fail); all_goals try (conv => whnf)
        · have ht2 : turnN k (nd sn.1 av) sn.2 = _ := if_neg h
          refine CallS.mk (c := add_c) ((sn.1, turnN k (nd sn.1 av) sn.2)) ?_
          rw [ht2] at hadd hup ⊢
          repeat' (first | (with_reducible first | refine Unf.h ?_ | refine loopK_n ?_) | ((conv => whnf); first | (refine Side.mk ?_ ?_; focus (first | with_reducible rfl | assumption | (intros; (try simp only [lenS, inR, cutS, loI, hiI, hea] at *); omega) | (simp only [*, hea]; done))) | refine Got.mk (fun _ _ => ?_)) | fail); all_goals try (conv => whnf)
          refine ⟨n - 1, ⟨by omega, by omega⟩, ?_⟩
          repeat' (first | (with_reducible refine Unf.h ?_) | ((conv => whnf); first | (refine Side.mk ?_ ?_; focus (first | with_reducible rfl | (refine congrArg (SV.int _) ?_; omega) | (simp only [*, hup]; done))) | (with_reducible refine Unf.h ?_) | exact True.intro) | fail); all_goals try (conv => whnf)
      · have hn0 : n = 0 := by omega
        subst hn0
        have hfin : putF l t k v = upF k (A.drop 0) s0 := by unfold putF; rw [hA, he, hS]; rfl
        repeat' (first | (with_reducible refine Unf.h ?_) | ((conv => whnf); first | (refine Side.mk ?_ ?_; focus (first | with_reducible rfl | (simp only [*, hfin]; done))) | exact rfl) | fail); all_goals try (conv => whnf)
end Go.Proofs.YtmbkoigeekofdaaDoor

namespace Go.Proofs.YtmbkoigeekofdaaDoor
set_option linter.all false
open Go.RowKit
/-! the first law's fixed fact -/
def awake11_c : Ctr where
  D := Unit
  args := fun _ => []
  res := fun _ _ => .bool true
abbrev key1 : H256 := (Vector.replicate 32 0#8).setIfInBounds 0 1#8
abbrev key2 : H256 := (Vector.replicate 32 0#8).setIfInBounds 0 2#8
theorem path_none (k : H256) : path [] k (-1) = ([], -1) := path_stop fun h => h.1 rfl
theorem put_none (k v : H256) : putF [] (-1) k v = ([mk [] (leafN k v)], 0) := by
  unfold putF
  rw [path_none]
  show startF [] k v (-1) = _
  unfold startF
  rw [if_neg (fun h => h.1 rfl)]; rfl
theorem closed_nil : closed [] := fun i hi => by have := hi.1; have := hi.2; simp at this; omega
def texts_c : Ctr where
  D := Nd × H256 × H256
  args := fun (n, l, r) => [.agg (eNd n), .agg [.arr8 l], .agg [.arr8 r]]
  res := fun _ _ => .bool true
end Go.Proofs.YtmbkoigeekofdaaDoor

namespace Go.Proofs.YtmbkoigeekofdaaDoor
set_option linter.all false
open Go.RowKit
/-! trees, with no program in sight -/
inductive PT where
  | leaf (k v : H256)
  | node (p : Pfx) (a b : PT)
def PT.hash : PT → H256
  | .leaf k v => sha (leafT k v)
  | .node p a b => sha (innerT p.len p.bits a.hash b.hash)
def PT.cover : PT → Pfx
  | .leaf k _ => cutP k 256
  | .node p _ _ => p
def PT.depth : PT → Nat
  | .leaf _ _ => 0
  | .node _ a b => max a.depth b.depth + 1
/-- a forest's node stands for a tree -/
def den (l : Fo) : Int → PT → Prop
  | t, .leaf k v => inF l t ∧ nd l t = ⟨true, k, v, 0, zeroH, -1, -1, sha (leafT k v)⟩
  | t, .node p a b => inF l t ∧ ∃ x y, nd l t = ⟨false, zeroH, zeroH, p.len, p.bits, x, y, sha (innerT p.len p.bits a.hash b.hash)⟩ ∧ den l x a ∧ den l y b
theorem den_in {l : Fo} {t : Int} {T : PT} (h : den l t T) : inF l t := by cases T <;> exact h.1
theorem den_hash {l : Fo} {t : Int} {T : PT} (h : den l t T) : (nd l t).hash = T.hash := by
  cases T with
  | leaf k v => rw [h.2]; rfl
  | node p a b => obtain ⟨_, x, y, e, _⟩ := h; rw [e]; rfl
theorem den_cover {l : Fo} {t : Int} {T : PT} (h : den l t T) : (nd l t).cover = T.cover := by
  cases T with
  | leaf k v => rw [h.2]; rfl
  | node p a b => obtain ⟨_, x, y, e, _⟩ := h; rw [e]; rfl
theorem inF_app {l m : Fo} {t : Int} (h : inF l t) : inF (l ++ m) t := ⟨h.1, by rw [List.length_append]; have := h.2; omega⟩
theorem den_app {l m : Fo} : ∀ {T : PT} {t : Int}, den l t T → den (l ++ m) t T
  | .leaf k v, t, h => ⟨inF_app h.1, by rw [nd_app _ _ _ h.1.2]; exact h.2⟩
  | .node p a b, t, h => by
    obtain ⟨h0, x, y, e, ha, hb⟩ := h
    exact ⟨inF_app h0, x, y, by rw [nd_app _ _ _ h0.2]; exact e, den_app ha, den_app hb⟩
theorem inF_last (l : Fo) (n : Nd) : inF (l ++ [n]) (l.length : Int) := ⟨by omega, by simp; omega⟩
theorem den_leaf (l : Fo) (k v : H256) : den (l ++ [mk l (leafN k v)]) (l.length : Int) (.leaf k v) := ⟨inF_last _ _, nd_last _ _⟩
theorem den_node {l : Fo} {n : Nd} {a b : PT} (hl : n.leaf = false) (ha : den l n.left a) (hb : den l n.right b) : den (l ++ [mk l n]) (l.length : Int) (.node n.pfx a b) := by
  refine ⟨inF_last _ _, n.left, n.right, ?_, den_app ha, den_app hb⟩
  rw [nd_last]
  unfold mk
  rw [hl, if_neg (by decide), den_hash ha, den_hash hb]
  rfl
def PT.join (a b : PT) : PT :=
  let m := meetP a.cover b.cover
  if bitI a.cover.bits m.len = 1 then .node m b a else .node m a b
def PT.ins (k v : H256) : PT → PT
  | .leaf k' v' => if k' = k then .leaf k v else PT.join (.leaf k' v') (.leaf k v)
  | .node p a b => if holdsP p k then (if bitI k p.len = 1 then .node p a (PT.ins k v b) else .node p (PT.ins k v a) b) else PT.join (.node p a b) (.leaf k v)
theorem join_depth (a b : PT) : (PT.join a b).depth = max a.depth b.depth + 1 := by
  unfold PT.join; simp only; split
  · simp [PT.depth, Nat.max_comm]
  · rfl
theorem ins_depth (k v : H256) : ∀ T : PT, (T.ins k v).depth ≤ T.depth + 1
  | .leaf k' v' => by
    unfold PT.ins; split
    · simp [PT.depth]
    · rw [join_depth]; simp [PT.depth]
  | .node p a b => by
    unfold PT.ins
    have ha := ins_depth k v a
    have hb := ins_depth k v b
    split
    · split
      · simp only [PT.depth]; omega
      · simp only [PT.depth]; omega
    · rw [join_depth]; simp only [PT.depth]; omega
theorem closed_app {l : Fo} {n : Nd} (hc : closed l) (ha : addable l n) : closed (l ++ [mk l n]) := by
  intro i hi
  by_cases h : i < l.length
  · rw [nd_app _ _ _ h]; exact hc i ⟨hi.1, h⟩
  · have e : i = (l.length : Int) := by have := hi.2; simp at this; omega
    subst e
    rw [nd_last]
    unfold mk
    by_cases hl : n.leaf = true
    · rw [if_pos hl]; exact .inl rfl
    · rw [if_neg hl]
      rcases ha with ha | ⟨h1, h2⟩
      · exact absurd ha hl
      · exact .inr ⟨⟨h1.1, h1.2⟩, h2.1, h2.2⟩
theorem joinN_add {l : Fo} {a b : Int} (ha : inF l a) (hb : inF l b) : addable l (joinN l a b) := by
  refine .inr ?_
  unfold joinN; simp only
  split
  · exact ⟨hb, ha⟩
  · exact ⟨ha, hb⟩
theorem closed_start {l : Fo} {k v : H256} {e : Int} (hc : closed l) (he : isT l e) : closed (startF l k v e).1 := by
  unfold startF
  have h1 := closed_app (n := leafN k v) hc (.inl rfl)
  simp only
  split
  · rename_i hm
    refine closed_app h1 (joinN_add ?_ (inF_last _ _))
    exact inF_app ⟨by have := hm.1; have := he.1; omega, he.2⟩
  · exact h1
theorem closed_up {l : Fo} {k : H256} {s : Fo × Int} (hc : closed l) (h : ∃ m, s.1 = l ++ m ∧ 1 ≤ m.length ∧ s.2 = l.length + m.length - 1) (hs : closed s.1) : ∀ r : List Int, (∀ a ∈ r, inF l a ∧ (nd l a).leaf = false) → closed (upF k r s).1
  | [], _ => hs
  | a :: r, hr => by
    have ih := closed_up (k := k) hc h hs r fun x hx => hr x (by simp [hx])
    obtain ⟨m, h1, h2, h3, _⟩ := upF_ok (k := k) h r
    obtain ⟨ha, hal⟩ := hr a (by simp)
    refine closed_app ih (.inr ?_)
    have hnd : nd (upF k r s).1 a = nd l a := by rw [h1]; exact nd_app _ _ _ ha.2
    have hM : inF (upF k r s).1 (upF k r s).2 := ⟨by omega, by rw [h1, List.length_append]; omega⟩
    have hch : inF (upF k r s).1 (nd l a).left ∧ inF (upF k r s).1 (nd l a).right := by
      rcases hc a ha with hx | hx
      · rw [hal] at hx; cases hx
      · rw [h1]
        have := ha.2
        exact ⟨inF_app ⟨hx.1.1, by omega⟩, inF_app ⟨hx.2.1, by omega⟩⟩
    rw [hnd]
    unfold turnN; split
    · exact ⟨hch.1, hM⟩
    · exact ⟨hM, hch.2⟩
theorem start_ok' (l : Fo) (k v : H256) (e : Int) : ∃ m, (startF l k v e).1 = l ++ m ∧ 1 ≤ m.length ∧ (startF l k v e).2 = l.length + m.length - 1 := by
  obtain ⟨m, h1, h2, _, h4⟩ := startF_ok (l := l) (k := k) (v := v) (e := e)
  exact ⟨m, h1, h2, h4⟩
/-- what a Put leaves -/
theorem put_ok' {l : Fo} {t : Int} {k v : H256} (hc : closed l) (ht : isT l t) : closed (putF l t k v).1 ∧ (∃ m, (putF l t k v).1 = l ++ m) ∧ inF (putF l t k v).1 (putF l t k v).2 ∧ (putF l t k v).1.length ≤ l.length + 2 + (path l k t).1.length := by
  obtain ⟨hpm, hpe⟩ := path_mem (k := k) hc _ t (Nat.le_refl _) ht
  have hs := start_ok' l k v (path l k t).2
  obtain ⟨m, h1, h2, h3, h4⟩ := upF_ok (k := k) hs (path l k t).1
  refine ⟨closed_up hc hs (closed_start hc hpe) _ hpm, ⟨m, h1⟩, ⟨?_, ?_⟩, ?_⟩
  · show 0 ≤ (upF k _ _).2; omega
  · show (upF k _ _).2 < _
    have : (putF l t k v).1 = l ++ m := h1
    rw [this, List.length_append]; omega
  · have : (putF l t k v).1.length = _ := h4
    obtain ⟨m', g1, g2, g3, g4⟩ := startF_ok (l := l) (k := k) (v := v) (e := (path l k t).2)
    rw [this, g1, List.length_append]; omega
theorem path_den {l : Fo} {k : H256} : ∀ {T : PT} {t : Int}, den l t T → (path l k t).1.length ≤ T.depth
  | .leaf k' v', t, h => by
    rw [path_stop fun hg => by have := hg.2.1; rw [h.2] at this; exact absurd this (by simp)]; simp
  | .node p a b, t, h => by
    obtain ⟨h0, x, y, e, ha, hb⟩ := h
    rw [path]
    split
    · have hn : nxt l k t = y ∨ nxt l k t = x := by
        unfold nxt; rw [e]; simp only; split
        · exact .inl rfl
        · exact .inr rfl
      simp only [List.length_cons, PT.depth]
      rcases hn with hn | hn <;> rw [hn]
      · have := path_den (k := k) hb; omega
      · have := path_den (k := k) ha; omega
    · simp
theorem start_den {l : Fo} {k v : H256} {t : Int} {T : PT} (h : den l t T) (hT : (∃ v', T = .leaf k v') → False) : den (startF l k v t).1 (startF l k v t).2 (PT.join T (.leaf k v)) := by
  have hin := den_in h
  have hm : meets l k t := by
    refine ⟨by have := hin.1; omega, fun hh => ?_⟩
    cases T with
    | leaf k' v' => rw [h.2] at hh; exact hT ⟨v', by rw [← hh.2]⟩
    | node p a b => obtain ⟨_, x, y, e, _⟩ := h; rw [e] at hh; exact absurd hh.1 (by simp)
  have h1 := den_app (m := [mk l (leafN k v)]) h
  have h2 := den_leaf l k v
  unfold startF
  simp only
  rw [if_pos hm]
  have c1 := den_cover h1
  have c2 := den_cover h2
  unfold joinN PT.join
  simp only [c1, c2]
  split
  · exact den_node (n := ⟨false, zeroH, zeroH, _, _, _, _, zeroH⟩) rfl h2 h1
  · exact den_node (n := ⟨false, zeroH, zeroH, _, _, _, _, zeroH⟩) rfl h1 h2
/-- a Put, as trees have it -/
theorem put_den {l : Fo} {k v : H256} (hc : closed l) : ∀ {T : PT} {t : Int}, den l t T → den (putF l t k v).1 (putF l t k v).2 (T.ins k v)
  | .leaf k' v', t, h => by
    have hp : path l k t = ([], t) := path_stop fun hg => by have := hg.2.1; rw [h.2] at this; exact absurd this (by simp)
    unfold putF
    rw [hp]
    show den (startF l k v t).1 (startF l k v t).2 _
    unfold PT.ins
    by_cases hk : k' = k
    · rw [if_pos hk]
      subst hk
      have hm : ¬ meets l k' t := fun hm => hm.2 ⟨by rw [h.2], by rw [h.2]⟩
      unfold startF
      simp only
      rw [if_neg hm]
      exact den_leaf l k' v
    · rw [if_neg hk]
      exact start_den h fun ⟨v2, e⟩ => hk (by cases e; rfl)
  | .node p a b, t, h => by
    have hd := h
    obtain ⟨h0, x, y, e, ha, hb⟩ := h
    have hpfx : (nd l t).pfx = p := by rw [e]; rfl
    unfold PT.ins
    by_cases hh : holdsP p k
    · rw [if_pos hh]
      have ht : isT l t := ⟨by have := h0.1; omega, h0.2⟩
      have hg : goes l k t := ⟨by have := h0.1; omega, by rw [e], by rw [hpfx]; exact hh⟩
      have hput : putF l t k v = upS k t (putF l (nxt l k t) k v) := by
        unfold putF
        rw [path_go hc ht hg]; rfl
      have hx := nxt_ok hc ht hg
      obtain ⟨hc', ⟨m, hm⟩, hin', _⟩ := put_ok' (k := k) (v := v) hc (show isT l (nxt l k t) from ⟨by omega, by have := h0.2; omega⟩)
      have hnd : nd (putF l (nxt l k t) k v).1 t = nd l t := by rw [hm]; exact nd_app _ _ _ h0.2
      rw [hput]
      show den (_ ++ [mk _ _]) _ _
      rw [hnd, e]
      by_cases hbit : bitI k p.len = 1
      · have hn : nxt l k t = y := by unfold nxt; rw [e]; exact if_pos hbit
        rw [if_pos hbit]
        have ih := put_den (k := k) (v := v) hc hb
        rw [hn] at hm ⊢
        have hta : turnN k ⟨false, zeroH, zeroH, p.len, p.bits, x, y, sha (innerT p.len p.bits a.hash b.hash)⟩ (putF l y k v).2 = ⟨false, zeroH, zeroH, p.len, p.bits, x, (putF l y k v).2, sha (innerT p.len p.bits a.hash b.hash)⟩ := if_pos hbit
        rw [hta]
        exact den_node (n := ⟨false, zeroH, zeroH, p.len, p.bits, x, (putF l y k v).2, _⟩) rfl (by rw [hm]; exact den_app ha) ih
      · have hn : nxt l k t = x := by unfold nxt; rw [e]; exact if_neg hbit
        rw [if_neg hbit]
        have ih := put_den (k := k) (v := v) hc ha
        rw [hn] at hm ⊢
        have hta : turnN k ⟨false, zeroH, zeroH, p.len, p.bits, x, y, sha (innerT p.len p.bits a.hash b.hash)⟩ (putF l x k v).2 = ⟨false, zeroH, zeroH, p.len, p.bits, (putF l x k v).2, y, sha (innerT p.len p.bits a.hash b.hash)⟩ := if_neg hbit
        rw [hta]
        exact den_node (n := ⟨false, zeroH, zeroH, p.len, p.bits, (putF l x k v).2, y, _⟩) rfl ih (by rw [hm]; exact den_app hb)
    · rw [if_neg hh]
      have hp : path l k t = ([], t) := path_stop fun hg => hh (by rw [← hpfx]; exact hg.2.2)
      unfold putF
      rw [hp]
      exact start_den hd fun ⟨v', e⟩ => by cases e
end Go.Proofs.YtmbkoigeekofdaaDoor

namespace Go.Proofs.YtmbkoigeekofdaaDoor
set_option linter.all false
open Go.RowKit
/-! a forest that is built -/
abbrev KV := H256 × H256
def eKV (p : KV) : List SV := [.arr8 p.1, .arr8 p.2]
def builtF (ps : List KV) : Fo × Int := ps.foldl (fun s p => putF s.1 s.2 p.1 p.2) ([], -1)
def treesF (ps : List KV) : Option PT := ps.foldl (fun o p => some (match o with | none => .leaf p.1 p.2 | some T => T.ins p.1 p.2)) none
theorem builtF_snoc (ps : List KV) (p : KV) : builtF (ps ++ [p]) = putF (builtF ps).1 (builtF ps).2 p.1 p.2 := by unfold builtF; rw [List.foldl_append]; rfl
theorem treesF_snoc (ps : List KV) (p : KV) : treesF (ps ++ [p]) = some (match treesF ps with | none => .leaf p.1 p.2 | some T => T.ins p.1 p.2) := by unfold treesF; rw [List.foldl_append]; rfl
/-- the tree at a number -/
def treeAt (l : Fo) (t : Int) : Option PT → Prop
  | none => t = -1
  | some T => den l t T
theorem treeAt_is {l : Fo} {t : Int} : ∀ {o : Option PT}, treeAt l t o → isT l t
  | none, h => by have : t = -1 := h; exact ⟨by omega, by omega⟩
  | some T, h => ⟨by have := (den_in h).1; omega, (den_in h).2⟩
theorem treeAt_app {l m : Fo} {t : Int} : ∀ {o : Option PT}, treeAt l t o → treeAt (l ++ m) t o
  | none, h => h
  | some T, h => den_app h
def depthO : Option PT → Nat
  | none => 0
  | some T => T.depth
theorem put_none' (l : Fo) (k v : H256) : putF l (-1) k v = (l ++ [mk l (leafN k v)], (l.length : Int)) := by
  unfold putF
  rw [path_stop fun h => h.1 rfl]
  show startF l k v (-1) = _
  unfold startF
  rw [if_neg (fun h => h.1 rfl)]
theorem treeAt_put {l : Fo} {t : Int} {k v : H256} (hc : closed l) : ∀ {o : Option PT}, treeAt l t o → treeAt (putF l t k v).1 (putF l t k v).2 (some (match o with | none => .leaf k v | some T => T.ins k v))
  | none, h => by
    have : t = -1 := h
    subst this
    rw [put_none']
    exact den_leaf l k v
  | some T, h => put_den hc h
theorem path_treeAt {l : Fo} {t : Int} {k : H256} : ∀ {o : Option PT}, treeAt l t o → (path l k t).1.length ≤ depthO o
  | none, h => by
    have : t = -1 := h
    subst this
    rw [path_stop fun h => h.1 rfl]; simp
  | some T, h => path_den h
theorem depthO_ins (k v : H256) : ∀ o : Option PT, depthO (some (match o with | none => .leaf k v | some T => T.ins k v)) ≤ depthO o + 1
  | none => by simp [depthO, PT.depth]
  | some T => ins_depth k v T
structure BuiltOk (ps : List KV) : Prop where
  closed : closed (builtF ps).1
  tree : treeAt (builtF ps).1 (builtF ps).2 (treesF ps)
  depth : depthO (treesF ps) ≤ ps.length
  size : (builtF ps).1.length ≤ ps.length * (ps.length + 2)
theorem builtOk_aux : ∀ (n : Nat) (ps : List KV), ps.length = n → BuiltOk ps
  | 0, ps, h => by
    obtain rfl := List.eq_nil_of_length_eq_zero h
    exact ⟨closed_nil, rfl, Nat.le_refl _, Nat.le_refl _⟩
  | n + 1, ps, h => by
    have hne : ps ≠ [] := fun e => by subst e; cases h
    obtain ⟨qs, p, rfl⟩ : ∃ qs p, ps = qs ++ [p] := ⟨ps.dropLast, ps.getLast hne, (List.dropLast_concat_getLast hne).symm⟩
    have hq : qs.length = n := by simpa using h
    obtain ⟨h1, h2, h3, h4⟩ := builtOk_aux n qs hq
    have ht := treeAt_is h2
    obtain ⟨g1, g2, g3, g4⟩ := put_ok' (k := p.1) (v := p.2) h1 ht
    refine ⟨?_, ?_, ?_, ?_⟩
    · rw [builtF_snoc]; exact g1
    · rw [builtF_snoc, treesF_snoc]; exact treeAt_put h1 h2
    · rw [treesF_snoc]
      refine Nat.le_trans (depthO_ins _ _ _) ?_
      simp; omega
    · rw [builtF_snoc]
      refine Nat.le_trans g4 ?_
      have := path_treeAt (k := p.1) h2
      have e : (qs ++ [p]).length = n + 1 := by simp [hq]
      rw [e]
      rw [hq] at h3 h4
      have : (n + 1) * (n + 1 + 2) = n * (n + 2) + (2 * n + 3) := by
        simp [Nat.add_mul, Nat.mul_add]; omega
      omega
theorem builtOk (ps : List KV) : BuiltOk ps := builtOk_aux _ ps rfl
theorem built_size {ps : List KV} (h : ps.length ≤ 25) : (builtF ps).1.length ≤ 675 := by
  refine Nat.le_trans (builtOk ps).size ?_
  exact Nat.le_trans (Nat.mul_le_mul h (show ps.length + 2 ≤ 27 by omega)) (by decide)
theorem built_take (ps : List KV) (i : Nat) (h : i < ps.length) : builtF (ps.take (i + 1)) = putF (builtF (ps.take i)).1 (builtF (ps.take i)).2 ps[i].1 ps[i].2 := by
  rw [List.take_succ_eq_append_getElem h, builtF_snoc]
def built_c : Ctr where
  D := List KV
  pre := fun ps => ps.length ≤ 25
  args := fun ps => [.fs 64 eKV ps]
  res := fun ps _ => .tup [.ptr 0 0, .int .i64 (builtF ps).2]
  out := fun ps _ => fo (builtF ps).1
  mm := 2
def built_H : Cfg := ⟨[(20, put_c)], [(6, [6, 11], [12], (.one 0 0 false (.one 1 0 false (.one 2 0 false (.one 3 0 false (.one 4 0 false (.one 5 0 false (.one 6 1 false (.one 7 0 false (.one 8 0 false (.one 9 0 false (.one 10 0 false (.one 11 1 false (.one 12 2 false (.one 13 0 false (.one 14 0 false (.one 15 0 false (.one 16 0 false (.one 17 0 false .nil)))))))))))))))))), [])], [], [], 36, 0, [], [], []⟩
theorem built_ok : built_c.Ok Tryd.prog 14 := by
  refine fn_ok built_H 0 rfl _ Tryd.func14 rfl rfl ⟨put_ok, trivial⟩ rfl rfl (by kernel_rfl) (fun _ => Nat.le_of_ble_eq_true rfl) ?_
  intro (ps : List KV) hp hr
  try dsimp only [built_c] at hp
  try simp only [built_c, Rng, RngL, inR, and_true, true_and] at hr
  repeat' (first | (with_reducible refine Unf.h ?_) | fail); all_goals try (conv => whnf)
  refine LoopS.autoN (fun i : Nat => i ≤ ps.length) (fun i => [(6, .int .i64 i), (5, .int .i64 (builtF (ps.take i)).2)]) (fun i => [(0, .box 71 [.own 1]), (1, .row 40 132 eNd (builtF (ps.take i)).1)]) 2 (fun i => ps.length - i) 0 (by omega) ?_ ?_
  · have hb0 : builtF (ps.take 0) = ([], -1) := rfl
    repeat' (first | (with_reducible refine Unf.h ?_) | ((conv => whnf); first | (refine Side.mk ?_ ?_; focus (first | with_reducible rfl | (refine congrArg (SV.int _) ?_; omega) | (simp only [*, hb0]; done))) | (with_reducible refine Unf.h ?_) | exact True.intro) | fail); all_goals try (conv => whnf)
  · intro i hi
    have hs : (builtF (ps.take i)).1.length ≤ 675 := built_size (by rw [List.length_take]; omega)
    have hb := builtOk (ps.take i)
    have ht := treeAt_is hb.tree
    have ht1 := ht.1
    have ht2 := ht.2
    repeat' (first | (with_reducible refine Unf.h ?_) | ((conv => whnf); first | refine Fork.mk (fun h => ?_) (fun h => ?_) | (refine Idx.mk ?_ ?_; focus (omega)) | refine RetE.mk () trivial ?_ | refine retK_r ?_) | fail); all_goals try (conv => whnf)
    · have hpre : put_c.pre ((builtF (ps.take i)).1, (builtF (ps.take i)).2, ps[i].1, ps[i].2) := ⟨by omega, hb.closed, ht⟩
      have hu := built_take ps i (by omega)
      refine CallS.mk (c := put_c) (((builtF (ps.take i)).1, (builtF (ps.take i)).2, ps[i].1, ps[i].2)) ?_
      repeat' (first | (with_reducible first | refine Unf.h ?_ | refine loopK_n ?_) | ((conv => whnf); first | (refine Side.mk ?_ ?_; focus (first | with_reducible rfl | assumption | (intros; (try simp only [lenS, inR, cutS, loI, hiI] at *); omega) | (simp [*]; done))) | refine Got.mk (fun _ _ => ?_)) | fail); all_goals try (conv => whnf)
      refine ⟨i + 1, ⟨by omega, by omega⟩, ?_⟩
      repeat' (first | (with_reducible refine Unf.h ?_) | ((conv => whnf); first | (refine Side.mk ?_ ?_; focus (first | with_reducible rfl | (refine congrArg (SV.int _) ?_; omega) | (simp only [*, hu]; done))) | (with_reducible refine Unf.h ?_) | exact True.intro) | fail); all_goals try (conv => whnf)
    · have e : ps.take i = ps := List.take_of_length_le (by omega)
      repeat' (first | (with_reducible refine Unf.h ?_) | ((conv => whnf); first | (refine Side.mk ?_ ?_; focus ((simp only [*, e]; done))) | exact rfl) | fail); all_goals try (conv => whnf)
end Go.Proofs.YtmbkoigeekofdaaDoor

namespace Go.Proofs.YtmbkoigeekofdaaDoor
set_option linter.all false
open Go.RowKit
/-! trees whose prefixes lead down -/
def agree (n : Nat) (a b : H256) : Prop := ∀ i, i < n → kb a i = kb b i
theorem agree_shared {a b : H256} {n : Nat} (hn : n ≤ 256) : agree n a b ↔ n ≤ shared a b := by
  constructor
  · intro h
    rcases Nat.lt_or_ge (shared a b) n with hl | hl
    · exact absurd (h _ hl) (shared_ne (by omega))
    · exact hl
  · intro h i hi; exact shared_eq (by omega)
theorem agree.symm {n : Nat} {a b : H256} (h : agree n a b) : agree n b a := fun i hi => (h i hi).symm
theorem agree.trans {n : Nat} {a b c : H256} (h : agree n a b) (g : agree n b c) : agree n a c := fun i hi => (h i hi).trans (g i hi)
theorem agree.mono {n m : Nat} {a b : H256} (h : agree n a b) (hm : m ≤ n) : agree m a b := fun i hi => h i (by omega)
theorem holds_agree {p : Pfx} {k : H256} : holdsP p k ↔ formedP p ∧ agree p.len.toNat p.bits k := by
  rw [holds_shared]
  refine and_congr_right fun hf => ?_
  rw [agree_shared (by have := hf.2.1; omega)]
  have := hf.1; omega
theorem within_agree {p q : Pfx} : withinP p q ↔ formedP p ∧ formedP q ∧ p.len ≤ q.len ∧ agree p.len.toNat p.bits q.bits := by
  rw [within_shared]
  constructor
  · rintro ⟨h1, h2, h3, h4⟩
    exact ⟨h1, h2, h3, (agree_shared (by have := h1.2.1; omega)).2 (by omega)⟩
  · rintro ⟨h1, h2, h3, h4⟩
    refine ⟨h1, h2, h3, ?_⟩
    have := (agree_shared (by have := h1.2.1; omega)).1 h4
    have := h1.1; omega
theorem formed_out {p : Pfx} (h : formedP p) {i : Nat} (hi : p.len ≤ i) : kb p.bits i = false := (formed_iff h.1 h.2.1).1 h i hi
theorem bitI_kb {k : H256} {n : Int} (h : 0 ≤ n) : bitI k n = 1 ↔ kb k n.toNat = true := by
  unfold bitI
  by_cases hb : kb k n.toNat = true
  · rw [if_pos ⟨h, hb⟩]; simp [hb]
  · rw [if_neg (fun h' => hb h'.2)]; simp [hb]
theorem child_len {p : Pfx} {b : Int} (h : childOk p b) : (childP p b).len = p.len + 1 := by unfold childP; rw [if_pos h]
theorem child_kb {p : Pfx} {b : Int} (h : childOk p b) (i : Nat) (hi : i < 256) : kb (childP p b).bits i = if i = p.len.toNat then decide (b = 1) else kb p.bits i := by
  unfold childP; rw [if_pos h]
  have h0 := h.1.1
  have h1 := h.2.1
  by_cases hb : b = 1
  · simp only [hb, if_true]
    rw [kb_setB _ _ _ (by omega) hi]
    by_cases hi2 : i = p.len.toNat
    · simp [hi2]
    · rw [if_neg hi2]
      have : ¬ p.len.toNat = i := fun e => hi2 e.symm
      simp [this]
  · simp only [hb, if_false]
    by_cases hi2 : i = p.len.toNat
    · rw [if_pos hi2, formed_out h.1 (by omega)]; simp
    · rw [if_neg hi2]
theorem child_formed {p : Pfx} {b : Int} (h : childOk p b) : formedP (childP p b) := by
  have h0 := h.1.1
  have h1 := h.2.1
  refine (formed_iff (by rw [child_len h]; omega) (by rw [child_len h]; omega)).2 fun i hi => ?_
  rw [child_len h] at hi
  by_cases hi2 : i < 256
  · rw [child_kb h i hi2, if_neg (by omega)]
    exact formed_out h.1 (by omega)
  · exact kb_out (by omega)
theorem child_agree {p : Pfx} {b : Int} (h : childOk p b) (k : H256) : agree (childP p b).len.toNat (childP p b).bits k ↔ agree p.len.toNat p.bits k ∧ kb k p.len.toNat = decide (b = 1) := by
  have h0 := h.1.1
  have h1 := h.2.1
  have hl : (childP p b).len.toNat = p.len.toNat + 1 := by rw [child_len h]; omega
  rw [hl]
  constructor
  · intro hh
    refine ⟨fun i hi => ?_, ?_⟩
    · have := hh i (by omega)
      rw [child_kb h i (by omega), if_neg (by omega)] at this
      exact this
    · have := hh p.len.toNat (by omega)
      rw [child_kb h _ (by omega), if_pos rfl] at this
      exact this.symm
  · rintro ⟨h2, h3⟩ i hi
    rw [child_kb h i (by omega)]
    by_cases hi2 : i = p.len.toNat
    · rw [if_pos hi2, hi2, h3]
    · rw [if_neg hi2]; exact h2 i (by omega)
theorem child_holds {p : Pfx} {b : Int} (h : childOk p b) {k : H256} (hk : holdsP p k) (hb : kb k p.len.toNat = decide (b = 1)) : holdsP (childP p b) k :=
  holds_agree.2 ⟨child_formed h, (child_agree h k).2 ⟨(holds_agree.1 hk).2, hb⟩⟩
def PT.wf : PT → Prop
  | .leaf _ _ => True
  | .node p a b => (formedP p ∧ p.len < 256) ∧ withinP (childP p 0) a.cover ∧ withinP (childP p 1) b.cover ∧ a.wf ∧ b.wf
theorem wf_ok {p : Pfx} (h : formedP p ∧ p.len < 256) (b : Int) (hb : b = 0 ∨ b = 1) : childOk p b := ⟨h.1, h.2, by omega, by omega⟩
theorem cover_formed : ∀ {T : PT}, T.wf → formedP T.cover
  | .leaf k _, _ => cutP_formed k 256
  | .node p _ _, h => h.1.1
theorem leaf_cover (k v : H256) : (PT.leaf k v).cover = ⟨256, k⟩ := by
  show cutP k 256 = _
  unfold cutP
  simp only [show min (max (256 : Int) 0) 256 = 256 by decide]
  rw [show (256 : Int).toNat = 256 from rfl, cutB_all]
theorem leaf_within {r : Pfx} {k v : H256} (h : holdsP r k) : withinP r (PT.leaf k v).cover := by
  rw [leaf_cover]
  refine within_agree.2 ⟨h.1, ?_, h.1.2.1, (holds_agree.1 h).2⟩
  have := cutP_formed k 256
  rw [show cutP k 256 = (⟨256, k⟩ : Pfx) from leaf_cover k k] at this
  exact this
/-- two that meet nowhere -/
theorem joinT_ok {a b : PT} (ha : a.wf) (hb : b.wf) (h1 : (shared a.cover.bits b.cover.bits : Int) < a.cover.len) (h2 : (shared a.cover.bits b.cover.bits : Int) < b.cover.len) :
    (PT.join a b).wf ∧ (PT.join a b).cover.len = shared a.cover.bits b.cover.bits ∧ agree (shared a.cover.bits b.cover.bits) (PT.join a b).cover.bits a.cover.bits := by
  have fa := cover_formed ha
  have fb := cover_formed hb
  generalize hp : a.cover = p at *
  generalize hq : b.cover = q at *
  generalize hs : shared p.bits q.bits = s at *
  have hm : meetP p q = cutP p.bits (s : Int) := by
    unfold meetP; rw [if_pos ⟨fa, fb⟩, hs]
    congr 1; omega
  have hq1 := fb.2.1
  have hlen : (meetP p q).len = s := by rw [hm]; unfold cutP; simp only; omega
  have hbits : (meetP p q).bits = cutB p.bits s := by rw [hm]; unfold cutP; simp only; congr 1; omega
  have hf : formedP (meetP p q) := by rw [hm]; exact cutP_formed _ _
  have hok : formedP (meetP p q) ∧ (meetP p q).len < 256 := ⟨hf, by rw [hlen]; omega⟩
  have ag : agree s (meetP p q).bits p.bits := fun i hi => by rw [hbits, kb_cutB]; simp [hi]
  have hsq : agree s p.bits q.bits := fun i hi => shared_eq (by omega)
  have hne : kb p.bits s ≠ kb q.bits s := by rw [← hs]; exact shared_ne (by omega)
  have side : ∀ (c : Int) (x : Pfx), (c = 0 ∨ c = 1) → formedP x → (s : Int) < x.len → agree s p.bits x.bits → kb x.bits s = decide (c = 1) → withinP (childP (meetP p q) c) x := fun c x hc fx hl hx hb => by
    have hco := wf_ok hok c hc
    refine within_agree.2 ⟨child_formed hco, fx, by rw [child_len hco, hlen]; omega, (child_agree hco _).2 ⟨?_, ?_⟩⟩
    · rw [hlen]; exact ag.trans hx
    · rw [hlen]; exact hb
  have refl : agree s p.bits p.bits := fun _ _ => rfl
  have hcov : (PT.join a b).cover = meetP p q := by
    unfold PT.join; simp only [hp, hq]; split <;> rfl
  refine ⟨?_, by rw [hcov]; exact hlen, by rw [hcov]; exact ag⟩
  unfold PT.join
  simp only [hp, hq]
  rw [hlen]
  by_cases hbit : bitI p.bits (s : Int) = 1
  · rw [if_pos hbit]
    have hb1 : kb p.bits s = true := (bitI_kb (by omega)).1 hbit
    have hb2 : kb q.bits s = false := by cases h : kb q.bits s; rfl; rw [hb1, h] at hne; exact absurd rfl hne
    exact ⟨hok, by rw [hq]; exact side 0 q (.inl rfl) fb h2 hsq (by rw [hb2]; rfl), by rw [hp]; exact side 1 p (.inr rfl) fa h1 refl (by rw [hb1]; rfl), hb, ha⟩
  · rw [if_neg hbit]
    have hb1 : kb p.bits s = false := by cases h : kb p.bits s; rfl; exact absurd ((bitI_kb (n := (s : Int)) (by omega)).2 h) hbit
    have hb2 : kb q.bits s = true := by cases h : kb q.bits s; rw [hb1, h] at hne; exact absurd rfl hne; rfl
    exact ⟨hok, by rw [hp]; exact side 0 p (.inl rfl) fa h1 refl (by rw [hb1]; rfl), by rw [hq]; exact side 1 q (.inr rfl) fb h2 hsq (by rw [hb2]; rfl), ha, hb⟩
/-- a leaf joined to what doesn't hold its key -/
theorem join_leaf {T : PT} {k v : H256} (h : T.wf) (hn : ¬ holdsP T.cover k) : (PT.join T (.leaf k v)).wf ∧ ∀ r, withinP r T.cover → holdsP r k → withinP r (PT.join T (.leaf k v)).cover := by
  have fT := cover_formed h
  have e : (PT.leaf k v).cover = ⟨256, k⟩ := leaf_cover k v
  have hs : (shared T.cover.bits k : Int) < T.cover.len := by
    rcases Int.lt_or_le (shared T.cover.bits k : Int) T.cover.len with h1 | h1
    · exact h1
    · exact absurd (holds_shared.2 ⟨fT, h1⟩) hn
  have hlen := fT.2.1
  have hbits : (PT.leaf k v).cover.bits = k := by rw [e]
  have hl2 : (PT.leaf k v).cover.len = 256 := by rw [e]
  obtain ⟨w1, w2, w3⟩ := joinT_ok (a := T) (b := .leaf k v) h trivial (by rw [hbits]; exact hs) (by rw [hbits, hl2]; omega)
  rw [hbits] at w2 w3
  refine ⟨w1, fun r hr hk => ?_⟩
  obtain ⟨r1, r2, r3, r4⟩ := within_agree.1 hr
  have hle : r.len.toNat ≤ shared T.cover.bits k := (agree_shared (by have := r1.2.1; omega)).1 (r4.symm.trans (holds_agree.1 hk).2)
  refine within_agree.2 ⟨r1, cover_formed w1, by rw [w2]; have := r1.1; omega, r4.trans ((w3.mono hle).symm)⟩
theorem ins_wf (k v : H256) : ∀ {T : PT}, T.wf → (T.ins k v).wf ∧ ∀ r, withinP r T.cover → holdsP r k → withinP r (T.ins k v).cover
  | .leaf k' v', h => by
    unfold PT.ins
    by_cases hk : k' = k
    · rw [if_pos hk]
      exact ⟨trivial, fun r _ hr => leaf_within hr⟩
    · rw [if_neg hk]
      refine join_leaf h fun hh => hk ?_
      rw [leaf_cover] at hh
      have := (holds_shared.1 hh).2
      have := shared_le k' k
      exact shared_all (show shared k' k = 256 by simp only at *; omega)
  | .node p a b, h => by
    obtain ⟨h0, h1, h2, h3, h4⟩ := h
    unfold PT.ins
    by_cases hh : holdsP p k
    · rw [if_pos hh]
      have hp0 := h0.1.1
      by_cases hb : bitI k p.len = 1
      · rw [if_pos hb]
        obtain ⟨i1, i2⟩ := ins_wf k v h4
        exact ⟨⟨h0, h1, i2 _ h2 (child_holds (wf_ok h0 1 (.inr rfl)) hh (by rw [(bitI_kb hp0).1 hb]; rfl)), h3, i1⟩, fun r hr _ => hr⟩
      · rw [if_neg hb]
        obtain ⟨i1, i2⟩ := ins_wf k v h3
        have hkb : kb k p.len.toNat = false := by cases hc : kb k p.len.toNat; rfl; exact absurd ((bitI_kb hp0).2 hc) hb
        exact ⟨⟨h0, i2 _ h1 (child_holds (wf_ok h0 0 (.inl rfl)) hh (by rw [hkb]; rfl)), h2, i1, h4⟩, fun r hr _ => hr⟩
    · rw [if_neg hh]
      exact join_leaf (T := .node p a b) ⟨h0, h1, h2, h3, h4⟩ hh
def wfO : Option PT → Prop
  | none => True
  | some T => T.wf
theorem trees_wf : ∀ (n : Nat) (ps : List KV), ps.length = n → wfO (treesF ps)
  | 0, ps, h => by
    obtain rfl := List.eq_nil_of_length_eq_zero h
    exact trivial
  | n + 1, ps, h => by
    have hne : ps ≠ [] := fun e => by subst e; cases h
    obtain ⟨qs, p, rfl⟩ : ∃ qs p, ps = qs ++ [p] := ⟨ps.dropLast, ps.getLast hne, (List.dropLast_concat_getLast hne).symm⟩
    have ih := trees_wf n qs (by simpa using h)
    rw [treesF_snoc]
    cases hq : treesF qs with
    | none => exact trivial
    | some T => rw [hq] at ih; exact (ins_wf p.1 p.2 ih).1
theorem built_wf (ps : List KV) : wfO (treesF ps) := trees_wf _ ps rfl
end Go.Proofs.YtmbkoigeekofdaaDoor

namespace Go.Proofs.YtmbkoigeekofdaaDoor
set_option linter.all false
open Go.RowKit
/-! the keys and values of a tree, rising -/
def PT.list : PT → List KV
  | .leaf k v => [(k, v)]
  | .node _ a b => a.list ++ b.list
theorem list_pos : ∀ T : PT, 0 < T.list.length
  | .leaf _ _ => by simp [PT.list]
  | .node _ a b => by have := list_pos a; simp only [PT.list, List.length_append]; omega
theorem wf_child {p : Pfx} {a : PT} {c : Int} (h0 : formedP p ∧ p.len < 256) (hc : c = 0 ∨ c = 1) (hw : withinP (childP p c) a.cover) {k : H256} (hk : holdsP a.cover k) : holdsP p k ∧ kb k p.len.toNat = decide (c = 1) := by
  have hco := wf_ok h0 c hc
  obtain ⟨w1, w2, w3, w4⟩ := within_agree.1 hw
  have hk2 := (holds_agree.1 hk).2
  have : agree (childP p c).len.toNat (childP p c).bits k := w4.trans (hk2.mono (by have := w1.1; omega))
  obtain ⟨g1, g2⟩ := (child_agree hco k).1 this
  exact ⟨holds_agree.2 ⟨h0.1, g1⟩, g2⟩
theorem leaf_holds (k v : H256) : holdsP (PT.leaf k v).cover k := by
  have := cover_formed (T := .leaf k v) trivial
  rw [leaf_cover] at this ⊢
  exact holds_agree.2 ⟨this, fun _ _ => rfl⟩
theorem wf_held : ∀ {T : PT}, T.wf → ∀ x ∈ T.list, holdsP T.cover x.1
  | .leaf k v, _, x, hx => by
    obtain rfl : x = (k, v) := by simpa [PT.list] using hx
    exact leaf_holds k v
  | .node p a b, h, x, hx => by
    obtain ⟨h0, h1, h2, h3, h4⟩ := h
    rcases List.mem_append.1 hx with hx | hx
    · exact (wf_child h0 (.inl rfl) h1 (wf_held h3 x hx)).1
    · exact (wf_child h0 (.inr rfl) h2 (wf_held h4 x hx)).1
theorem wf_left {p : Pfx} {a b : PT} (h : (PT.node p a b).wf) {x : KV} (hx : x ∈ a.list) : holdsP p x.1 ∧ kb x.1 p.len.toNat = false := wf_child h.1 (.inl rfl) h.2.1 (wf_held h.2.2.2.1 x hx)
theorem wf_right {p : Pfx} {a b : PT} (h : (PT.node p a b).wf) {x : KV} (hx : x ∈ b.list) : holdsP p x.1 ∧ kb x.1 p.len.toNat = true := wf_child h.1 (.inr rfl) h.2.2.1 (wf_held h.2.2.2.2 x hx)
theorem shared_at {x y : H256} {n : Nat} (hn : n < 256) (h : agree n x y) (hne : kb x n ≠ kb y n) : shared x y = n := shared_uniq (by omega) h (fun _ => hne)
theorem less_at {x y : H256} {n : Nat} (hn : n < 256) (h : agree n x y) (hx : kb x n = false) (hy : kb y n = true) : lessP x y := by
  have := shared_at hn h (by rw [hx, hy]; simp)
  exact ⟨by omega, by rw [this]; exact hx⟩
theorem less_asymm {x y : H256} (h : lessP x y) : ¬ lessP y x := fun g => by
  have hn := shared_ne h.1
  have e : shared y x = shared x y := shared_at h.1 (fun i hi => (shared_eq hi).symm) (fun e => hn e.symm)
  have h2 := h.2
  have g2 := g.2
  rw [e] at g2
  exact hn (by rw [h2, g2])
theorem less_irrefl (x : H256) : ¬ lessP x x := fun h => less_asymm h h
theorem not_less_at {x y : H256} {n : Nat} (hn : n < 256) (h : agree n x y) (hx : kb x n = false) (hy : kb y n = true) : ¬ lessP y x := less_asymm (less_at hn h hx hy)
theorem ne_at {x y : H256} {n : Nat} (hx : kb x n = false) (hy : kb y n = true) : x ≠ y := fun e => by rw [e, hy] at hx; cases hx
abbrev sortedL (l : List KV) : Prop := l.Pairwise fun x y => lessP x.1 y.1
theorem holds_agree2 {p : Pfx} {x y : H256} (hx : holdsP p x) (hy : holdsP p y) : agree p.len.toNat x y := ((holds_agree.1 hx).2).symm.trans (holds_agree.1 hy).2
theorem node_less {p : Pfx} {a b : PT} (h : (PT.node p a b).wf) {x y : KV} (hx : x ∈ a.list) (hy : y ∈ b.list) : lessP x.1 y.1 := by
  obtain ⟨x1, x2⟩ := wf_left h hx
  obtain ⟨y1, y2⟩ := wf_right h hy
  have := h.1.1.1
  have := h.1.2
  exact less_at (by omega) (holds_agree2 x1 y1) x2 y2
theorem wf_sorted : ∀ {T : PT}, T.wf → sortedL T.list
  | .leaf k v, _ => by simp [PT.list]
  | .node p a b, h => List.pairwise_append.2 ⟨wf_sorted h.2.2.2.1, wf_sorted h.2.2.2.2, fun _ hx _ hy => node_less h hx hy⟩
/-! putting into lists -/
def putL (k v : H256) : List KV → List KV
  | [] => [(k, v)]
  | x :: r => if lessP x.1 k then x :: putL k v r else (k, v) :: (x :: r).filter fun y => decide (y.1 ≠ k)
theorem putL_cons (k v : H256) (x : KV) (r : List KV) : putL k v (x :: r) = if lessP x.1 k then x :: putL k v r else (k, v) :: (x :: r).filter fun y => decide (y.1 ≠ k) := rfl
theorem putL_less {k v : H256} : ∀ {l m : List KV}, (∀ x ∈ l, lessP x.1 k) → putL k v (l ++ m) = l ++ putL k v m
  | [], _, _ => rfl
  | x :: r, m, h => by
    show putL k v (x :: (r ++ m)) = x :: (r ++ putL k v m)
    rw [putL_cons, if_pos (h x (by simp)), putL_less fun y hy => h y (by simp [hy])]
theorem filter_ne {k : H256} {l : List KV} (h : ∀ x ∈ l, x.1 ≠ k) : l.filter (fun y => decide (y.1 ≠ k)) = l := List.filter_eq_self.2 fun x hx => by simpa using h x hx
theorem putL_gt {k v : H256} : ∀ {l m : List KV}, (∀ x ∈ m, ¬ lessP x.1 k ∧ x.1 ≠ k) → putL k v (l ++ m) = putL k v l ++ m
  | [], [], _ => rfl
  | [], x :: m, h => by
    show putL k v (x :: m) = (k, v) :: x :: m
    rw [putL_cons, if_neg (h x (by simp)).1, filter_ne fun y hy => (h y hy).2]
  | x :: r, m, h => by
    show putL k v (x :: (r ++ m)) = _
    rw [putL_cons, putL_cons]
    split
    · rw [putL_gt h]; rfl
    · have e : (x :: (r ++ m)).filter (fun y => decide (y.1 ≠ k)) = (x :: r).filter (fun y => decide (y.1 ≠ k)) ++ m := by
        rw [show x :: (r ++ m) = (x :: r) ++ m from rfl, List.filter_append, filter_ne fun y hy => (h y hy).2]
      rw [e]; rfl
theorem meet_len {p q : Pfx} (fp : formedP p) (fq : formedP q) (h1 : (shared p.bits q.bits : Int) < p.len) (h2 : (shared p.bits q.bits : Int) < q.len) : (meetP p q).len = shared p.bits q.bits := by
  unfold meetP
  rw [if_pos ⟨fp, fq⟩]
  have := fp.2.1
  unfold cutP; simp only; omega
theorem join_list {T : PT} {k v : H256} (h : T.wf) (hn : ¬ holdsP T.cover k) : (PT.join T (.leaf k v)).list = putL k v T.list := by
  have fT := cover_formed h
  have e : (PT.leaf k v).cover = ⟨256, k⟩ := leaf_cover k v
  have hs : (shared T.cover.bits k : Int) < T.cover.len := by
    rcases Int.lt_or_le (shared T.cover.bits k : Int) T.cover.len with h1 | h1
    · exact h1
    · exact absurd (holds_shared.2 ⟨fT, h1⟩) hn
  have hlen := fT.2.1
  have fL : formedP (PT.leaf k v).cover := cover_formed (T := .leaf k v) trivial
  have hm : (meetP T.cover (PT.leaf k v).cover).len = shared T.cover.bits k := by
    have := meet_len (p := T.cover) (q := (PT.leaf k v).cover) fT fL (by rw [e]; exact hs) (by rw [e]; show (shared T.cover.bits k : Int) < 256; omega)
    rw [this, e]
  have hne := shared_ne (a := T.cover.bits) (b := k) (by omega)
  have ag : ∀ x ∈ T.list, agree (shared T.cover.bits k) x.1 k ∧ kb x.1 (shared T.cover.bits k) = kb T.cover.bits (shared T.cover.bits k) := fun x hx => by
    have hx2 := (holds_agree.1 (wf_held h x hx)).2
    exact ⟨((hx2.mono (by omega)).symm).trans (fun i hi => shared_eq hi), (hx2 _ (by omega)).symm⟩
  unfold PT.join
  simp only [hm]
  by_cases hb : bitI T.cover.bits (shared T.cover.bits k : Int) = 1
  · rw [if_pos hb]
    have hb1 : kb T.cover.bits (shared T.cover.bits k) = true := (bitI_kb (by omega)).1 hb
    have hb2 : kb k (shared T.cover.bits k) = false := by cases hc : kb k (shared T.cover.bits k); rfl; rw [hb1, hc] at hne; exact absurd rfl hne
    have := putL_gt (k := k) (v := v) (l := []) (m := T.list) fun x hx => by
      obtain ⟨g1, g2⟩ := ag x hx
      exact ⟨not_less_at (by omega) g1.symm hb2 (g2.trans hb1), (ne_at hb2 (g2.trans hb1)).symm⟩
    exact this.symm
  · rw [if_neg hb]
    have hb1 : kb T.cover.bits (shared T.cover.bits k) = false := by cases hc : kb T.cover.bits (shared T.cover.bits k); rfl; exact absurd ((bitI_kb (n := (shared T.cover.bits k : Int)) (by omega)).2 hc) hb
    have hb2 : kb k (shared T.cover.bits k) = true := by cases hc : kb k (shared T.cover.bits k); rw [hb1, hc] at hne; exact absurd rfl hne; rfl
    have := putL_less (k := k) (v := v) (l := T.list) (m := []) fun x hx => by
      obtain ⟨g1, g2⟩ := ag x hx
      exact less_at (by omega) g1 (g2.trans hb1) hb2
    rw [List.append_nil] at this
    exact this.symm
theorem ins_list {k v : H256} : ∀ {T : PT}, T.wf → (T.ins k v).list = putL k v T.list
  | .leaf k' v', h => by
    unfold PT.ins
    by_cases hk : k' = k
    · rw [if_pos hk]
      subst hk
      show [(k', v)] = putL k' v [(k', v')]
      unfold putL
      rw [if_neg (less_irrefl _)]; simp
    · rw [if_neg hk]
      refine join_list h fun hh => hk ?_
      rw [leaf_cover] at hh
      have := (holds_shared.1 hh).2
      have := shared_le k' k
      exact shared_all (show shared k' k = 256 by simp only at *; omega)
  | .node p a b, h => by
    have h0 := h.1
    unfold PT.ins
    by_cases hh : holdsP p k
    · rw [if_pos hh]
      have hp0 := h0.1.1
      have hp1 := h0.2
      by_cases hb : bitI k p.len = 1
      · rw [if_pos hb]
        have hkb := (bitI_kb hp0).1 hb
        show a.list ++ (b.ins k v).list = putL k v (a.list ++ b.list)
        rw [ins_list h.2.2.2.2, putL_less fun x hx => by
          obtain ⟨x1, x2⟩ := wf_left h hx
          exact less_at (by omega) (holds_agree2 x1 hh) x2 hkb]
      · rw [if_neg hb]
        have hkb : kb k p.len.toNat = false := by cases hc : kb k p.len.toNat; rfl; exact absurd ((bitI_kb hp0).2 hc) hb
        show (a.ins k v).list ++ b.list = putL k v (a.list ++ b.list)
        rw [ins_list h.2.2.2.1, putL_gt fun x hx => by
          obtain ⟨x1, x2⟩ := wf_right h hx
          exact ⟨not_less_at (by omega) (holds_agree2 hh x1) hkb x2, (ne_at hkb x2).symm⟩]
    · rw [if_neg hh]
      exact join_list h hh
def listO : Option PT → List KV
  | none => []
  | some T => T.list
def allL (ps : List KV) : List KV := ps.foldl (fun l p => putL p.1 p.2 l) []
theorem allL_snoc (ps : List KV) (p : KV) : allL (ps ++ [p]) = putL p.1 p.2 (allL ps) := by unfold allL; rw [List.foldl_append]; rfl
theorem all_trees_aux : ∀ (n : Nat) (ps : List KV), ps.length = n → allL ps = listO (treesF ps)
  | 0, ps, h => by
    obtain rfl := List.eq_nil_of_length_eq_zero h
    rfl
  | n + 1, ps, h => by
    have hne : ps ≠ [] := fun e => by subst e; cases h
    obtain ⟨qs, p, rfl⟩ : ∃ qs p, ps = qs ++ [p] := ⟨ps.dropLast, ps.getLast hne, (List.dropLast_concat_getLast hne).symm⟩
    have ih := all_trees_aux n qs (by simpa using h)
    have hw := built_wf qs
    rw [allL_snoc, treesF_snoc, ih]
    cases hq : treesF qs with
    | none => rfl
    | some T => rw [hq] at hw; exact (ins_list hw).symm
theorem all_trees (ps : List KV) : allL ps = listO (treesF ps) := all_trees_aux _ ps rfl
theorem sortedO {o : Option PT} (h : wfO o) : sortedL (listO o) := by
  cases o with
  | none => simp [listO]
  | some T => exact wf_sorted h
/-! what a list says of its tree -/
theorem over_spec {p : Pfx} {a b : PT} (h : (PT.node p a b).wf) {x y : KV} (hx : x ∈ a.list) (hy : y ∈ b.list) : shared x.1 y.1 = p.len.toNat ∧ cutP x.1 (shared x.1 y.1 : Int) = p := by
  obtain ⟨x1, x2⟩ := wf_left h hx
  obtain ⟨y1, y2⟩ := wf_right h hy
  have h0 := h.1.1.1
  have h1 := h.1.2
  have e : shared x.1 y.1 = p.len.toNat := shared_at (by omega) (holds_agree2 x1 y1) (by rw [x2, y2]; simp)
  refine ⟨e, ?_⟩
  rw [e]
  have e2 : (p.len.toNat : Int) = p.len := by omega
  rw [e2]
  unfold cutP
  rw [show min (max p.len 0) 256 = p.len by omega, x1.2]
theorem list_first (T : PT) : ∃ x, T.list[0]? = some x ∧ x ∈ T.list := ⟨T.list[0]'(list_pos T), List.getElem?_eq_getElem _, List.getElem_mem _⟩
theorem list_last (T : PT) : ∃ x, T.list[T.list.length - 1]? = some x ∧ x ∈ T.list := ⟨T.list[T.list.length - 1]'(by have := list_pos T; omega), List.getElem?_eq_getElem _, List.getElem_mem _⟩
/-- one list, one tree -/
theorem wf_inj : ∀ {T U : PT}, T.wf → U.wf → T.list = U.list → T = U
  | .leaf k v, .leaf k' v', _, _, h => by simp only [PT.list, List.cons.injEq, Prod.mk.injEq, and_true] at h; rw [h.1, h.2]
  | .leaf k v, .node p a b, _, _, h => by
    have h1 := congrArg List.length h
    simp only [PT.list, List.length_append, List.length_cons, List.length_nil] at h1
    have := list_pos a; have := list_pos b; omega
  | .node p a b, .leaf k v, _, _, h => by
    have h1 := congrArg List.length h
    simp only [PT.list, List.length_append, List.length_cons, List.length_nil] at h1
    have := list_pos a; have := list_pos b; omega
  | .node p a b, .node q c d, hT, hU, h => by
    have h' : a.list ++ b.list = c.list ++ d.list := h
    obtain ⟨x, x1, x2⟩ := list_first a
    obtain ⟨y, y1, y2⟩ := list_last b
    obtain ⟨x', x1', x2'⟩ := list_first c
    obtain ⟨y', y1', y2'⟩ := list_last d
    have la := list_pos a
    have lb := list_pos b
    have lc := list_pos c
    have ld := list_pos d
    have hlen := congrArg List.length h'
    simp only [List.length_append] at hlen
    have ex : x = x' := by
      have := congrArg (fun l : List KV => l[0]?) h'
      rw [List.getElem?_append_left la, List.getElem?_append_left lc, x1, x1'] at this
      exact Option.some.inj this
    have ey : y = y' := by
      have := congrArg (fun l : List KV => l[a.list.length + b.list.length - 1]?) h'
      rw [List.getElem?_append_right (by omega), List.getElem?_append_right (by omega)] at this
      rw [show a.list.length + b.list.length - 1 - a.list.length = b.list.length - 1 by omega, show a.list.length + b.list.length - 1 - c.list.length = d.list.length - 1 by omega, y1, y1'] at this
      exact Option.some.inj this
    subst ex ey
    have o1 := (over_spec hT x2 y2).2
    have o2 := (over_spec hU x2' y2').2
    have hpq : p = q := o1.symm.trans o2
    subst hpq
    have f1 : (a.list ++ b.list).filter (fun z => !kb z.1 p.len.toNat) = a.list := by
      rw [List.filter_append, List.filter_eq_self.2 fun z hz => by rw [(wf_left hT hz).2]; rfl, List.filter_eq_nil_iff.2 fun z hz => by rw [(wf_right hT hz).2]; simp, List.append_nil]
    have f2 : (c.list ++ d.list).filter (fun z => !kb z.1 p.len.toNat) = c.list := by
      rw [List.filter_append, List.filter_eq_self.2 fun z hz => by rw [(wf_left hU hz).2]; rfl, List.filter_eq_nil_iff.2 fun z hz => by rw [(wf_right hU hz).2]; simp, List.append_nil]
    have hac : a.list = c.list := by rw [← f1, h', f2]
    have hbd : b.list = d.list := by rw [hac] at h'; exact List.append_cancel_left h'
    rw [wf_inj hT.2.2.2.1 hU.2.2.2.1 hac, wf_inj hT.2.2.2.2 hU.2.2.2.2 hbd]
/-! lists with the same members -/
theorem sorted_uniq : ∀ {l m : List KV}, sortedL l → sortedL m → (∀ x, x ∈ l ↔ x ∈ m) → l = m
  | [], [], _, _, _ => rfl
  | [], y :: m, _, _, h => by have := (h y).2 (by simp); simp at this
  | x :: l, [], _, _, h => by have := (h x).1 (by simp); simp at this
  | x :: l, y :: m, hl, hm, h => by
    obtain ⟨l1, l2⟩ := List.pairwise_cons.1 hl
    obtain ⟨m1, m2⟩ := List.pairwise_cons.1 hm
    have e : x = y := by
      rcases List.mem_cons.1 ((h x).1 (by simp)) with h1 | h1
      · exact h1
      · rcases List.mem_cons.1 ((h y).2 (by simp)) with h2 | h2
        · exact h2.symm
        · exact absurd (l1 y h2) (less_asymm (m1 x h1))
    subst e
    congr 1
    refine sorted_uniq l2 m2 fun z => ⟨fun hz => ?_, fun hz => ?_⟩
    · rcases List.mem_cons.1 ((h z).1 (by simp [hz])) with h1 | h1
      · subst h1; exact absurd (l1 z hz) (less_irrefl _)
      · exact h1
    · rcases List.mem_cons.1 ((h z).2 (by simp [hz])) with h1 | h1
      · subst h1; exact absurd (m1 z hz) (less_irrefl _)
      · exact h1
theorem mem_putL {k v : H256} {x : KV} : ∀ {l : List KV}, sortedL l → (x ∈ putL k v l ↔ x = (k, v) ∨ x ∈ l ∧ x.1 ≠ k)
  | [], _ => by simp [putL]
  | y :: r, h => by
    obtain ⟨h1, h2⟩ := List.pairwise_cons.1 h
    unfold putL
    split
    · rename_i hy
      have hyk : y.1 ≠ k := fun e => by rw [e] at hy; exact less_irrefl _ hy
      rw [List.mem_cons, mem_putL h2, List.mem_cons]
      constructor
      · rintro (h | h | h)
        · exact .inr ⟨.inl h, by rw [h]; exact hyk⟩
        · exact .inl h
        · exact .inr ⟨.inr h.1, h.2⟩
      · rintro (h | ⟨h | h, g⟩)
        · exact .inr (.inl h)
        · exact .inl h
        · exact .inr (.inr ⟨h, g⟩)
    · rw [List.mem_cons, List.mem_filter]; simp
/-- pairs of which each key has one value -/
def funcL (l : List KV) : Prop := ∀ x ∈ l, ∀ y ∈ l, x.1 = y.1 → x = y
theorem mem_allL (S : List KV) (hS : funcL S) {x : KV} : ∀ (n : Nat) (ps : List KV), ps.length = n → (∀ y ∈ ps, y ∈ S) → (x ∈ allL ps ↔ x ∈ ps)
  | 0, ps, h, _ => by
    obtain rfl := List.eq_nil_of_length_eq_zero h
    rfl
  | n + 1, ps, h, hs => by
    have hne : ps ≠ [] := fun e => by subst e; cases h
    obtain ⟨qs, p, rfl⟩ : ∃ qs p, ps = qs ++ [p] := ⟨ps.dropLast, ps.getLast hne, (List.dropLast_concat_getLast hne).symm⟩
    have ih := mem_allL S hS (x := x) n qs (by simpa using h) fun y hy => hs y (by simp [hy])
    rw [allL_snoc, mem_putL (by rw [all_trees]; exact sortedO (built_wf qs)), ih]
    constructor
    · rintro (h | h)
      · rw [h]; simp
      · simp [h.1]
    · intro h
      rcases List.mem_append.1 h with h | h
      · by_cases he : x.1 = p.1
        · exact .inl (hS x (hs x (by simp [h])) p (hs p (by simp)) he)
        · exact .inr ⟨h, he⟩
      · obtain rfl : x = p := by simpa using h
        exact .inl rfl
theorem order_law {ps qs : List KV} (hS : funcL ps) (h : ∀ x, x ∈ qs ↔ x ∈ ps) : treesF qs = treesF ps := by
  have e : allL qs = allL ps := by
    refine sorted_uniq ?_ ?_ fun x => ?_
    · rw [all_trees]; exact sortedO (built_wf qs)
    · rw [all_trees]; exact sortedO (built_wf ps)
    · rw [mem_allL ps hS (x := x) _ ps rfl fun _ h => h, mem_allL ps hS (x := x) _ qs rfl fun y hy => (h y).1 hy]; exact h x
  rw [all_trees, all_trees] at e
  have w1 := built_wf qs
  have w2 := built_wf ps
  cases h3 : treesF qs with
  | none =>
    cases h4 : treesF ps with
    | none => rfl
    | some T => rw [h3, h4] at e; have := list_pos T; rw [show listO (some T) = T.list from rfl, show listO none = ([] : List KV) from rfl] at e; rw [← e] at this; simp at this
  | some U =>
    cases h4 : treesF ps with
    | none => rw [h3, h4] at e; have := list_pos U; rw [show listO (some U) = U.list from rfl, show listO none = ([] : List KV) from rfl] at e; rw [e] at this; simp at this
    | some T =>
      rw [h3] at w1 e
      rw [h4] at w2 e
      rw [wf_inj w1 w2 e]
end Go.Proofs.YtmbkoigeekofdaaDoor

namespace Go.Proofs.YtmbkoigeekofdaaDoor
set_option linter.all false
open Go.RowKit
/-! no forest; what is no tree -/
def putN_c : Ctr where
  D := Int × H256 × H256
  args := fun (t, k, v) => [.nilp, .int .i64 t, .agg [.arr8 k], .agg [.arr8 v]]
  res := fun _ _ => .tup [.int .i64 0, .int .i64 1]
def putN_H : Cfg := ⟨[(25, isN_c), (37, path_c), (38, add_c), (39, join_c), (40, bit_c)], [(7, [6, 10, 15, 19, 20], [], (.one 0 0 false (.one 1 0 false (.one 2 0 false (.one 3 0 false (.one 4 0 false (.one 5 0 false (.one 6 1 false (.one 7 0 false (.one 8 0 false (.one 9 0 false (.one 10 1 false (.one 11 0 false (.one 12 0 false (.one 13 0 false (.one 14 0 false (.one 15 1 false (.one 16 0 false (.one 17 0 false (.one 18 0 false (.one 19 1 false (.one 20 1 false (.one 21 0 false (.one 22 0 false (.one 23 0 false (.one 24 0 false .nil))))))))))))))))))))))))), []), (12, [3, 7, 9], [10, 11], (.one 0 0 false (.one 1 0 false (.one 2 0 false (.one 3 1 false (.one 4 0 false (.one 5 0 false (.one 6 0 false (.one 7 1 false (.one 8 0 false (.one 9 1 false (.one 10 2 true (.one 11 2 false .nil)))))))))))), [])], [], [], 101, 0, [], [], []⟩
theorem putN_ok : putN_c.Ok Tryd.prog 20 := by
  refine fn_ok putN_H 0 rfl _ Tryd.func20 rfl rfl ⟨isN_ok, path_ok, add_ok, join_ok, bit_ok, trivial⟩ rfl rfl (by kernel_rfl) (fun _ => Nat.le_of_ble_eq_true rfl) ?_
  rintro ⟨t, k, v⟩ hp hr
  try dsimp only [putN_c] at hp
  try simp only [putN_c, Rng, RngL, inR, and_true, true_and] at hr
  repeat' (first | (with_reducible first | refine Unf.h ?_ | refine loopK_n ?_ | refine cutK_n ?_) | ((conv => whnf); first | refine Both.mk ?_ ?_ | refine Fork.mkn (fun h => ?_) (fun h => ?_) | refine Fork.mk (fun h => ?_) (fun h => ?_) | (refine Side.mk ?_ ?_; focus (first | with_reducible rfl | exact True.intro | assumption | omega | (refine congrArg (SV.int _) ?_; omega) | (dsimp only; omega) | (intros; (try simp only [lenS, inR, cutS, loI, hiI] at *); omega) | exact nnS (by decide) | exact List.eq_nil_of_length_eq_zero (by assumption) | exact dT (by omega) | exact dF (by omega) | exact decide_eq_decide.2 (by omega) | (split <;> first | rfl | (exfalso; omega)) | (refine ⟨fun h => ?_, fun h => ?_⟩ <;> first | rfl | (cases h; done) | omega | (exfalso; omega) | (simp only [Bool.false_eq_true] at h; done)) | (simp only [*]; done) | (simp only [*, List.map_cons, List.map_nil, eB]; done) | (simp [*]; done) | (dsimp only [resS, putN_c]; done) | (dsimp only [resS, putN_c]; first | with_reducible rfl | exact True.intro | assumption | omega | (refine congrArg (SV.int _) ?_; omega) | ((try simp only [lenS, inR, cutS, loI, hiI]); omega) | (simp only [*]; done) | (simp only [*, List.map_cons, List.map_nil, eB]; done) | (simp [*]; done)))) | (refine Idx.mk ?_ ?_; focus (first | omega | (simp only [lenS, inR, cutS, loI, hiI]; omega))) | refine RetE.mk () trivial ?_ | refine Got.mk (fun _ _ => ?_) | refine Ex.mk _ rfl ?_ | refine Ex.mk [_] rfl ?_ | refine Ex.mk [_, _] rfl ?_ | refine Ex.mk [_, _, _] rfl ?_ | refine Ex.mk [_, _, _, _] rfl ?_ | refine boolK (fun h => ?_) ?_ | (with_reducible first | refine Unf.h ?_ | refine loopK_n ?_ | refine cutK_n ?_) | refine retK_n ?_ | refine retK_r ?_ | exact rfl | exact True.intro | refine CallS.mk (c := isN_c) (t) ?_ | refine Or2.l (CallS.mk (c := isN_c) (t) ?_) | refine Or2.r (CallS.mk (c := isN_c) (t) ?_) | refine Or2.r (Or2.l (CallS.mk (c := isN_c) (t) ?_)) | refine Or2.r (Or2.r (CallS.mk (c := isN_c) (t) ?_))) | fail); all_goals try (conv => whnf)
def putX_c : Ctr where
  D := Fo × Int × H256 × H256
  pre := fun (l, t, _, _) => ¬ isT l t
  args := fun (_, t, k, v) => [.ptr 0 0, .int .i64 t, .agg [.arr8 k], .agg [.arr8 v]]
  objs := fun (l, _) => fo l
  nn := 2
  res := fun _ _ => .tup [.int .i64 0, .int .i64 1]
  out := fun (l, _) _ => fo l
def putX_H : Cfg := ⟨[(25, is_c), (37, path_c), (38, add_c), (39, join_c), (40, bit_c)], [(7, [6, 10, 15, 19, 20], [], (.one 0 0 false (.one 1 0 false (.one 2 0 false (.one 3 0 false (.one 4 0 false (.one 5 0 false (.one 6 1 false (.one 7 0 false (.one 8 0 false (.one 9 0 false (.one 10 1 false (.one 11 0 false (.one 12 0 false (.one 13 0 false (.one 14 0 false (.one 15 1 false (.one 16 0 false (.one 17 0 false (.one 18 0 false (.one 19 1 false (.one 20 1 false (.one 21 0 false (.one 22 0 false (.one 23 0 false (.one 24 0 false .nil))))))))))))))))))))))))), []), (12, [3, 7, 9], [10, 11], (.one 0 0 false (.one 1 0 false (.one 2 0 false (.one 3 1 false (.one 4 0 false (.one 5 0 false (.one 6 0 false (.one 7 1 false (.one 8 0 false (.one 9 1 false (.one 10 2 true (.one 11 2 false .nil)))))))))))), [])], [], [], 101, 2, [], [], []⟩
theorem putX_ok : putX_c.Ok Tryd.prog 20 := by
  refine fn_ok putX_H 2 rfl _ Tryd.func20 rfl rfl ⟨is_ok, path_ok, add_ok, join_ok, bit_ok, trivial⟩ rfl rfl (by kernel_rfl) (fun _ => Nat.le_of_ble_eq_true rfl) ?_
  rintro ⟨l, t, k, v⟩ hp hr
  try dsimp only [putX_c] at hp
  try simp only [putX_c, Rng, RngL, inR, and_true, true_and] at hr
  repeat' (first | (with_reducible first | refine Unf.h ?_ | refine loopK_n ?_ | refine cutK_n ?_) | ((conv => whnf); first | refine Both.mk ?_ ?_ | refine Fork.mkn (fun h => ?_) (fun h => ?_) | refine Fork.mk (fun h => ?_) (fun h => ?_) | (refine Side.mk ?_ ?_; focus (first | with_reducible rfl | exact True.intro | assumption | omega | (refine congrArg (SV.int _) ?_; omega) | (dsimp only; omega) | (intros; (try simp only [lenS, inR, cutS, loI, hiI] at *); omega) | exact nnS (by decide) | exact List.eq_nil_of_length_eq_zero (by assumption) | exact dT (by omega) | exact dF (by omega) | exact decide_eq_decide.2 (by omega) | (split <;> first | rfl | (exfalso; omega)) | (refine ⟨fun h => ?_, fun h => ?_⟩ <;> first | rfl | (cases h; done) | omega | (exfalso; omega) | (simp only [Bool.false_eq_true] at h; done)) | (simp only [*]; done) | (simp only [*, List.map_cons, List.map_nil, eB]; done) | (simp [*]; done) | (dsimp only [resS, putX_c]; done) | (dsimp only [resS, putX_c]; first | with_reducible rfl | exact True.intro | assumption | omega | (refine congrArg (SV.int _) ?_; omega) | ((try simp only [lenS, inR, cutS, loI, hiI]); omega) | (simp only [*]; done) | (simp only [*, List.map_cons, List.map_nil, eB]; done) | (simp [*]; done)))) | (refine Idx.mk ?_ ?_; focus (first | omega | (simp only [lenS, inR, cutS, loI, hiI]; omega))) | refine RetE.mk () trivial ?_ | refine Got.mk (fun _ _ => ?_) | refine Ex.mk _ rfl ?_ | refine Ex.mk [_] rfl ?_ | refine Ex.mk [_, _] rfl ?_ | refine Ex.mk [_, _, _] rfl ?_ | refine Ex.mk [_, _, _, _] rfl ?_ | refine boolK (fun h => ?_) ?_ | (with_reducible first | refine Unf.h ?_ | refine loopK_n ?_ | refine cutK_n ?_) | refine retK_n ?_ | refine retK_r ?_ | exact rfl | exact True.intro | refine CallS.mk (c := is_c) ((l, t)) ?_ | refine Or2.l (CallS.mk (c := is_c) ((l, t)) ?_) | refine Or2.r (CallS.mk (c := is_c) ((l, t)) ?_) | refine Or2.r (Or2.l (CallS.mk (c := is_c) ((l, t)) ?_)) | refine Or2.r (Or2.r (CallS.mk (c := is_c) ((l, t)) ?_))) | fail); all_goals try (conv => whnf)
  exact absurd (show isT l t by assumption) hp
def rootF (l : Fo) (t : Int) : H256 := if t = -1 then emptyH else (nd l t).hash
def root_c : Ctr where
  D := Fo × Int
  pre := fun (l, t) => isT l t
  args := fun (_, t) => [.ptr 0 0, .int .i64 t]
  objs := fun (l, _) => fo l
  nn := 2
  res := fun (l, t) _ => .tup [.agg [.arr8 (rootF l t)], .int .i64 0]
  out := fun (l, _) _ => fo l
def root_H : Cfg := ⟨[(25, is_c), (26, hempty_c)], [], [], [], 24, 2, [], [], []⟩
theorem root_ok : root_c.Ok Tryd.prog 9 := by
  refine fn_ok root_H 2 rfl _ Tryd.func9 rfl rfl ⟨is_ok, hempty_ok, trivial⟩ rfl rfl (by kernel_rfl) (fun _ => Nat.le_of_ble_eq_true rfl) ?_
  rintro ⟨l, t⟩ hp hr
  try dsimp only [root_c] at hp
  try simp only [root_c, Rng, RngL, inR, and_true, true_and] at hr
  obtain ⟨ht0, ht1⟩ := hp
  repeat' (first | (with_reducible first | refine Unf.h ?_ | refine loopK_n ?_ | refine cutK_n ?_) | ((conv => whnf); first | refine Both.mk ?_ ?_ | refine Fork.mkn (fun h => ?_) (fun h => ?_) | refine Fork.mk (fun h => ?_) (fun h => ?_) | (refine Side.mk ?_ ?_; focus (first | with_reducible rfl | exact True.intro | assumption | omega | (refine congrArg (SV.int _) ?_; omega) | (dsimp only; omega) | (intros; (try simp only [lenS, inR, cutS, loI, hiI] at *); omega) | exact nnS (by decide) | exact List.eq_nil_of_length_eq_zero (by assumption) | exact dT (by omega) | exact dF (by omega) | exact decide_eq_decide.2 (by omega) | (split <;> first | rfl | (exfalso; omega)) | (refine ⟨fun h => ?_, fun h => ?_⟩ <;> first | rfl | (cases h; done) | omega | (exfalso; omega) | (simp only [Bool.false_eq_true] at h; done)) | (simp only [*]; done) | (simp only [*, List.map_cons, List.map_nil, eB]; done) | (simp [*]; done) | (dsimp only [resS, root_c]; done) | (dsimp only [resS, root_c]; first | with_reducible rfl | exact True.intro | assumption | omega | (refine congrArg (SV.int _) ?_; omega) | ((try simp only [lenS, inR, cutS, loI, hiI]); omega) | (simp only [*]; done) | (simp only [*, List.map_cons, List.map_nil, eB]; done) | (simp [*]; done)))) | (refine Idx.mk ?_ ?_; focus (first | omega | (simp only [lenS, inR, cutS, loI, hiI]; omega))) | refine RetE.mk () trivial ?_ | refine Got.mk (fun _ _ => ?_) | refine Ex.mk _ rfl ?_ | refine Ex.mk [_] rfl ?_ | refine Ex.mk [_, _] rfl ?_ | refine Ex.mk [_, _, _] rfl ?_ | refine Ex.mk [_, _, _, _] rfl ?_ | refine boolK (fun h => ?_) ?_ | (with_reducible first | refine Unf.h ?_ | refine loopK_n ?_ | refine cutK_n ?_) | refine retK_n ?_ | refine retK_r ?_ | exact rfl | exact True.intro | refine CallS.mk (c := is_c) ((l, t)) ?_ | refine Or2.l (CallS.mk (c := is_c) ((l, t)) ?_) | refine Or2.r (CallS.mk (c := is_c) ((l, t)) ?_) | refine Or2.r (Or2.l (CallS.mk (c := is_c) ((l, t)) ?_)) | refine Or2.r (Or2.r (CallS.mk (c := is_c) ((l, t)) ?_)) | refine CallS.mk (c := hempty_c) (()) ?_ | refine Or2.l (CallS.mk (c := hempty_c) (()) ?_) | refine Or2.r (CallS.mk (c := hempty_c) (()) ?_) | refine Or2.r (Or2.l (CallS.mk (c := hempty_c) (()) ?_)) | refine Or2.r (Or2.r (CallS.mk (c := hempty_c) (()) ?_))) | fail); all_goals try (conv => whnf)
  · refine Side.mk (congrArg SV.arr8 (if_pos h).symm) (by repeat' (first | (with_reducible first | refine Unf.h ?_ | refine loopK_n ?_ | refine cutK_n ?_) | ((conv => whnf); first | refine Both.mk ?_ ?_ | refine Fork.mkn (fun h => ?_) (fun h => ?_) | refine Fork.mk (fun h => ?_) (fun h => ?_) | (refine Side.mk ?_ ?_; focus (first | with_reducible rfl | exact True.intro | assumption | omega | (refine congrArg (SV.int _) ?_; omega) | (dsimp only; omega) | (intros; (try simp only [lenS, inR, cutS, loI, hiI] at *); omega) | exact nnS (by decide) | exact List.eq_nil_of_length_eq_zero (by assumption) | exact dT (by omega) | exact dF (by omega) | exact decide_eq_decide.2 (by omega) | (split <;> first | rfl | (exfalso; omega)) | (refine ⟨fun h => ?_, fun h => ?_⟩ <;> first | rfl | (cases h; done) | omega | (exfalso; omega) | (simp only [Bool.false_eq_true] at h; done)) | (simp only [*]; done) | (simp only [*, List.map_cons, List.map_nil, eB]; done) | (simp [*]; done) | (dsimp only [resS, root_c]; done) | (dsimp only [resS, root_c]; first | with_reducible rfl | exact True.intro | assumption | omega | (refine congrArg (SV.int _) ?_; omega) | ((try simp only [lenS, inR, cutS, loI, hiI]); omega) | (simp only [*]; done) | (simp only [*, List.map_cons, List.map_nil, eB]; done) | (simp [*]; done)))) | (refine Idx.mk ?_ ?_; focus (first | omega | (simp only [lenS, inR, cutS, loI, hiI]; omega))) | refine RetE.mk () trivial ?_ | refine Got.mk (fun _ _ => ?_) | refine Ex.mk _ rfl ?_ | refine Ex.mk [_] rfl ?_ | refine Ex.mk [_, _] rfl ?_ | refine Ex.mk [_, _, _] rfl ?_ | refine Ex.mk [_, _, _, _] rfl ?_ | refine boolK (fun h => ?_) ?_ | (with_reducible first | refine Unf.h ?_ | refine loopK_n ?_ | refine cutK_n ?_) | refine retK_n ?_ | refine retK_r ?_ | exact rfl | exact True.intro) | fail); all_goals try (conv => whnf))
  · refine Side.mk (congrArg SV.arr8 ?_) (by repeat' (first | (with_reducible first | refine Unf.h ?_ | refine loopK_n ?_ | refine cutK_n ?_) | ((conv => whnf); first | refine Both.mk ?_ ?_ | refine Fork.mkn (fun h => ?_) (fun h => ?_) | refine Fork.mk (fun h => ?_) (fun h => ?_) | (refine Side.mk ?_ ?_; focus (first | with_reducible rfl | exact True.intro | assumption | omega | (refine congrArg (SV.int _) ?_; omega) | (dsimp only; omega) | (intros; (try simp only [lenS, inR, cutS, loI, hiI] at *); omega) | exact nnS (by decide) | exact List.eq_nil_of_length_eq_zero (by assumption) | exact dT (by omega) | exact dF (by omega) | exact decide_eq_decide.2 (by omega) | (split <;> first | rfl | (exfalso; omega)) | (refine ⟨fun h => ?_, fun h => ?_⟩ <;> first | rfl | (cases h; done) | omega | (exfalso; omega) | (simp only [Bool.false_eq_true] at h; done)) | (simp only [*]; done) | (simp only [*, List.map_cons, List.map_nil, eB]; done) | (simp [*]; done) | (dsimp only [resS, root_c]; done) | (dsimp only [resS, root_c]; first | with_reducible rfl | exact True.intro | assumption | omega | (refine congrArg (SV.int _) ?_; omega) | ((try simp only [lenS, inR, cutS, loI, hiI]); omega) | (simp only [*]; done) | (simp only [*, List.map_cons, List.map_nil, eB]; done) | (simp [*]; done)))) | (refine Idx.mk ?_ ?_; focus (first | omega | (simp only [lenS, inR, cutS, loI, hiI]; omega))) | refine RetE.mk () trivial ?_ | refine Got.mk (fun _ _ => ?_) | refine Ex.mk _ rfl ?_ | refine Ex.mk [_] rfl ?_ | refine Ex.mk [_, _] rfl ?_ | refine Ex.mk [_, _, _] rfl ?_ | refine Ex.mk [_, _, _, _] rfl ?_ | refine boolK (fun h => ?_) ?_ | (with_reducible first | refine Unf.h ?_ | refine loopK_n ?_ | refine cutK_n ?_) | refine retK_n ?_ | refine retK_r ?_ | exact rfl | exact True.intro) | fail); all_goals try (conv => whnf))
    rw [nd_get l t (by omega) (by omega)]
    exact (if_neg h).symm
def rootX_c : Ctr where
  D := Fo × Int
  pre := fun (l, t) => ¬ isT l t
  args := fun (_, t) => [.ptr 0 0, .int .i64 t]
  objs := fun (l, _) => fo l
  nn := 2
  res := fun _ _ => .tup [.agg [.arr8 zeroH], .int .i64 1]
  out := fun (l, _) _ => fo l
def rootX_H : Cfg := ⟨[(25, is_c), (26, hempty_c)], [], [], [], 24, 2, [], [], []⟩
theorem rootX_ok : rootX_c.Ok Tryd.prog 9 := by
  refine fn_ok rootX_H 2 rfl _ Tryd.func9 rfl rfl ⟨is_ok, hempty_ok, trivial⟩ rfl rfl (by kernel_rfl) (fun _ => Nat.le_of_ble_eq_true rfl) ?_
  rintro ⟨l, t⟩ hp hr
  try dsimp only [rootX_c] at hp
  try simp only [rootX_c, Rng, RngL, inR, and_true, true_and] at hr
  repeat' (first | (with_reducible first | refine Unf.h ?_ | refine loopK_n ?_ | refine cutK_n ?_) | ((conv => whnf); first | refine Both.mk ?_ ?_ | refine Fork.mkn (fun h => ?_) (fun h => ?_) | refine Fork.mk (fun h => ?_) (fun h => ?_) | (refine Side.mk ?_ ?_; focus (first | with_reducible rfl | exact True.intro | assumption | omega | (refine congrArg (SV.int _) ?_; omega) | (dsimp only; omega) | (intros; (try simp only [lenS, inR, cutS, loI, hiI] at *); omega) | exact nnS (by decide) | exact List.eq_nil_of_length_eq_zero (by assumption) | exact dT (by omega) | exact dF (by omega) | exact decide_eq_decide.2 (by omega) | (split <;> first | rfl | (exfalso; omega)) | (refine ⟨fun h => ?_, fun h => ?_⟩ <;> first | rfl | (cases h; done) | omega | (exfalso; omega) | (simp only [Bool.false_eq_true] at h; done)) | (simp only [*]; done) | (simp only [*, List.map_cons, List.map_nil, eB]; done) | (simp [*]; done) | (dsimp only [resS, rootX_c]; done) | (dsimp only [resS, rootX_c]; first | with_reducible rfl | exact True.intro | assumption | omega | (refine congrArg (SV.int _) ?_; omega) | ((try simp only [lenS, inR, cutS, loI, hiI]); omega) | (simp only [*]; done) | (simp only [*, List.map_cons, List.map_nil, eB]; done) | (simp [*]; done)))) | (refine Idx.mk ?_ ?_; focus (first | omega | (simp only [lenS, inR, cutS, loI, hiI]; omega))) | refine RetE.mk () trivial ?_ | refine Got.mk (fun _ _ => ?_) | refine Ex.mk _ rfl ?_ | refine Ex.mk [_] rfl ?_ | refine Ex.mk [_, _] rfl ?_ | refine Ex.mk [_, _, _] rfl ?_ | refine Ex.mk [_, _, _, _] rfl ?_ | refine boolK (fun h => ?_) ?_ | (with_reducible first | refine Unf.h ?_ | refine loopK_n ?_ | refine cutK_n ?_) | refine retK_n ?_ | refine retK_r ?_ | exact rfl | exact True.intro | refine CallS.mk (c := is_c) ((l, t)) ?_ | refine Or2.l (CallS.mk (c := is_c) ((l, t)) ?_) | refine Or2.r (CallS.mk (c := is_c) ((l, t)) ?_) | refine Or2.r (Or2.l (CallS.mk (c := is_c) ((l, t)) ?_)) | refine Or2.r (Or2.r (CallS.mk (c := is_c) ((l, t)) ?_))) | fail); all_goals try (conv => whnf)
  all_goals exact absurd (show isT l t by assumption) hp
def rootN_c : Ctr where
  D := Int
  args := fun t => [.nilp, .int .i64 t]
  res := fun _ _ => .tup [.agg [.arr8 zeroH], .int .i64 1]
def rootN_H : Cfg := ⟨[(25, isN_c), (26, hempty_c)], [], [], [], 24, 0, [], [], []⟩
theorem rootN_ok : rootN_c.Ok Tryd.prog 9 := by
  refine fn_ok rootN_H 0 rfl _ Tryd.func9 rfl rfl ⟨isN_ok, hempty_ok, trivial⟩ rfl rfl (by kernel_rfl) (fun _ => Nat.le_of_ble_eq_true rfl) ?_
  intro (t : Int) hp hr
  try dsimp only [rootN_c] at hp
  try simp only [rootN_c, Rng, RngL, inR, and_true, true_and] at hr
  repeat' (first | (with_reducible first | refine Unf.h ?_ | refine loopK_n ?_ | refine cutK_n ?_) | ((conv => whnf); first | refine Both.mk ?_ ?_ | refine Fork.mkn (fun h => ?_) (fun h => ?_) | refine Fork.mk (fun h => ?_) (fun h => ?_) | (refine Side.mk ?_ ?_; focus (first | with_reducible rfl | exact True.intro | assumption | omega | (refine congrArg (SV.int _) ?_; omega) | (dsimp only; omega) | (intros; (try simp only [lenS, inR, cutS, loI, hiI] at *); omega) | exact nnS (by decide) | exact List.eq_nil_of_length_eq_zero (by assumption) | exact dT (by omega) | exact dF (by omega) | exact decide_eq_decide.2 (by omega) | (split <;> first | rfl | (exfalso; omega)) | (refine ⟨fun h => ?_, fun h => ?_⟩ <;> first | rfl | (cases h; done) | omega | (exfalso; omega) | (simp only [Bool.false_eq_true] at h; done)) | (simp only [*]; done) | (simp only [*, List.map_cons, List.map_nil, eB]; done) | (simp [*]; done) | (dsimp only [resS, rootN_c]; done) | (dsimp only [resS, rootN_c]; first | with_reducible rfl | exact True.intro | assumption | omega | (refine congrArg (SV.int _) ?_; omega) | ((try simp only [lenS, inR, cutS, loI, hiI]); omega) | (simp only [*]; done) | (simp only [*, List.map_cons, List.map_nil, eB]; done) | (simp [*]; done)))) | (refine Idx.mk ?_ ?_; focus (first | omega | (simp only [lenS, inR, cutS, loI, hiI]; omega))) | refine RetE.mk () trivial ?_ | refine Got.mk (fun _ _ => ?_) | refine Ex.mk _ rfl ?_ | refine Ex.mk [_] rfl ?_ | refine Ex.mk [_, _] rfl ?_ | refine Ex.mk [_, _, _] rfl ?_ | refine Ex.mk [_, _, _, _] rfl ?_ | refine boolK (fun h => ?_) ?_ | (with_reducible first | refine Unf.h ?_ | refine loopK_n ?_ | refine cutK_n ?_) | refine retK_n ?_ | refine retK_r ?_ | exact rfl | exact True.intro | refine CallS.mk (c := isN_c) (t) ?_ | refine Or2.l (CallS.mk (c := isN_c) (t) ?_) | refine Or2.r (CallS.mk (c := isN_c) (t) ?_) | refine Or2.r (Or2.l (CallS.mk (c := isN_c) (t) ?_)) | refine Or2.r (Or2.r (CallS.mk (c := isN_c) (t) ?_))) | fail); all_goals try (conv => whnf)
def getN_c : Ctr where
  D := Int × H256
  args := fun (t, k) => [.nilp, .int .i64 t, .agg [.arr8 k]]
  res := fun _ _ => .tup [.agg [.arr8 zeroH], .bool false]
def addN_c : Ctr where
  D := Nd
  args := fun n => [.nilp, .agg (eNd n)]
  res := fun _ _ => .tup [.int .i64 0, .int .i64 1]
def addN_H : Cfg := ⟨[(72, under_c), (38, add_c)], [], [], [], 40, 0, [], [], []⟩
theorem addN_ok : addN_c.Ok Tryd.prog 49 := by
  refine fn_ok addN_H 0 rfl _ Tryd.func49 rfl rfl ⟨under_ok, add_ok, trivial⟩ rfl rfl (by kernel_rfl) (fun _ => Nat.le_of_ble_eq_true rfl) ?_
  intro (n : Nd) hp hr
  try dsimp only [addN_c] at hp
  try simp only [addN_c, Rng, RngL, inR, and_true, true_and] at hr
  repeat' (first | (with_reducible first | refine Unf.h ?_ | refine loopK_n ?_ | refine cutK_n ?_) | ((conv => whnf); first | refine Both.mk ?_ ?_ | refine Fork.mkn (fun h => ?_) (fun h => ?_) | refine Fork.mk (fun h => ?_) (fun h => ?_) | (refine Side.mk ?_ ?_; focus (first | with_reducible rfl | exact True.intro | assumption | omega | (refine congrArg (SV.int _) ?_; omega) | (dsimp only; omega) | (intros; (try simp only [lenS, inR, cutS, loI, hiI] at *); omega) | exact nnS (by decide) | exact List.eq_nil_of_length_eq_zero (by assumption) | exact dT (by omega) | exact dF (by omega) | exact decide_eq_decide.2 (by omega) | (split <;> first | rfl | (exfalso; omega)) | (refine ⟨fun h => ?_, fun h => ?_⟩ <;> first | rfl | (cases h; done) | omega | (exfalso; omega) | (simp only [Bool.false_eq_true] at h; done)) | (simp only [*]; done) | (simp only [*, List.map_cons, List.map_nil, eB]; done) | (simp [*]; done) | (dsimp only [resS, addN_c]; done) | (dsimp only [resS, addN_c]; first | with_reducible rfl | exact True.intro | assumption | omega | (refine congrArg (SV.int _) ?_; omega) | ((try simp only [lenS, inR, cutS, loI, hiI]); omega) | (simp only [*]; done) | (simp only [*, List.map_cons, List.map_nil, eB]; done) | (simp [*]; done)))) | (refine Idx.mk ?_ ?_; focus (first | omega | (simp only [lenS, inR, cutS, loI, hiI]; omega))) | refine RetE.mk () trivial ?_ | refine Got.mk (fun _ _ => ?_) | refine Ex.mk _ rfl ?_ | refine Ex.mk [_] rfl ?_ | refine Ex.mk [_, _] rfl ?_ | refine Ex.mk [_, _, _] rfl ?_ | refine Ex.mk [_, _, _, _] rfl ?_ | refine boolK (fun h => ?_) ?_ | (with_reducible first | refine Unf.h ?_ | refine loopK_n ?_ | refine cutK_n ?_) | refine retK_n ?_ | refine retK_r ?_ | exact rfl | exact True.intro) | fail); all_goals try (conv => whnf)
def listN_c : Ctr where
  D := Int
  args := fun t => [.nilp, .int .i64 t]
  res := fun _ _ => .nils
def listN_H : Cfg := ⟨[(25, isN_c)], [], [], [], 28, 0, [], [], []⟩
theorem listN_ok : listN_c.Ok Tryd.prog 19 := by
  refine fn_ok listN_H 0 rfl _ Tryd.func19 rfl rfl ⟨isN_ok, trivial⟩ rfl rfl (by kernel_rfl) (fun _ => Nat.le_of_ble_eq_true rfl) ?_
  intro (t : Int) hp hr
  try dsimp only [listN_c] at hp
  try simp only [listN_c, Rng, RngL, inR, and_true, true_and] at hr
  repeat' (first | (with_reducible first | refine Unf.h ?_ | refine loopK_n ?_ | refine cutK_n ?_) | ((conv => whnf); first | refine Both.mk ?_ ?_ | refine Fork.mkn (fun h => ?_) (fun h => ?_) | refine Fork.mk (fun h => ?_) (fun h => ?_) | (refine Side.mk ?_ ?_; focus (first | with_reducible rfl | exact True.intro | assumption | omega | (refine congrArg (SV.int _) ?_; omega) | (dsimp only; omega) | (intros; (try simp only [lenS, inR, cutS, loI, hiI] at *); omega) | exact nnS (by decide) | exact List.eq_nil_of_length_eq_zero (by assumption) | exact dT (by omega) | exact dF (by omega) | exact decide_eq_decide.2 (by omega) | (split <;> first | rfl | (exfalso; omega)) | (refine ⟨fun h => ?_, fun h => ?_⟩ <;> first | rfl | (cases h; done) | omega | (exfalso; omega) | (simp only [Bool.false_eq_true] at h; done)) | (simp only [*]; done) | (simp only [*, List.map_cons, List.map_nil, eB]; done) | (simp [*]; done) | (dsimp only [resS, listN_c]; done) | (dsimp only [resS, listN_c]; first | with_reducible rfl | exact True.intro | assumption | omega | (refine congrArg (SV.int _) ?_; omega) | ((try simp only [lenS, inR, cutS, loI, hiI]); omega) | (simp only [*]; done) | (simp only [*, List.map_cons, List.map_nil, eB]; done) | (simp [*]; done)))) | (refine Idx.mk ?_ ?_; focus (first | omega | (simp only [lenS, inR, cutS, loI, hiI]; omega))) | refine RetE.mk () trivial ?_ | refine Got.mk (fun _ _ => ?_) | refine Ex.mk _ rfl ?_ | refine Ex.mk [_] rfl ?_ | refine Ex.mk [_, _] rfl ?_ | refine Ex.mk [_, _, _] rfl ?_ | refine Ex.mk [_, _, _, _] rfl ?_ | refine boolK (fun h => ?_) ?_ | (with_reducible first | refine Unf.h ?_ | refine loopK_n ?_ | refine cutK_n ?_) | refine retK_n ?_ | refine retK_r ?_ | exact rfl | exact True.intro | refine CallS.mk (c := isN_c) (t) ?_ | refine Or2.l (CallS.mk (c := isN_c) (t) ?_) | refine Or2.r (CallS.mk (c := isN_c) (t) ?_) | refine Or2.r (Or2.l (CallS.mk (c := isN_c) (t) ?_)) | refine Or2.r (Or2.r (CallS.mk (c := isN_c) (t) ?_))) | fail); all_goals try (conv => whnf)
end Go.Proofs.YtmbkoigeekofdaaDoor

namespace Go.Proofs.YtmbkoigeekofdaaDoor
set_option linter.all false
open Go.RowKit
/-! proofs: their texts -/
structure Stp where
  len : Int
  bits : H256
  other : H256
def eStp (s : Stp) : List SV := [.int .i64 s.len, .arr8 s.bits, .arr8 s.other]
def Stp.pfx (s : Stp) : Pfx := ⟨s.len, s.bits⟩
structure Prf where
  steps : List Stp
  fin : Int
  key : H256
  value : H256
  plen : Int
  bits : H256
  left : H256
  right : H256
def ePrf (p : Prf) : List SV := [.fs 65 eStp p.steps, .int .i64 p.fin, .arr8 p.key, .arr8 p.value, .int .i64 p.plen, .arr8 p.bits, .arr8 p.left, .arr8 p.right]
def Prf.pfx (p : Prf) : Pfx := ⟨p.plen, p.bits⟩
def finOk (p : Prf) : Prop := 0 ≤ p.fin ∧ p.fin ≤ 2
instance (p : Prf) : Decidable (finOk p) := inferInstanceAs (Decidable (_ ∧ _))
def endT (p : Prf) : Bs := if p.fin = 0 then txt 101#8 [] else if p.fin = 1 then leafT p.key p.value else innerT p.plen p.bits p.left p.right
def stepT (k : H256) (s : Stp) (t : Bs) : Bs := if bitI k s.len = 1 then innerT s.len s.bits s.other (sha t) else innerT s.len s.bits (sha t) s.other
def topT (p : Prf) (k : H256) : List Stp → Bs
  | [] => endT p
  | s :: r => stepT k s (topT p k r)
def txsT (p : Prf) (k : H256) : List Stp → List Bs
  | [] => [endT p]
  | s :: r => txsT p k r ++ [stepT k s (topT p k r)]
theorem txsT_len (p : Prf) (k : H256) : ∀ l : List Stp, (txsT p k l).length = l.length + 1
  | [] => rfl
  | s :: r => by simp [txsT, txsT_len p k r]
theorem txsT_last (p : Prf) (k : H256) : ∀ l : List Stp, (txsT p k l)[l.length]? = some (topT p k l)
  | [] => rfl
  | s :: r => by
    unfold txsT
    rw [List.getElem?_append_right (by rw [txsT_len]; simp), txsT_len]; simp [topT]
theorem endT_len (p : Prf) : (endT p).length ≤ 1000000000 := by
  unfold endT; split
  · exact txt_small _ _ (by simp) (by simp)
  · split
    · exact leafT_len _ _
    · exact innerT_len _ _ _ _
theorem topT_len (p : Prf) (k : H256) : ∀ l : List Stp, (topT p k l).length ≤ 1000000000
  | [] => endT_len p
  | s :: r => by
    unfold topT stepT; split <;> exact innerT_len _ _ _ _
def pinner_c : Ctr where
  D := Int × H256 × H256 × H256
  args := fun (n, b, l, r) => [.agg [.int .i64 n, .arr8 b], .agg [.arr8 l], .agg [.arr8 r]]
  res := fun _ _ => .own 0
  out := fun (n, b, l, r) _ => [(0, .row 5 1 eB (innerT n b l r))]
  mm := 1
def resT (p : Prf) : Bs := if finOk p then endT p else []
theorem resT_0 {p : Prf} (h : p.fin = 0) : resT p = txt 101#8 [] := by unfold resT endT; rw [if_pos ⟨by omega, by omega⟩, if_pos h]
theorem resT_1 {p : Prf} (h : p.fin = 1) : resT p = leafT p.key p.value := by unfold resT endT; rw [if_pos ⟨by omega, by omega⟩, if_neg (by omega), if_pos h]
theorem resT_2 {p : Prf} (h : p.fin = 2) : resT p = innerT p.plen p.bits p.left p.right := by unfold resT endT; rw [if_pos ⟨by omega, by omega⟩, if_neg (by omega), if_neg (by omega)]
theorem resT_3 {p : Prf} (h : ¬ finOk p) : resT p = [] := if_neg h
def pend_c : Ctr where
  D := Prf
  args := fun p => [.agg (ePrf p)]
  res := fun p _ => .tup [.fs 1 eB (resT p), .dec (finOk p) inferInstance]
end Go.Proofs.YtmbkoigeekofdaaDoor

namespace Go.Proofs.YtmbkoigeekofdaaDoor
set_option linter.all false
open Go.RowKit
/-! a forest that nobody writes any more -/
abbrev ff (l : Fo) : SV := .fpt [.fs 132 eNd l]
def sizeF_c : Ctr where
  D := Fo
  args := fun l => [ff l]
  res := fun l _ => .int .i64 l.length
def sizeF_H : Cfg := ⟨[], [], [], [], 10, 0, [], [], []⟩
theorem sizeF_ok : sizeF_c.Ok Tryd.prog 12 := by
  refine fn_ok sizeF_H 0 rfl _ Tryd.func12 rfl rfl trivial rfl rfl (by kernel_rfl) (fun _ => Nat.le_of_ble_eq_true rfl) ?_
  intro (l : Fo) hp hr
  try dsimp only [sizeF_c] at hp
  try simp only [sizeF_c, Rng, RngL, inR, and_true, true_and] at hr
  repeat' (first | (with_reducible first | refine Unf.h ?_ | refine loopK_n ?_ | refine cutK_n ?_) | ((conv => whnf); first | refine Both.mk ?_ ?_ | refine Fork.mkn (fun h => ?_) (fun h => ?_) | refine Fork.mk (fun h => ?_) (fun h => ?_) | (refine Side.mk ?_ ?_; focus (first | with_reducible rfl | exact True.intro | assumption | omega | (refine congrArg (SV.int _) ?_; omega) | (dsimp only; omega) | (intros; (try simp only [lenS, inR, cutS, loI, hiI] at *); omega) | exact nnS (by decide) | exact List.eq_nil_of_length_eq_zero (by assumption) | exact dT (by omega) | exact dF (by omega) | exact decide_eq_decide.2 (by omega) | (split <;> first | rfl | (exfalso; omega)) | (refine ⟨fun h => ?_, fun h => ?_⟩ <;> first | rfl | (cases h; done) | omega | (exfalso; omega) | (simp only [Bool.false_eq_true] at h; done)) | (simp only [*]; done) | (simp only [*, List.map_cons, List.map_nil, eB]; done) | (simp [*]; done) | (dsimp only [resS, sizeF_c]; done) | (dsimp only [resS, sizeF_c]; first | with_reducible rfl | exact True.intro | assumption | omega | (refine congrArg (SV.int _) ?_; omega) | ((try simp only [lenS, inR, cutS, loI, hiI]); omega) | (simp only [*]; done) | (simp only [*, List.map_cons, List.map_nil, eB]; done) | (simp [*]; done)))) | (refine Idx.mk ?_ ?_; focus (first | omega | (simp only [lenS, inR, cutS, loI, hiI]; omega))) | refine RetE.mk () trivial ?_ | refine Got.mk (fun _ _ => ?_) | refine Ex.mk _ rfl ?_ | refine Ex.mk [_] rfl ?_ | refine Ex.mk [_, _] rfl ?_ | refine Ex.mk [_, _, _] rfl ?_ | refine Ex.mk [_, _, _, _] rfl ?_ | refine boolK (fun h => ?_) ?_ | (with_reducible first | refine Unf.h ?_ | refine loopK_n ?_ | refine cutK_n ?_) | refine retK_n ?_ | refine retK_r ?_ | exact rfl | exact True.intro) | fail); all_goals try (conv => whnf)
def nodeF_c : Ctr where
  D := Fo × Int × Nd
  pre := fun (l, i, n) => inF l i ∧ nd l i = n
  args := fun (l, i, _) => [ff l, .int .i64 i]
  res := fun (_, _, n) _ => .tup [.agg (eNd n), .bool true]
def nodeF_H : Cfg := ⟨[(12, sizeF_c)], [], [], [], 22, 0, [], [], []⟩
theorem nodeF_ok : nodeF_c.Ok Tryd.prog 13 := by
  refine fn_ok nodeF_H 0 rfl _ Tryd.func13 rfl rfl ⟨sizeF_ok, trivial⟩ rfl rfl (by kernel_rfl) (fun _ => Nat.le_of_ble_eq_true rfl) ?_
  rintro ⟨l, i, n⟩ hp hr
  try dsimp only [nodeF_c] at hp
  try simp only [nodeF_c, Rng, RngL, inR, and_true, true_and] at hr
  obtain ⟨⟨h0, h1⟩, hn⟩ := hp
  have e := (nd_get l i (by omega) (by omega)).trans hn
  repeat' (first | (with_reducible first | refine Unf.h ?_ | refine loopK_n ?_ | refine cutK_n ?_) | ((conv => whnf); first | refine Both.mk ?_ ?_ | refine Fork.mkn (fun h => ?_) (fun h => ?_) | refine Fork.mk (fun h => ?_) (fun h => ?_) | (refine Side.mk ?_ ?_; focus (first | with_reducible rfl | exact True.intro | assumption | omega | (refine congrArg (SV.int _) ?_; omega) | (dsimp only; omega) | (intros; (try simp only [lenS, inR, cutS, loI, hiI, e] at *); omega) | exact nnS (by decide) | exact List.eq_nil_of_length_eq_zero (by assumption) | exact dT (by omega) | exact dF (by omega) | exact decide_eq_decide.2 (by omega) | (split <;> first | rfl | (exfalso; omega)) | (refine ⟨fun h => ?_, fun h => ?_⟩ <;> first | rfl | (cases h; done) | omega | (exfalso; omega) | (simp only [Bool.false_eq_true] at h; done)) | (simp only [*, e]; done) | (simp only [*, e, List.map_cons, List.map_nil, eB]; done) | (simp [*, e]; done) | (dsimp only [resS, nodeF_c]; done) | (dsimp only [resS, nodeF_c]; first | with_reducible rfl | exact True.intro | assumption | omega | (refine congrArg (SV.int _) ?_; omega) | ((try simp only [lenS, inR, cutS, loI, hiI, e]); omega) | (simp only [*, e]; done) | (simp only [*, e, List.map_cons, List.map_nil, eB]; done) | (simp [*, e]; done)))) | (refine Idx.mk ?_ ?_; focus (first | omega | (simp only [lenS, inR, cutS, loI, hiI, e]; omega))) | refine RetE.mk () trivial ?_ | refine Got.mk (fun _ _ => ?_) | refine Ex.mk _ rfl ?_ | refine Ex.mk [_] rfl ?_ | refine Ex.mk [_, _] rfl ?_ | refine Ex.mk [_, _, _] rfl ?_ | refine Ex.mk [_, _, _, _] rfl ?_ | refine boolK (fun h => ?_) ?_ | (with_reducible first | refine Unf.h ?_ | refine loopK_n ?_ | refine cutK_n ?_) | refine retK_n ?_ | refine retK_r ?_ | exact rfl | exact True.intro | refine CallS.mk (c := sizeF_c) (l) ?_ | refine Or2.l (CallS.mk (c := sizeF_c) (l) ?_) | refine Or2.r (CallS.mk (c := sizeF_c) (l) ?_) | refine Or2.r (Or2.l (CallS.mk (c := sizeF_c) (l) ?_)) | refine Or2.r (Or2.r (CallS.mk (c := sizeF_c) (l) ?_))) | fail); all_goals try (conv => whnf)
def nodeXF_c : Ctr where
  D := Fo × Int
  pre := fun (l, i) => ¬ inF l i
  args := fun (l, i) => [ff l, .int .i64 i]
  res := fun _ _ => .tup [.agg (eNd zeroN), .bool false]
def nodeXF_H : Cfg := ⟨[(12, sizeF_c)], [], [], [], 22, 0, [], [], []⟩
theorem nodeXF_ok : nodeXF_c.Ok Tryd.prog 13 := by
  refine fn_ok nodeXF_H 0 rfl _ Tryd.func13 rfl rfl ⟨sizeF_ok, trivial⟩ rfl rfl (by kernel_rfl) (fun _ => Nat.le_of_ble_eq_true rfl) ?_
  rintro ⟨l, i⟩ hp hr
  try dsimp only [nodeXF_c] at hp
  try simp only [nodeXF_c, Rng, RngL, inR, and_true, true_and] at hr
  repeat' (first | (with_reducible first | refine Unf.h ?_ | refine loopK_n ?_ | refine cutK_n ?_) | ((conv => whnf); first | refine Both.mk ?_ ?_ | refine Fork.mkn (fun h => ?_) (fun h => ?_) | refine Fork.mk (fun h => ?_) (fun h => ?_) | (refine Side.mk ?_ ?_; focus (first | with_reducible rfl | exact True.intro | assumption | omega | (refine congrArg (SV.int _) ?_; omega) | (dsimp only; omega) | (intros; (try simp only [lenS, inR, cutS, loI, hiI, zeroN] at *); omega) | exact nnS (by decide) | exact List.eq_nil_of_length_eq_zero (by assumption) | exact dT (by omega) | exact dF (by omega) | exact decide_eq_decide.2 (by omega) | (split <;> first | rfl | (exfalso; omega)) | (refine ⟨fun h => ?_, fun h => ?_⟩ <;> first | rfl | (cases h; done) | omega | (exfalso; omega) | (simp only [Bool.false_eq_true] at h; done)) | (simp only [*, zeroN]; done) | (simp only [*, zeroN, List.map_cons, List.map_nil, eB]; done) | (simp [*, zeroN]; done) | (dsimp only [resS, nodeXF_c]; done) | (dsimp only [resS, nodeXF_c]; first | with_reducible rfl | exact True.intro | assumption | omega | (refine congrArg (SV.int _) ?_; omega) | ((try simp only [lenS, inR, cutS, loI, hiI, zeroN]); omega) | (simp only [*, zeroN]; done) | (simp only [*, zeroN, List.map_cons, List.map_nil, eB]; done) | (simp [*, zeroN]; done)))) | (refine Idx.mk ?_ ?_; focus (first | omega | (simp only [lenS, inR, cutS, loI, hiI, zeroN]; omega))) | refine RetE.mk () trivial ?_ | refine Got.mk (fun _ _ => ?_) | refine Ex.mk _ rfl ?_ | refine Ex.mk [_] rfl ?_ | refine Ex.mk [_, _] rfl ?_ | refine Ex.mk [_, _, _] rfl ?_ | refine Ex.mk [_, _, _, _] rfl ?_ | refine boolK (fun h => ?_) ?_ | (with_reducible first | refine Unf.h ?_ | refine loopK_n ?_ | refine cutK_n ?_) | refine retK_n ?_ | refine retK_r ?_ | exact rfl | exact True.intro | refine CallS.mk (c := sizeF_c) (l) ?_ | refine Or2.l (CallS.mk (c := sizeF_c) (l) ?_) | refine Or2.r (CallS.mk (c := sizeF_c) (l) ?_) | refine Or2.r (Or2.l (CallS.mk (c := sizeF_c) (l) ?_)) | refine Or2.r (Or2.r (CallS.mk (c := sizeF_c) (l) ?_))) | fail); all_goals try (conv => whnf)
  exact absurd (show inF l i from ⟨by omega, by omega⟩) hp
def nodeHashF_c : Ctr where
  D := Fo × Int × H256
  pre := fun (l, i, h) => inF l i ∧ (nd l i).hash = h
  args := fun (l, i, _) => [ff l, .int .i64 i]
  res := fun (_, _, h) _ => .agg [.arr8 h]
def isF_c : Ctr where
  D := Fo × Int
  args := fun (l, i) => [ff l, .int .i64 i]
  res := fun (l, i) _ => .dec (-1 ≤ i ∧ i < l.length) inferInstance
def isF_H : Cfg := ⟨[], [], [], [], 20, 0, [], [], []⟩
theorem isF_ok : isF_c.Ok Tryd.prog 25 := by
  refine fn_ok isF_H 0 rfl _ Tryd.func25 rfl rfl trivial rfl rfl (by kernel_rfl) (fun _ => Nat.le_of_ble_eq_true rfl) ?_
  rintro ⟨l, i⟩ hp hr
  try dsimp only [isF_c] at hp
  try simp only [isF_c, Rng, RngL, inR, and_true, true_and] at hr
  repeat' (first | (with_reducible first | refine Unf.h ?_ | refine loopK_n ?_ | refine cutK_n ?_) | ((conv => whnf); first | refine Both.mk ?_ ?_ | refine Fork.mkn (fun h => ?_) (fun h => ?_) | refine Fork.mk (fun h => ?_) (fun h => ?_) | (refine Side.mk ?_ ?_; focus (first | with_reducible rfl | exact True.intro | assumption | omega | (refine congrArg (SV.int _) ?_; omega) | (dsimp only; omega) | (intros; (try simp only [lenS, inR, cutS, loI, hiI] at *); omega) | exact nnS (by decide) | exact List.eq_nil_of_length_eq_zero (by assumption) | exact dT (by omega) | exact dF (by omega) | exact decide_eq_decide.2 (by omega) | (split <;> first | rfl | (exfalso; omega)) | (refine ⟨fun h => ?_, fun h => ?_⟩ <;> first | rfl | (cases h; done) | omega | (exfalso; omega) | (simp only [Bool.false_eq_true] at h; done)) | (simp only [*]; done) | (simp only [*, List.map_cons, List.map_nil, eB]; done) | (simp [*]; done) | (dsimp only [resS, isF_c]; done) | (dsimp only [resS, isF_c]; first | with_reducible rfl | exact True.intro | assumption | omega | (refine congrArg (SV.int _) ?_; omega) | ((try simp only [lenS, inR, cutS, loI, hiI]); omega) | (simp only [*]; done) | (simp only [*, List.map_cons, List.map_nil, eB]; done) | (simp [*]; done)))) | (refine Idx.mk ?_ ?_; focus (first | omega | (simp only [lenS, inR, cutS, loI, hiI]; omega))) | refine RetE.mk () trivial ?_ | refine Got.mk (fun _ _ => ?_) | refine Ex.mk _ rfl ?_ | refine Ex.mk [_] rfl ?_ | refine Ex.mk [_, _] rfl ?_ | refine Ex.mk [_, _, _] rfl ?_ | refine Ex.mk [_, _, _, _] rfl ?_ | refine boolK (fun h => ?_) ?_ | (with_reducible first | refine Unf.h ?_ | refine loopK_n ?_ | refine cutK_n ?_) | refine retK_n ?_ | refine retK_r ?_ | exact rfl | exact True.intro) | fail); all_goals try (conv => whnf)
def rootZ_c : Ctr where
  D := Fo × Int
  pre := fun (l, t) => isT l t
  args := fun (l, t) => [ff l, .int .i64 t]
  res := fun (l, t) _ => .tup [.agg [.arr8 (rootF l t)], .int .i64 0]
def rootZ_H : Cfg := ⟨[(25, isF_c), (26, hempty_c)], [], [], [], 24, 0, [], [], []⟩
theorem rootZ_ok : rootZ_c.Ok Tryd.prog 9 := by
  refine fn_ok rootZ_H 0 rfl _ Tryd.func9 rfl rfl ⟨isF_ok, hempty_ok, trivial⟩ rfl rfl (by kernel_rfl) (fun _ => Nat.le_of_ble_eq_true rfl) ?_
  rintro ⟨l, t⟩ hp hr
  try dsimp only [rootZ_c] at hp
  try simp only [rootZ_c, Rng, RngL, inR, and_true, true_and] at hr
  obtain ⟨ht0, ht1⟩ := hp
  repeat' (first | (with_reducible first | refine Unf.h ?_ | refine loopK_n ?_ | refine cutK_n ?_) | ((conv => whnf); first | refine Both.mk ?_ ?_ | refine Fork.mkn (fun h => ?_) (fun h => ?_) | refine Fork.mk (fun h => ?_) (fun h => ?_) | (refine Side.mk ?_ ?_; focus (first | with_reducible rfl | exact True.intro | assumption | omega | (refine congrArg (SV.int _) ?_; omega) | (dsimp only; omega) | (intros; (try simp only [lenS, inR, cutS, loI, hiI] at *); omega) | exact nnS (by decide) | exact List.eq_nil_of_length_eq_zero (by assumption) | exact dT (by omega) | exact dF (by omega) | exact decide_eq_decide.2 (by omega) | (split <;> first | rfl | (exfalso; omega)) | (refine ⟨fun h => ?_, fun h => ?_⟩ <;> first | rfl | (cases h; done) | omega | (exfalso; omega) | (simp only [Bool.false_eq_true] at h; done)) | (simp only [*]; done) | (simp only [*, List.map_cons, List.map_nil, eB]; done) | (simp [*]; done) | (dsimp only [resS, rootZ_c]; done) | (dsimp only [resS, rootZ_c]; first | with_reducible rfl | exact True.intro | assumption | omega | (refine congrArg (SV.int _) ?_; omega) | ((try simp only [lenS, inR, cutS, loI, hiI]); omega) | (simp only [*]; done) | (simp only [*, List.map_cons, List.map_nil, eB]; done) | (simp [*]; done)))) | (refine Idx.mk ?_ ?_; focus (first | omega | (simp only [lenS, inR, cutS, loI, hiI]; omega))) | refine RetE.mk () trivial ?_ | refine Got.mk (fun _ _ => ?_) | refine Ex.mk _ rfl ?_ | refine Ex.mk [_] rfl ?_ | refine Ex.mk [_, _] rfl ?_ | refine Ex.mk [_, _, _] rfl ?_ | refine Ex.mk [_, _, _, _] rfl ?_ | refine boolK (fun h => ?_) ?_ | (with_reducible first | refine Unf.h ?_ | refine loopK_n ?_ | refine cutK_n ?_) | refine retK_n ?_ | refine retK_r ?_ | exact rfl | exact True.intro | refine CallS.mk (c := isF_c) ((l, t)) ?_ | refine Or2.l (CallS.mk (c := isF_c) ((l, t)) ?_) | refine Or2.r (CallS.mk (c := isF_c) ((l, t)) ?_) | refine Or2.r (Or2.l (CallS.mk (c := isF_c) ((l, t)) ?_)) | refine Or2.r (Or2.r (CallS.mk (c := isF_c) ((l, t)) ?_)) | refine CallS.mk (c := hempty_c) (()) ?_ | refine Or2.l (CallS.mk (c := hempty_c) (()) ?_) | refine Or2.r (CallS.mk (c := hempty_c) (()) ?_) | refine Or2.r (Or2.l (CallS.mk (c := hempty_c) (()) ?_)) | refine Or2.r (Or2.r (CallS.mk (c := hempty_c) (()) ?_))) | fail); all_goals try (conv => whnf)
  · refine Side.mk (congrArg SV.arr8 (if_pos h).symm) (by repeat' (first | (with_reducible first | refine Unf.h ?_ | refine loopK_n ?_ | refine cutK_n ?_) | ((conv => whnf); first | refine Both.mk ?_ ?_ | refine Fork.mkn (fun h => ?_) (fun h => ?_) | refine Fork.mk (fun h => ?_) (fun h => ?_) | (refine Side.mk ?_ ?_; focus (first | with_reducible rfl | exact True.intro | assumption | omega | (refine congrArg (SV.int _) ?_; omega) | (dsimp only; omega) | (intros; (try simp only [lenS, inR, cutS, loI, hiI] at *); omega) | exact nnS (by decide) | exact List.eq_nil_of_length_eq_zero (by assumption) | exact dT (by omega) | exact dF (by omega) | exact decide_eq_decide.2 (by omega) | (split <;> first | rfl | (exfalso; omega)) | (refine ⟨fun h => ?_, fun h => ?_⟩ <;> first | rfl | (cases h; done) | omega | (exfalso; omega) | (simp only [Bool.false_eq_true] at h; done)) | (simp only [*]; done) | (simp only [*, List.map_cons, List.map_nil, eB]; done) | (simp [*]; done) | (dsimp only [resS, rootZ_c]; done) | (dsimp only [resS, rootZ_c]; first | with_reducible rfl | exact True.intro | assumption | omega | (refine congrArg (SV.int _) ?_; omega) | ((try simp only [lenS, inR, cutS, loI, hiI]); omega) | (simp only [*]; done) | (simp only [*, List.map_cons, List.map_nil, eB]; done) | (simp [*]; done)))) | (refine Idx.mk ?_ ?_; focus (first | omega | (simp only [lenS, inR, cutS, loI, hiI]; omega))) | refine RetE.mk () trivial ?_ | refine Got.mk (fun _ _ => ?_) | refine Ex.mk _ rfl ?_ | refine Ex.mk [_] rfl ?_ | refine Ex.mk [_, _] rfl ?_ | refine Ex.mk [_, _, _] rfl ?_ | refine Ex.mk [_, _, _, _] rfl ?_ | refine boolK (fun h => ?_) ?_ | (with_reducible first | refine Unf.h ?_ | refine loopK_n ?_ | refine cutK_n ?_) | refine retK_n ?_ | refine retK_r ?_ | exact rfl | exact True.intro) | fail); all_goals try (conv => whnf))
  · refine Side.mk (congrArg SV.arr8 ?_) (by repeat' (first | (with_reducible first | refine Unf.h ?_ | refine loopK_n ?_ | refine cutK_n ?_) | ((conv => whnf); first | refine Both.mk ?_ ?_ | refine Fork.mkn (fun h => ?_) (fun h => ?_) | refine Fork.mk (fun h => ?_) (fun h => ?_) | (refine Side.mk ?_ ?_; focus (first | with_reducible rfl | exact True.intro | assumption | omega | (refine congrArg (SV.int _) ?_; omega) | (dsimp only; omega) | (intros; (try simp only [lenS, inR, cutS, loI, hiI] at *); omega) | exact nnS (by decide) | exact List.eq_nil_of_length_eq_zero (by assumption) | exact dT (by omega) | exact dF (by omega) | exact decide_eq_decide.2 (by omega) | (split <;> first | rfl | (exfalso; omega)) | (refine ⟨fun h => ?_, fun h => ?_⟩ <;> first | rfl | (cases h; done) | omega | (exfalso; omega) | (simp only [Bool.false_eq_true] at h; done)) | (simp only [*]; done) | (simp only [*, List.map_cons, List.map_nil, eB]; done) | (simp [*]; done) | (dsimp only [resS, rootZ_c]; done) | (dsimp only [resS, rootZ_c]; first | with_reducible rfl | exact True.intro | assumption | omega | (refine congrArg (SV.int _) ?_; omega) | ((try simp only [lenS, inR, cutS, loI, hiI]); omega) | (simp only [*]; done) | (simp only [*, List.map_cons, List.map_nil, eB]; done) | (simp [*]; done)))) | (refine Idx.mk ?_ ?_; focus (first | omega | (simp only [lenS, inR, cutS, loI, hiI]; omega))) | refine RetE.mk () trivial ?_ | refine Got.mk (fun _ _ => ?_) | refine Ex.mk _ rfl ?_ | refine Ex.mk [_] rfl ?_ | refine Ex.mk [_, _] rfl ?_ | refine Ex.mk [_, _, _] rfl ?_ | refine Ex.mk [_, _, _, _] rfl ?_ | refine boolK (fun h => ?_) ?_ | (with_reducible first | refine Unf.h ?_ | refine loopK_n ?_ | refine cutK_n ?_) | refine retK_n ?_ | refine retK_r ?_ | exact rfl | exact True.intro) | fail); all_goals try (conv => whnf))
    rw [nd_get l t (by omega) (by omega)]
    exact (if_neg h).symm
def pathF_c : Ctr where
  D := Fo × Int × H256
  pre := fun (l, t, _) => l.length ≤ 10000000 ∧ closed l ∧ isT l t
  args := fun (l, t, k) => [ff l, .int .i64 t, .agg [.arr8 k]]
  res := fun (l, t, k) _ => .tup [.fs 1 eI (path l k t).1, .int .i64 (path l k t).2]
def pathF_H : Cfg := ⟨[(56, holds_c), (40, bit_c)], [(2, [6, 10, 17, 21, 22], [23], (.one 0 0 false (.one 1 0 false (.one 2 0 false (.one 3 0 false (.one 4 0 false (.one 5 0 false (.one 6 1 false (.one 7 0 false (.one 8 0 false (.one 9 0 false (.one 10 1 false (.one 11 0 false (.one 12 0 false (.one 13 0 false (.one 14 0 false (.one 15 0 false (.one 16 0 false (.one 17 1 false (.one 18 0 false (.one 19 0 false (.one 20 0 false (.one 21 1 false (.one 22 1 false (.one 23 2 false (.one 24 0 false .nil))))))))))))))))))))))))), [])], [], [], 58, 0, [], [], []⟩
theorem pathF_ok : pathF_c.Ok Tryd.prog 37 := by
  refine fn_ok pathF_H 0 rfl _ Tryd.func37 rfl rfl ⟨holds_ok, bit_ok, trivial⟩ rfl rfl (by kernel_rfl) (fun _ => Nat.le_of_ble_eq_true rfl) ?_
  rintro ⟨l, t, k⟩ hp hr
  try dsimp only [pathF_c] at hp
  try simp only [pathF_c, Rng, RngL, inR, and_true, true_and] at hr
  obtain ⟨hlen, hc, ht⟩ := hp
  repeat' (first | (with_reducible first | refine Unf.h ?_ | refine loopK_n ?_ | refine cutK_n ?_) | ((conv => whnf); first | refine Both.mk ?_ ?_ | refine Fork.mkn (fun h => ?_) (fun h => ?_) | refine Fork.mk (fun h => ?_) (fun h => ?_) | (refine Side.mk ?_ ?_; focus (first | with_reducible rfl | exact True.intro | assumption | omega | (refine congrArg (SV.int _) ?_; omega) | (dsimp only; omega) | (intros; (try simp only [lenS, inR, cutS, loI, hiI] at *); omega) | exact nnS (by decide) | exact List.eq_nil_of_length_eq_zero (by assumption) | exact dT (by omega) | exact dF (by omega) | exact decide_eq_decide.2 (by omega) | (split <;> first | rfl | (exfalso; omega)) | (refine ⟨fun h => ?_, fun h => ?_⟩ <;> first | rfl | (cases h; done) | omega | (exfalso; omega) | (simp only [Bool.false_eq_true] at h; done)) | (simp only [*]; done) | (simp only [*, List.map_cons, List.map_nil, eB]; done) | (simp [*]; done) | (dsimp only [resS, pathF_c]; done) | (dsimp only [resS, pathF_c]; first | with_reducible rfl | exact True.intro | assumption | omega | (refine congrArg (SV.int _) ?_; omega) | ((try simp only [lenS, inR, cutS, loI, hiI]); omega) | (simp only [*]; done) | (simp only [*, List.map_cons, List.map_nil, eB]; done) | (simp [*]; done)))) | (refine Idx.mk ?_ ?_; focus (first | omega | (simp only [lenS, inR, cutS, loI, hiI]; omega))) | refine RetE.mk () trivial ?_ | refine Got.mk (fun _ _ => ?_) | refine Ex.mk _ rfl ?_ | refine Ex.mk [_] rfl ?_ | refine Ex.mk [_, _] rfl ?_ | refine Ex.mk [_, _, _] rfl ?_ | refine Ex.mk [_, _, _, _] rfl ?_ | refine boolK (fun h => ?_) ?_ | (with_reducible first | refine Unf.h ?_ | refine loopK_n ?_ | refine cutK_n ?_) | refine retK_n ?_ | refine retK_r ?_ | exact rfl | exact True.intro) | fail); all_goals try (conv => whnf)
  refine LoopS.autoN (I := Int × List Int) (fun p => isT l p.1 ∧ p.2.length + (path l k p.1).1.length ≤ 10000001 ∧ p.2 ++ (path l k p.1).1 = (path l k t).1 ∧ (path l k p.1).2 = (path l k t).2) (fun p => [(1, .int .i64 p.1), (8, .own 1)]) (fun p => [(0, .box 32 [.arr8 k]), (1, .row 3 1 eI p.2)]) 2 (fun p => (p.1 + 1).toNat) (t, []) ⟨ht, ?_, rfl, rfl⟩ ?_ ?_
  · have := path_len (l := l) (k := k) _ t (Nat.le_refl _)
    have := ht.2
    simp only [List.length_nil]; omega
  · repeat' (first | (with_reducible first | refine Unf.h ?_ | refine loopK_n ?_ | refine cutK_n ?_) | ((conv => whnf); first | refine Both.mk ?_ ?_ | refine Fork.mkn (fun h => ?_) (fun h => ?_) | refine Fork.mk (fun h => ?_) (fun h => ?_) | (refine Side.mk ?_ ?_; focus (first | with_reducible rfl | exact True.intro | assumption | omega | (refine congrArg (SV.int _) ?_; omega) | (dsimp only; omega) | (intros; (try simp only [lenS, inR, cutS, loI, hiI] at *); omega) | exact nnS (by decide) | exact List.eq_nil_of_length_eq_zero (by assumption) | exact dT (by omega) | exact dF (by omega) | exact decide_eq_decide.2 (by omega) | (split <;> first | rfl | (exfalso; omega)) | (refine ⟨fun h => ?_, fun h => ?_⟩ <;> first | rfl | (cases h; done) | omega | (exfalso; omega) | (simp only [Bool.false_eq_true] at h; done)) | (simp only [*]; done) | (simp only [*, List.map_cons, List.map_nil, eB]; done) | (simp [*]; done) | (dsimp only [resS, pathF_c]; done) | (dsimp only [resS, pathF_c]; first | with_reducible rfl | exact True.intro | assumption | omega | (refine congrArg (SV.int _) ?_; omega) | ((try simp only [lenS, inR, cutS, loI, hiI]); omega) | (simp only [*]; done) | (simp only [*, List.map_cons, List.map_nil, eB]; done) | (simp [*]; done)))) | (refine Idx.mk ?_ ?_; focus (first | omega | (simp only [lenS, inR, cutS, loI, hiI]; omega))) | refine RetE.mk () trivial ?_ | refine Got.mk (fun _ _ => ?_) | refine Ex.mk _ rfl ?_ | refine Ex.mk [_] rfl ?_ | refine Ex.mk [_, _] rfl ?_ | refine Ex.mk [_, _, _] rfl ?_ | refine Ex.mk [_, _, _, _] rfl ?_ | refine boolK (fun h => ?_) ?_ | (with_reducible first | refine Unf.h ?_ | refine loopK_n ?_ | refine cutK_n ?_) | refine retK_n ?_ | refine retK_r ?_ | exact rfl | exact True.intro) | fail); all_goals try (conv => whnf)
  · intro p hq
    obtain ⟨hp1, hpl, hp2, hp3⟩ := hq
    have hp0 := hp1.1
    have hpn := hp1.2
    repeat' (first | (with_reducible first | refine Unf.h ?_ | refine loopK_n ?_ | refine cutK_n ?_) | ((conv => whnf); first | refine Both.mk ?_ ?_ | refine Fork.mkn (fun h => ?_) (fun h => ?_) | refine Fork.mk (fun h => ?_) (fun h => ?_) | (refine Side.mk ?_ ?_; focus (first | with_reducible rfl | exact True.intro | assumption | omega | (refine congrArg (SV.int _) ?_; omega) | (dsimp only; omega) | (intros; (try simp only [lenS, inR, cutS, loI, hiI] at *); omega) | exact nnS (by decide) | exact List.eq_nil_of_length_eq_zero (by assumption) | exact dT (by omega) | exact dF (by omega) | exact decide_eq_decide.2 (by omega) | (split <;> first | rfl | (exfalso; omega)) | (refine ⟨fun h => ?_, fun h => ?_⟩ <;> first | rfl | (cases h; done) | omega | (exfalso; omega) | (simp only [Bool.false_eq_true] at h; done)) | (simp only [*]; done) | (simp only [*, List.map_cons, List.map_nil, eB]; done) | (simp [*]; done) | (dsimp only [resS, pathF_c]; done) | (dsimp only [resS, pathF_c]; first | with_reducible rfl | exact True.intro | assumption | omega | (refine congrArg (SV.int _) ?_; omega) | ((try simp only [lenS, inR, cutS, loI, hiI]); omega) | (simp only [*]; done) | (simp only [*, List.map_cons, List.map_nil, eB]; done) | (simp [*]; done)))) | (refine Idx.mk ?_ ?_; focus (first | omega | (simp only [lenS, inR, cutS, loI, hiI]; omega))) | refine RetE.mk () trivial ?_ | refine Got.mk (fun _ _ => ?_) | refine Ex.mk _ rfl ?_ | refine Ex.mk [_] rfl ?_ | refine Ex.mk [_, _] rfl ?_ | refine Ex.mk [_, _, _] rfl ?_ | refine Ex.mk [_, _, _, _] rfl ?_ | refine boolK (fun h => ?_) ?_ | (with_reducible first | refine Unf.h ?_ | refine loopK_n ?_ | refine cutK_n ?_) | refine retK_n ?_ | refine retK_r ?_ | exact rfl | exact True.intro) | fail); all_goals try (conv => whnf)
    · have hin : p.1.toNat < l.length := by omega
      have en := nd_get l p.1 (by omega) hin
      cases hb : (l[p.1.toNat]'hin).leaf
      · rw [en] at hb
        repeat' (first | (with_reducible first | refine Unf.h ?_ | refine loopK_n ?_ | refine cutK_n ?_) | ((conv => whnf); first | refine Both.mk ?_ ?_ | refine Fork.mkn (fun h => ?_) (fun h => ?_) | refine Fork.mk (fun h => ?_) (fun h => ?_) | (refine Side.mk ?_ ?_; focus (first | with_reducible rfl | exact True.intro | assumption | omega | (refine congrArg (SV.int _) ?_; omega) | (dsimp only; omega) | (intros; (try simp only [lenS, inR, cutS, loI, hiI, en, Nd.pfx] at *); omega) | exact nnS (by decide) | exact List.eq_nil_of_length_eq_zero (by assumption) | exact dT (by omega) | exact dF (by omega) | exact decide_eq_decide.2 (by omega) | (split <;> first | rfl | (exfalso; omega)) | (refine ⟨fun h => ?_, fun h => ?_⟩ <;> first | rfl | (cases h; done) | omega | (exfalso; omega) | (simp only [Bool.false_eq_true] at h; done)) | (simp only [*, en, Nd.pfx]; done) | (simp only [*, en, Nd.pfx, List.map_cons, List.map_nil, eB]; done) | (simp [*, en, Nd.pfx]; done) | (dsimp only [resS, pathF_c]; done) | (dsimp only [resS, pathF_c]; first | with_reducible rfl | exact True.intro | assumption | omega | (refine congrArg (SV.int _) ?_; omega) | ((try simp only [lenS, inR, cutS, loI, hiI, en, Nd.pfx]); omega) | (simp only [*, en, Nd.pfx]; done) | (simp only [*, en, Nd.pfx, List.map_cons, List.map_nil, eB]; done) | (simp [*, en, Nd.pfx]; done)))) | (refine Idx.mk ?_ ?_; focus (first | omega | (simp only [lenS, inR, cutS, loI, hiI, en, Nd.pfx]; omega))) | refine RetE.mk () trivial ?_ | refine Got.mk (fun _ _ => ?_) | refine Ex.mk _ rfl ?_ | refine Ex.mk [_] rfl ?_ | refine Ex.mk [_, _] rfl ?_ | refine Ex.mk [_, _, _] rfl ?_ | refine Ex.mk [_, _, _, _] rfl ?_ | refine boolK (fun h => ?_) ?_ | (with_reducible first | refine Unf.h ?_ | refine loopK_n ?_ | refine cutK_n ?_) | refine retK_n ?_ | refine retK_r ?_ | exact rfl | exact True.intro | refine CallS.mk (c := holds_c) (((nd l p.1).pfx, k)) ?_ | refine Or2.l (CallS.mk (c := holds_c) (((nd l p.1).pfx, k)) ?_) | refine Or2.r (CallS.mk (c := holds_c) (((nd l p.1).pfx, k)) ?_) | refine Or2.r (Or2.l (CallS.mk (c := holds_c) (((nd l p.1).pfx, k)) ?_)) | refine Or2.r (Or2.r (CallS.mk (c := holds_c) (((nd l p.1).pfx, k)) ?_))) | fail); all_goals try (conv => whnf)
        · have hg : goes l k p.1 := ⟨by assumption, hb, h⟩
          have hx := nxt_ok hc hp1 hg
          have hgo := path_go hc hp1 hg
          rw [hgo] at hp2 hp3 hpl
          simp only [List.length_cons] at hpl
          have hnew : (nxt l k p.1 + 1).toNat < (p.1 + 1).toNat ∧ isT l (nxt l k p.1) ∧ (p.2 ++ [p.1]).length + (path l k (nxt l k p.1)).1.length ≤ 10000001 ∧ (p.2 ++ [p.1]) ++ (path l k (nxt l k p.1)).1 = (path l k t).1 ∧ (path l k (nxt l k p.1)).2 = (path l k t).2 :=
            ⟨by omega, ⟨by omega, by omega⟩, by simp only [List.length_append, List.length_cons, List.length_nil]; omega, by rw [← hp2]; simp, hp3⟩
          first | refine CallS.mk (c := bit_c) ((k, (nd l p.1).plen)) ?_ | refine Or2.l (CallS.mk (c := bit_c) ((k, (nd l p.1).plen)) ?_) | refine Or2.r (CallS.mk (c := bit_c) ((k, (nd l p.1).plen)) ?_) | refine Or2.r (Or2.l (CallS.mk (c := bit_c) ((k, (nd l p.1).plen)) ?_)) | refine Or2.r (Or2.r (CallS.mk (c := bit_c) ((k, (nd l p.1).plen)) ?_))
          repeat' (first | (with_reducible first | refine Unf.h ?_ | refine loopK_n ?_ | refine cutK_n ?_) | ((conv => whnf); first | refine Both.mk ?_ ?_ | refine Fork.mkn (fun h => ?_) (fun h => ?_) | refine Fork.mk (fun h => ?_) (fun h => ?_) | (refine Side.mk ?_ ?_; focus (first | with_reducible rfl | exact True.intro | assumption | omega | (refine congrArg (SV.int _) ?_; omega) | (dsimp only; omega) | (intros; (try simp only [lenS, inR, cutS, loI, hiI, en] at *); omega) | exact nnS (by decide) | exact List.eq_nil_of_length_eq_zero (by assumption) | exact dT (by omega) | exact dF (by omega) | exact decide_eq_decide.2 (by omega) | (split <;> first | rfl | (exfalso; omega)) | (refine ⟨fun h => ?_, fun h => ?_⟩ <;> first | rfl | (cases h; done) | omega | (exfalso; omega) | (simp only [Bool.false_eq_true] at h; done)) | (simp only [*, en]; done) | (simp only [*, en, List.map_cons, List.map_nil, eB]; done) | (simp [*, en]; done) | (dsimp only [resS, pathF_c]; done) | (dsimp only [resS, pathF_c]; first | with_reducible rfl | exact True.intro | assumption | omega | (refine congrArg (SV.int _) ?_; omega) | ((try simp only [lenS, inR, cutS, loI, hiI, en]); omega) | (simp only [*, en]; done) | (simp only [*, en, List.map_cons, List.map_nil, eB]; done) | (simp [*, en]; done)))) | (refine Idx.mk ?_ ?_; focus (first | omega | (simp only [lenS, inR, cutS, loI, hiI, en]; omega))) | refine RetE.mk () trivial ?_ | refine Got.mk (fun _ _ => ?_) | refine Ex.mk _ rfl ?_ | refine Ex.mk [_] rfl ?_ | refine Ex.mk [_, _] rfl ?_ | refine Ex.mk [_, _, _] rfl ?_ | refine Ex.mk [_, _, _, _] rfl ?_ | refine boolK (fun h => ?_) ?_ | (with_reducible first | refine Unf.h ?_ | refine loopK_n ?_ | refine cutK_n ?_) | refine retK_n ?_ | refine retK_r ?_ | exact rfl | exact True.intro) | fail); all_goals try (conv => whnf)
          · have hn : nxt l k p.1 = (nd l p.1).right := if_pos h
            refine ⟨(nxt l k p.1, p.2 ++ [p.1]), hnew, ?_⟩
            repeat' (first | (with_reducible first | refine Unf.h ?_ | refine loopK_n ?_ | refine cutK_n ?_) | ((conv => whnf); first | refine Both.mk ?_ ?_ | refine Fork.mkn (fun h => ?_) (fun h => ?_) | refine Fork.mk (fun h => ?_) (fun h => ?_) | (refine Side.mk ?_ ?_; focus (first | with_reducible rfl | exact True.intro | assumption | omega | (refine congrArg (SV.int _) ?_; omega) | (dsimp only; omega) | (intros; (try simp only [lenS, inR, cutS, loI, hiI, hn, en] at *); omega) | exact nnS (by decide) | exact List.eq_nil_of_length_eq_zero (by assumption) | exact dT (by omega) | exact dF (by omega) | exact decide_eq_decide.2 (by omega) | (split <;> first | rfl | (exfalso; omega)) | (refine ⟨fun h => ?_, fun h => ?_⟩ <;> first | rfl | (cases h; done) | omega | (exfalso; omega) | (simp only [Bool.false_eq_true] at h; done)) | (simp only [*, hn, en]; done) | (simp only [*, hn, en, List.map_cons, List.map_nil, eB]; done) | (simp [*, hn, en]; done) | (dsimp only [resS, pathF_c]; done) | (dsimp only [resS, pathF_c]; first | with_reducible rfl | exact True.intro | assumption | omega | (refine congrArg (SV.int _) ?_; omega) | ((try simp only [lenS, inR, cutS, loI, hiI, hn, en]); omega) | (simp only [*, hn, en]; done) | (simp only [*, hn, en, List.map_cons, List.map_nil, eB]; done) | (simp [*, hn, en]; done)))) | (refine Idx.mk ?_ ?_; focus (first | omega | (simp only [lenS, inR, cutS, loI, hiI, hn, en]; omega))) | refine RetE.mk () trivial ?_ | refine Got.mk (fun _ _ => ?_) | refine Ex.mk _ rfl ?_ | refine Ex.mk [_] rfl ?_ | refine Ex.mk [_, _] rfl ?_ | refine Ex.mk [_, _, _] rfl ?_ | refine Ex.mk [_, _, _, _] rfl ?_ | refine boolK (fun h => ?_) ?_ | (with_reducible first | refine Unf.h ?_ | refine loopK_n ?_ | refine cutK_n ?_) | refine retK_n ?_ | refine retK_r ?_ | exact rfl | exact True.intro) | fail); all_goals try (conv => whnf)
          · have hn : nxt l k p.1 = (nd l p.1).left := if_neg h
            refine ⟨(nxt l k p.1, p.2 ++ [p.1]), hnew, ?_⟩
            repeat' (first | (with_reducible first | refine Unf.h ?_ | refine loopK_n ?_ | refine cutK_n ?_) | ((conv => whnf); first | refine Both.mk ?_ ?_ | refine Fork.mkn (fun h => ?_) (fun h => ?_) | refine Fork.mk (fun h => ?_) (fun h => ?_) | (refine Side.mk ?_ ?_; focus (first | with_reducible rfl | exact True.intro | assumption | omega | (refine congrArg (SV.int _) ?_; omega) | (dsimp only; omega) | (intros; (try simp only [lenS, inR, cutS, loI, hiI, hn, en] at *); omega) | exact nnS (by decide) | exact List.eq_nil_of_length_eq_zero (by assumption) | exact dT (by omega) | exact dF (by omega) | exact decide_eq_decide.2 (by omega) | (split <;> first | rfl | (exfalso; omega)) | (refine ⟨fun h => ?_, fun h => ?_⟩ <;> first | rfl | (cases h; done) | omega | (exfalso; omega) | (simp only [Bool.false_eq_true] at h; done)) | (simp only [*, hn, en]; done) | (simp only [*, hn, en, List.map_cons, List.map_nil, eB]; done) | (simp [*, hn, en]; done) | (dsimp only [resS, pathF_c]; done) | (dsimp only [resS, pathF_c]; first | with_reducible rfl | exact True.intro | assumption | omega | (refine congrArg (SV.int _) ?_; omega) | ((try simp only [lenS, inR, cutS, loI, hiI, hn, en]); omega) | (simp only [*, hn, en]; done) | (simp only [*, hn, en, List.map_cons, List.map_nil, eB]; done) | (simp [*, hn, en]; done)))) | (refine Idx.mk ?_ ?_; focus (first | omega | (simp only [lenS, inR, cutS, loI, hiI, hn, en]; omega))) | refine RetE.mk () trivial ?_ | refine Got.mk (fun _ _ => ?_) | refine Ex.mk _ rfl ?_ | refine Ex.mk [_] rfl ?_ | refine Ex.mk [_, _] rfl ?_ | refine Ex.mk [_, _, _] rfl ?_ | refine Ex.mk [_, _, _, _] rfl ?_ | refine boolK (fun h => ?_) ?_ | (with_reducible first | refine Unf.h ?_ | refine loopK_n ?_ | refine cutK_n ?_) | refine retK_n ?_ | refine retK_r ?_ | exact rfl | exact True.intro) | fail); all_goals try (conv => whnf)
        · have hg : ¬ goes l k p.1 := fun h' => h h'.2.2
          rw [path_stop hg] at hp2 hp3
          simp only [List.append_nil] at hp2
          repeat' (first | (with_reducible first | refine Unf.h ?_ | refine loopK_n ?_ | refine cutK_n ?_) | ((conv => whnf); first | refine Both.mk ?_ ?_ | refine Fork.mkn (fun h => ?_) (fun h => ?_) | refine Fork.mk (fun h => ?_) (fun h => ?_) | (refine Side.mk ?_ ?_; focus (first | with_reducible rfl | exact True.intro | assumption | omega | (refine congrArg (SV.int _) ?_; omega) | (dsimp only; omega) | (intros; (try simp only [lenS, inR, cutS, loI, hiI, hp2, hp3] at *); omega) | exact nnS (by decide) | exact List.eq_nil_of_length_eq_zero (by assumption) | exact dT (by omega) | exact dF (by omega) | exact decide_eq_decide.2 (by omega) | (split <;> first | rfl | (exfalso; omega)) | (refine ⟨fun h => ?_, fun h => ?_⟩ <;> first | rfl | (cases h; done) | omega | (exfalso; omega) | (simp only [Bool.false_eq_true] at h; done)) | (simp only [*, hp2, hp3]; done) | (simp only [*, hp2, hp3, List.map_cons, List.map_nil, eB]; done) | (simp [*, hp2, hp3]; done) | (dsimp only [resS, pathF_c]; done) | (dsimp only [resS, pathF_c]; first | with_reducible rfl | exact True.intro | assumption | omega | (refine congrArg (SV.int _) ?_; omega) | ((try simp only [lenS, inR, cutS, loI, hiI, hp2, hp3]); omega) | (simp only [*, hp2, hp3]; done) | (simp only [*, hp2, hp3, List.map_cons, List.map_nil, eB]; done) | (simp [*, hp2, hp3]; done)))) | (refine Idx.mk ?_ ?_; focus (first | omega | (simp only [lenS, inR, cutS, loI, hiI, hp2, hp3]; omega))) | refine RetE.mk () trivial ?_ | refine Got.mk (fun _ _ => ?_) | refine Ex.mk _ rfl ?_ | refine Ex.mk [_] rfl ?_ | refine Ex.mk [_, _] rfl ?_ | refine Ex.mk [_, _, _] rfl ?_ | refine Ex.mk [_, _, _, _] rfl ?_ | refine boolK (fun h => ?_) ?_ | (with_reducible first | refine Unf.h ?_ | refine loopK_n ?_ | refine cutK_n ?_) | refine retK_n ?_ | refine retK_r ?_ | exact rfl | exact True.intro) | fail); all_goals try (conv => whnf)
      · rw [en] at hb
        have hg : ¬ goes l k p.1 := fun h' => by rw [h'.2.1] at hb; cases hb
        rw [path_stop hg] at hp2 hp3
        simp only [List.append_nil] at hp2
        repeat' (first | (with_reducible first | refine Unf.h ?_ | refine loopK_n ?_ | refine cutK_n ?_) | ((conv => whnf); first | refine Both.mk ?_ ?_ | refine Fork.mkn (fun h => ?_) (fun h => ?_) | refine Fork.mk (fun h => ?_) (fun h => ?_) | (refine Side.mk ?_ ?_; focus (first | with_reducible rfl | exact True.intro | assumption | omega | (refine congrArg (SV.int _) ?_; omega) | (dsimp only; omega) | (intros; (try simp only [lenS, inR, cutS, loI, hiI, hp2, hp3] at *); omega) | exact nnS (by decide) | exact List.eq_nil_of_length_eq_zero (by assumption) | exact dT (by omega) | exact dF (by omega) | exact decide_eq_decide.2 (by omega) | (split <;> first | rfl | (exfalso; omega)) | (refine ⟨fun h => ?_, fun h => ?_⟩ <;> first | rfl | (cases h; done) | omega | (exfalso; omega) | (simp only [Bool.false_eq_true] at h; done)) | (simp only [*, hp2, hp3]; done) | (simp only [*, hp2, hp3, List.map_cons, List.map_nil, eB]; done) | (simp [*, hp2, hp3]; done) | (dsimp only [resS, pathF_c]; done) | (dsimp only [resS, pathF_c]; first | with_reducible rfl | exact True.intro | assumption | omega | (refine congrArg (SV.int _) ?_; omega) | ((try simp only [lenS, inR, cutS, loI, hiI, hp2, hp3]); omega) | (simp only [*, hp2, hp3]; done) | (simp only [*, hp2, hp3, List.map_cons, List.map_nil, eB]; done) | (simp [*, hp2, hp3]; done)))) | (refine Idx.mk ?_ ?_; focus (first | omega | (simp only [lenS, inR, cutS, loI, hiI, hp2, hp3]; omega))) | refine RetE.mk () trivial ?_ | refine Got.mk (fun _ _ => ?_) | refine Ex.mk _ rfl ?_ | refine Ex.mk [_] rfl ?_ | refine Ex.mk [_, _] rfl ?_ | refine Ex.mk [_, _, _] rfl ?_ | refine Ex.mk [_, _, _, _] rfl ?_ | refine boolK (fun h => ?_) ?_ | (with_reducible first | refine Unf.h ?_ | refine loopK_n ?_ | refine cutK_n ?_) | refine retK_n ?_ | refine retK_r ?_ | exact rfl | exact True.intro) | fail); all_goals try (conv => whnf)
    · have hg : ¬ goes l k p.1 := fun h' => h'.1 h
      rw [path_stop hg] at hp2 hp3
      simp only [List.append_nil] at hp2
      clear h
      repeat' (first | (with_reducible first | refine Unf.h ?_ | refine loopK_n ?_ | refine cutK_n ?_) | ((conv => whnf); first | refine Both.mk ?_ ?_ | refine Fork.mkn (fun h => ?_) (fun h => ?_) | refine Fork.mk (fun h => ?_) (fun h => ?_) | (refine Side.mk ?_ ?_; focus (first | with_reducible rfl | exact True.intro | assumption | omega | (refine congrArg (SV.int _) ?_; omega) | (dsimp only; omega) | (intros; (try simp only [lenS, inR, cutS, loI, hiI, hp2, hp3] at *); omega) | exact nnS (by decide) | exact List.eq_nil_of_length_eq_zero (by assumption) | exact dT (by omega) | exact dF (by omega) | exact decide_eq_decide.2 (by omega) | (split <;> first | rfl | (exfalso; omega)) | (refine ⟨fun h => ?_, fun h => ?_⟩ <;> first | rfl | (cases h; done) | omega | (exfalso; omega) | (simp only [Bool.false_eq_true] at h; done)) | (simp only [*, hp2, hp3]; done) | (simp only [*, hp2, hp3, List.map_cons, List.map_nil, eB]; done) | (simp [*, hp2, hp3]; done) | (dsimp only [resS, pathF_c]; done) | (dsimp only [resS, pathF_c]; first | with_reducible rfl | exact True.intro | assumption | omega | (refine congrArg (SV.int _) ?_; omega) | ((try simp only [lenS, inR, cutS, loI, hiI, hp2, hp3]); omega) | (simp only [*, hp2, hp3]; done) | (simp only [*, hp2, hp3, List.map_cons, List.map_nil, eB]; done) | (simp [*, hp2, hp3]; done)))) | (refine Idx.mk ?_ ?_; focus (first | omega | (simp only [lenS, inR, cutS, loI, hiI, hp2, hp3]; omega))) | refine RetE.mk () trivial ?_ | refine Got.mk (fun _ _ => ?_) | refine Ex.mk _ rfl ?_ | refine Ex.mk [_] rfl ?_ | refine Ex.mk [_, _] rfl ?_ | refine Ex.mk [_, _, _] rfl ?_ | refine Ex.mk [_, _, _, _] rfl ?_ | refine boolK (fun h => ?_) ?_ | (with_reducible first | refine Unf.h ?_ | refine loopK_n ?_ | refine cutK_n ?_) | refine retK_n ?_ | refine retK_r ?_ | exact rfl | exact True.intro) | fail); all_goals try (conv => whnf)
end Go.Proofs.YtmbkoigeekofdaaDoor

namespace Go.Proofs.YtmbkoigeekofdaaDoor
set_option linter.all false
open Go.RowKit
/-! a tree's leaves, told one by one to whoever asks -/
/-- who asks: J: what is held for him; the second part is his own -/
abbrev yc (J : List KV × Sg → AO) : Ctr := yCtr (X := Nd) (fun n => [.agg (eNd n)]) (fun s n => n.leaf = true ∧ s.length ≤ 100000) (fun s n => s ++ [(n.key, n.value)]) J
abbrev eIP (p : Int × PT) : List SV := [.int .i64 p.1]
def rem : List (Int × PT) → List KV
  | [] => []
  | p :: r => rem r ++ p.2.list
theorem rem_snoc (l : List (Int × PT)) (p : Int × PT) : rem (l ++ [p]) = p.2.list ++ rem l := by
  induction l with
  | nil => simp [rem]
  | cons q r ih => simp [rem, ih]
def szT (T : PT) : Nat := 2 * T.list.length - 1
def szS : List (Int × PT) → Nat
  | [] => 0
  | p :: r => szT p.2 + szS r
theorem szS_snoc (l : List (Int × PT)) (p : Int × PT) : szS (l ++ [p]) = szS l + szT p.2 := by
  induction l with
  | nil => simp [szS]
  | cons q r ih => simp only [List.cons_append, szS, ih]; omega
theorem szS_len (l : List (Int × PT)) : l.length ≤ szS l := by
  induction l with
  | nil => simp [szS]
  | cons q r ih => have := list_pos q.2; simp only [szS, szT, List.length_cons] at ih ⊢; omega
structure Lv (l : Fo) (T : PT) (s : List (Int × PT) × (List KV × Sg)) : Prop where
  den : ∀ p ∈ s.1, den l p.1 p.2
  all : s.2.1 ++ rem s.1 = T.list
  sz : szS s.1 ≤ 2 * T.list.length
theorem list_sz (T : PT) : 1 ≤ szT T := by have := list_pos T; unfold szT; omega
theorem szT_node (p : Pfx) (a b : PT) : szT (.node p a b) = szT a + szT b + 1 := by
  have := list_pos a; have := list_pos b
  simp only [szT, PT.list, List.length_append]; omega
def lvs_c (J : List KV × Sg → AO) (y : Value) : Ctr where
  D := Fo × Int × PT × Sg
  pre := fun (l, t, T, _) => den l t T ∧ T.list.length ≤ 100000 ∧ (yc J).OkBy Tryd.prog (CallsV Tryd.prog y)
  args := fun _ => [.val y, .ptr 0 0, .ptr 1 0]
  objs := fun (l, t, _, v) => [(0, .box 3 [.int .i64 t]), (1, .box 24 [ff l]), (2, .ab (J ([], v)))]
  nn := 3
  E := Sg
  res := fun _ _ => .tup []
  out := fun (_, _, T, _) v => [(2, .ab (J (T.list, v)))]
def lvs_H : Cfg := ⟨[], [(2, [0, 3, 9, 11], [12, 13], (.one 0 1 false (.one 1 0 false (.one 2 0 false (.one 3 1 false (.one 4 0 false (.one 5 0 false (.one 6 0 false (.one 7 0 false (.one 8 0 false (.one 9 1 false (.one 10 0 false (.one 11 1 false (.one 12 2 true (.one 13 2 false .nil)))))))))))))), [])], [], [], 42, 3, [27], [], []⟩
theorem lvs_ok (J : List KV × Sg → AO) (y : Value): (lvs_c J y).Ok Tryd.prog 55 := by
  refine fn_ok lvs_H 3 rfl _ Tryd.func55 rfl rfl trivial rfl rfl (by kernel_rfl) (fun _ => Nat.le_of_ble_eq_true rfl) ?_
  rintro ⟨l, t, T, v⟩ hp hr
  try dsimp only [lvs_c] at hp
  try simp only [lvs_c, Rng, RngL, inR, and_true, true_and] at hr
  obtain ⟨hd, hlen, hy⟩ := hp
  repeat' (first | (with_reducible refine Unf.h ?_) | fail); all_goals try (conv => whnf)
  refine LoopS.autoN (I := List (Int × PT) × (List KV × Sg)) (Lv l T) (fun s => [(4, .own 3)]) (fun s => [(0, .box 3 [.int .i64 t]), (1, .box 24 [ff l]), (2, .ab (J s.2)), (3, .row 3 1 eIP s.1)]) 4 (fun s => szS s.1) ([(t, T)], ([], v)) ⟨?_, ?_, ?_⟩ ?_ ?_
  · intro p hp
    obtain rfl := List.mem_singleton.1 hp
    exact hd
  · simp [rem]
  · have := list_pos T
    simp only [szS, szT]; omega
  · repeat' (first | (with_reducible refine Unf.h ?_) | ((conv => whnf); first | (refine Side.mk ?_ ?_; focus (first | with_reducible rfl | (simp only [*, List.map_cons, List.map_nil, eB]; done))) | (with_reducible refine Unf.h ?_) | exact True.intro) | fail); all_goals try (conv => whnf)
  · rintro ⟨ps, xs, w⟩ ⟨h1, h2, h3⟩
    simp only at h1 h2 h3
    rcases List.eq_nil_or_concat ps with rfl | ⟨qs, ⟨i, U⟩, rfl⟩
    · repeat' (first | (with_reducible refine Unf.h ?_) | ((conv => whnf); first | refine Fork.mk (fun h => ?_) (fun h => ?_) | (refine Side.mk ?_ ?_; focus (first | omega | (intros; (try simp only [lenS, inR, cutS, loI, hiI] at *); omega))) | (refine Idx.mk ?_ ?_; focus (omega)) | refine retK_n ?_) | fail); all_goals try (conv => whnf)
      · exfalso; simp at h
      · obtain rfl : xs = T.list := by simpa [rem] using h2
        refine RetE.mk w trivial ?_
        repeat' (first | (with_reducible refine Unf.h ?_) | ((conv => whnf); first | (refine Side.mk ?_ ?_; focus (with_reducible rfl)) | (with_reducible refine Unf.h ?_) | exact rfl) | fail); all_goals try (conv => whnf)
    · rw [List.concat_eq_append] at h1 h2 h3 ⊢
      rw [rem_snoc] at h2
      rw [szS_snoc] at h3
      have hU := h1 (i, U) (by simp)
      have hlast : ∀ hx, (qs ++ [(i, U)])[(((qs ++ [(i, U)]).length : Int) - 1).toNat]'hx = (i, U) := fun hx => by
        simp
      have hin := den_in hU
      repeat' (first | (with_reducible refine Unf.h ?_) | ((conv => whnf); first | refine Fork.mk (fun h => ?_) (fun h => ?_) | (refine Side.mk ?_ ?_; focus (first | omega | (intros; (try simp only [lenS, inR, cutS, loI, hiI] at *); omega))) | (refine Idx.mk ?_ ?_; focus (omega)) | refine retK_n ?_) | fail); all_goals try (conv => whnf)
      · generalize he : (qs ++ [(i, U)])[(((qs ++ [(i, U)]).length : Int) - 1).toNat] = e
        obtain rfl : e = (i, U) := he ▸ hlast _
        clear he
        have hlt : i.toNat < l.length := by have h1 := hin.1; have h2 := hin.2; simp only at h1 h2; omega
        refine Idx.mk ⟨hin.1, hlt⟩ ?_
        have hn := nd_get l i hin.1 hlt
        cases U with
        | leaf k v =>
          rw [hU.2] at hn
          generalize he : l[(i, PT.leaf k v).fst.toNat]'hlt = n
          obtain rfl := he.symm.trans hn
          clear he
          repeat' (first | (with_reducible refine Unf.h ?_) | ((conv => whnf); first | (refine Side.mk ?_ ?_; focus (first | omega | (intros; (try simp only [lenS, inR, cutS, loI, hiI] at *); omega))) | (with_reducible refine Unf.h ?_)) | fail); all_goals try (conv => whnf)
          refine ValS.mk (OpsK.callY (c := yc J) hy rfl rfl rfl rfl rfl ?_)
          refine CallS.mk (c := yc J) ((xs, w), ⟨true, k, v, 0, zeroH, -1, -1, sha (leafT k v)⟩) ?_
          repeat' (first | (with_reducible refine Unf.h ?_) | ((conv => whnf); (refine Side.mk ?_ ?_; focus (with_reducible rfl))) | fail); all_goals try (conv => whnf)
          have hT : T.list.length = xs.length + (1 + (rem qs).length) := by rw [← h2]; simp [PT.list]; omega
          refine Side.mk ⟨rfl, by simp only; omega⟩ ?_
          repeat' (first | (with_reducible first | refine Unf.h ?_ | refine loopK_n ?_) | ((conv => whnf); refine Got.mk (fun _ _ => ?_)) | fail); all_goals try (conv => whnf)
          rename_i s' hs'
          have hs' : s'.1 = xs ++ [(k, v)] := hs'
          have hz := list_sz (.leaf k v)
          have h3' : szS qs + szT (.leaf k v) ≤ 2 * T.list.length := h3
          refine ⟨(qs, s'), ⟨?_, fun p hp => h1 p (by simp [hp]), ?_, ?_⟩, ?_⟩
          · simp only [szS_snoc]; omega
          · show s'.1 ++ rem qs = _
            rw [hs', ← h2]; simp [PT.list]
          · show szS qs ≤ _; omega
          have hd : List.take (((qs ++ [(i, PT.leaf k v)]).length : Int) - 1).toNat (qs ++ [(i, PT.leaf k v)]) = qs := by simp
          repeat' (first | (with_reducible refine Unf.h ?_) | ((conv => whnf); first | (refine Side.mk ?_ ?_; focus (first | with_reducible rfl | (simp only [*, hd]; done))) | (with_reducible refine Unf.h ?_) | exact True.intro) | fail); all_goals try (conv => whnf)
        | node p a b =>
          obtain ⟨_, x, y', en, ha, hb⟩ := hU
          rw [en] at hn
          generalize he : l[(i, PT.node p a b).fst.toNat]'hlt = n
          obtain rfl := he.symm.trans hn
          clear he
          repeat' (first | (with_reducible refine Unf.h ?_) | ((conv => whnf); first | (refine Side.mk ?_ ?_; focus (first | omega | (intros; (try simp only [lenS, inR, cutS, loI, hiI] at *); omega))) | (with_reducible refine Unf.h ?_)) | fail); all_goals try (conv => whnf)
          refine Ex.mk [(y', b), (x, a)] rfl ?_
          all_goals try (conv => whnf)
          have hq := szS_len qs
          have ht := szT_node p a b
          have h3' : szS qs + szT (.node p a b) ≤ 2 * T.list.length := h3
          refine Side.mk ?_ ?_
          · simp [EF.of_len]; omega
          repeat' (first | (with_reducible first | refine Unf.h ?_ | refine loopK_n ?_) | ((conv => whnf); (with_reducible refine Unf.h ?_)) | fail); all_goals try (conv => whnf)
          have hd : List.take (((qs ++ [(i, PT.node p a b)]).length : Int) - 1).toNat (qs ++ [(i, PT.node p a b)]) ++ [(y', b), (x, a)] = qs ++ [(y', b), (x, a)] := by simp
          have e2 : qs ++ [(y', b), (x, a)] = (qs ++ [(y', b)]) ++ [(x, a)] := by simp
          refine ⟨(qs ++ [(y', b), (x, a)], xs, w), ⟨?_, fun p hp => ?_, ?_, ?_⟩, ?_⟩
          · simp only [e2, szS_snoc]; omega
          · rcases List.mem_append.1 hp with hp | hp
            · exact h1 p (by simp [hp])
            · rcases List.mem_cons.1 hp with rfl | hp
              · exact hb
              · obtain rfl := List.mem_singleton.1 hp
                exact ha
          · show xs ++ rem (qs ++ [(y', b), (x, a)]) = _
            rw [e2, rem_snoc, rem_snoc, ← h2]; simp [PT.list]
          · show szS (qs ++ [(y', b), (x, a)]) ≤ _
            rw [e2, szS_snoc, szS_snoc]; simp only; omega
          repeat' (first | (with_reducible refine Unf.h ?_) | ((conv => whnf); first | (refine Side.mk ?_ ?_; focus (first | with_reducible rfl | (simp only [*, hd]; done))) | (with_reducible refine Unf.h ?_) | exact True.intro) | fail); all_goals try (conv => whnf)
      · exfalso; simp at h
end Go.Proofs.YtmbkoigeekofdaaDoor

namespace Go.Proofs.YtmbkoigeekofdaaDoor
set_option linter.all false
open Go.RowKit
/-! the list of a tree's keys and values -/
def bxP (b : Nat) : Value := .pointer (some ⟨b, 0, none⟩)
def cloOs (l : Fo) (t : Int) : List Ob := [(0, .box 3 [.int .i64 t]), (1, .box 24 [ff l])]
def leaves_c : Ctr where
  D := Fo × Int
  args := fun (l, t) => [ff l, .int .i64 t]
  E := Value × Sg
  res := fun _ e => .val e.1
  out := fun (l, t) e => [(0, .ab (packAO e.2 (cloOs l t) (cloQ 55 2 e.2 e.1)))]
  mm := 1
theorem leaves_runs (p : Option Addr) (t : Int) (w : World) : Calls Tryd.prog 36 #[.pointer p, .int .i64 t] w fun e w' => e = .returned (.func (.func 55) #[] #[bxP (w.heap.size + 1), bxP w.heap.size]) ∧ w' = (w.alloc (.cells #[.pointer p] 24)).alloc (.cells #[.int .i64 t] 3) := by
  go_enter Tryd.func36, Tryd.ntmps36
  go_wp2
  go_ret
  exact ⟨rfl, rfl⟩
theorem leaves_ok : leaves_c.Ok Tryd.prog 36 := by
  rintro ⟨l, t⟩ _ A0 w σ vs hA hobs hargs hdom hgl
  obtain ⟨p, m1, rfl, h1, tv, m2, rfl, h2, h3⟩ := hargs
  simp only [hvs] at h3; subst h3
  obtain ⟨q, rfl⟩ : ∃ q, p = .pointer q := by
    obtain ⟨pb, poff, hp, -⟩ := h1
    cases hp; exact ⟨_, rfl⟩
  obtain rfl : tv = .int .i64 t := by
    obtain ⟨ht, -⟩ := h2
    cases ht; rfl
  refine (leaves_runs _ t w).mono ?_
  rintro e w' ⟨rfl, rfl⟩
  have h1' : (ff l).hc w (Av A0 σ []) sg0 [.pointer q] := h1
  obtain ⟨τ, hτ⟩ : ∃ τ : Sg, τ = fun k => if k = 0 then some (bxP (w.heap.size + 1)) else if k = 1 then some (bxP w.heap.size) else none := ⟨_, rfl⟩
  have e0 : τ 0 = some (bxP (w.heap.size + 1)) := by rw [hτ]; rfl
  have e1 : τ 1 = some (bxP w.heap.size) := by rw [hτ]; rfl
  have hm1 : Kept w (w.alloc (.cells #[.pointer q] 24)) := Mod.alloc _ _ _
  have hm2 : Kept (w.alloc (.cells #[.pointer q] 24)) ((w.alloc (.cells #[.pointer q] 24)).alloc (.cells #[.int .i64 t] 3)) := Mod.alloc _ _ _
  have own1 : ∀ b, (SO.box 24 [ff l]).own τ 1 b ↔ b = w.heap.size := fun b => by
    constructor
    · rintro ⟨v, hv, hb⟩; rw [e1] at hv; cases hv; cases hb; rfl
    · rintro rfl; exact ⟨_, e1, rfl⟩
  have own0 : ∀ b, (SO.box 3 [.int .i64 t]).own τ 0 b ↔ b = w.heap.size + 1 := fun b => by
    constructor
    · rintro ⟨v, hv, hb⟩; rw [e0] at hv; cases hv; cases hb; rfl
    · rintro rfl; exact ⟨_, e0, rfl⟩
  have o0 : Obs τ A0 [] w := ⟨fun o ho => (by cases ho), trivial, fun b hb => hb.elim⟩
  have o1 : Obs τ A0 [(1, .box 24 [ff l])] (w.alloc (.cells #[.pointer q] 24)) := by
    refine o0.cons hm1 ⟨w.heap.size, [.pointer q], e1, World.alloc_heap_new _ _, [.pointer q], [], rfl, ?_, rfl⟩ (fun b hb => ?_) hA
    · have : (ff l).hc (w.alloc (.cells #[.pointer q] 24)) (fun b => A0 b ∨ owns τ [(1, .box 24 [ff l])] b) sg0 [.pointer q] := SV.hc.later (hm1.later _ fun b hb hx => hx.imp id fun hx => by
        rcases hx with hx | hx
        · have := (own1 b).1 hx; omega
        · exact hx.elim) _ _ _ h1'
      exact this
    · have := (own1 b).1 hb; omega
  have o2 : Obs τ A0 (cloOs l t) ((w.alloc (.cells #[.pointer q] 24)).alloc (.cells #[.int .i64 t] 3)) := by
    refine o1.cons hm2 ⟨w.heap.size + 1, [.int .i64 t], e0, ?_, [.int .i64 t], [], rfl, h2, rfl⟩ (fun b hb => ?_) (fun b hb => ?_)
    · have := World.alloc_heap_new (w.alloc (.cells #[.pointer q] 24)) (.cells #[.int .i64 t] 3)
      rw [World.size_alloc] at this; exact this
    · have := (own0 b).1 hb; rw [World.size_alloc]; omega
    · have := hA b hb; rw [World.size_alloc]; omega
  refine ⟨(_, τ), _, fun _ => none, rfl, trivial, fun k hk => absurd hk (Nat.not_lt_zero k), fun _ _ => rfl, ⟨rfl, rfl⟩, (Mod.trans (Mod.alloc _ _ _) (Mod.alloc _ _ _)), ?_, fun b hb => .inr ?_⟩
  · refine o2.pack ⟨[bxP (w.heap.size + 1), bxP w.heap.size], rfl, fun i hi => ?_, fun u hu => ?_, rfl, fun k hk => ?_⟩
    · match i, hi with
      | 0, _ => exact e0
      | 1, _ => exact e1
    · rcases List.mem_cons.1 hu with rfl | hu
      · exact ⟨_, rfl⟩
      · obtain rfl := List.mem_singleton.1 hu
        exact ⟨_, rfl⟩
    · rw [hτ]; simp only; rw [if_neg (by omega), if_neg (by omega)]
  · rcases (pack_owns b).1 hb with hb | hb | hb
    · have := (own0 b).1 hb; omega
    · have := (own1 b).1 hb; omega
    · exact hb.elim
end Go.Proofs.YtmbkoigeekofdaaDoor

namespace Go.Proofs.YtmbkoigeekofdaaDoor
set_option linter.all false
open Go.RowKit
/-! the chapter's lists -/
def putI (k v : H256) : Bool → List KV → List KV
  | true, r => r.filter fun y => decide (y.1 ≠ k)
  | false, r => putL k v r
theorem putL_len (k v : H256) : ∀ l : List KV, (putL k v l).length ≤ l.length + 1
  | [] => by simp [putL]
  | x :: r => by
    rw [putL_cons]; split
    · have := putL_len k v r; simp only [List.length_cons]; omega
    · have := List.length_filter_le (fun y : KV => decide (y.1 ≠ k)) (x :: r); simp only [List.length_cons] at *; omega
theorem putI_less {k v : H256} {x : KV} {r : List KV} (h : lessP x.1 k) : putI k v false (x :: r) = x :: putI k v false r := by
  show putL k v (x :: r) = x :: putL k v r
  rw [putL_cons, if_pos h]
theorem putI_ge {k v : H256} {x : KV} {r : List KV} (h : ¬ lessP x.1 k) : putI k v false (x :: r) = (k, v) :: putI k v true (x :: r) := by
  show putL k v (x :: r) = (k, v) :: (x :: r).filter (fun y => decide (y.1 ≠ k))
  rw [putL_cons, if_neg h]
theorem putI_same {k v : H256} {x : KV} {r : List KV} (h : x.1 = k) : putI k v true (x :: r) = putI k v true r := by
  show (x :: r).filter (fun y => decide (y.1 ≠ k)) = r.filter (fun y => decide (y.1 ≠ k))
  rw [List.filter_cons_of_neg (by simp [h])]
theorem putI_other {k v : H256} {x : KV} {r : List KV} (h : ¬ x.1 = k) : putI k v true (x :: r) = x :: putI k v true r := by
  show (x :: r).filter (fun y => decide (y.1 ≠ k)) = x :: r.filter (fun y => decide (y.1 ≠ k))
  rw [List.filter_cons_of_pos (by simp [h])]
def rput_c : Ctr where
  D := List KV × H256 × H256
  pre := fun (l, _, _) => l.length ≤ 1000000
  args := fun (l, k, v) => [.fs 64 eKV l, .agg [.arr8 k], .agg [.arr8 v]]
  res := fun (l, k, v) _ => .fs 64 eKV (putL k v l)
def rall_c : Ctr where
  D := List KV
  pre := fun l => l.length ≤ 100000
  args := fun l => [.fs 64 eKV l]
  res := fun l _ => .fs 64 eKV (allL l)
theorem allL_take (l : List KV) (i : Nat) (h : i < l.length) : allL (l.take (i + 1)) = putL l[i].1 l[i].2 (allL (l.take i)) := by
  rw [List.take_succ_eq_append_getElem h, allL_snoc]
theorem allL_len : ∀ (n : Nat) (l : List KV), l.length = n → (allL l).length ≤ n
  | 0, l, h => by obtain rfl := List.eq_nil_of_length_eq_zero h; exact Nat.le_refl _
  | n + 1, l, h => by
    have hne : l ≠ [] := fun e => by subst e; cases h
    obtain ⟨qs, p, rfl⟩ : ∃ qs p, l = qs ++ [p] := ⟨l.dropLast, l.getLast hne, (List.dropLast_concat_getLast hne).symm⟩
    have ih := allL_len n qs (by simpa using h)
    have := putL_len p.1 p.2 (allL qs)
    rw [allL_snoc]; omega
end Go.Proofs.YtmbkoigeekofdaaDoor

namespace Go.Proofs.YtmbkoigeekofdaaDoor
set_option linter.all false
open Go.RowKit
/-! a tree's keys and values, listed -/

def list_c : Ctr where
  D := Fo × Int × Option PT
  pre := fun (l, t, o) => treeAt l t o ∧ (listO o).length ≤ 100000
  args := fun (l, t, _) => [ff l, .int .i64 t]
  res := fun (_, _, o) _ => .fs 64 eKV (listO o)
theorem leaves_law {l : Fo} {t : Int} {T : PT} (hd : den l t T) (hlen : T.list.length ≤ 100000) : CloLaw Tryd.prog (X := Nd) (fun n => [.agg (eNd n)]) (fun s n => n.leaf = true ∧ s.length ≤ 100000) (fun s n => s ++ [(n.key, n.value)]) 2 (cloOs l t) (fun J y => lvs_c J y) (fun J y τ => (l, t, T, τ)) [] (fun xs => xs = T.list) where
  args := fun _ _ _ => rfl
  objs := fun _ _ _ => rfl
  nn := fun _ _ => rfl
  pre := fun _ _ _ h => ⟨hd, hlen, h⟩
  out := fun _ _ _ e _ => ⟨_, e, rfl, rfl⟩
def list_H : Cfg := ⟨[(25, isF_c), (36, leaves_c)], [], [], [], 28, 0, [], [], []⟩
theorem list_ok : list_c.Ok Tryd.prog 19 := by
  refine fn_ok list_H 0 rfl _ Tryd.func19 rfl rfl ⟨isF_ok, leaves_ok, trivial⟩ rfl rfl (by kernel_rfl) (fun _ => Nat.le_of_ble_eq_true rfl) ?_
  rintro ⟨l, t, o⟩ hp hr
  try dsimp only [list_c] at hp
  try simp only [list_c, Rng, RngL, inR, and_true, true_and] at hr
  obtain ⟨hd, hlen⟩ := hp
  cases o with
  | none =>
    have ht : t = -1 := hd
    repeat' (first | (with_reducible first | refine Unf.h ?_ | refine loopK_n ?_ | refine cutK_n ?_) | ((conv => whnf); first | refine Both.mk ?_ ?_ | refine Fork.mkn (fun h => ?_) (fun h => ?_) | refine Fork.mk (fun h => ?_) (fun h => ?_) | (refine Side.mk ?_ ?_; focus (first | with_reducible rfl | exact True.intro | assumption | omega | (refine congrArg (SV.int _) ?_; omega) | (dsimp only; omega) | (intros; (try simp only [lenS, inR, cutS, loI, hiI, listO] at *); omega) | exact nnS (by decide) | exact List.eq_nil_of_length_eq_zero (by assumption) | exact dT (by omega) | exact dF (by omega) | exact decide_eq_decide.2 (by omega) | (split <;> first | rfl | (exfalso; omega)) | (refine ⟨fun h => ?_, fun h => ?_⟩ <;> first | rfl | (cases h; done) | omega | (exfalso; omega) | (simp only [Bool.false_eq_true] at h; done)) | (simp only [*, listO]; done) | (simp only [*, listO, List.map_cons, List.map_nil, eB]; done) | (simp [*, listO]; done) | (dsimp only [resS, list_c]; done) | (dsimp only [resS, list_c]; first | with_reducible rfl | exact True.intro | assumption | omega | (refine congrArg (SV.int _) ?_; omega) | ((try simp only [lenS, inR, cutS, loI, hiI, listO]); omega) | (simp only [*, listO]; done) | (simp only [*, listO, List.map_cons, List.map_nil, eB]; done) | (simp [*, listO]; done)))) | (refine Idx.mk ?_ ?_; focus (first | omega | (simp only [lenS, inR, cutS, loI, hiI, listO]; omega))) | refine RetE.mk () trivial ?_ | refine Got.mk (fun _ _ => ?_) | refine Ex.mk _ rfl ?_ | refine Ex.mk [_] rfl ?_ | refine Ex.mk [_, _] rfl ?_ | refine Ex.mk [_, _, _] rfl ?_ | refine Ex.mk [_, _, _, _] rfl ?_ | refine boolK (fun h => ?_) ?_ | (with_reducible first | refine Unf.h ?_ | refine loopK_n ?_ | refine cutK_n ?_) | refine retK_n ?_ | refine retK_r ?_ | exact rfl | exact True.intro | refine CallS.mk (c := isF_c) ((l, t)) ?_ | refine Or2.l (CallS.mk (c := isF_c) ((l, t)) ?_) | refine Or2.r (CallS.mk (c := isF_c) ((l, t)) ?_) | refine Or2.r (Or2.l (CallS.mk (c := isF_c) ((l, t)) ?_)) | refine Or2.r (Or2.r (CallS.mk (c := isF_c) ((l, t)) ?_)) | refine CallS.mk (c := leaves_c) ((l, t)) ?_ | refine Or2.l (CallS.mk (c := leaves_c) ((l, t)) ?_) | refine Or2.r (CallS.mk (c := leaves_c) ((l, t)) ?_) | refine Or2.r (Or2.l (CallS.mk (c := leaves_c) ((l, t)) ?_)) | refine Or2.r (Or2.r (CallS.mk (c := leaves_c) ((l, t)) ?_))) | fail); all_goals try (conv => whnf)
    exact absurd ht (by assumption)
  | some T =>
    have hd : den l t T := hd
    have hlen : T.list.length ≤ 100000 := hlen
    have h0 : 0 ≤ t ∧ t < (l.length : Int) := den_in hd
    repeat' (first | (with_reducible first | refine Unf.h ?_ | refine loopK_n ?_ | refine cutK_n ?_) | ((conv => whnf); first | refine Both.mk ?_ ?_ | refine Fork.mkn (fun h => ?_) (fun h => ?_) | refine Fork.mk (fun h => ?_) (fun h => ?_) | (refine Side.mk ?_ ?_; focus (first | with_reducible rfl | exact True.intro | assumption | omega | (refine congrArg (SV.int _) ?_; omega) | (dsimp only; omega) | (intros; (try simp only [lenS, inR, cutS, loI, hiI] at *); omega) | exact nnS (by decide) | exact List.eq_nil_of_length_eq_zero (by assumption) | exact dT (by omega) | exact dF (by omega) | exact decide_eq_decide.2 (by omega) | (split <;> first | rfl | (exfalso; omega)) | (refine ⟨fun h => ?_, fun h => ?_⟩ <;> first | rfl | (cases h; done) | omega | (exfalso; omega) | (simp only [Bool.false_eq_true] at h; done)) | (simp only [*]; done) | (simp only [*, List.map_cons, List.map_nil, eB]; done) | (simp [*]; done) | (dsimp only [resS, list_c]; done) | (dsimp only [resS, list_c]; first | with_reducible rfl | exact True.intro | assumption | omega | (refine congrArg (SV.int _) ?_; omega) | ((try simp only [lenS, inR, cutS, loI, hiI]); omega) | (simp only [*]; done) | (simp only [*, List.map_cons, List.map_nil, eB]; done) | (simp [*]; done)))) | (refine Idx.mk ?_ ?_; focus (first | omega | (simp only [lenS, inR, cutS, loI, hiI]; omega))) | refine RetE.mk () trivial ?_ | refine Got.mk (fun _ _ => ?_) | refine Ex.mk _ rfl ?_ | refine Ex.mk [_] rfl ?_ | refine Ex.mk [_, _] rfl ?_ | refine Ex.mk [_, _, _] rfl ?_ | refine Ex.mk [_, _, _, _] rfl ?_ | refine boolK (fun h => ?_) ?_ | (with_reducible first | refine Unf.h ?_ | refine loopK_n ?_ | refine cutK_n ?_) | refine retK_n ?_ | refine retK_r ?_ | exact rfl | exact True.intro | refine CallS.mk (c := isF_c) ((l, t)) ?_ | refine Or2.l (CallS.mk (c := isF_c) ((l, t)) ?_) | refine Or2.r (CallS.mk (c := isF_c) ((l, t)) ?_) | refine Or2.r (Or2.l (CallS.mk (c := isF_c) ((l, t)) ?_)) | refine Or2.r (Or2.r (CallS.mk (c := isF_c) ((l, t)) ?_)) | refine CallS.mk (c := leaves_c) ((l, t)) ?_ | refine Or2.l (CallS.mk (c := leaves_c) ((l, t)) ?_) | refine Or2.r (CallS.mk (c := leaves_c) ((l, t)) ?_) | refine Or2.r (Or2.l (CallS.mk (c := leaves_c) ((l, t)) ?_)) | refine Or2.r (Or2.r (CallS.mk (c := leaves_c) ((l, t)) ?_))) | fail); all_goals try (conv => whnf)
    rename_i c hc
    obtain ⟨v, τc⟩ := c
    refine Or2.l ?_
    refine RangeS.mk (leaves_law hd hlen) 55 (fun J y => lvs_ok J y) τc 1 _ rfl [(5, .ptr 5 0)] (fun xs => [(5, .box 57 [.own 6]), (6, .row 87 64 eKV xs)]) 6 7 rfl rfl (fun _ => ⟨rfl, rfl⟩) (fun _ => rfl) ?_ ?_ ?_
    · repeat' (first | (with_reducible first | refine Unf.h ?_ | refine loopK_n ?_ | refine cutK_n ?_) | ((conv => whnf); first | refine Both.mk ?_ ?_ | refine Fork.mkn (fun h => ?_) (fun h => ?_) | refine Fork.mk (fun h => ?_) (fun h => ?_) | (refine Side.mk ?_ ?_; focus (first | with_reducible rfl | exact True.intro | assumption | omega | (refine congrArg (SV.int _) ?_; omega) | (dsimp only; omega) | (intros; (try simp only [lenS, inR, cutS, loI, hiI] at *); omega) | exact nnS (by decide) | exact List.eq_nil_of_length_eq_zero (by assumption) | exact dT (by omega) | exact dF (by omega) | exact decide_eq_decide.2 (by omega) | (split <;> first | rfl | (exfalso; omega)) | (refine ⟨fun h => ?_, fun h => ?_⟩ <;> first | rfl | (cases h; done) | omega | (exfalso; omega) | (simp only [Bool.false_eq_true] at h; done)) | (simp only [*]; done) | (simp only [*, List.map_cons, List.map_nil, eB]; done) | (simp [*]; done) | (dsimp only [resS, list_c]; done) | (dsimp only [resS, list_c]; first | with_reducible rfl | exact True.intro | assumption | omega | (refine congrArg (SV.int _) ?_; omega) | ((try simp only [lenS, inR, cutS, loI, hiI]); omega) | (simp only [*]; done) | (simp only [*, List.map_cons, List.map_nil, eB]; done) | (simp [*]; done)))) | (refine Idx.mk ?_ ?_; focus (first | omega | (simp only [lenS, inR, cutS, loI, hiI]; omega))) | refine RetE.mk () trivial ?_ | refine Got.mk (fun _ _ => ?_) | refine Ex.mk _ rfl ?_ | refine Ex.mk [_] rfl ?_ | refine Ex.mk [_, _] rfl ?_ | refine Ex.mk [_, _, _] rfl ?_ | refine Ex.mk [_, _, _, _] rfl ?_ | refine boolK (fun h => ?_) ?_ | (with_reducible first | refine Unf.h ?_ | refine loopK_n ?_ | refine cutK_n ?_) | refine retK_n ?_ | refine retK_r ?_ | exact rfl | exact True.intro) | fail); all_goals try (conv => whnf)
    · intro xs n hn
      have hn2 := hn.2
      repeat' (first | (with_reducible first | refine Unf.h ?_ | refine loopK_n ?_ | refine cutK_n ?_) | ((conv => whnf); first | refine Both.mk ?_ ?_ | refine Fork.mkn (fun h => ?_) (fun h => ?_) | refine Fork.mk (fun h => ?_) (fun h => ?_) | (refine Side.mk ?_ ?_; focus (first | with_reducible rfl | exact True.intro | assumption | omega | (refine congrArg (SV.int _) ?_; omega) | (dsimp only; omega) | (intros; (try simp only [lenS, inR, cutS, loI, hiI] at *); omega) | exact nnS (by decide) | exact List.eq_nil_of_length_eq_zero (by assumption) | exact dT (by omega) | exact dF (by omega) | exact decide_eq_decide.2 (by omega) | (split <;> first | rfl | (exfalso; omega)) | (refine ⟨fun h => ?_, fun h => ?_⟩ <;> first | rfl | (cases h; done) | omega | (exfalso; omega) | (simp only [Bool.false_eq_true] at h; done)) | (simp only [*]; done) | (simp only [*, List.map_cons, List.map_nil, eB]; done) | (simp [*]; done) | (dsimp only [resS, list_c]; done) | (dsimp only [resS, list_c]; first | with_reducible rfl | exact True.intro | assumption | omega | (refine congrArg (SV.int _) ?_; omega) | ((try simp only [lenS, inR, cutS, loI, hiI]); omega) | (simp only [*]; done) | (simp only [*, List.map_cons, List.map_nil, eB]; done) | (simp [*]; done)))) | (refine Idx.mk ?_ ?_; focus (first | omega | (simp only [lenS, inR, cutS, loI, hiI]; omega))) | refine RetE.mk () trivial ?_ | refine Got.mk (fun _ _ => ?_) | refine Ex.mk _ rfl ?_ | refine Ex.mk [_] rfl ?_ | refine Ex.mk [_, _] rfl ?_ | refine Ex.mk [_, _, _] rfl ?_ | refine Ex.mk [_, _, _, _] rfl ?_ | refine boolK (fun h => ?_) ?_ | (with_reducible first | refine Unf.h ?_ | refine loopK_n ?_ | refine cutK_n ?_) | refine retK_n ?_ | refine retK_r ?_ | exact rfl | exact True.intro) | fail); all_goals try (conv => whnf)
      refine Ex.mk [(n.key, n.value)] rfl ?_
      repeat' (first | (with_reducible first | refine Unf.h ?_ | refine loopK_n ?_ | refine cutK_n ?_) | ((conv => whnf); first | refine Both.mk ?_ ?_ | refine Fork.mkn (fun h => ?_) (fun h => ?_) | refine Fork.mk (fun h => ?_) (fun h => ?_) | (refine Side.mk ?_ ?_; focus (first | with_reducible rfl | exact True.intro | assumption | omega | (refine congrArg (SV.int _) ?_; omega) | (dsimp only; omega) | (intros; (try simp only [lenS, inR, cutS, loI, hiI] at *); omega) | exact nnS (by decide) | exact List.eq_nil_of_length_eq_zero (by assumption) | exact dT (by omega) | exact dF (by omega) | exact decide_eq_decide.2 (by omega) | (split <;> first | rfl | (exfalso; omega)) | (refine ⟨fun h => ?_, fun h => ?_⟩ <;> first | rfl | (cases h; done) | omega | (exfalso; omega) | (simp only [Bool.false_eq_true] at h; done)) | (simp only [*]; done) | (simp only [*, List.map_cons, List.map_nil, eB]; done) | (simp [*]; done) | (dsimp only [resS, list_c]; done) | (dsimp only [resS, list_c]; first | with_reducible rfl | exact True.intro | assumption | omega | (refine congrArg (SV.int _) ?_; omega) | ((try simp only [lenS, inR, cutS, loI, hiI]); omega) | (simp only [*]; done) | (simp only [*, List.map_cons, List.map_nil, eB]; done) | (simp [*]; done)))) | (refine Idx.mk ?_ ?_; focus (first | omega | (simp only [lenS, inR, cutS, loI, hiI]; omega))) | refine RetE.mk () trivial ?_ | refine Got.mk (fun _ _ => ?_) | refine Ex.mk _ rfl ?_ | refine Ex.mk [_] rfl ?_ | refine Ex.mk [_, _] rfl ?_ | refine Ex.mk [_, _, _] rfl ?_ | refine Ex.mk [_, _, _, _] rfl ?_ | refine boolK (fun h => ?_) ?_ | (with_reducible first | refine Unf.h ?_ | refine loopK_n ?_ | refine cutK_n ?_) | refine retK_n ?_ | refine retK_r ?_ | exact rfl | exact True.intro) | fail); all_goals try (conv => whnf)
    · rintro xs rfl
      repeat' (first | (with_reducible first | refine Unf.h ?_ | refine loopK_n ?_ | refine cutK_n ?_) | ((conv => whnf); first | refine Both.mk ?_ ?_ | refine Fork.mkn (fun h => ?_) (fun h => ?_) | refine Fork.mk (fun h => ?_) (fun h => ?_) | (refine Side.mk ?_ ?_; focus (first | with_reducible rfl | exact True.intro | assumption | omega | (refine congrArg (SV.int _) ?_; omega) | (dsimp only; omega) | (intros; (try simp only [lenS, inR, cutS, loI, hiI] at *); omega) | exact nnS (by decide) | exact List.eq_nil_of_length_eq_zero (by assumption) | exact dT (by omega) | exact dF (by omega) | exact decide_eq_decide.2 (by omega) | (split <;> first | rfl | (exfalso; omega)) | (refine ⟨fun h => ?_, fun h => ?_⟩ <;> first | rfl | (cases h; done) | omega | (exfalso; omega) | (simp only [Bool.false_eq_true] at h; done)) | (simp only [*]; done) | (simp only [*, List.map_cons, List.map_nil, eB]; done) | (simp [*]; done) | (dsimp only [resS, list_c]; done) | (dsimp only [resS, list_c]; first | with_reducible rfl | exact True.intro | assumption | omega | (refine congrArg (SV.int _) ?_; omega) | ((try simp only [lenS, inR, cutS, loI, hiI]); omega) | (simp only [*]; done) | (simp only [*, List.map_cons, List.map_nil, eB]; done) | (simp [*]; done)))) | (refine Idx.mk ?_ ?_; focus (first | omega | (simp only [lenS, inR, cutS, loI, hiI]; omega))) | refine RetE.mk () trivial ?_ | refine Got.mk (fun _ _ => ?_) | refine Ex.mk _ rfl ?_ | refine Ex.mk [_] rfl ?_ | refine Ex.mk [_, _] rfl ?_ | refine Ex.mk [_, _, _] rfl ?_ | refine Ex.mk [_, _, _, _] rfl ?_ | refine boolK (fun h => ?_) ?_ | (with_reducible first | refine Unf.h ?_ | refine loopK_n ?_ | refine cutK_n ?_) | refine retK_n ?_ | refine retK_r ?_ | exact rfl | exact True.intro) | fail); all_goals try (conv => whnf)
      refine Side.mk rfl ?_
      repeat' (first | (with_reducible first | refine Unf.h ?_ | refine loopK_n ?_ | refine cutK_n ?_) | ((conv => whnf); first | refine Both.mk ?_ ?_ | refine Fork.mkn (fun h => ?_) (fun h => ?_) | refine Fork.mk (fun h => ?_) (fun h => ?_) | (refine Side.mk ?_ ?_; focus (first | with_reducible rfl | exact True.intro | assumption | omega | (refine congrArg (SV.int _) ?_; omega) | (dsimp only; omega) | (intros; (try simp only [lenS, inR, cutS, loI, hiI] at *); omega) | exact nnS (by decide) | exact List.eq_nil_of_length_eq_zero (by assumption) | exact dT (by omega) | exact dF (by omega) | exact decide_eq_decide.2 (by omega) | (split <;> first | rfl | (exfalso; omega)) | (refine ⟨fun h => ?_, fun h => ?_⟩ <;> first | rfl | (cases h; done) | omega | (exfalso; omega) | (simp only [Bool.false_eq_true] at h; done)) | (simp only [*]; done) | (simp only [*, List.map_cons, List.map_nil, eB]; done) | (simp [*]; done) | (dsimp only [resS, list_c]; done) | (dsimp only [resS, list_c]; first | with_reducible rfl | exact True.intro | assumption | omega | (refine congrArg (SV.int _) ?_; omega) | ((try simp only [lenS, inR, cutS, loI, hiI]); omega) | (simp only [*]; done) | (simp only [*, List.map_cons, List.map_nil, eB]; done) | (simp [*]; done)))) | (refine Idx.mk ?_ ?_; focus (first | omega | (simp only [lenS, inR, cutS, loI, hiI]; omega))) | refine RetE.mk () trivial ?_ | refine Got.mk (fun _ _ => ?_) | refine Ex.mk _ rfl ?_ | refine Ex.mk [_] rfl ?_ | refine Ex.mk [_, _] rfl ?_ | refine Ex.mk [_, _, _] rfl ?_ | refine Ex.mk [_, _, _, _] rfl ?_ | refine boolK (fun h => ?_) ?_ | (with_reducible first | refine Unf.h ?_ | refine loopK_n ?_ | refine cutK_n ?_) | refine retK_n ?_ | refine retK_r ?_ | exact rfl | exact True.intro) | fail); all_goals try (conv => whnf)
def pairs_c : Ctr where
  D := List KV
  pre := fun l => l.length ≤ 100000
  args := fun l => [.fs 64 eKV l]
  res := fun l _ => .fs 64 eKV l
def rsame11_c : Ctr where
  D := List KV × List KV
  args := fun (a, b) => [.fs 64 eKV a, .fs 64 eKV b]
  res := fun (a, b) _ => .dec (a = b) inferInstance
end Go.Proofs.YtmbkoigeekofdaaDoor

namespace Go.Proofs.YtmbkoigeekofdaaDoor
set_option linter.all false
open Go.RowKit
/-! the chapter's trees -/
def getO (l : List KV) (k : H256) : Option KV := l.find? fun x => decide (x.1 = k)
def valO : Option KV → H256
  | none => zeroH
  | some x => x.2
theorem getO_cons (x : KV) (r : List KV) (k : H256) : getO (x :: r) k = if x.1 = k then some x else getO r k := by
  unfold getO
  by_cases h : x.1 = k
  · rw [if_pos h, List.find?_cons_of_pos (by simp [h])]
  · rw [if_neg h, List.find?_cons_of_neg (by simp [h])]
def rget_c : Ctr where
  D := List KV × H256
  args := fun (l, k) => [.fs 64 eKV l, .agg [.arr8 k]]
  res := fun (l, k) _ => .tup [.agg [.arr8 (valO (getO l k))], .dec ((getO l k).isSome = true) inferInstance]
/-! the longest prefix that holds all -/
def rover_c : Ctr where
  D := Pfx × PT × PT
  pre := fun (p, a, b) => (PT.node p a b).wf
  args := fun (_, a, b) => [.fs 64 eKV (a.list ++ b.list)]
  res := fun (p, _, _) _ => .agg (ePfx p)
theorem app_first {a b : PT} (i : Nat) (hi : i = 0) (h : i < (a.list ++ b.list).length) : (a.list ++ b.list)[i] ∈ a.list := by
  subst hi
  rw [List.getElem_append_left (list_pos a)]; exact List.getElem_mem _
theorem app_last {a b : PT} (i : Nat) (hi : i = a.list.length + b.list.length - 1) (h : i < (a.list ++ b.list).length) : (a.list ++ b.list)[i] ∈ b.list := by
  have := list_pos b
  rw [List.getElem_append_right (by omega)]; exact List.getElem_mem _
def rover_H : Cfg := ⟨[(75, rshared_c), (74, rcut_c)], [(1, [3, 10], [11, 12, 13, 14], (.one 0 0 false (.one 1 0 false (.one 2 0 false (.one 3 1 false (.one 4 0 false (.one 5 0 false (.one 6 0 false (.one 7 0 false (.one 8 0 false (.one 9 0 false (.one 10 1 false (.alt 11 true (.one 12 2 true (.one 13 2 true (.one 14 2 false .nil))) (.one 12 2 true (.one 11 2 true (.one 13 2 true (.one 14 2 false .nil)))))))))))))))), []), (2, [0, 1, 2], [3, 4, 5], (.one 0 1 false (.one 1 1 false (.one 2 1 false (.one 3 2 true (.one 4 2 false (.one 5 2 false .nil)))))), [])], [], [], 21, 0, [], [1], []⟩
theorem rover_ok : rover_c.Ok Tryd.prog 52 := by
  refine fn_ok rover_H 0 rfl _ Tryd.func52 rfl rfl ⟨rshared_ok, rcut_ok, trivial⟩ rfl rfl (by kernel_rfl) (fun _ => Nat.le_of_ble_eq_true rfl) ?_
  rintro ⟨p, a, b⟩ hp hr
  try dsimp only [rover_c] at hp
  try simp only [rover_c, Rng, RngL, inR, and_true, true_and] at hr
  have la := list_pos a
  have lb := list_pos b
  have hlen : (a.list ++ b.list).length = a.list.length + b.list.length := List.length_append
  have h0 : (0 : Int).toNat < (a.list ++ b.list).length := by show 0 < _; omega
  have h1 : (((a.list ++ b.list).length : Int) - 1).toNat < (a.list ++ b.list).length := by omega
  have hx : (a.list ++ b.list)[(0 : Int).toNat]'h0 ∈ a.list := app_first _ rfl h0
  have hy : (a.list ++ b.list)[(((a.list ++ b.list).length : Int) - 1).toNat]'h1 ∈ b.list := app_last _ (by omega) h1
  have ho := (over_spec hp hx hy).2
  repeat' (first | (with_reducible first | refine Unf.h ?_ | refine loopK_n ?_ | refine cutK_n ?_) | ((conv => whnf); first | refine Both.mk ?_ ?_ | refine Fork.mkn (fun h => ?_) (fun h => ?_) | refine Fork.mk (fun h => ?_) (fun h => ?_) | (refine Side.mk ?_ ?_; focus (first | with_reducible rfl | exact True.intro | assumption | omega | (refine congrArg (SV.int _) ?_; omega) | (dsimp only; omega) | (intros; (try simp only [lenS, inR, cutS, loI, hiI] at *); omega) | exact nnS (by decide) | exact List.eq_nil_of_length_eq_zero (by assumption) | exact dT (by omega) | exact dF (by omega) | exact decide_eq_decide.2 (by omega) | (split <;> first | rfl | (exfalso; omega)) | (refine ⟨fun h => ?_, fun h => ?_⟩ <;> first | rfl | (cases h; done) | omega | (exfalso; omega) | (simp only [Bool.false_eq_true] at h; done)) | (simp only [*]; done) | (simp only [*, List.map_cons, List.map_nil, eB]; done) | (simp [*]; done) | (dsimp only [resS, rover_c]; done) | (dsimp only [resS, rover_c]; first | with_reducible rfl | exact True.intro | assumption | omega | (refine congrArg (SV.int _) ?_; omega) | ((try simp only [lenS, inR, cutS, loI, hiI]); omega) | (simp only [*]; done) | (simp only [*, List.map_cons, List.map_nil, eB]; done) | (simp [*]; done)))) | (refine Idx.mk ?_ ?_; focus (first | omega | (simp only [lenS, inR, cutS, loI, hiI]; omega))) | refine RetE.mk () trivial ?_ | refine Got.mk (fun _ _ => ?_) | refine Ex.mk _ rfl ?_ | refine Ex.mk [_] rfl ?_ | refine Ex.mk [_, _] rfl ?_ | refine Ex.mk [_, _, _] rfl ?_ | refine Ex.mk [_, _, _, _] rfl ?_ | refine boolK (fun h => ?_) ?_ | (with_reducible first | refine Unf.h ?_ | refine loopK_n ?_ | refine cutK_n ?_) | refine retK_n ?_ | refine retK_r ?_ | exact rfl | exact True.intro) | fail); all_goals try (conv => whnf)
  refine CutS.auto (I := Unit) (fun _ => True) (fun _ => [(3, .ptr 1 0), (4, .ptr 2 0)]) (fun _ => [(1, .box 32 [.arr8 ((a.list ++ b.list)[(0 : Int).toNat]'h0).1]), (2, .box 32 [.arr8 ((a.list ++ b.list)[(((a.list ++ b.list).length : Int) - 1).toNat]'h1).1]), (0, .box 36 [.int .i64 0, .arr8 zeroH])]) 3 ?_ ?_
  · repeat' (first | (with_reducible first | refine Unf.h ?_ | refine loopK_n ?_ | refine cutK_n ?_) | ((conv => whnf); first | refine Both.mk ?_ ?_ | refine Fork.mkn (fun h => ?_) (fun h => ?_) | refine Fork.mk (fun h => ?_) (fun h => ?_) | (refine Side.mk ?_ ?_; focus (first | with_reducible rfl | exact True.intro | assumption | omega | (refine congrArg (SV.int _) ?_; omega) | (dsimp only; omega) | (intros; (try simp only [lenS, inR, cutS, loI, hiI] at *); omega) | exact nnS (by decide) | exact List.eq_nil_of_length_eq_zero (by assumption) | exact dT (by omega) | exact dF (by omega) | exact decide_eq_decide.2 (by omega) | (split <;> first | rfl | (exfalso; omega)) | (refine ⟨fun h => ?_, fun h => ?_⟩ <;> first | rfl | (cases h; done) | omega | (exfalso; omega) | (simp only [Bool.false_eq_true] at h; done)) | (simp only [*]; done) | (simp only [*, List.map_cons, List.map_nil, eB]; done) | (simp [*]; done) | (dsimp only [resS, rover_c]; done) | (dsimp only [resS, rover_c]; first | with_reducible rfl | exact True.intro | assumption | omega | (refine congrArg (SV.int _) ?_; omega) | ((try simp only [lenS, inR, cutS, loI, hiI]); omega) | (simp only [*]; done) | (simp only [*, List.map_cons, List.map_nil, eB]; done) | (simp [*]; done)))) | (refine Idx.mk ?_ ?_; focus (first | omega | (simp only [lenS, inR, cutS, loI, hiI]; omega))) | refine RetE.mk () trivial ?_ | refine Got.mk (fun _ _ => ?_) | refine Ex.mk _ rfl ?_ | refine Ex.mk [_] rfl ?_ | refine Ex.mk [_, _] rfl ?_ | refine Ex.mk [_, _, _] rfl ?_ | refine Ex.mk [_, _, _, _] rfl ?_ | refine boolK (fun h => ?_) ?_ | (with_reducible first | refine Unf.h ?_ | refine loopK_n ?_ | refine cutK_n ?_) | refine retK_n ?_ | refine retK_r ?_ | exact rfl | exact True.intro) | fail); all_goals try (conv => whnf)
    all_goals (refine ⟨(), trivial, ?_⟩)
    all_goals repeat' (first | (with_reducible first | refine Unf.h ?_ | refine loopK_n ?_ | refine cutK_n ?_) | ((conv => whnf); first | refine Both.mk ?_ ?_ | refine Fork.mkn (fun h => ?_) (fun h => ?_) | refine Fork.mk (fun h => ?_) (fun h => ?_) | (refine Side.mk ?_ ?_; focus (first | with_reducible rfl | exact True.intro | assumption | omega | (refine congrArg (SV.int _) ?_; omega) | (dsimp only; omega) | (intros; (try simp only [lenS, inR, cutS, loI, hiI] at *); omega) | exact nnS (by decide) | exact List.eq_nil_of_length_eq_zero (by assumption) | exact dT (by omega) | exact dF (by omega) | exact decide_eq_decide.2 (by omega) | (split <;> first | rfl | (exfalso; omega)) | (refine ⟨fun h => ?_, fun h => ?_⟩ <;> first | rfl | (cases h; done) | omega | (exfalso; omega) | (simp only [Bool.false_eq_true] at h; done)) | (simp only [*]; done) | (simp only [*, List.map_cons, List.map_nil, eB]; done) | (simp [*]; done) | (dsimp only [resS, rover_c]; done) | (dsimp only [resS, rover_c]; first | with_reducible rfl | exact True.intro | assumption | omega | (refine congrArg (SV.int _) ?_; omega) | ((try simp only [lenS, inR, cutS, loI, hiI]); omega) | (simp only [*]; done) | (simp only [*, List.map_cons, List.map_nil, eB]; done) | (simp [*]; done)))) | (refine Idx.mk ?_ ?_; focus (first | omega | (simp only [lenS, inR, cutS, loI, hiI]; omega))) | refine RetE.mk () trivial ?_ | refine Got.mk (fun _ _ => ?_) | refine Ex.mk _ rfl ?_ | refine Ex.mk [_] rfl ?_ | refine Ex.mk [_, _] rfl ?_ | refine Ex.mk [_, _, _] rfl ?_ | refine Ex.mk [_, _, _, _] rfl ?_ | refine boolK (fun h => ?_) ?_ | (with_reducible first | refine Unf.h ?_ | refine loopK_n ?_ | refine cutK_n ?_) | refine retK_n ?_ | refine retK_r ?_ | exact rfl | exact True.intro) | fail); all_goals try (conv => whnf)
  · intro _ _
    generalize (a.list ++ b.list)[(0 : Int).toNat]'h0 = x at *
    generalize (a.list ++ b.list)[(((a.list ++ b.list).length : Int) - 1).toNat]'h1 = y at *
    repeat' (first | (with_reducible first | refine Unf.h ?_ | refine loopK_n ?_ | refine cutK_n ?_) | ((conv => whnf); first | refine Both.mk ?_ ?_ | refine Fork.mkn (fun h => ?_) (fun h => ?_) | refine Fork.mk (fun h => ?_) (fun h => ?_) | (refine Side.mk ?_ ?_; focus (first | with_reducible rfl | exact True.intro | assumption | omega | (refine congrArg (SV.int _) ?_; omega) | (dsimp only; omega) | (intros; (try simp only [lenS, inR, cutS, loI, hiI, ho] at *); omega) | exact nnS (by decide) | exact List.eq_nil_of_length_eq_zero (by assumption) | exact dT (by omega) | exact dF (by omega) | exact decide_eq_decide.2 (by omega) | (split <;> first | rfl | (exfalso; omega)) | (refine ⟨fun h => ?_, fun h => ?_⟩ <;> first | rfl | (cases h; done) | omega | (exfalso; omega) | (simp only [Bool.false_eq_true] at h; done)) | (simp only [*, ho]; done) | (simp only [*, ho, List.map_cons, List.map_nil, eB]; done) | (simp [*, ho]; done) | (dsimp only [resS, rover_c]; done) | (dsimp only [resS, rover_c]; first | with_reducible rfl | exact True.intro | assumption | omega | (refine congrArg (SV.int _) ?_; omega) | ((try simp only [lenS, inR, cutS, loI, hiI, ho]); omega) | (simp only [*, ho]; done) | (simp only [*, ho, List.map_cons, List.map_nil, eB]; done) | (simp [*, ho]; done)))) | (refine Idx.mk ?_ ?_; focus (first | omega | (simp only [lenS, inR, cutS, loI, hiI, ho]; omega))) | refine RetE.mk () trivial ?_ | refine Got.mk (fun _ _ => ?_) | refine Ex.mk _ rfl ?_ | refine Ex.mk [_] rfl ?_ | refine Ex.mk [_, _] rfl ?_ | refine Ex.mk [_, _, _] rfl ?_ | refine Ex.mk [_, _, _, _] rfl ?_ | refine boolK (fun h => ?_) ?_ | (with_reducible first | refine Unf.h ?_ | refine loopK_n ?_ | refine cutK_n ?_) | refine retK_n ?_ | refine retK_r ?_ | exact rfl | exact True.intro | refine CallS.mk (c := rshared_c) ((x.1, y.1)) ?_ | refine Or2.l (CallS.mk (c := rshared_c) ((x.1, y.1)) ?_) | refine Or2.r (CallS.mk (c := rshared_c) ((x.1, y.1)) ?_) | refine Or2.r (Or2.l (CallS.mk (c := rshared_c) ((x.1, y.1)) ?_)) | refine Or2.r (Or2.r (CallS.mk (c := rshared_c) ((x.1, y.1)) ?_)) | refine CallS.mk (c := rcut_c) ((x.1, (shared x.1 y.1 : Int))) ?_ | refine Or2.l (CallS.mk (c := rcut_c) ((x.1, (shared x.1 y.1 : Int))) ?_) | refine Or2.r (CallS.mk (c := rcut_c) ((x.1, (shared x.1 y.1 : Int))) ?_) | refine Or2.r (Or2.l (CallS.mk (c := rcut_c) ((x.1, (shared x.1 y.1 : Int))) ?_)) | refine Or2.r (Or2.r (CallS.mk (c := rcut_c) ((x.1, (shared x.1 y.1 : Int))) ?_))) | fail); all_goals try (conv => whnf)
/-! how many keys have a 0 behind -/
def rpart_c : Ctr where
  D := Pfx × PT × PT
  pre := fun (p, a, b) => (PT.node p a b).wf
  args := fun (p, a, b) => [.fs 64 eKV (a.list ++ b.list), .agg (ePfx p)]
  res := fun (_, a, _) _ => .int .i64 a.list.length
theorem part_bit {p : Pfx} {a b : PT} (hp : (PT.node p a b).wf) (i : Nat) (h : i < (a.list ++ b.list).length) : bitI ((a.list ++ b.list)[i]).1 p.len = 0 ↔ i < a.list.length := by
  have h0 := hp.1.1.1
  by_cases hi : i < a.list.length
  · rw [List.getElem_append_left hi]
    have := (wf_left hp (List.getElem_mem hi)).2
    have hn : ¬ bitI (a.list[i]).1 p.len = 1 := fun h' => by rw [(bitI_kb h0).1 h'] at this; cases this
    rcases bitI_01 (a.list[i]).1 p.len with e | e
    · simp [e, hi]
    · exact absurd e hn
  · rw [List.getElem_append_right (by omega)]
    have hm := (wf_right hp (List.getElem_mem (show i - a.list.length < b.list.length by rw [List.length_append] at h; omega))).2
    rw [(bitI_kb h0).2 hm]; simp [hi]
def rpart_H : Cfg := ⟨[(76, rbit_c)], [(2, [9, 11], [12], (.one 0 0 false (.one 1 0 false (.one 2 0 false (.one 3 0 false (.one 4 0 false (.one 5 0 false (.one 6 0 false (.one 7 0 false (.one 8 0 false (.one 9 1 false (.one 10 0 false (.one 11 1 false (.one 12 2 false (.one 13 0 false (.one 14 0 false .nil))))))))))))))), [])], [], [], 24, 0, [], [], []⟩
theorem rpart_ok : rpart_c.Ok Tryd.prog 53 := by
  refine fn_ok rpart_H 0 rfl _ Tryd.func53 rfl rfl ⟨rbit_ok, trivial⟩ rfl rfl (by kernel_rfl) (fun _ => Nat.le_of_ble_eq_true rfl) ?_
  rintro ⟨p, a, b⟩ hp hr
  try dsimp only [rpart_c] at hp
  try simp only [rpart_c, Rng, RngL, inR, and_true, true_and] at hr
  have lb := list_pos b
  have hlen : (a.list ++ b.list).length = a.list.length + b.list.length := List.length_append
  have hbit := part_bit hp
  generalize hl : a.list ++ b.list = l at *
  repeat' (first | (with_reducible first | refine Unf.h ?_ | refine loopK_n ?_ | refine cutK_n ?_) | ((conv => whnf); first | refine Both.mk ?_ ?_ | refine Fork.mkn (fun h => ?_) (fun h => ?_) | refine Fork.mk (fun h => ?_) (fun h => ?_) | (refine Side.mk ?_ ?_; focus (first | with_reducible rfl | exact True.intro | assumption | omega | (refine congrArg (SV.int _) ?_; omega) | (dsimp only; omega) | (intros; (try simp only [lenS, inR, cutS, loI, hiI] at *); omega) | exact nnS (by decide) | exact List.eq_nil_of_length_eq_zero (by assumption) | exact dT (by omega) | exact dF (by omega) | exact decide_eq_decide.2 (by omega) | (split <;> first | rfl | (exfalso; omega)) | (refine ⟨fun h => ?_, fun h => ?_⟩ <;> first | rfl | (cases h; done) | omega | (exfalso; omega) | (simp only [Bool.false_eq_true] at h; done)) | (simp only [*]; done) | (simp only [*, List.map_cons, List.map_nil, eB]; done) | (simp [*]; done) | (dsimp only [resS, rpart_c]; done) | (dsimp only [resS, rpart_c]; first | with_reducible rfl | exact True.intro | assumption | omega | (refine congrArg (SV.int _) ?_; omega) | ((try simp only [lenS, inR, cutS, loI, hiI]); omega) | (simp only [*]; done) | (simp only [*, List.map_cons, List.map_nil, eB]; done) | (simp [*]; done)))) | (refine Idx.mk ?_ ?_; focus (first | omega | (simp only [lenS, inR, cutS, loI, hiI]; omega))) | refine RetE.mk () trivial ?_ | refine Got.mk (fun _ _ => ?_) | refine Ex.mk _ rfl ?_ | refine Ex.mk [_] rfl ?_ | refine Ex.mk [_, _] rfl ?_ | refine Ex.mk [_, _, _] rfl ?_ | refine Ex.mk [_, _, _, _] rfl ?_ | refine boolK (fun h => ?_) ?_ | (with_reducible first | refine Unf.h ?_ | refine loopK_n ?_ | refine cutK_n ?_) | refine retK_n ?_ | refine retK_r ?_ | exact rfl | exact True.intro) | fail); all_goals try (conv => whnf)
  refine LoopS.auto (fun i : Nat => i ≤ a.list.length) (fun i => [(5, .int .i64 i)]) (fun _ => [(0, .box 36 (ePfx p))]) (fun i => a.list.length - i) 0 (by omega) ?_ ?_
  · repeat' (first | (with_reducible first | refine Unf.h ?_ | refine loopK_n ?_ | refine cutK_n ?_) | ((conv => whnf); first | refine Both.mk ?_ ?_ | refine Fork.mkn (fun h => ?_) (fun h => ?_) | refine Fork.mk (fun h => ?_) (fun h => ?_) | (refine Side.mk ?_ ?_; focus (first | with_reducible rfl | exact True.intro | assumption | omega | (refine congrArg (SV.int _) ?_; omega) | (dsimp only; omega) | (intros; (try simp only [lenS, inR, cutS, loI, hiI] at *); omega) | exact nnS (by decide) | exact List.eq_nil_of_length_eq_zero (by assumption) | exact dT (by omega) | exact dF (by omega) | exact decide_eq_decide.2 (by omega) | (split <;> first | rfl | (exfalso; omega)) | (refine ⟨fun h => ?_, fun h => ?_⟩ <;> first | rfl | (cases h; done) | omega | (exfalso; omega) | (simp only [Bool.false_eq_true] at h; done)) | (simp only [*]; done) | (simp only [*, List.map_cons, List.map_nil, eB]; done) | (simp [*]; done) | (dsimp only [resS, rpart_c]; done) | (dsimp only [resS, rpart_c]; first | with_reducible rfl | exact True.intro | assumption | omega | (refine congrArg (SV.int _) ?_; omega) | ((try simp only [lenS, inR, cutS, loI, hiI]); omega) | (simp only [*]; done) | (simp only [*, List.map_cons, List.map_nil, eB]; done) | (simp [*]; done)))) | (refine Idx.mk ?_ ?_; focus (first | omega | (simp only [lenS, inR, cutS, loI, hiI]; omega))) | refine RetE.mk () trivial ?_ | refine Got.mk (fun _ _ => ?_) | refine Ex.mk _ rfl ?_ | refine Ex.mk [_] rfl ?_ | refine Ex.mk [_, _] rfl ?_ | refine Ex.mk [_, _, _] rfl ?_ | refine Ex.mk [_, _, _, _] rfl ?_ | refine boolK (fun h => ?_) ?_ | (with_reducible first | refine Unf.h ?_ | refine loopK_n ?_ | refine cutK_n ?_) | refine retK_n ?_ | refine retK_r ?_ | exact rfl | exact True.intro) | fail); all_goals try (conv => whnf)
  · intro i hi
    have hic : (i : Int).toNat < l.length := by omega
    have hb := hbit (i : Int).toNat hic
    repeat' (first | (with_reducible first | refine Unf.h ?_ | refine loopK_n ?_ | refine cutK_n ?_) | ((conv => whnf); first | refine Both.mk ?_ ?_ | refine Fork.mkn (fun h => ?_) (fun h => ?_) | refine Fork.mk (fun h => ?_) (fun h => ?_) | (refine Side.mk ?_ ?_; focus (first | with_reducible rfl | exact True.intro | assumption | omega | (refine congrArg (SV.int _) ?_; omega) | (dsimp only; omega) | (intros; (try simp only [lenS, inR, cutS, loI, hiI] at *); omega) | exact nnS (by decide) | exact List.eq_nil_of_length_eq_zero (by assumption) | exact dT (by omega) | exact dF (by omega) | exact decide_eq_decide.2 (by omega) | (split <;> first | rfl | (exfalso; omega)) | (refine ⟨fun h => ?_, fun h => ?_⟩ <;> first | rfl | (cases h; done) | omega | (exfalso; omega) | (simp only [Bool.false_eq_true] at h; done)) | (simp only [*]; done) | (simp only [*, List.map_cons, List.map_nil, eB]; done) | (simp [*]; done) | (dsimp only [resS, rpart_c]; done) | (dsimp only [resS, rpart_c]; first | with_reducible rfl | exact True.intro | assumption | omega | (refine congrArg (SV.int _) ?_; omega) | ((try simp only [lenS, inR, cutS, loI, hiI]); omega) | (simp only [*]; done) | (simp only [*, List.map_cons, List.map_nil, eB]; done) | (simp [*]; done)))) | (refine Idx.mk ?_ ?_; focus (first | omega | (simp only [lenS, inR, cutS, loI, hiI]; omega))) | refine RetE.mk () trivial ?_ | refine Got.mk (fun _ _ => ?_) | refine Ex.mk _ rfl ?_ | refine Ex.mk [_] rfl ?_ | refine Ex.mk [_, _] rfl ?_ | refine Ex.mk [_, _, _] rfl ?_ | refine Ex.mk [_, _, _, _] rfl ?_ | refine boolK (fun h => ?_) ?_ | (with_reducible first | refine Unf.h ?_ | refine loopK_n ?_ | refine cutK_n ?_) | refine retK_n ?_ | refine retK_r ?_ | exact rfl | exact True.intro | refine CallS.mk (c := rbit_c) (((l[(i : Int).toNat]'hic).1, p.len)) ?_ | refine Or2.l (CallS.mk (c := rbit_c) (((l[(i : Int).toNat]'hic).1, p.len)) ?_) | refine Or2.r (CallS.mk (c := rbit_c) (((l[(i : Int).toNat]'hic).1, p.len)) ?_) | refine Or2.r (Or2.l (CallS.mk (c := rbit_c) (((l[(i : Int).toNat]'hic).1, p.len)) ?_)) | refine Or2.r (Or2.r (CallS.mk (c := rbit_c) (((l[(i : Int).toNat]'hic).1, p.len)) ?_))) | fail); all_goals try (conv => whnf)
    · have := hb.1 (by assumption)
      refine ⟨i + 1, ⟨by omega, by omega⟩, ?_⟩
      repeat' (first | (with_reducible first | refine Unf.h ?_ | refine loopK_n ?_ | refine cutK_n ?_) | ((conv => whnf); first | refine Both.mk ?_ ?_ | refine Fork.mkn (fun h => ?_) (fun h => ?_) | refine Fork.mk (fun h => ?_) (fun h => ?_) | (refine Side.mk ?_ ?_; focus (first | with_reducible rfl | exact True.intro | assumption | omega | (refine congrArg (SV.int _) ?_; omega) | (dsimp only; omega) | (intros; (try simp only [lenS, inR, cutS, loI, hiI] at *); omega) | exact nnS (by decide) | exact List.eq_nil_of_length_eq_zero (by assumption) | exact dT (by omega) | exact dF (by omega) | exact decide_eq_decide.2 (by omega) | (split <;> first | rfl | (exfalso; omega)) | (refine ⟨fun h => ?_, fun h => ?_⟩ <;> first | rfl | (cases h; done) | omega | (exfalso; omega) | (simp only [Bool.false_eq_true] at h; done)) | (simp only [*]; done) | (simp only [*, List.map_cons, List.map_nil, eB]; done) | (simp [*]; done) | (dsimp only [resS, rpart_c]; done) | (dsimp only [resS, rpart_c]; first | with_reducible rfl | exact True.intro | assumption | omega | (refine congrArg (SV.int _) ?_; omega) | ((try simp only [lenS, inR, cutS, loI, hiI]); omega) | (simp only [*]; done) | (simp only [*, List.map_cons, List.map_nil, eB]; done) | (simp [*]; done)))) | (refine Idx.mk ?_ ?_; focus (first | omega | (simp only [lenS, inR, cutS, loI, hiI]; omega))) | refine RetE.mk () trivial ?_ | refine Got.mk (fun _ _ => ?_) | refine Ex.mk _ rfl ?_ | refine Ex.mk [_] rfl ?_ | refine Ex.mk [_, _] rfl ?_ | refine Ex.mk [_, _, _] rfl ?_ | refine Ex.mk [_, _, _, _] rfl ?_ | refine boolK (fun h => ?_) ?_ | (with_reducible first | refine Unf.h ?_ | refine loopK_n ?_ | refine cutK_n ?_) | refine retK_n ?_ | refine retK_r ?_ | exact rfl | exact True.intro) | fail); all_goals try (conv => whnf)
  /-! the root of a list -/
def PT.text : PT → Bs
  | .leaf k v => leafT k v
  | .node p a b => innerT p.len p.bits a.hash b.hash
theorem hash_text (T : PT) : T.hash = sha T.text := by cases T <;> rfl
theorem text_len (T : PT) : T.text.length ≤ 1000000000 := by
  cases T with
  | leaf k v => exact leafT_len k v
  | node p a b => exact innerT_len p.len p.bits a.hash b.hash
def hashO : Option PT → H256
  | none => emptyH
  | some T => T.hash
def rtop_c (n : Nat) : Ctr where
  D := PT
  pre := fun T => T.wf ∧ T.depth ≤ n
  args := fun T => [.fs 64 eKV T.list]
  res := fun T _ => .fs 1 eB T.text
def rroot_c (n : Nat) : Ctr where
  D := Option PT
  pre := fun o => wfO o ∧ depthO o < n
  args := fun o => [.fs 64 eKV (listO o)]
  res := fun o _ => .agg [.arr8 (hashO o)]
def rtop_H (n : Nat): Cfg := ⟨[(51, rleaf_c), (52, rover_c), (53, rpart_c), (17, (rroot_c n)), (54, rinner_c)], [(5, [0], [4, 8, 9], (.one 0 1 false (.one 1 0 false (.one 2 0 false (.one 3 0 false (.one 5 0 false (.one 6 0 false (.one 7 0 false (.one 4 2 true (.one 8 2 true (.one 9 2 false (.one 10 0 false .nil))))))))))), [])], [], [], 27, 0, [], [], []⟩
theorem rtop_ok (n : Nat) (h : (rroot_c n).Ok Tryd.prog 17): (rtop_c n).Ok Tryd.prog 35 := by
  refine fn_ok (rtop_H n) 0 rfl _ Tryd.func35 rfl rfl ⟨rleaf_ok, rover_ok, rpart_ok, h, rinner_ok, trivial⟩ rfl rfl (by kernel_rfl) (fun _ => Nat.le_of_ble_eq_true rfl) ?_
  intro (T : PT) hp hr
  try dsimp only [rtop_c] at hp
  try simp only [rtop_c, Rng, RngL, inR, and_true, true_and] at hr
  obtain ⟨hw, hd⟩ := hp
  cases T with
  | leaf k v =>
    have e : (PT.leaf k v).list = [(k, v)] := rfl
    have e2 : (PT.leaf k v).text = leafT k v := rfl
    repeat' (first | (with_reducible first | refine Unf.h ?_ | refine loopK_n ?_ | refine cutK_n ?_) | ((conv => whnf); first | refine Both.mk ?_ ?_ | refine Fork.mkn (fun h => ?_) (fun h => ?_) | refine Fork.mk (fun h => ?_) (fun h => ?_) | (refine Side.mk ?_ ?_; focus (first | with_reducible rfl | exact True.intro | assumption | omega | (refine congrArg (SV.int _) ?_; omega) | (dsimp only; omega) | (intros; (try simp only [lenS, inR, cutS, loI, hiI, e, e2] at *); omega) | exact nnS (by decide) | exact List.eq_nil_of_length_eq_zero (by assumption) | exact dT (by omega) | exact dF (by omega) | exact decide_eq_decide.2 (by omega) | (split <;> first | rfl | (exfalso; omega)) | (refine ⟨fun h => ?_, fun h => ?_⟩ <;> first | rfl | (cases h; done) | omega | (exfalso; omega) | (simp only [Bool.false_eq_true] at h; done)) | (simp only [*, e, e2]; done) | (simp only [*, e, e2, List.map_cons, List.map_nil, eB]; done) | (simp [*, e, e2]; done) | (dsimp only [resS, rtop_c]; done) | (dsimp only [resS, rtop_c]; first | with_reducible rfl | exact True.intro | assumption | omega | (refine congrArg (SV.int _) ?_; omega) | ((try simp only [lenS, inR, cutS, loI, hiI, e, e2]); omega) | (simp only [*, e, e2]; done) | (simp only [*, e, e2, List.map_cons, List.map_nil, eB]; done) | (simp [*, e, e2]; done)))) | (refine Idx.mk ?_ ?_; focus (first | omega | (simp only [lenS, inR, cutS, loI, hiI, e, e2]; omega))) | refine RetE.mk () trivial ?_ | refine Got.mk (fun _ _ => ?_) | refine Ex.mk _ rfl ?_ | refine Ex.mk [_] rfl ?_ | refine Ex.mk [_, _] rfl ?_ | refine Ex.mk [_, _, _] rfl ?_ | refine Ex.mk [_, _, _, _] rfl ?_ | refine boolK (fun h => ?_) ?_ | (with_reducible first | refine Unf.h ?_ | refine loopK_n ?_ | refine cutK_n ?_) | refine retK_n ?_ | refine retK_r ?_ | exact rfl | exact True.intro | refine CallS.mk (c := rleaf_c) ((k, v)) ?_ | refine Or2.l (CallS.mk (c := rleaf_c) ((k, v)) ?_) | refine Or2.r (CallS.mk (c := rleaf_c) ((k, v)) ?_) | refine Or2.r (Or2.l (CallS.mk (c := rleaf_c) ((k, v)) ?_)) | refine Or2.r (Or2.r (CallS.mk (c := rleaf_c) ((k, v)) ?_))) | fail); all_goals try (conv => whnf)
    exact absurd rfl h
  | node p a b =>
    have e : (PT.node p a b).list = a.list ++ b.list := rfl
    rw [e] at hr
    show Vc _ _ _ (argE [.fs 64 eKV (a.list ++ b.list)] 0) _ _ _
    have hlen : (a.list ++ b.list).length = a.list.length + b.list.length := List.length_append
    have la := list_pos a
    have lb := list_pos b
    have h0 := hw.1.1.1
    have h1 := hw.1.2
    have hpa : (rroot_c n).pre (some a) := ⟨hw.2.2.2.1, by simp only [PT.depth] at hd; show a.depth < n; omega⟩
    have hpb : (rroot_c n).pre (some b) := ⟨hw.2.2.2.2, by simp only [PT.depth] at hd; show b.depth < n; omega⟩
    have ca : cutL (a.list ++ b.list) none (some (a.list.length : Int)) = a.list := by simp [cutL, loI, hiI]
    have cb : cutL (a.list ++ b.list) (some (a.list.length : Int)) none = b.list := by simp [cutL, loI, hiI]
    have e2 : (PT.node p a b).text = innerT p.len p.bits a.hash b.hash := rfl
    repeat' (first | (with_reducible first | refine Unf.h ?_ | refine loopK_n ?_ | refine cutK_n ?_) | ((conv => whnf); first | refine Both.mk ?_ ?_ | refine Fork.mkn (fun h => ?_) (fun h => ?_) | refine Fork.mk (fun h => ?_) (fun h => ?_) | (refine Side.mk ?_ ?_; focus (first | with_reducible rfl | exact True.intro | assumption | omega | (refine congrArg (SV.int _) ?_; omega) | (dsimp only; omega) | (intros; (try simp only [lenS, inR, cutS, loI, hiI] at *); omega) | exact nnS (by decide) | exact List.eq_nil_of_length_eq_zero (by assumption) | exact dT (by omega) | exact dF (by omega) | exact decide_eq_decide.2 (by omega) | (split <;> first | rfl | (exfalso; omega)) | (refine ⟨fun h => ?_, fun h => ?_⟩ <;> first | rfl | (cases h; done) | omega | (exfalso; omega) | (simp only [Bool.false_eq_true] at h; done)) | (simp only [*]; done) | (simp only [*, List.map_cons, List.map_nil, eB]; done) | (simp [*]; done) | (dsimp only [resS, rtop_c]; done) | (dsimp only [resS, rtop_c]; first | with_reducible rfl | exact True.intro | assumption | omega | (refine congrArg (SV.int _) ?_; omega) | ((try simp only [lenS, inR, cutS, loI, hiI]); omega) | (simp only [*]; done) | (simp only [*, List.map_cons, List.map_nil, eB]; done) | (simp [*]; done)))) | (refine Idx.mk ?_ ?_; focus (first | omega | (simp only [lenS, inR, cutS, loI, hiI]; omega))) | refine RetE.mk () trivial ?_ | refine Got.mk (fun _ _ => ?_) | refine Ex.mk _ rfl ?_ | refine Ex.mk [_] rfl ?_ | refine Ex.mk [_, _] rfl ?_ | refine Ex.mk [_, _, _] rfl ?_ | refine Ex.mk [_, _, _, _] rfl ?_ | refine boolK (fun h => ?_) ?_ | (with_reducible first | refine Unf.h ?_ | refine loopK_n ?_ | refine cutK_n ?_) | refine retK_n ?_ | refine retK_r ?_ | exact rfl | exact True.intro | refine CallS.mk (c := rover_c) ((p, a, b)) ?_ | refine Or2.l (CallS.mk (c := rover_c) ((p, a, b)) ?_) | refine Or2.r (CallS.mk (c := rover_c) ((p, a, b)) ?_) | refine Or2.r (Or2.l (CallS.mk (c := rover_c) ((p, a, b)) ?_)) | refine Or2.r (Or2.r (CallS.mk (c := rover_c) ((p, a, b)) ?_)) | refine CallS.mk (c := rpart_c) ((p, a, b)) ?_ | refine Or2.l (CallS.mk (c := rpart_c) ((p, a, b)) ?_) | refine Or2.r (CallS.mk (c := rpart_c) ((p, a, b)) ?_) | refine Or2.r (Or2.l (CallS.mk (c := rpart_c) ((p, a, b)) ?_)) | refine Or2.r (Or2.r (CallS.mk (c := rpart_c) ((p, a, b)) ?_))) | fail); all_goals try (conv => whnf)
    · exfalso; omega
    · refine CallS.mk (c := rroot_c n) (some a) ?_
      repeat' (first | (with_reducible first | refine Unf.h ?_ | refine loopK_n ?_ | refine cutK_n ?_) | ((conv => whnf); first | refine Both.mk ?_ ?_ | refine Fork.mkn (fun h => ?_) (fun h => ?_) | refine Fork.mk (fun h => ?_) (fun h => ?_) | (refine Side.mk ?_ ?_; focus (first | with_reducible rfl | exact True.intro | assumption | omega | (refine congrArg (SV.int _) ?_; omega) | (dsimp only; omega) | (intros; (try simp only [lenS, inR, cutS, loI, hiI, ca, listO] at *); omega) | exact nnS (by decide) | exact List.eq_nil_of_length_eq_zero (by assumption) | exact dT (by omega) | exact dF (by omega) | exact decide_eq_decide.2 (by omega) | (split <;> first | rfl | (exfalso; omega)) | (refine ⟨fun h => ?_, fun h => ?_⟩ <;> first | rfl | (cases h; done) | omega | (exfalso; omega) | (simp only [Bool.false_eq_true] at h; done)) | (simp only [*, ca, listO]; done) | (simp only [*, ca, listO, List.map_cons, List.map_nil, eB]; done) | (simp [*, ca, listO]; done) | (dsimp only [resS, rtop_c]; done) | (dsimp only [resS, rtop_c]; first | with_reducible rfl | exact True.intro | assumption | omega | (refine congrArg (SV.int _) ?_; omega) | ((try simp only [lenS, inR, cutS, loI, hiI, ca, listO]); omega) | (simp only [*, ca, listO]; done) | (simp only [*, ca, listO, List.map_cons, List.map_nil, eB]; done) | (simp [*, ca, listO]; done)))) | (refine Idx.mk ?_ ?_; focus (first | omega | (simp only [lenS, inR, cutS, loI, hiI, ca, listO]; omega))) | refine RetE.mk () trivial ?_ | refine Got.mk (fun _ _ => ?_) | refine Ex.mk _ rfl ?_ | refine Ex.mk [_] rfl ?_ | refine Ex.mk [_, _] rfl ?_ | refine Ex.mk [_, _, _] rfl ?_ | refine Ex.mk [_, _, _, _] rfl ?_ | refine boolK (fun h => ?_) ?_ | (with_reducible first | refine Unf.h ?_ | refine loopK_n ?_ | refine cutK_n ?_) | refine retK_n ?_ | refine retK_r ?_ | exact rfl | exact True.intro) | fail); all_goals try (conv => whnf)
      refine CallS.mk (c := rroot_c n) (some b) ?_
      repeat' (first | (with_reducible first | refine Unf.h ?_ | refine loopK_n ?_ | refine cutK_n ?_) | ((conv => whnf); first | refine Both.mk ?_ ?_ | refine Fork.mkn (fun h => ?_) (fun h => ?_) | refine Fork.mk (fun h => ?_) (fun h => ?_) | (refine Side.mk ?_ ?_; focus (first | with_reducible rfl | exact True.intro | assumption | omega | (refine congrArg (SV.int _) ?_; omega) | (dsimp only; omega) | (intros; (try simp only [lenS, inR, cutS, loI, hiI, cb, listO, hashO, e2] at *); omega) | exact nnS (by decide) | exact List.eq_nil_of_length_eq_zero (by assumption) | exact dT (by omega) | exact dF (by omega) | exact decide_eq_decide.2 (by omega) | (split <;> first | rfl | (exfalso; omega)) | (refine ⟨fun h => ?_, fun h => ?_⟩ <;> first | rfl | (cases h; done) | omega | (exfalso; omega) | (simp only [Bool.false_eq_true] at h; done)) | (simp only [*, cb, listO, hashO, e2]; done) | (simp only [*, cb, listO, hashO, e2, List.map_cons, List.map_nil, eB]; done) | (simp [*, cb, listO, hashO, e2]; done) | (dsimp only [resS, rtop_c]; done) | (dsimp only [resS, rtop_c]; first | with_reducible rfl | exact True.intro | assumption | omega | (refine congrArg (SV.int _) ?_; omega) | ((try simp only [lenS, inR, cutS, loI, hiI, cb, listO, hashO, e2]); omega) | (simp only [*, cb, listO, hashO, e2]; done) | (simp only [*, cb, listO, hashO, e2, List.map_cons, List.map_nil, eB]; done) | (simp [*, cb, listO, hashO, e2]; done)))) | (refine Idx.mk ?_ ?_; focus (first | omega | (simp only [lenS, inR, cutS, loI, hiI, cb, listO, hashO, e2]; omega))) | refine RetE.mk () trivial ?_ | refine Got.mk (fun _ _ => ?_) | refine Ex.mk _ rfl ?_ | refine Ex.mk [_] rfl ?_ | refine Ex.mk [_, _] rfl ?_ | refine Ex.mk [_, _, _] rfl ?_ | refine Ex.mk [_, _, _, _] rfl ?_ | refine boolK (fun h => ?_) ?_ | (with_reducible first | refine Unf.h ?_ | refine loopK_n ?_ | refine cutK_n ?_) | refine retK_n ?_ | refine retK_r ?_ | exact rfl | exact True.intro | refine CallS.mk (c := rinner_c) ((p.len, p.bits, a.hash, b.hash)) ?_ | refine Or2.l (CallS.mk (c := rinner_c) ((p.len, p.bits, a.hash, b.hash)) ?_) | refine Or2.r (CallS.mk (c := rinner_c) ((p.len, p.bits, a.hash, b.hash)) ?_) | refine Or2.r (Or2.l (CallS.mk (c := rinner_c) ((p.len, p.bits, a.hash, b.hash)) ?_)) | refine Or2.r (Or2.r (CallS.mk (c := rinner_c) ((p.len, p.bits, a.hash, b.hash)) ?_))) | fail); all_goals try (conv => whnf)
def rroot_H (n : Nat): Cfg := ⟨[(34, rempty_c), (35, (rtop_c n)), (10, refsum_c)], [], [], [], 10, 0, [], [], []⟩
theorem rroot_ok (n : Nat) (h : (rtop_c n).Ok Tryd.prog 35): (rroot_c (n + 1)).Ok Tryd.prog 17 := by
  refine fn_ok (rroot_H n) 0 rfl _ Tryd.func17 rfl rfl ⟨rempty_ok, h, refsum_ok, trivial⟩ rfl rfl (by kernel_rfl) (fun _ => Nat.le_of_ble_eq_true rfl) ?_
  intro (o : Option PT) hp hr
  try dsimp only [rroot_c] at hp
  try simp only [rroot_c, Rng, RngL, inR, and_true, true_and] at hr
  obtain ⟨hw, hd⟩ := hp
  cases o with
  | none =>
    repeat' (first | (with_reducible first | refine Unf.h ?_ | refine loopK_n ?_ | refine cutK_n ?_) | ((conv => whnf); first | refine Both.mk ?_ ?_ | refine Fork.mkn (fun h => ?_) (fun h => ?_) | refine Fork.mk (fun h => ?_) (fun h => ?_) | (refine Side.mk ?_ ?_; focus (first | with_reducible rfl | exact True.intro | assumption | omega | (refine congrArg (SV.int _) ?_; omega) | (dsimp only; omega) | (intros; (try simp only [lenS, inR, cutS, loI, hiI, hashO] at *); omega) | exact nnS (by decide) | exact List.eq_nil_of_length_eq_zero (by assumption) | exact dT (by omega) | exact dF (by omega) | exact decide_eq_decide.2 (by omega) | (split <;> first | rfl | (exfalso; omega)) | (refine ⟨fun h => ?_, fun h => ?_⟩ <;> first | rfl | (cases h; done) | omega | (exfalso; omega) | (simp only [Bool.false_eq_true] at h; done)) | (simp only [*, hashO]; done) | (simp only [*, hashO, List.map_cons, List.map_nil, eB]; done) | (simp [*, hashO]; done) | (dsimp only [resS, rroot_c]; done) | (dsimp only [resS, rroot_c]; first | with_reducible rfl | exact True.intro | assumption | omega | (refine congrArg (SV.int _) ?_; omega) | ((try simp only [lenS, inR, cutS, loI, hiI, hashO]); omega) | (simp only [*, hashO]; done) | (simp only [*, hashO, List.map_cons, List.map_nil, eB]; done) | (simp [*, hashO]; done)))) | (refine Idx.mk ?_ ?_; focus (first | omega | (simp only [lenS, inR, cutS, loI, hiI, hashO]; omega))) | refine RetE.mk () trivial ?_ | refine Got.mk (fun _ _ => ?_) | refine Ex.mk _ rfl ?_ | refine Ex.mk [_] rfl ?_ | refine Ex.mk [_, _] rfl ?_ | refine Ex.mk [_, _, _] rfl ?_ | refine Ex.mk [_, _, _, _] rfl ?_ | refine boolK (fun h => ?_) ?_ | (with_reducible first | refine Unf.h ?_ | refine loopK_n ?_ | refine cutK_n ?_) | refine retK_n ?_ | refine retK_r ?_ | exact rfl | exact True.intro | refine CallS.mk (c := rempty_c) (()) ?_ | refine Or2.l (CallS.mk (c := rempty_c) (()) ?_) | refine Or2.r (CallS.mk (c := rempty_c) (()) ?_) | refine Or2.r (Or2.l (CallS.mk (c := rempty_c) (()) ?_)) | refine Or2.r (Or2.r (CallS.mk (c := rempty_c) (()) ?_))) | fail); all_goals try (conv => whnf)
    exact absurd rfl h
  | some T =>
    have e := hash_text T
    have lt := list_pos T
    have hpre : (rtop_c n).pre T := ⟨hw, by have : T.depth < n + 1 := hd; omega⟩
    have htl := text_len T
    repeat' (first | (with_reducible first | refine Unf.h ?_ | refine loopK_n ?_ | refine cutK_n ?_) | ((conv => whnf); first | refine Both.mk ?_ ?_ | refine Fork.mkn (fun h => ?_) (fun h => ?_) | refine Fork.mk (fun h => ?_) (fun h => ?_) | (refine Side.mk ?_ ?_; focus (first | with_reducible rfl | exact True.intro | assumption | omega | (refine congrArg (SV.int _) ?_; omega) | (dsimp only; omega) | (intros; (try simp only [lenS, inR, cutS, loI, hiI, hashO, listO, e] at *); omega) | exact nnS (by decide) | exact List.eq_nil_of_length_eq_zero (by assumption) | exact dT (by omega) | exact dF (by omega) | exact decide_eq_decide.2 (by omega) | (split <;> first | rfl | (exfalso; omega)) | (refine ⟨fun h => ?_, fun h => ?_⟩ <;> first | rfl | (cases h; done) | omega | (exfalso; omega) | (simp only [Bool.false_eq_true] at h; done)) | (simp only [*, hashO, listO, e]; done) | (simp only [*, hashO, listO, e, List.map_cons, List.map_nil, eB]; done) | (simp [*, hashO, listO, e]; done) | (dsimp only [resS, rroot_c]; done) | (dsimp only [resS, rroot_c]; first | with_reducible rfl | exact True.intro | assumption | omega | (refine congrArg (SV.int _) ?_; omega) | ((try simp only [lenS, inR, cutS, loI, hiI, hashO, listO, e]); omega) | (simp only [*, hashO, listO, e]; done) | (simp only [*, hashO, listO, e, List.map_cons, List.map_nil, eB]; done) | (simp [*, hashO, listO, e]; done)))) | (refine Idx.mk ?_ ?_; focus (first | omega | (simp only [lenS, inR, cutS, loI, hiI, hashO, listO, e]; omega))) | refine RetE.mk () trivial ?_ | refine Got.mk (fun _ _ => ?_) | refine Ex.mk _ rfl ?_ | refine Ex.mk [_] rfl ?_ | refine Ex.mk [_, _] rfl ?_ | refine Ex.mk [_, _, _] rfl ?_ | refine Ex.mk [_, _, _, _] rfl ?_ | refine boolK (fun h => ?_) ?_ | (with_reducible first | refine Unf.h ?_ | refine loopK_n ?_ | refine cutK_n ?_) | refine retK_n ?_ | refine retK_r ?_ | exact rfl | exact True.intro | refine CallS.mk (T) ?_ | refine CallS.mk (c := refsum_c) (T.text) ?_ | refine Or2.l (CallS.mk (c := refsum_c) (T.text) ?_) | refine Or2.r (CallS.mk (c := refsum_c) (T.text) ?_) | refine Or2.r (Or2.l (CallS.mk (c := refsum_c) (T.text) ?_)) | refine Or2.r (Or2.r (CallS.mk (c := refsum_c) (T.text) ?_))) | fail); all_goals try (conv => whnf)
    have : T.list.length = 0 := by have h' : (T.list.length : Int) = 0 := h; omega
    omega
theorem rroot_all : ∀ n, (rroot_c n).Ok Tryd.prog 17
  | 0 => fun o hp => absurd hp.2 (Nat.not_lt_zero _)
  | n + 1 => rroot_ok n (rtop_ok n (rroot_all n))
theorem rroot1000_ok : (rroot_c 1000).Ok Tryd.prog 17 := rroot_all 1000
end Go.Proofs.YtmbkoigeekofdaaDoor

namespace Go.Proofs.YtmbkoigeekofdaaDoor
set_option linter.all false
open Go.RowKit
/-! a node that is added from without -/
def mayP (l : Fo) (n : Nd) : Prop := underP l n.pfx 0 n.left ∧ underP l n.pfx 1 n.right
instance (l : Fo) (n : Nd) : Decidable (mayP l n) := inferInstanceAs (Decidable (_ ∧ _))
theorem may_add {l : Fo} {n : Nd} (h : n.leaf = true ∨ mayP l n) : addable l n := h.imp id fun h => ⟨h.1.1, h.2.1⟩
def addA_c : Ctr where
  D := Fo × Nd
  pre := fun (l, n) => l.length ≤ 1000000 ∧ (n.leaf = true ∨ mayP l n)
  args := fun (_, n) => [.ptr 0 0, .agg (eNd n)]
  objs := fun (l, _) => fo l
  nn := 2
  res := fun (l, _) _ => .tup [.int .i64 l.length, .int .i64 0]
  out := fun (l, n) _ => [(0, .box 71 [.own 2]), (2, .row 40 132 eNd (l ++ [mk l n]))]
  mm := 1
def addA_H : Cfg := ⟨[(72, under_c), (38, add_c)], [], [], [], 40, 2, [], [], []⟩
theorem addA_ok : addA_c.Ok Tryd.prog 49 := by
  refine fn_ok addA_H 2 rfl _ Tryd.func49 rfl rfl ⟨under_ok, add_ok, trivial⟩ rfl rfl (by kernel_rfl) (fun _ => Nat.le_of_ble_eq_true rfl) ?_
  rintro ⟨l, n⟩ hp hr
  try dsimp only [addA_c] at hp
  try simp only [addA_c, Rng, RngL, inR, and_true, true_and] at hr
  obtain ⟨hlen, ha⟩ := hp
  have hadd : add_c.pre (l, n) := ⟨by omega, may_add ha⟩
  obtain ⟨leaf, key, value, plen, bits, left, right, hash⟩ := n
  cases leaf
  · have hm : mayP l ⟨false, key, value, plen, bits, left, right, hash⟩ := ha.resolve_left (by simp)
    repeat' (first | (with_reducible first | refine Unf.h ?_ | refine loopK_n ?_ | refine cutK_n ?_) | ((conv => whnf); first | refine Both.mk ?_ ?_ | refine Fork.mkn (fun h => ?_) (fun h => ?_) | refine Fork.mk (fun h => ?_) (fun h => ?_) | (refine Side.mk ?_ ?_; focus (first | with_reducible rfl | exact True.intro | assumption | omega | (refine congrArg (SV.int _) ?_; omega) | (dsimp only; omega) | (intros; (try simp only [lenS, inR, cutS, loI, hiI] at *); omega) | exact nnS (by decide) | exact List.eq_nil_of_length_eq_zero (by assumption) | exact dT (by omega) | exact dF (by omega) | exact decide_eq_decide.2 (by omega) | (split <;> first | rfl | (exfalso; omega)) | (refine ⟨fun h => ?_, fun h => ?_⟩ <;> first | rfl | (cases h; done) | omega | (exfalso; omega) | (simp only [Bool.false_eq_true] at h; done)) | (simp only [*]; done) | (simp only [*, List.map_cons, List.map_nil, eB]; done) | (simp [*]; done) | (dsimp only [resS, addA_c]; done) | (dsimp only [resS, addA_c]; first | with_reducible rfl | exact True.intro | assumption | omega | (refine congrArg (SV.int _) ?_; omega) | ((try simp only [lenS, inR, cutS, loI, hiI]); omega) | (simp only [*]; done) | (simp only [*, List.map_cons, List.map_nil, eB]; done) | (simp [*]; done)))) | (refine Idx.mk ?_ ?_; focus (first | omega | (simp only [lenS, inR, cutS, loI, hiI]; omega))) | refine RetE.mk () trivial ?_ | refine Got.mk (fun _ _ => ?_) | refine Ex.mk _ rfl ?_ | refine Ex.mk [_] rfl ?_ | refine Ex.mk [_, _] rfl ?_ | refine Ex.mk [_, _, _] rfl ?_ | refine Ex.mk [_, _, _, _] rfl ?_ | refine boolK (fun h => ?_) ?_ | (with_reducible first | refine Unf.h ?_ | refine loopK_n ?_ | refine cutK_n ?_) | refine retK_n ?_ | refine retK_r ?_ | exact rfl | exact True.intro) | fail); all_goals try (conv => whnf)
    first | refine CallS.mk (c := under_c) ((l, ⟨plen, bits⟩, 0, left)) ?_ | refine Or2.l (CallS.mk (c := under_c) ((l, ⟨plen, bits⟩, 0, left)) ?_) | refine Or2.r (CallS.mk (c := under_c) ((l, ⟨plen, bits⟩, 0, left)) ?_) | refine Or2.r (Or2.l (CallS.mk (c := under_c) ((l, ⟨plen, bits⟩, 0, left)) ?_)) | refine Or2.r (Or2.r (CallS.mk (c := under_c) ((l, ⟨plen, bits⟩, 0, left)) ?_))
    repeat' (first | (with_reducible first | refine Unf.h ?_ | refine loopK_n ?_ | refine cutK_n ?_) | ((conv => whnf); first | refine Both.mk ?_ ?_ | refine Fork.mkn (fun h => ?_) (fun h => ?_) | refine Fork.mk (fun h => ?_) (fun h => ?_) | (refine Side.mk ?_ ?_; focus (first | with_reducible rfl | exact True.intro | assumption | omega | (refine congrArg (SV.int _) ?_; omega) | (dsimp only; omega) | (intros; (try simp only [lenS, inR, cutS, loI, hiI] at *); omega) | exact nnS (by decide) | exact List.eq_nil_of_length_eq_zero (by assumption) | exact dT (by omega) | exact dF (by omega) | exact decide_eq_decide.2 (by omega) | (split <;> first | rfl | (exfalso; omega)) | (refine ⟨fun h => ?_, fun h => ?_⟩ <;> first | rfl | (cases h; done) | omega | (exfalso; omega) | (simp only [Bool.false_eq_true] at h; done)) | (simp only [*]; done) | (simp only [*, List.map_cons, List.map_nil, eB]; done) | (simp [*]; done) | (dsimp only [resS, addA_c]; done) | (dsimp only [resS, addA_c]; first | with_reducible rfl | exact True.intro | assumption | omega | (refine congrArg (SV.int _) ?_; omega) | ((try simp only [lenS, inR, cutS, loI, hiI]); omega) | (simp only [*]; done) | (simp only [*, List.map_cons, List.map_nil, eB]; done) | (simp [*]; done)))) | (refine Idx.mk ?_ ?_; focus (first | omega | (simp only [lenS, inR, cutS, loI, hiI]; omega))) | refine RetE.mk () trivial ?_ | refine Got.mk (fun _ _ => ?_) | refine Ex.mk _ rfl ?_ | refine Ex.mk [_] rfl ?_ | refine Ex.mk [_, _] rfl ?_ | refine Ex.mk [_, _, _] rfl ?_ | refine Ex.mk [_, _, _, _] rfl ?_ | refine boolK (fun h => ?_) ?_ | (with_reducible first | refine Unf.h ?_ | refine loopK_n ?_ | refine cutK_n ?_) | refine retK_n ?_ | refine retK_r ?_ | exact rfl | exact True.intro) | fail); all_goals try (conv => whnf)
    · exact absurd hm.1 h
    · first | refine CallS.mk (c := under_c) ((l, ⟨plen, bits⟩, 1, right)) ?_ | refine Or2.l (CallS.mk (c := under_c) ((l, ⟨plen, bits⟩, 1, right)) ?_) | refine Or2.r (CallS.mk (c := under_c) ((l, ⟨plen, bits⟩, 1, right)) ?_) | refine Or2.r (Or2.l (CallS.mk (c := under_c) ((l, ⟨plen, bits⟩, 1, right)) ?_)) | refine Or2.r (Or2.r (CallS.mk (c := under_c) ((l, ⟨plen, bits⟩, 1, right)) ?_))
      repeat' (first | (with_reducible first | refine Unf.h ?_ | refine loopK_n ?_ | refine cutK_n ?_) | ((conv => whnf); first | refine Both.mk ?_ ?_ | refine Fork.mkn (fun h => ?_) (fun h => ?_) | refine Fork.mk (fun h => ?_) (fun h => ?_) | (refine Side.mk ?_ ?_; focus (first | with_reducible rfl | exact True.intro | assumption | omega | (refine congrArg (SV.int _) ?_; omega) | (dsimp only; omega) | (intros; (try simp only [lenS, inR, cutS, loI, hiI] at *); omega) | exact nnS (by decide) | exact List.eq_nil_of_length_eq_zero (by assumption) | exact dT (by omega) | exact dF (by omega) | exact decide_eq_decide.2 (by omega) | (split <;> first | rfl | (exfalso; omega)) | (refine ⟨fun h => ?_, fun h => ?_⟩ <;> first | rfl | (cases h; done) | omega | (exfalso; omega) | (simp only [Bool.false_eq_true] at h; done)) | (simp only [*]; done) | (simp only [*, List.map_cons, List.map_nil, eB]; done) | (simp [*]; done) | (dsimp only [resS, addA_c]; done) | (dsimp only [resS, addA_c]; first | with_reducible rfl | exact True.intro | assumption | omega | (refine congrArg (SV.int _) ?_; omega) | ((try simp only [lenS, inR, cutS, loI, hiI]); omega) | (simp only [*]; done) | (simp only [*, List.map_cons, List.map_nil, eB]; done) | (simp [*]; done)))) | (refine Idx.mk ?_ ?_; focus (first | omega | (simp only [lenS, inR, cutS, loI, hiI]; omega))) | refine RetE.mk () trivial ?_ | refine Got.mk (fun _ _ => ?_) | refine Ex.mk _ rfl ?_ | refine Ex.mk [_] rfl ?_ | refine Ex.mk [_, _] rfl ?_ | refine Ex.mk [_, _, _] rfl ?_ | refine Ex.mk [_, _, _, _] rfl ?_ | refine boolK (fun h => ?_) ?_ | (with_reducible first | refine Unf.h ?_ | refine loopK_n ?_ | refine cutK_n ?_) | refine retK_n ?_ | refine retK_r ?_ | exact rfl | exact True.intro | refine CallS.mk (c := add_c) ((l, ⟨false, key, value, plen, bits, left, right, hash⟩)) ?_ | refine Or2.l (CallS.mk (c := add_c) ((l, ⟨false, key, value, plen, bits, left, right, hash⟩)) ?_) | refine Or2.r (CallS.mk (c := add_c) ((l, ⟨false, key, value, plen, bits, left, right, hash⟩)) ?_) | refine Or2.r (Or2.l (CallS.mk (c := add_c) ((l, ⟨false, key, value, plen, bits, left, right, hash⟩)) ?_)) | refine Or2.r (Or2.r (CallS.mk (c := add_c) ((l, ⟨false, key, value, plen, bits, left, right, hash⟩)) ?_))) | fail); all_goals try (conv => whnf)
      exact absurd hm.2 h
  · repeat' (first | (with_reducible first | refine Unf.h ?_ | refine loopK_n ?_ | refine cutK_n ?_) | ((conv => whnf); first | refine Both.mk ?_ ?_ | refine Fork.mkn (fun h => ?_) (fun h => ?_) | refine Fork.mk (fun h => ?_) (fun h => ?_) | (refine Side.mk ?_ ?_; focus (first | with_reducible rfl | exact True.intro | assumption | omega | (refine congrArg (SV.int _) ?_; omega) | (dsimp only; omega) | (intros; (try simp only [lenS, inR, cutS, loI, hiI] at *); omega) | exact nnS (by decide) | exact List.eq_nil_of_length_eq_zero (by assumption) | exact dT (by omega) | exact dF (by omega) | exact decide_eq_decide.2 (by omega) | (split <;> first | rfl | (exfalso; omega)) | (refine ⟨fun h => ?_, fun h => ?_⟩ <;> first | rfl | (cases h; done) | omega | (exfalso; omega) | (simp only [Bool.false_eq_true] at h; done)) | (simp only [*]; done) | (simp only [*, List.map_cons, List.map_nil, eB]; done) | (simp [*]; done) | (dsimp only [resS, addA_c]; done) | (dsimp only [resS, addA_c]; first | with_reducible rfl | exact True.intro | assumption | omega | (refine congrArg (SV.int _) ?_; omega) | ((try simp only [lenS, inR, cutS, loI, hiI]); omega) | (simp only [*]; done) | (simp only [*, List.map_cons, List.map_nil, eB]; done) | (simp [*]; done)))) | (refine Idx.mk ?_ ?_; focus (first | omega | (simp only [lenS, inR, cutS, loI, hiI]; omega))) | refine RetE.mk () trivial ?_ | refine Got.mk (fun _ _ => ?_) | refine Ex.mk _ rfl ?_ | refine Ex.mk [_] rfl ?_ | refine Ex.mk [_, _] rfl ?_ | refine Ex.mk [_, _, _] rfl ?_ | refine Ex.mk [_, _, _, _] rfl ?_ | refine boolK (fun h => ?_) ?_ | (with_reducible first | refine Unf.h ?_ | refine loopK_n ?_ | refine cutK_n ?_) | refine retK_n ?_ | refine retK_r ?_ | exact rfl | exact True.intro | refine CallS.mk (c := add_c) ((l, ⟨true, key, value, plen, bits, left, right, hash⟩)) ?_ | refine Or2.l (CallS.mk (c := add_c) ((l, ⟨true, key, value, plen, bits, left, right, hash⟩)) ?_) | refine Or2.r (CallS.mk (c := add_c) ((l, ⟨true, key, value, plen, bits, left, right, hash⟩)) ?_) | refine Or2.r (Or2.l (CallS.mk (c := add_c) ((l, ⟨true, key, value, plen, bits, left, right, hash⟩)) ?_)) | refine Or2.r (Or2.r (CallS.mk (c := add_c) ((l, ⟨true, key, value, plen, bits, left, right, hash⟩)) ?_))) | fail); all_goals try (conv => whnf)
def addX_c : Ctr where
  D := Fo × Nd
  pre := fun (l, n) => n.leaf = false ∧ ¬ mayP l n
  args := fun (_, n) => [.ptr 0 0, .agg (eNd n)]
  objs := fun (l, _) => fo l
  nn := 2
  res := fun (l, _) _ => .tup [.int .i64 0, .int .i64 1]
  out := fun (l, n) _ => fo l
def addX_H : Cfg := ⟨[(72, under_c), (38, add_c)], [], [], [], 40, 2, [], [], []⟩
theorem addX_ok : addX_c.Ok Tryd.prog 49 := by
  refine fn_ok addX_H 2 rfl _ Tryd.func49 rfl rfl ⟨under_ok, add_ok, trivial⟩ rfl rfl (by kernel_rfl) (fun _ => Nat.le_of_ble_eq_true rfl) ?_
  rintro ⟨l, n⟩ hp hr
  try dsimp only [addX_c] at hp
  try simp only [addX_c, Rng, RngL, inR, and_true, true_and] at hr
  obtain ⟨leaf, key, value, plen, bits, left, right, hash⟩ := n
  obtain ⟨hl, hm⟩ := hp
  cases hl
  repeat' (first | (with_reducible first | refine Unf.h ?_ | refine loopK_n ?_ | refine cutK_n ?_) | ((conv => whnf); first | refine Both.mk ?_ ?_ | refine Fork.mkn (fun h => ?_) (fun h => ?_) | refine Fork.mk (fun h => ?_) (fun h => ?_) | (refine Side.mk ?_ ?_; focus (first | with_reducible rfl | exact True.intro | assumption | omega | (refine congrArg (SV.int _) ?_; omega) | (dsimp only; omega) | (intros; (try simp only [lenS, inR, cutS, loI, hiI] at *); omega) | exact nnS (by decide) | exact List.eq_nil_of_length_eq_zero (by assumption) | exact dT (by omega) | exact dF (by omega) | exact decide_eq_decide.2 (by omega) | (split <;> first | rfl | (exfalso; omega)) | (refine ⟨fun h => ?_, fun h => ?_⟩ <;> first | rfl | (cases h; done) | omega | (exfalso; omega) | (simp only [Bool.false_eq_true] at h; done)) | (simp only [*]; done) | (simp only [*, List.map_cons, List.map_nil, eB]; done) | (simp [*]; done) | (dsimp only [resS, addX_c]; done) | (dsimp only [resS, addX_c]; first | with_reducible rfl | exact True.intro | assumption | omega | (refine congrArg (SV.int _) ?_; omega) | ((try simp only [lenS, inR, cutS, loI, hiI]); omega) | (simp only [*]; done) | (simp only [*, List.map_cons, List.map_nil, eB]; done) | (simp [*]; done)))) | (refine Idx.mk ?_ ?_; focus (first | omega | (simp only [lenS, inR, cutS, loI, hiI]; omega))) | refine RetE.mk () trivial ?_ | refine Got.mk (fun _ _ => ?_) | refine Ex.mk _ rfl ?_ | refine Ex.mk [_] rfl ?_ | refine Ex.mk [_, _] rfl ?_ | refine Ex.mk [_, _, _] rfl ?_ | refine Ex.mk [_, _, _, _] rfl ?_ | refine boolK (fun h => ?_) ?_ | (with_reducible first | refine Unf.h ?_ | refine loopK_n ?_ | refine cutK_n ?_) | refine retK_n ?_ | refine retK_r ?_ | exact rfl | exact True.intro) | fail); all_goals try (conv => whnf)
  first | refine CallS.mk (c := under_c) ((l, ⟨plen, bits⟩, 0, left)) ?_ | refine Or2.l (CallS.mk (c := under_c) ((l, ⟨plen, bits⟩, 0, left)) ?_) | refine Or2.r (CallS.mk (c := under_c) ((l, ⟨plen, bits⟩, 0, left)) ?_) | refine Or2.r (Or2.l (CallS.mk (c := under_c) ((l, ⟨plen, bits⟩, 0, left)) ?_)) | refine Or2.r (Or2.r (CallS.mk (c := under_c) ((l, ⟨plen, bits⟩, 0, left)) ?_))
  repeat' (first | (with_reducible first | refine Unf.h ?_ | refine loopK_n ?_ | refine cutK_n ?_) | ((conv => whnf); first | refine Both.mk ?_ ?_ | refine Fork.mkn (fun h => ?_) (fun h => ?_) | refine Fork.mk (fun h => ?_) (fun h => ?_) | (refine Side.mk ?_ ?_; focus (first | with_reducible rfl | exact True.intro | assumption | omega | (refine congrArg (SV.int _) ?_; omega) | (dsimp only; omega) | (intros; (try simp only [lenS, inR, cutS, loI, hiI] at *); omega) | exact nnS (by decide) | exact List.eq_nil_of_length_eq_zero (by assumption) | exact dT (by omega) | exact dF (by omega) | exact decide_eq_decide.2 (by omega) | (split <;> first | rfl | (exfalso; omega)) | (refine ⟨fun h => ?_, fun h => ?_⟩ <;> first | rfl | (cases h; done) | omega | (exfalso; omega) | (simp only [Bool.false_eq_true] at h; done)) | (simp only [*]; done) | (simp only [*, List.map_cons, List.map_nil, eB]; done) | (simp [*]; done) | (dsimp only [resS, addX_c]; done) | (dsimp only [resS, addX_c]; first | with_reducible rfl | exact True.intro | assumption | omega | (refine congrArg (SV.int _) ?_; omega) | ((try simp only [lenS, inR, cutS, loI, hiI]); omega) | (simp only [*]; done) | (simp only [*, List.map_cons, List.map_nil, eB]; done) | (simp [*]; done)))) | (refine Idx.mk ?_ ?_; focus (first | omega | (simp only [lenS, inR, cutS, loI, hiI]; omega))) | refine RetE.mk () trivial ?_ | refine Got.mk (fun _ _ => ?_) | refine Ex.mk _ rfl ?_ | refine Ex.mk [_] rfl ?_ | refine Ex.mk [_, _] rfl ?_ | refine Ex.mk [_, _, _] rfl ?_ | refine Ex.mk [_, _, _, _] rfl ?_ | refine boolK (fun h => ?_) ?_ | (with_reducible first | refine Unf.h ?_ | refine loopK_n ?_ | refine cutK_n ?_) | refine retK_n ?_ | refine retK_r ?_ | exact rfl | exact True.intro) | fail); all_goals try (conv => whnf)
  first | refine CallS.mk (c := under_c) ((l, ⟨plen, bits⟩, 1, right)) ?_ | refine Or2.l (CallS.mk (c := under_c) ((l, ⟨plen, bits⟩, 1, right)) ?_) | refine Or2.r (CallS.mk (c := under_c) ((l, ⟨plen, bits⟩, 1, right)) ?_) | refine Or2.r (Or2.l (CallS.mk (c := under_c) ((l, ⟨plen, bits⟩, 1, right)) ?_)) | refine Or2.r (Or2.r (CallS.mk (c := under_c) ((l, ⟨plen, bits⟩, 1, right)) ?_))
  repeat' (first | (with_reducible first | refine Unf.h ?_ | refine loopK_n ?_ | refine cutK_n ?_) | ((conv => whnf); first | refine Both.mk ?_ ?_ | refine Fork.mkn (fun h => ?_) (fun h => ?_) | refine Fork.mk (fun h => ?_) (fun h => ?_) | (refine Side.mk ?_ ?_; focus (first | with_reducible rfl | exact True.intro | assumption | omega | (refine congrArg (SV.int _) ?_; omega) | (dsimp only; omega) | (intros; (try simp only [lenS, inR, cutS, loI, hiI] at *); omega) | exact nnS (by decide) | exact List.eq_nil_of_length_eq_zero (by assumption) | exact dT (by omega) | exact dF (by omega) | exact decide_eq_decide.2 (by omega) | (split <;> first | rfl | (exfalso; omega)) | (refine ⟨fun h => ?_, fun h => ?_⟩ <;> first | rfl | (cases h; done) | omega | (exfalso; omega) | (simp only [Bool.false_eq_true] at h; done)) | (simp only [*]; done) | (simp only [*, List.map_cons, List.map_nil, eB]; done) | (simp [*]; done) | (dsimp only [resS, addX_c]; done) | (dsimp only [resS, addX_c]; first | with_reducible rfl | exact True.intro | assumption | omega | (refine congrArg (SV.int _) ?_; omega) | ((try simp only [lenS, inR, cutS, loI, hiI]); omega) | (simp only [*]; done) | (simp only [*, List.map_cons, List.map_nil, eB]; done) | (simp [*]; done)))) | (refine Idx.mk ?_ ?_; focus (first | omega | (simp only [lenS, inR, cutS, loI, hiI]; omega))) | refine RetE.mk () trivial ?_ | refine Got.mk (fun _ _ => ?_) | refine Ex.mk _ rfl ?_ | refine Ex.mk [_] rfl ?_ | refine Ex.mk [_, _] rfl ?_ | refine Ex.mk [_, _, _] rfl ?_ | refine Ex.mk [_, _, _, _] rfl ?_ | refine boolK (fun h => ?_) ?_ | (with_reducible first | refine Unf.h ?_ | refine loopK_n ?_ | refine cutK_n ?_) | refine retK_n ?_ | refine retK_r ?_ | exact rfl | exact True.intro) | fail); all_goals try (conv => whnf)
  all_goals exact absurd (show mayP l ⟨false, key, value, plen, bits, left, right, hash⟩ from ⟨by assumption, by assumption⟩) hm
def preP (l : Fo) (n : Nd) : Prop := (inF l n.left ∧ inF l n.right) ∧ formedP n.pfx ∧ n.plen < 256
instance (l : Fo) (n : Nd) : Decidable (preP l n) := inferInstanceAs (Decidable (_ ∧ _ ∧ _))
theorem pre_ok {l : Fo} {n : Nd} (h : preP l n) (b : Int) (hb : b = 0 ∨ b = 1) : childOk n.pfx b := ⟨h.2.1, h.2.2, by omega, by omega⟩
theorem may_of {l : Fo} {n : Nd} (h : preP l n) : mayP l n ↔ withinP (childP n.pfx 0) (nd l n.left).cover ∧ withinP (childP n.pfx 1) (nd l n.right).cover :=
  ⟨fun h' => ⟨h'.1.2.2, h'.2.2.2⟩, fun h' => ⟨⟨h.1.1, pre_ok h 0 (.inl rfl), h'.1⟩, h.1.2, pre_ok h 1 (.inr rfl), h'.2⟩⟩
theorem may_pre {l : Fo} {n : Nd} (h : mayP l n) : preP l n := ⟨⟨h.1.1, h.2.1⟩, h.1.2.1.1, h.1.2.1.2.1⟩
theorem cover_leaf {n : Nd} (h : n.leaf = true) : n.cover = cutP n.key 256 := by unfold Nd.cover; rw [if_pos h]
theorem cover_inner {n : Nd} (h : n.leaf = false) : n.cover = ⟨n.plen, n.bits⟩ := by unfold Nd.cover; rw [if_neg (by rw [h]; decide)]; rfl
def adds_c : Ctr where
  D := List KV × Nd
  args := fun (ps, n) => [.fs 64 eKV ps, .agg (eNd n)]
  res := fun _ _ => .bool true
end Go.Proofs.YtmbkoigeekofdaaDoor

namespace Go.Proofs.YtmbkoigeekofdaaDoor
set_option linter.all false
open Go.RowKit
/-! all nodes of a forest -/
def allDen (l : Fo) : Prop := ∀ i : Int, inF l i → ∃ T : PT, T.wf ∧ den l i T
theorem allDen_snoc {l : Fo} {m : Nd} {T : PT} (h : allDen l) (hd : den (l ++ [m]) (l.length : Int) T) (hw : T.wf) : allDen (l ++ [m]) := fun i hi => by
  by_cases hlt : i < l.length
  · obtain ⟨U, h1, h2⟩ := h i ⟨hi.1, hlt⟩
    exact ⟨U, h1, den_app h2⟩
  · have e : i = (l.length : Int) := by have := hi.2; simp at this; omega
    subst e
    exact ⟨T, hw, hd⟩
theorem start_all {l : Fo} {k v : H256} {t : Int} {T : PT} (h : allDen l) (hd : den (startF l k v t).1 (startF l k v t).2 T) (hw : T.wf) : allDen (startF l k v t).1 := by
  have h1 : allDen (l ++ [mk l (leafN k v)]) := allDen_snoc h (den_leaf l k v) trivial
  unfold startF at hd ⊢
  simp only at hd ⊢
  split at hd
  · rename_i hm
    rw [if_pos hm]
    exact allDen_snoc h1 hd hw
  · rename_i hm
    rw [if_neg hm]
    exact h1
theorem put_all {l : Fo} {k v : H256} (hc : closed l) (h : allDen l) : ∀ {T : PT} {t : Int}, den l t T → T.wf → allDen (putF l t k v).1
  | .leaf k' v', t, hd, hw => by
    have hp : path l k t = ([], t) := path_stop fun hg => by have := hg.2.1; rw [hd.2] at this; exact absurd this (by simp)
    have hput := put_den (k := k) (v := v) hc hd
    have hwf := (ins_wf k v hw).1
    have e : putF l t k v = startF l k v t := by unfold putF; rw [hp]; rfl
    rw [e] at hput ⊢
    exact start_all h hput hwf
  | .node p a b, t, hd, hw => by
    have hput := put_den (k := k) (v := v) hc hd
    have hwf := (ins_wf k v hw).1
    obtain ⟨h0, x, y, e, ha, hb⟩ := hd
    have hpfx : (nd l t).pfx = p := by rw [e]; rfl
    by_cases hh : holdsP p k
    · have ht : isT l t := ⟨by have := h0.1; omega, h0.2⟩
      have hg : goes l k t := ⟨by have := h0.1; omega, by rw [e], by rw [hpfx]; exact hh⟩
      have hu : putF l t k v = upS k t (putF l (nxt l k t) k v) := by
        unfold putF
        rw [path_go hc ht hg]; rfl
      have ih : allDen (putF l (nxt l k t) k v).1 := by
        by_cases hbit : bitI k p.len = 1
        · have hn : nxt l k t = y := by unfold nxt; rw [e]; exact if_pos hbit
          rw [hn]; exact put_all hc h hb hw.2.2.2.2
        · have hn : nxt l k t = x := by unfold nxt; rw [e]; exact if_neg hbit
          rw [hn]; exact put_all hc h ha hw.2.2.2.1
      rw [hu] at hput ⊢
      exact allDen_snoc ih hput hwf
    · have hp : path l k t = ([], t) := path_stop fun hg => hh (by rw [← hpfx]; exact hg.2.2)
      have e2 : putF l t k v = startF l k v t := by unfold putF; rw [hp]; rfl
      rw [e2] at hput ⊢
      exact start_all h hput hwf
theorem built_all : ∀ (n : Nat) (ps : List KV), ps.length = n → allDen (builtF ps).1
  | 0, ps, h => by
    obtain rfl := List.eq_nil_of_length_eq_zero h
    intro i hi
    have := hi.1; have := hi.2; simp [builtF] at this; omega
  | n + 1, ps, h => by
    have hne : ps ≠ [] := fun e => by subst e; cases h
    obtain ⟨qs, p, rfl⟩ : ∃ qs p, ps = qs ++ [p] := ⟨ps.dropLast, ps.getLast hne, (List.dropLast_concat_getLast hne).symm⟩
    have ih := built_all n qs (by simpa using h)
    have hb := builtOk qs
    have hw := built_wf qs
    have ht := hb.tree
    rw [builtF_snoc]
    cases hq : treesF qs with
    | none =>
      rw [hq] at ht
      have e : (builtF qs).2 = -1 := ht
      rw [e, put_none']
      exact allDen_snoc ih (den_leaf _ _ _) trivial
    | some T =>
      rw [hq] at ht hw
      exact put_all hb.closed ih ht hw
/-! a node added anew is the same -/
theorem again_leaf {l : Fo} (k v : H256) : mk l ⟨true, k, v, 0, zeroH, -1, -1, sha (leafT k v)⟩ = ⟨true, k, v, 0, zeroH, -1, -1, sha (leafT k v)⟩ := rfl
theorem again_node {l : Fo} {p : Pfx} {a b : PT} {x y : Int} (ha : den l x a) (hb : den l y b) : mk l ⟨false, zeroH, zeroH, p.len, p.bits, x, y, sha (innerT p.len p.bits a.hash b.hash)⟩ = ⟨false, zeroH, zeroH, p.len, p.bits, x, y, sha (innerT p.len p.bits a.hash b.hash)⟩ := by
  have h1 := den_hash ha
  have h2 := den_hash hb
  unfold mk
  simp only [h1, h2]
  rfl
theorem may_node {l : Fo} {p : Pfx} {a b : PT} {x y : Int} {h : H256} (hw : (PT.node p a b).wf) (ha : den l x a) (hb : den l y b) : mayP l ⟨false, zeroH, zeroH, p.len, p.bits, x, y, h⟩ :=
  ⟨⟨den_in ha, wf_ok hw.1 0 (.inl rfl), by show withinP (childP p 0) (nd l x).cover; rw [den_cover ha]; exact hw.2.1⟩, den_in hb, wf_ok hw.1 1 (.inr rfl), by show withinP (childP p 1) (nd l y).cover; rw [den_cover hb]; exact hw.2.2.1⟩
def nodeV_c : Ctr where
  D := Fo × Int × Nd
  pre := fun (l, i, n) => inF l i ∧ nd l i = n
  args := fun (_, i, _) => [.ptr 0 0, .int .i64 i]
  objs := fun (l, _, _) => fo l
  nn := 2
  res := fun (_, _, n) _ => .tup [.agg (eNd n), .bool true]
  out := fun (l, _, _) _ => fo l
def nodeV_H : Cfg := ⟨[(12, size_c)], [], [], [], 22, 2, [], [], []⟩
theorem nodeV_ok : nodeV_c.Ok Tryd.prog 13 := by
  refine fn_ok nodeV_H 2 rfl _ Tryd.func13 rfl rfl ⟨size_ok, trivial⟩ rfl rfl (by kernel_rfl) (fun _ => Nat.le_of_ble_eq_true rfl) ?_
  rintro ⟨l, i, n⟩ hp hr
  try dsimp only [nodeV_c] at hp
  try simp only [nodeV_c, Rng, RngL, inR, and_true, true_and] at hr
  obtain ⟨⟨h0, h1⟩, hn⟩ := hp
  have e := (nd_get l i (by omega) (by omega)).trans hn
  repeat' (first | (with_reducible first | refine Unf.h ?_ | refine loopK_n ?_ | refine cutK_n ?_) | ((conv => whnf); first | refine Both.mk ?_ ?_ | refine Fork.mkn (fun h => ?_) (fun h => ?_) | refine Fork.mk (fun h => ?_) (fun h => ?_) | (refine Side.mk ?_ ?_; focus (first | with_reducible rfl | exact True.intro | assumption | omega | (refine congrArg (SV.int _) ?_; omega) | (dsimp only; omega) | (intros; (try simp only [lenS, inR, cutS, loI, hiI, e] at *); omega) | exact nnS (by decide) | exact List.eq_nil_of_length_eq_zero (by assumption) | exact dT (by omega) | exact dF (by omega) | exact decide_eq_decide.2 (by omega) | (split <;> first | rfl | (exfalso; omega)) | (refine ⟨fun h => ?_, fun h => ?_⟩ <;> first | rfl | (cases h; done) | omega | (exfalso; omega) | (simp only [Bool.false_eq_true] at h; done)) | (simp only [*, e]; done) | (simp only [*, e, List.map_cons, List.map_nil, eB]; done) | (simp [*, e]; done) | (dsimp only [resS, nodeV_c]; done) | (dsimp only [resS, nodeV_c]; first | with_reducible rfl | exact True.intro | assumption | omega | (refine congrArg (SV.int _) ?_; omega) | ((try simp only [lenS, inR, cutS, loI, hiI, e]); omega) | (simp only [*, e]; done) | (simp only [*, e, List.map_cons, List.map_nil, eB]; done) | (simp [*, e]; done)))) | (refine Idx.mk ?_ ?_; focus (first | omega | (simp only [lenS, inR, cutS, loI, hiI, e]; omega))) | refine RetE.mk () trivial ?_ | refine Got.mk (fun _ _ => ?_) | refine Ex.mk _ rfl ?_ | refine Ex.mk [_] rfl ?_ | refine Ex.mk [_, _] rfl ?_ | refine Ex.mk [_, _, _] rfl ?_ | refine Ex.mk [_, _, _, _] rfl ?_ | refine boolK (fun h => ?_) ?_ | (with_reducible first | refine Unf.h ?_ | refine loopK_n ?_ | refine cutK_n ?_) | refine retK_n ?_ | refine retK_r ?_ | exact rfl | exact True.intro | refine CallS.mk (c := size_c) (l) ?_ | refine Or2.l (CallS.mk (c := size_c) (l) ?_) | refine Or2.r (CallS.mk (c := size_c) (l) ?_) | refine Or2.r (Or2.l (CallS.mk (c := size_c) (l) ?_)) | refine Or2.r (Or2.r (CallS.mk (c := size_c) (l) ?_))) | fail); all_goals try (conv => whnf)
def nodeX_c : Ctr where
  D := Fo × Int
  pre := fun (l, i) => ¬ inF l i
  args := fun (_, i) => [.ptr 0 0, .int .i64 i]
  objs := fun (l, _) => fo l
  nn := 2
  res := fun _ _ => .tup [.agg (eNd zeroN), .bool false]
  out := fun (l, _) _ => fo l
def nodeX_H : Cfg := ⟨[(12, size_c)], [], [], [], 22, 2, [], [], []⟩
theorem nodeX_ok : nodeX_c.Ok Tryd.prog 13 := by
  refine fn_ok nodeX_H 2 rfl _ Tryd.func13 rfl rfl ⟨size_ok, trivial⟩ rfl rfl (by kernel_rfl) (fun _ => Nat.le_of_ble_eq_true rfl) ?_
  rintro ⟨l, i⟩ hp hr
  try dsimp only [nodeX_c] at hp
  try simp only [nodeX_c, Rng, RngL, inR, and_true, true_and] at hr
  repeat' (first | (with_reducible first | refine Unf.h ?_ | refine loopK_n ?_ | refine cutK_n ?_) | ((conv => whnf); first | refine Both.mk ?_ ?_ | refine Fork.mkn (fun h => ?_) (fun h => ?_) | refine Fork.mk (fun h => ?_) (fun h => ?_) | (refine Side.mk ?_ ?_; focus (first | with_reducible rfl | exact True.intro | assumption | omega | (refine congrArg (SV.int _) ?_; omega) | (dsimp only; omega) | (intros; (try simp only [lenS, inR, cutS, loI, hiI, zeroN] at *); omega) | exact nnS (by decide) | exact List.eq_nil_of_length_eq_zero (by assumption) | exact dT (by omega) | exact dF (by omega) | exact decide_eq_decide.2 (by omega) | (split <;> first | rfl | (exfalso; omega)) | (refine ⟨fun h => ?_, fun h => ?_⟩ <;> first | rfl | (cases h; done) | omega | (exfalso; omega) | (simp only [Bool.false_eq_true] at h; done)) | (simp only [*, zeroN]; done) | (simp only [*, zeroN, List.map_cons, List.map_nil, eB]; done) | (simp [*, zeroN]; done) | (dsimp only [resS, nodeX_c]; done) | (dsimp only [resS, nodeX_c]; first | with_reducible rfl | exact True.intro | assumption | omega | (refine congrArg (SV.int _) ?_; omega) | ((try simp only [lenS, inR, cutS, loI, hiI, zeroN]); omega) | (simp only [*, zeroN]; done) | (simp only [*, zeroN, List.map_cons, List.map_nil, eB]; done) | (simp [*, zeroN]; done)))) | (refine Idx.mk ?_ ?_; focus (first | omega | (simp only [lenS, inR, cutS, loI, hiI, zeroN]; omega))) | refine RetE.mk () trivial ?_ | refine Got.mk (fun _ _ => ?_) | refine Ex.mk _ rfl ?_ | refine Ex.mk [_] rfl ?_ | refine Ex.mk [_, _] rfl ?_ | refine Ex.mk [_, _, _] rfl ?_ | refine Ex.mk [_, _, _, _] rfl ?_ | refine boolK (fun h => ?_) ?_ | (with_reducible first | refine Unf.h ?_ | refine loopK_n ?_ | refine cutK_n ?_) | refine retK_n ?_ | refine retK_r ?_ | exact rfl | exact True.intro | refine CallS.mk (c := size_c) (l) ?_ | refine Or2.l (CallS.mk (c := size_c) (l) ?_) | refine Or2.r (CallS.mk (c := size_c) (l) ?_) | refine Or2.r (Or2.l (CallS.mk (c := size_c) (l) ?_)) | refine Or2.r (Or2.r (CallS.mk (c := size_c) (l) ?_))) | fail); all_goals try (conv => whnf)
  exact absurd (show inF l i from ⟨by omega, by omega⟩) hp
def nodes_c : Ctr where
  D := List KV
  args := fun ps => [.fs 64 eKV ps]
  res := fun _ _ => .bool true
end Go.Proofs.YtmbkoigeekofdaaDoor

/- plain laws: the numbers of a tree's nodes, from the uppermost one down (no program in sight) -/
namespace Go.Proofs.YtmbkoigeekofdaaDoor
set_option linter.all false
theorem root_hash {l : Fo} {t : Int} : ∀ {o : Option PT}, treeAt l t o → rootF l t = hashO o
  | none, h => if_pos h
  | some T, h => by
    have h0 := (den_in h).1
    unfold rootF
    rw [if_neg (by omega)]
    exact den_hash h
def ords (l : Fo) (wn : Int → Bool) : PT → Int → List Int
  | .leaf _ _, t => if wn t = true then [t] else []
  | .node _ a b, t => if wn t = true then t :: (ords l wn b (nd l t).right ++ ords l wn a (nd l t).left) else []
def ordsO (l : Fo) (wn : Int → Bool) : Option PT → Int → List Int
  | none, _ => []
  | some T, t => ords l wn T t
theorem ords_no {l : Fo} {wn : Int → Bool} {T : PT} {t : Int} (h : wn t = false) : ords l wn T t = [] := by
  cases T <;> simp [ords, h]
theorem ords_leaf {l : Fo} {wn : Int → Bool} {k v : H256} {t : Int} (h : wn t = true) : ords l wn (.leaf k v) t = [t] := if_pos h
theorem ords_node {l : Fo} {wn : Int → Bool} {p : Pfx} {a b : PT} {t : Int} (h : wn t = true) : ords l wn (.node p a b) t = t :: (ords l wn b (nd l t).right ++ ords l wn a (nd l t).left) := if_pos h
theorem ords_top {l : Fo} {wn : Int → Bool} {T : PT} {t : Int} (h : wn t = true) : t ∈ ords l wn T t := by
  cases T with
  | leaf k v => rw [ords_leaf h]; simp
  | node p a b => rw [ords_node h]; simp
theorem ords_in {l : Fo} {wn : Int → Bool} : ∀ {T : PT} {t : Int}, den l t T → ∀ i ∈ ords l wn T t, inF l i ∧ wn i = true
  | .leaf k v, t, h => fun i hi => by
    unfold ords at hi
    split at hi
    · rename_i hw; rw [List.mem_singleton.1 hi]; exact ⟨h.1, hw⟩
    · cases hi
  | .node p a b, t, h => fun i hi => by
    obtain ⟨h0, x, y, e, ha, hb⟩ := h
    unfold ords at hi
    split at hi
    · rename_i hw
      rw [e] at hi
      rcases List.mem_cons.1 hi with rfl | hi
      · exact ⟨h0, hw⟩
      · rcases List.mem_append.1 hi with hi | hi
        · exact ords_in hb i hi
        · exact ords_in ha i hi
    · cases hi
theorem ords_le {l : Fo} (hc : closed l) {wn : Int → Bool} : ∀ {T : PT} {t : Int}, den l t T → ∀ i ∈ ords l wn T t, i ≤ t
  | .leaf k v, t, h => fun i hi => by
    unfold ords at hi
    split at hi
    · rw [List.mem_singleton.1 hi]; exact Int.le_refl _
    · cases hi
  | .node p a b, t, h => fun i hi => by
    obtain ⟨h0, x, y, e, ha, hb⟩ := h
    have hcl := hc t h0
    rw [e] at hcl
    have hcl2 := hcl.resolve_left (by simp)
    unfold ords at hi
    split at hi
    · rw [e] at hi
      have h1 := hcl2.1.2
      have h2 := hcl2.2.2
      dsimp only at h1 h2
      rcases List.mem_cons.1 hi with rfl | hi
      · exact Int.le_refl _
      · rcases List.mem_append.1 hi with hi | hi
        · have := ords_le hc hb i hi; omega
        · have := ords_le hc ha i hi; omega
    · cases hi
theorem ords_len {l : Fo} {wn : Int → Bool} : ∀ (T : PT) (t : Int), (ords l wn T t).length ≤ szT T
  | .leaf k v, t => by
    have := list_sz (.leaf k v)
    unfold ords; split
    · simpa using this
    · simp
  | .node p a b, t => by
    have h1 := ords_len (l := l) (wn := wn) a (nd l t).left
    have h2 := ords_len (l := l) (wn := wn) b (nd l t).right
    have h3 := szT_node p a b
    unfold ords; split
    · simp only [List.length_cons, List.length_append]; omega
    · simp
def remN (l : Fo) (wn : Int → Bool) : List (Int × PT) → List Int
  | [] => []
  | p :: r => remN l wn r ++ ords l wn p.2 p.1
theorem remN_snoc (l : Fo) (wn : Int → Bool) (ps : List (Int × PT)) (p : Int × PT) : remN l wn (ps ++ [p]) = ords l wn p.2 p.1 ++ remN l wn ps := by
  induction ps with
  | nil => simp [remN]
  | cons q r ih => simp [remN, ih]
theorem remN_len (l : Fo) (wn : Int → Bool) (ps : List (Int × PT)) : (remN l wn ps).length ≤ szS ps := by
  induction ps with
  | nil => simp [remN]
  | cons q r ih => simp only [remN, szS, List.length_append]; have := ords_len (l := l) (wn := wn) q.2 q.1; omega
/-- the sorted list -/
abbrev srtI (l : List Int) : List Int := l.mergeSort fun x y => decide (x ≤ y)
theorem srtI_mem {l : List Int} {i : Int} : i ∈ srtI l ↔ i ∈ l := (List.mergeSort_perm l _).mem_iff
theorem srtI_len (l : List Int) : (srtI l).length = l.length := (List.mergeSort_perm l _).length_eq
theorem srtI_sorted (l : List Int) : (srtI l).Pairwise (fun x y => x ≤ y) := by
  have := List.pairwise_mergeSort (le := fun x y : Int => decide (x ≤ y)) (fun a b c h1 h2 => by simp only [decide_eq_true_eq] at *; omega) (fun a b => by simp only [Bool.or_eq_true, decide_eq_true_eq]; omega) l
  exact this.imp fun h => of_decide_eq_true h
/-- the last of a list that has a greatest number -/
theorem srtI_last {l : List Int} {t : Int} (h : t ∈ l) (hm : ∀ i ∈ l, i ≤ t) (hl : (srtI l).length - 1 < (srtI l).length) : (srtI l)[(srtI l).length - 1] = t := by
  have ht : t ∈ srtI l := srtI_mem.2 h
  obtain ⟨j, hj, e⟩ := List.mem_iff_getElem.1 ht
  have h1 : (srtI l)[(srtI l).length - 1] ≤ t := hm _ (srtI_mem.1 (List.getElem_mem _))
  have h2 : t ≤ (srtI l)[(srtI l).length - 1] := by
    rcases Nat.lt_or_ge j ((srtI l).length - 1) with hlt | hge
    · rw [← e]; exact List.pairwise_iff_getElem.1 (srtI_sorted l) j _ hj hl hlt
    · have : j = (srtI l).length - 1 := by omega
      subst this; rw [e]; exact Int.le_refl _
  omega
/-! rows -/
structure Rw where
  leaf : Bool
  key : H256
  value : H256
  plen : Int
  bits : H256
  left : H256
  right : H256
def eRw (r : Rw) : List SV := [.bool r.leaf, .arr8 r.key, .arr8 r.value, .int .i64 r.plen, .arr8 r.bits, .arr8 r.left, .arr8 r.right]
def rowOf (l : Fo) (i : Int) : Rw := if (nd l i).leaf then ⟨true, (nd l i).key, (nd l i).value, 0, zeroH, zeroH, zeroH⟩ else ⟨false, zeroH, zeroH, (nd l i).plen, (nd l i).bits, (nd l (nd l i).left).hash, (nd l (nd l i).right).hash⟩
/-- a row's text -/
def rowT (r : Rw) : Bs := if r.leaf then leafT r.key r.value else innerT r.plen r.bits r.left r.right
theorem row_hash {l : Fo} {t : Int} {T : PT} (h : den l t T) : sha (rowT (rowOf l t)) = (nd l t).hash := by
  cases T with
  | leaf k v => obtain ⟨_, e⟩ := h; simp [rowOf, e, rowT]
  | node p a b =>
    obtain ⟨_, x, y, e, ha, hb⟩ := h
    have h1 := den_hash ha
    have h2 := den_hash hb
    simp [rowOf, e, rowT, h1, h2]
end Go.Proofs.YtmbkoigeekofdaaDoor

/- MY OWN ENGINE: calls of functions that are values. -/
namespace Go.Proofs.YtmbkoigeekofdaaDoor
set_option linter.all false
open Go.RowKit
section
variable {P : Program} [TabC P] {S : Sig} {σ : Sg} {env : Env} {objs : List Ob} {nx : Nat} {a : Act} {w : World}
/-- A CALL OF A FUNCTION THAT IS A VALUE (with what it holds): its contract is at hand -/
def CallsF (P : Program) [TabC P] (v : Value) (args : Array Value) (w : World) (R : Ending → World → Prop) : Prop := ∃ f lb, v = .func (.func f) #[] lb ∧ nth (TabC.cl P) f = some true ∧ Calls P f (args ++ lb) w R
theorem CallsF.mono {v : Value} {args : Array Value} {w : World} {R R' : Ending → World → Prop} (h : CallsF P v args w R) (hr : ∀ e w', R e w' → R' e w') : CallsF P v args w R' := by
  obtain ⟨f, lb, hv, hc, hR⟩ := h
  exact ⟨f, lb, hv, hc, hR.mono hr⟩
variable (P) in
/-- a call of a function that is a value, by its contract -/
inductive CallF (H : Cfg) (all r : List Oper) (K : KS) (o : Oper) (env : Env) (objs : List Ob) (nx : Nat) : Prop
  | mk {t : Nat} {ars : Array Operand} {ts : Array TypeId} {v : Value} {s : SV} {ss : List SV} {c : Ctr} (hc : c.OkBy P (CallsF P v)) (ho : o.op = .call { callee := .value (.tmp t), args := ars, argTypes := ts }) (hv : lk env t = some s) (hs : s = .val v ∨ ∃ f, s = .fn f ∧ v = .func (.func f) #[] #[]) (ha : evs P env ars.toList = some ss) (hnt : noTups ss = true)
    (h : callG c H.n o.dst ss env objs nx (OpsK P H all r K))
theorem CallF.sound {H : Cfg} {all r : List Oper} {K : KS} {o : Oper} (h : CallF P H all r K o env objs nx) {Q : Exit → Act → World → Prop} {ops : Array Oper} (hcs : CsOk P H.cs) (hn : H.n = S.n) (hall : ops.toList = all) (hK : ∀ env objs nx, K env objs nx → Pr P S env objs nx (Q .normal)) (hst : St P S σ env objs nx a w) :
    o.wp P a w (wpListIn Fence.wide 0 P ops Q r) Q := by
  obtain @⟨t, ars, ts, v, s, ss, c, hc, ho, hv, hs, ha, hnt, h⟩ := h
  rw [hn] at h
  have hev : a.eval (.tmp t) = v := by
    have := hst.slots t _ hv
    rcases hs with rfl | ⟨f, rfl, rfl⟩
    · simp only [SV.hv, SV.h1, SV.hc, List.cons.injEq, and_true] at this
      exact this.1
    · simp only [SV.hv, SV.h1, SV.hc, List.cons.injEq, and_true] at this
      exact this
  obtain ⟨f, lb, hvl, hcl, hR⟩ := callG_core (C := CallsF P v) (fun h k => CallsF.mono h k) hc ha hnt h hst (X := wpListIn Fence.wide 0 P ops Q r) (fun σ' e' o' n' a' w' h1 h2 _ => h1.h hcs hn hall hK σ' a' w' h2)
  subst hvl
  unfold Oper.wp
  obtain ⟨fn, h1, h2, h3⟩ := call_spec (P := P) hcl
  have h4 : ¬ fn.body = none := by intro e; rw [e] at h3; cases h3
  have h5 : ¬ fn.name = "runtime.NumGoroutine" := by simpa using h2
  have hrun : (execOp a.eval o).run P w = .ok (.enter f ((ars.map a.eval) ++ lb)) w := by
    simp only [execOp, ho, resolve, Sem.run_bind, Act.eval] at hev ⊢
    rw [hev]
    simp [Deferred.ofValue, invoke, Result.andThen, callFunc, h1, h5, h4]
  rw [hrun, Oper.upon_enter]
  refine Calls.mono hR ?_
  rintro e w' ⟨v, rfl, hx⟩
  exact hx
theorem OpsK.callFG {H : Cfg} {all r : List Oper} {K : KS} {o : Oper} (h : vcGuard all H.n o env (fun env => CallF P H all r K o env objs nx) (fun env => OpsK P H all r K env objs nx)) : OpsK P H all (o :: r) K env objs nx := ⟨fun {S Q ops} hcs hn hall hK σ a w hst => by
  subst hall
  rw [hn] at h
  unfold wpListIn
  rcases guard_sound h hst with ⟨env', h, hst', hw⟩ | ⟨env', h, hst', hw⟩
  · rw [if_pos hw]
    exact Oper.wp_in (h.sound hcs hn rfl hK hst')
  · rw [if_neg (by rw [hw]; simp)]
    exact ⟨fun _ _ => trivial, h.h hcs hn rfl hK σ _ w hst'⟩⟩
/-- A FUNCTION MADE OF A TEXT AND ONE BOX THAT IT HOLDS -/
theorem OpsK.mkFn1 {H : Cfg} {all r : List Oper} {K : KS} {o : Oper} {d f t k T : Nat} {ps : List SV} {rest : List Ob} (ho : o.op = .makeFunc (.func f) #[] #[.tmp t]) (hd : o.dst = some d) (hlt : d < H.n) (hg : o.guard = none) (ht : lk env t = some (.ptr k 0)) (hrm : rmO objs k = some (.box T ps, rest)) (hnn : noName ps = true)
    (h : ∀ v τ, OpsK P H all r K ((d, .val v) :: env) ((nx, .ab (packAO τ [(0, .box T ps)] (cloQ f 1 τ v))) :: rest) (nx + 1)) : OpsK P H all (o :: r) K env objs nx := ⟨fun {S Q ops} hcs hn hall hK σ a w hst => by
  unfold wpListIn
  rw [if_pos (by simp [Region.wanted, hg])]
  have hp := hst.perm (rmO_perm hrm)
  obtain ⟨b, cs, h1, h2, h3⟩ := (show (SO.box T ps).holds w (S.A σ ((k, SO.box T ps) :: rest)) σ k from hp.obs.holds _ (List.mem_cons_self ..))
  have hev : a.eval (.tmp t) = .pointer (some ⟨b, 0, none⟩) := by
    obtain ⟨b', c', e1, e2⟩ := hst.slots t _ ht
    rw [h1] at e1
    simp only [Option.some.injEq, Value.pointer.injEq, Addr.mk.injEq, and_true] at e1
    obtain ⟨rfl, rfl⟩ := e1
    simp only [List.cons.injEq, and_true] at e2
    exact e2
  refine Oper.wp_in ?_
  unfold Oper.wp
  obtain ⟨v, hv⟩ : ∃ v, v = Value.func (.func f) #[] #[.pointer (some ⟨b, 0, none⟩)] := ⟨_, rfl⟩
  obtain ⟨τ, hτ⟩ : ∃ τ : Sg, τ = fun j => if j = 0 then some (.pointer (some ⟨b, 0, none⟩)) else none := ⟨_, rfl⟩
  have hrun : (execOp a.eval o).run P w = .ok (.value v) w := by
    simp only [execOp, ho]
    rw [hv]
    simp [Instr.makeFunc, hev]
  rw [hrun]
  have e0 : τ 0 = some (.pointer (some ⟨b, 0, none⟩)) := by rw [hτ]; rfl
  have own0 : ∀ c, owns τ [(0, SO.box T ps)] c ↔ c = b := fun c => by
    simp only [owns, SO.own, e0, Option.some.injEq, or_false]
    exact ⟨fun ⟨u, hu, hc⟩ => by subst hu; simp only [blkO, Option.some.injEq] at hc; exact hc.symm, fun e => ⟨_, rfl, by rw [e]; rfl⟩⟩
  have hown : ∀ c, (SO.box T ps).own σ k c ↔ c = b := fun c => by
    simp only [SO.own, h1, Option.some.injEq]
    exact ⟨fun ⟨u, hu, hc⟩ => by subst hu; simp only [blkO, Option.some.injEq] at hc; exact hc.symm, fun e => ⟨_, rfl, by rw [e]; rfl⟩⟩
  have hs : SetO ((k, SO.box T ps) :: rest) (k, SO.box T ps) (nx, .ab (packAO τ [(0, .box T ps)] (cloQ f 1 τ v))) ((nx, .ab (packAO τ [(0, .box T ps)] (cloQ f 1 τ v))) :: rest) := .here
  have hqo : ∀ c, (SO.ab (packAO τ [(0, .box T ps)] (cloQ f 1 τ v))).own σ nx c → (SO.box T ps).own σ k c := fun c hc => (hown c).2 ((own0 c).1 hc)
  have hgh := hp.ghost hs (by
    refine ⟨⟨[.pointer (some ⟨b, 0, none⟩)], rfl, fun i hi => ?_, fun u hu => ?_, hv, fun j hj => ?_⟩, fun o ho => ?_, ⟨fun _ _ h => h, trivial⟩⟩
    · match i, hi with
      | 0, _ => exact e0
    · obtain rfl := List.mem_singleton.1 hu; exact ⟨b, rfl⟩
    · rw [hτ]; simp only; rw [if_neg (by omega)]
    · obtain rfl := List.mem_singleton.1 ho
      refine ⟨b, cs, e0, h2, ?_⟩
      exact noName_spec hnn (hL.later (Later.own fun c hc => hc.imp id (hs.owns_le hqo c)) _ _ _ h3)) hqo
  have hst2 := (hgh.nx_le (Nat.le_succ nx)).put (d := d) (s := .val v) (v := v) (hn ▸ hlt) ⟨rfl, by rw [hv]; rfl⟩
  rw [← hd] at hst2
  exact (h v τ).h hcs hn hall hK σ _ w hst2⟩
end
end Go.Proofs.YtmbkoigeekofdaaDoor

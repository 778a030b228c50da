import Derived.Test.YtffaohckcggkdaaDoorZLTexts5
import Derived.Test.YtffaohckcggkdaaDoorZLTexts3
import Derived.ProofKit
import Derived.Test.YtffaohckcggkdaaDoorRows
import Derived.LaidMore
import Derived.OpenShut
import Derived.Stop.Joined
namespace Go.Proofs.YtffaohckcggkdaaDoor
set_option linter.all false
open Go.RowKit
def closed (l : Fo) : Prop := ∀ i : Int, inF l i → (nd l i).leaf = true ∨ (0 ≤ (nd l i).left ∧ (nd l i).left < i) ∧ (0 ≤ (nd l i).right ∧ (nd l i).right < i)
def isT (l : Fo) (t : Int) : Prop := -1 ≤ t ∧ t < l.length
instance (l : Fo) (t : Int) : Decidable (isT l t) := inferInstanceAs (Decidable (_ ∧ _))
def goes (l : Fo) (k : H256) (t : Int) : Prop := t ≠ -1 ∧ (nd l t).leaf = false ∧ holdsP (nd l t).pfx k
instance (l : Fo) (k : H256) (t : Int) : Decidable (goes l k t) := inferInstanceAs (Decidable (_ ∧ _ ∧ _))
def nxt (l : Fo) (k : H256) (t : Int) : Int := if bitI k (nd l t).plen = 1 then (nd l t).right else (nd l t).left
def path (l : Fo) (k : H256) (t : Int) : List Int × Int := if h : goes l k t ∧ -1 ≤ nxt l k t ∧ nxt l k t < t then (t :: (path l k (nxt l k t)).1, (path l k (nxt l k t)).2) else ([], t)
termination_by (t + 1).toNat
decreasing_by all_goals omega
theorem nxt_ok {l : Fo} {k : H256} {t : Int} (hc : closed l) (ht : isT l t) (hg : goes l k t) : 0 ≤ nxt l k t ∧ nxt l k t < t := by
  rcases hc t ⟨by have := ht.1; have := hg.1; omega, ht.2⟩ with h | h
  · rw [hg.2.1] at h; cases h
  · unfold nxt; split
    · exact h.2
    · exact h.1
theorem path_go {l : Fo} {k : H256} {t : Int} (hc : closed l) (ht : isT l t) (hg : goes l k t) : path l k t = (t :: (path l k (nxt l k t)).1, (path l k (nxt l k t)).2) := by
  have := nxt_ok hc ht hg
  rw [path, dif_pos ⟨hg, by omega, by omega⟩]
theorem path_stop {l : Fo} {k : H256} {t : Int} (hg : ¬ goes l k t) : path l k t = ([], t) := by
  rw [path, dif_neg fun h => hg h.1]
theorem path_len {l : Fo} {k : H256} : ∀ (n : Nat) (t : Int), (t + 1).toNat ≤ n → (path l k t).1.length ≤ (t + 1).toNat
  | n, t, hn => by
    rw [path]
    split
    · rename_i h
      match n with
      | 0 => omega
      | n + 1 =>
        have := path_len (l := l) (k := k) n (nxt l k t) (by omega)
        simp only [List.length_cons]; omega
    · simp
def path_c : Ctr where
  D := Fo × Int × H256
  pre := fun (l, t, _) => l.length ≤ 10000000 ∧ closed l ∧ isT l t
  args := fun (_, t, k) => [.ptr 0 0, .int .i64 t, .agg [.arr8 k]]
  objs := fun (l, _) => fo l
  nn := 2
  res := fun (l, t, k) _ => .tup [.own 2, .int .i64 (path l k t).2]
  out := fun (l, t, k) _ => fo l ++ [(2, .row 3 1 eI (path l k t).1)]
  mm := 1
def path_H : Cfg := ⟨[(76, holds_c), (54, bit_c)], [(2, [6, 10, 17, 21, 22], [23], (.one 0 0 false (.one 1 0 false (.one 2 0 false (.one 3 0 false (.one 4 0 false (.one 5 0 false (.one 6 1 false (.one 7 0 false (.one 8 0 false (.one 9 0 false (.one 10 1 false (.one 11 0 false (.one 12 0 false (.one 13 0 false (.one 14 0 false (.one 15 0 false (.one 16 0 false (.one 17 1 false (.one 18 0 false (.one 19 0 false (.one 20 0 false (.one 21 1 false (.one 22 1 false (.one 23 2 false (.one 24 0 false .nil))))))))))))))))))))))))), [])], [], [], 58, 2, [], []⟩
theorem path_ok : path_c.Ok Tryd.prog 74 := by
  refine fn_ok path_H 2 rfl _ Tryd.func74 rfl rfl ⟨holds_ok, bit_ok, trivial⟩ rfl rfl (by kernel_rfl) (fun _ => Nat.le_of_ble_eq_true rfl) ?_
  rintro ⟨l, t, k⟩ hp hr
  try dsimp only [path_c] at hp
  try simp only [path_c, Rng, RngL, inR, and_true, true_and] at hr
  obtain ⟨hlen, hc, ht⟩ := hp
  repeat' (first | (with_reducible first | refine Unf.h ?_ | refine loopK_n ?_ | refine cutK_n ?_) | ((conv => whnf); first | refine Both.mk ?_ ?_ | refine Fork.mkn (fun h => ?_) (fun h => ?_) | refine Fork.mk (fun h => ?_) (fun h => ?_) | (refine Side.mk ?_ ?_; focus (first | with_reducible rfl | exact True.intro | assumption | omega | (refine congrArg (SV.int _) ?_; omega) | (dsimp only; omega) | (intros; (try simp only [lenS, inR, cutS, loI, hiI] at *); omega) | exact nnS (by decide) | exact List.eq_nil_of_length_eq_zero (by assumption) | exact dT (by omega) | exact dF (by omega) | exact decide_eq_decide.2 (by omega) | (split <;> first | rfl | (exfalso; omega)) | (refine ⟨fun h => ?_, fun h => ?_⟩ <;> first | rfl | (cases h; done) | omega | (exfalso; omega) | (simp only [Bool.false_eq_true] at h; done)) | (simp only [*]; done) | (simp only [*, List.map_cons, List.map_nil, eB]; done) | (simp [*]; done) | (dsimp only [resS, path_c]; done) | (dsimp only [resS, path_c]; first | with_reducible rfl | exact True.intro | assumption | omega | (refine congrArg (SV.int _) ?_; omega) | ((try simp only [lenS, inR, cutS, loI, hiI]); omega) | (simp only [*]; done) | (simp only [*, List.map_cons, List.map_nil, eB]; done) | (simp [*]; done)))) | (refine Idx.mk ?_ ?_; focus (first | omega | (simp only [lenS, inR, cutS, loI, hiI]; omega))) | refine RetE.mk () trivial ?_ | refine Got.mk (fun _ _ => ?_) | refine Ex.mk _ rfl ?_ | refine Ex.mk [_] rfl ?_ | refine Ex.mk [_, _] rfl ?_ | refine Ex.mk [_, _, _] rfl ?_ | refine Ex.mk [_, _, _, _] rfl ?_ | refine boolK (fun h => ?_) ?_ | (with_reducible first | refine Unf.h ?_ | refine loopK_n ?_ | refine cutK_n ?_) | refine retK_n ?_ | refine retK_r ?_ | exact rfl | exact True.intro)); all_goals try (conv => whnf)
  refine LoopS.autoN (I := Int × List Int) (fun p => isT l p.1 ∧ p.2.length + (path l k p.1).1.length ≤ 10000001 ∧ p.2 ++ (path l k p.1).1 = (path l k t).1 ∧ (path l k p.1).2 = (path l k t).2) (fun p => [(1, .int .i64 p.1), (8, .own 3)]) (fun p => [(2, .box 25 [.arr8 k]), (0, .box 85 [.own 1]), (1, .row 51 132 eNd l), (3, .row 3 1 eI p.2)]) 4 (fun p => (p.1 + 1).toNat) (t, []) ⟨ht, ?_, rfl, rfl⟩ ?_ ?_
  · have := path_len (l := l) (k := k) _ t (Nat.le_refl _)
    have := ht.2
    simp only [List.length_nil]; omega
  · repeat' (first | (with_reducible first | refine Unf.h ?_ | refine loopK_n ?_ | refine cutK_n ?_) | ((conv => whnf); first | refine Both.mk ?_ ?_ | refine Fork.mkn (fun h => ?_) (fun h => ?_) | refine Fork.mk (fun h => ?_) (fun h => ?_) | (refine Side.mk ?_ ?_; focus (first | with_reducible rfl | exact True.intro | assumption | omega | (refine congrArg (SV.int _) ?_; omega) | (dsimp only; omega) | (intros; (try simp only [lenS, inR, cutS, loI, hiI] at *); omega) | exact nnS (by decide) | exact List.eq_nil_of_length_eq_zero (by assumption) | exact dT (by omega) | exact dF (by omega) | exact decide_eq_decide.2 (by omega) | (split <;> first | rfl | (exfalso; omega)) | (refine ⟨fun h => ?_, fun h => ?_⟩ <;> first | rfl | (cases h; done) | omega | (exfalso; omega) | (simp only [Bool.false_eq_true] at h; done)) | (simp only [*]; done) | (simp only [*, List.map_cons, List.map_nil, eB]; done) | (simp [*]; done) | (dsimp only [resS, path_c]; done) | (dsimp only [resS, path_c]; first | with_reducible rfl | exact True.intro | assumption | omega | (refine congrArg (SV.int _) ?_; omega) | ((try simp only [lenS, inR, cutS, loI, hiI]); omega) | (simp only [*]; done) | (simp only [*, List.map_cons, List.map_nil, eB]; done) | (simp [*]; done)))) | (refine Idx.mk ?_ ?_; focus (first | omega | (simp only [lenS, inR, cutS, loI, hiI]; omega))) | refine RetE.mk () trivial ?_ | refine Got.mk (fun _ _ => ?_) | refine Ex.mk _ rfl ?_ | refine Ex.mk [_] rfl ?_ | refine Ex.mk [_, _] rfl ?_ | refine Ex.mk [_, _, _] rfl ?_ | refine Ex.mk [_, _, _, _] rfl ?_ | refine boolK (fun h => ?_) ?_ | (with_reducible first | refine Unf.h ?_ | refine loopK_n ?_ | refine cutK_n ?_) | refine retK_n ?_ | refine retK_r ?_ | exact rfl | exact True.intro)); all_goals try (conv => whnf)
  · intro p hq
    obtain ⟨hp1, hpl, hp2, hp3⟩ := hq
    have hp0 := hp1.1
    have hpn := hp1.2
    repeat' (first | (with_reducible first | refine Unf.h ?_ | refine loopK_n ?_ | refine cutK_n ?_) | ((conv => whnf); first | refine Both.mk ?_ ?_ | refine Fork.mkn (fun h => ?_) (fun h => ?_) | refine Fork.mk (fun h => ?_) (fun h => ?_) | (refine Side.mk ?_ ?_; focus (first | with_reducible rfl | exact True.intro | assumption | omega | (refine congrArg (SV.int _) ?_; omega) | (dsimp only; omega) | (intros; (try simp only [lenS, inR, cutS, loI, hiI] at *); omega) | exact nnS (by decide) | exact List.eq_nil_of_length_eq_zero (by assumption) | exact dT (by omega) | exact dF (by omega) | exact decide_eq_decide.2 (by omega) | (split <;> first | rfl | (exfalso; omega)) | (refine ⟨fun h => ?_, fun h => ?_⟩ <;> first | rfl | (cases h; done) | omega | (exfalso; omega) | (simp only [Bool.false_eq_true] at h; done)) | (simp only [*]; done) | (simp only [*, List.map_cons, List.map_nil, eB]; done) | (simp [*]; done) | (dsimp only [resS, path_c]; done) | (dsimp only [resS, path_c]; first | with_reducible rfl | exact True.intro | assumption | omega | (refine congrArg (SV.int _) ?_; omega) | ((try simp only [lenS, inR, cutS, loI, hiI]); omega) | (simp only [*]; done) | (simp only [*, List.map_cons, List.map_nil, eB]; done) | (simp [*]; done)))) | (refine Idx.mk ?_ ?_; focus (first | omega | (simp only [lenS, inR, cutS, loI, hiI]; omega))) | refine RetE.mk () trivial ?_ | refine Got.mk (fun _ _ => ?_) | refine Ex.mk _ rfl ?_ | refine Ex.mk [_] rfl ?_ | refine Ex.mk [_, _] rfl ?_ | refine Ex.mk [_, _, _] rfl ?_ | refine Ex.mk [_, _, _, _] rfl ?_ | refine boolK (fun h => ?_) ?_ | (with_reducible first | refine Unf.h ?_ | refine loopK_n ?_ | refine cutK_n ?_) | refine retK_n ?_ | refine retK_r ?_ | exact rfl | exact True.intro)); all_goals try (conv => whnf)
    · have hin : p.1.toNat < l.length := by omega
      have en := nd_get l p.1 (by omega) hin
      cases hb : (l[p.1.toNat]'hin).leaf
      · rw [en] at hb
        repeat' (first | (with_reducible first | refine Unf.h ?_ | refine loopK_n ?_ | refine cutK_n ?_) | ((conv => whnf); first | refine Both.mk ?_ ?_ | refine Fork.mkn (fun h => ?_) (fun h => ?_) | refine Fork.mk (fun h => ?_) (fun h => ?_) | (refine Side.mk ?_ ?_; focus (first | with_reducible rfl | exact True.intro | assumption | omega | (refine congrArg (SV.int _) ?_; omega) | (dsimp only; omega) | (intros; (try simp only [lenS, inR, cutS, loI, hiI, en, Nd.pfx] at *); omega) | exact nnS (by decide) | exact List.eq_nil_of_length_eq_zero (by assumption) | exact dT (by omega) | exact dF (by omega) | exact decide_eq_decide.2 (by omega) | (split <;> first | rfl | (exfalso; omega)) | (refine ⟨fun h => ?_, fun h => ?_⟩ <;> first | rfl | (cases h; done) | omega | (exfalso; omega) | (simp only [Bool.false_eq_true] at h; done)) | (simp only [*, en, Nd.pfx]; done) | (simp only [*, en, Nd.pfx, List.map_cons, List.map_nil, eB]; done) | (simp [*, en, Nd.pfx]; done) | (dsimp only [resS, path_c]; done) | (dsimp only [resS, path_c]; first | with_reducible rfl | exact True.intro | assumption | omega | (refine congrArg (SV.int _) ?_; omega) | ((try simp only [lenS, inR, cutS, loI, hiI, en, Nd.pfx]); omega) | (simp only [*, en, Nd.pfx]; done) | (simp only [*, en, Nd.pfx, List.map_cons, List.map_nil, eB]; done) | (simp [*, en, Nd.pfx]; done)))) | (refine Idx.mk ?_ ?_; focus (first | omega | (simp only [lenS, inR, cutS, loI, hiI, en, Nd.pfx]; omega))) | refine RetE.mk () trivial ?_ | refine Got.mk (fun _ _ => ?_) | refine Ex.mk _ rfl ?_ | refine Ex.mk [_] rfl ?_ | refine Ex.mk [_, _] rfl ?_ | refine Ex.mk [_, _, _] rfl ?_ | refine Ex.mk [_, _, _, _] rfl ?_ | refine boolK (fun h => ?_) ?_ | (with_reducible first | refine Unf.h ?_ | refine loopK_n ?_ | refine cutK_n ?_) | refine retK_n ?_ | refine retK_r ?_ | exact rfl | exact True.intro | refine CallS.mk (c := holds_c) (((nd l p.1).pfx, k)) ?_)); all_goals try (conv => whnf)
        · have hg : goes l k p.1 := ⟨by assumption, hb, h⟩
          have hx := nxt_ok hc hp1 hg
          have hgo := path_go hc hp1 hg
          rw [hgo] at hp2 hp3 hpl
          simp only [List.length_cons] at hpl
          have hnew : (nxt l k p.1 + 1).toNat < (p.1 + 1).toNat ∧ isT l (nxt l k p.1) ∧ (p.2 ++ [p.1]).length + (path l k (nxt l k p.1)).1.length ≤ 10000001 ∧ (p.2 ++ [p.1]) ++ (path l k (nxt l k p.1)).1 = (path l k t).1 ∧ (path l k (nxt l k p.1)).2 = (path l k t).2 :=
            ⟨by omega, ⟨by omega, by omega⟩, by simp only [List.length_append, List.length_cons, List.length_nil]; omega, by rw [← hp2]; simp, hp3⟩
          refine CallS.mk (c := bit_c) ((k, (nd l p.1).plen)) ?_
          repeat' (first | (with_reducible first | refine Unf.h ?_ | refine loopK_n ?_ | refine cutK_n ?_) | ((conv => whnf); first | refine Both.mk ?_ ?_ | refine Fork.mkn (fun h => ?_) (fun h => ?_) | refine Fork.mk (fun h => ?_) (fun h => ?_) | (refine Side.mk ?_ ?_; focus (first | with_reducible rfl | exact True.intro | assumption | omega | (refine congrArg (SV.int _) ?_; omega) | (dsimp only; omega) | (intros; (try simp only [lenS, inR, cutS, loI, hiI, en] at *); omega) | exact nnS (by decide) | exact List.eq_nil_of_length_eq_zero (by assumption) | exact dT (by omega) | exact dF (by omega) | exact decide_eq_decide.2 (by omega) | (split <;> first | rfl | (exfalso; omega)) | (refine ⟨fun h => ?_, fun h => ?_⟩ <;> first | rfl | (cases h; done) | omega | (exfalso; omega) | (simp only [Bool.false_eq_true] at h; done)) | (simp only [*, en]; done) | (simp only [*, en, List.map_cons, List.map_nil, eB]; done) | (simp [*, en]; done) | (dsimp only [resS, path_c]; done) | (dsimp only [resS, path_c]; first | with_reducible rfl | exact True.intro | assumption | omega | (refine congrArg (SV.int _) ?_; omega) | ((try simp only [lenS, inR, cutS, loI, hiI, en]); omega) | (simp only [*, en]; done) | (simp only [*, en, List.map_cons, List.map_nil, eB]; done) | (simp [*, en]; done)))) | (refine Idx.mk ?_ ?_; focus (first | omega | (simp only [lenS, inR, cutS, loI, hiI, en]; omega))) | refine RetE.mk () trivial ?_ | refine Got.mk (fun _ _ => ?_) | refine Ex.mk _ rfl ?_ | refine Ex.mk [_] rfl ?_ | refine Ex.mk [_, _] rfl ?_ | refine Ex.mk [_, _, _] rfl ?_ | refine Ex.mk [_, _, _, _] rfl ?_ | refine boolK (fun h => ?_) ?_ | (with_reducible first | refine Unf.h ?_ | refine loopK_n ?_ | refine cutK_n ?_) | refine retK_n ?_ | refine retK_r ?_ | exact rfl | exact True.intro)); all_goals try (conv => whnf)
          · have hn : nxt l k p.1 = (nd l p.1).right := if_pos h
            refine ⟨(nxt l k p.1, p.2 ++ [p.1]), hnew, ?_⟩
            repeat' (first | (with_reducible first | refine Unf.h ?_ | refine loopK_n ?_ | refine cutK_n ?_) | ((conv => whnf); first | refine Both.mk ?_ ?_ | refine Fork.mkn (fun h => ?_) (fun h => ?_) | refine Fork.mk (fun h => ?_) (fun h => ?_) | (refine Side.mk ?_ ?_; focus (first | with_reducible rfl | exact True.intro | assumption | omega | (refine congrArg (SV.int _) ?_; omega) | (dsimp only; omega) | (intros; (try simp only [lenS, inR, cutS, loI, hiI, hn, en] at *); omega) | exact nnS (by decide) | exact List.eq_nil_of_length_eq_zero (by assumption) | exact dT (by omega) | exact dF (by omega) | exact decide_eq_decide.2 (by omega) | (split <;> first | rfl | (exfalso; omega)) | (refine ⟨fun h => ?_, fun h => ?_⟩ <;> first | rfl | (cases h; done) | omega | (exfalso; omega) | (simp only [Bool.false_eq_true] at h; done)) | (simp only [*, hn, en]; done) | (simp only [*, hn, en, List.map_cons, List.map_nil, eB]; done) | (simp [*, hn, en]; done) | (dsimp only [resS, path_c]; done) | (dsimp only [resS, path_c]; first | with_reducible rfl | exact True.intro | assumption | omega | (refine congrArg (SV.int _) ?_; omega) | ((try simp only [lenS, inR, cutS, loI, hiI, hn, en]); omega) | (simp only [*, hn, en]; done) | (simp only [*, hn, en, List.map_cons, List.map_nil, eB]; done) | (simp [*, hn, en]; done)))) | (refine Idx.mk ?_ ?_; focus (first | omega | (simp only [lenS, inR, cutS, loI, hiI, hn, en]; omega))) | refine RetE.mk () trivial ?_ | refine Got.mk (fun _ _ => ?_) | refine Ex.mk _ rfl ?_ | refine Ex.mk [_] rfl ?_ | refine Ex.mk [_, _] rfl ?_ | refine Ex.mk [_, _, _] rfl ?_ | refine Ex.mk [_, _, _, _] rfl ?_ | refine boolK (fun h => ?_) ?_ | (with_reducible first | refine Unf.h ?_ | refine loopK_n ?_ | refine cutK_n ?_) | refine retK_n ?_ | refine retK_r ?_ | exact rfl | exact True.intro)); all_goals try (conv => whnf)
          · have hn : nxt l k p.1 = (nd l p.1).left := if_neg h
            refine ⟨(nxt l k p.1, p.2 ++ [p.1]), hnew, ?_⟩
            repeat' (first | (with_reducible first | refine Unf.h ?_ | refine loopK_n ?_ | refine cutK_n ?_) | ((conv => whnf); first | refine Both.mk ?_ ?_ | refine Fork.mkn (fun h => ?_) (fun h => ?_) | refine Fork.mk (fun h => ?_) (fun h => ?_) | (refine Side.mk ?_ ?_; focus (first | with_reducible rfl | exact True.intro | assumption | omega | (refine congrArg (SV.int _) ?_; omega) | (dsimp only; omega) | (intros; (try simp only [lenS, inR, cutS, loI, hiI, hn, en] at *); omega) | exact nnS (by decide) | exact List.eq_nil_of_length_eq_zero (by assumption) | exact dT (by omega) | exact dF (by omega) | exact decide_eq_decide.2 (by omega) | (split <;> first | rfl | (exfalso; omega)) | (refine ⟨fun h => ?_, fun h => ?_⟩ <;> first | rfl | (cases h; done) | omega | (exfalso; omega) | (simp only [Bool.false_eq_true] at h; done)) | (simp only [*, hn, en]; done) | (simp only [*, hn, en, List.map_cons, List.map_nil, eB]; done) | (simp [*, hn, en]; done) | (dsimp only [resS, path_c]; done) | (dsimp only [resS, path_c]; first | with_reducible rfl | exact True.intro | assumption | omega | (refine congrArg (SV.int _) ?_; omega) | ((try simp only [lenS, inR, cutS, loI, hiI, hn, en]); omega) | (simp only [*, hn, en]; done) | (simp only [*, hn, en, List.map_cons, List.map_nil, eB]; done) | (simp [*, hn, en]; done)))) | (refine Idx.mk ?_ ?_; focus (first | omega | (simp only [lenS, inR, cutS, loI, hiI, hn, en]; omega))) | refine RetE.mk () trivial ?_ | refine Got.mk (fun _ _ => ?_) | refine Ex.mk _ rfl ?_ | refine Ex.mk [_] rfl ?_ | refine Ex.mk [_, _] rfl ?_ | refine Ex.mk [_, _, _] rfl ?_ | refine Ex.mk [_, _, _, _] rfl ?_ | refine boolK (fun h => ?_) ?_ | (with_reducible first | refine Unf.h ?_ | refine loopK_n ?_ | refine cutK_n ?_) | refine retK_n ?_ | refine retK_r ?_ | exact rfl | exact True.intro)); all_goals try (conv => whnf)
        · have hg : ¬ goes l k p.1 := fun h' => h h'.2.2
          rw [path_stop hg] at hp2 hp3
          simp only [List.append_nil] at hp2
          repeat' (first | (with_reducible first | refine Unf.h ?_ | refine loopK_n ?_ | refine cutK_n ?_) | ((conv => whnf); first | refine Both.mk ?_ ?_ | refine Fork.mkn (fun h => ?_) (fun h => ?_) | refine Fork.mk (fun h => ?_) (fun h => ?_) | (refine Side.mk ?_ ?_; focus (first | with_reducible rfl | exact True.intro | assumption | omega | (refine congrArg (SV.int _) ?_; omega) | (dsimp only; omega) | (intros; (try simp only [lenS, inR, cutS, loI, hiI, hp2, hp3] at *); omega) | exact nnS (by decide) | exact List.eq_nil_of_length_eq_zero (by assumption) | exact dT (by omega) | exact dF (by omega) | exact decide_eq_decide.2 (by omega) | (split <;> first | rfl | (exfalso; omega)) | (refine ⟨fun h => ?_, fun h => ?_⟩ <;> first | rfl | (cases h; done) | omega | (exfalso; omega) | (simp only [Bool.false_eq_true] at h; done)) | (simp only [*, hp2, hp3]; done) | (simp only [*, hp2, hp3, List.map_cons, List.map_nil, eB]; done) | (simp [*, hp2, hp3]; done) | (dsimp only [resS, path_c]; done) | (dsimp only [resS, path_c]; first | with_reducible rfl | exact True.intro | assumption | omega | (refine congrArg (SV.int _) ?_; omega) | ((try simp only [lenS, inR, cutS, loI, hiI, hp2, hp3]); omega) | (simp only [*, hp2, hp3]; done) | (simp only [*, hp2, hp3, List.map_cons, List.map_nil, eB]; done) | (simp [*, hp2, hp3]; done)))) | (refine Idx.mk ?_ ?_; focus (first | omega | (simp only [lenS, inR, cutS, loI, hiI, hp2, hp3]; omega))) | refine RetE.mk () trivial ?_ | refine Got.mk (fun _ _ => ?_) | refine Ex.mk _ rfl ?_ | refine Ex.mk [_] rfl ?_ | refine Ex.mk [_, _] rfl ?_ | refine Ex.mk [_, _, _] rfl ?_ | refine Ex.mk [_, _, _, _] rfl ?_ | refine boolK (fun h => ?_) ?_ | (with_reducible first | refine Unf.h ?_ | refine loopK_n ?_ | refine cutK_n ?_) | refine retK_n ?_ | refine retK_r ?_ | exact rfl | exact True.intro)); all_goals try (conv => whnf)
      · rw [en] at hb
        have hg : ¬ goes l k p.1 := fun h' => by rw [h'.2.1] at hb; cases hb
        rw [path_stop hg] at hp2 hp3
        simp only [List.append_nil] at hp2
        repeat' (first | (with_reducible first | refine Unf.h ?_ | refine loopK_n ?_ | refine cutK_n ?_) | ((conv => whnf); first | refine Both.mk ?_ ?_ | refine Fork.mkn (fun h => ?_) (fun h => ?_) | refine Fork.mk (fun h => ?_) (fun h => ?_) | (refine Side.mk ?_ ?_; focus (first | with_reducible rfl | exact True.intro | assumption | omega | (refine congrArg (SV.int _) ?_; omega) | (dsimp only; omega) | (intros; (try simp only [lenS, inR, cutS, loI, hiI, hp2, hp3] at *); omega) | exact nnS (by decide) | exact List.eq_nil_of_length_eq_zero (by assumption) | exact dT (by omega) | exact dF (by omega) | exact decide_eq_decide.2 (by omega) | (split <;> first | rfl | (exfalso; omega)) | (refine ⟨fun h => ?_, fun h => ?_⟩ <;> first | rfl | (cases h; done) | omega | (exfalso; omega) | (simp only [Bool.false_eq_true] at h; done)) | (simp only [*, hp2, hp3]; done) | (simp only [*, hp2, hp3, List.map_cons, List.map_nil, eB]; done) | (simp [*, hp2, hp3]; done) | (dsimp only [resS, path_c]; done) | (dsimp only [resS, path_c]; first | with_reducible rfl | exact True.intro | assumption | omega | (refine congrArg (SV.int _) ?_; omega) | ((try simp only [lenS, inR, cutS, loI, hiI, hp2, hp3]); omega) | (simp only [*, hp2, hp3]; done) | (simp only [*, hp2, hp3, List.map_cons, List.map_nil, eB]; done) | (simp [*, hp2, hp3]; done)))) | (refine Idx.mk ?_ ?_; focus (first | omega | (simp only [lenS, inR, cutS, loI, hiI, hp2, hp3]; omega))) | refine RetE.mk () trivial ?_ | refine Got.mk (fun _ _ => ?_) | refine Ex.mk _ rfl ?_ | refine Ex.mk [_] rfl ?_ | refine Ex.mk [_, _] rfl ?_ | refine Ex.mk [_, _, _] rfl ?_ | refine Ex.mk [_, _, _, _] rfl ?_ | refine boolK (fun h => ?_) ?_ | (with_reducible first | refine Unf.h ?_ | refine loopK_n ?_ | refine cutK_n ?_) | refine retK_n ?_ | refine retK_r ?_ | exact rfl | exact True.intro)); all_goals try (conv => whnf)
    · have hg : ¬ goes l k p.1 := fun h' => h'.1 h
      rw [path_stop hg] at hp2 hp3
      simp only [List.append_nil] at hp2
      clear h
      repeat' (first | (with_reducible first | refine Unf.h ?_ | refine loopK_n ?_ | refine cutK_n ?_) | ((conv => whnf); first | refine Both.mk ?_ ?_ | refine Fork.mkn (fun h => ?_) (fun h => ?_) | refine Fork.mk (fun h => ?_) (fun h => ?_) | (refine Side.mk ?_ ?_; focus (first | with_reducible rfl | exact True.intro | assumption | omega | (refine congrArg (SV.int _) ?_; omega) | (dsimp only; omega) | (intros; (try simp only [lenS, inR, cutS, loI, hiI, hp2, hp3] at *); omega) | exact nnS (by decide) | exact List.eq_nil_of_length_eq_zero (by assumption) | exact dT (by omega) | exact dF (by omega) | exact decide_eq_decide.2 (by omega) | (split <;> first | rfl | (exfalso; omega)) | (refine ⟨fun h => ?_, fun h => ?_⟩ <;> first | rfl | (cases h; done) | omega | (exfalso; omega) | (simp only [Bool.false_eq_true] at h; done)) | (simp only [*, hp2, hp3]; done) | (simp only [*, hp2, hp3, List.map_cons, List.map_nil, eB]; done) | (simp [*, hp2, hp3]; done) | (dsimp only [resS, path_c]; done) | (dsimp only [resS, path_c]; first | with_reducible rfl | exact True.intro | assumption | omega | (refine congrArg (SV.int _) ?_; omega) | ((try simp only [lenS, inR, cutS, loI, hiI, hp2, hp3]); omega) | (simp only [*, hp2, hp3]; done) | (simp only [*, hp2, hp3, List.map_cons, List.map_nil, eB]; done) | (simp [*, hp2, hp3]; done)))) | (refine Idx.mk ?_ ?_; focus (first | omega | (simp only [lenS, inR, cutS, loI, hiI, hp2, hp3]; omega))) | refine RetE.mk () trivial ?_ | refine Got.mk (fun _ _ => ?_) | refine Ex.mk _ rfl ?_ | refine Ex.mk [_] rfl ?_ | refine Ex.mk [_, _] rfl ?_ | refine Ex.mk [_, _, _] rfl ?_ | refine Ex.mk [_, _, _, _] rfl ?_ | refine boolK (fun h => ?_) ?_ | (with_reducible first | refine Unf.h ?_ | refine loopK_n ?_ | refine cutK_n ?_) | refine retK_n ?_ | refine retK_r ?_ | exact rfl | exact True.intro)); all_goals try (conv => whnf)
end Go.Proofs.YtffaohckcggkdaaDoor

namespace Go.Proofs.YtffaohckcggkdaaDoor
set_option linter.all false
open Go.RowKit
/-- the node over two that meet nowhere -/
def joinN (l : Fo) (a b : Int) : Nd :=
  let m := meetP (nd l a).cover (nd l b).cover
  if bitI (nd l a).cover.bits m.len = 1 then ⟨false, zeroH, zeroH, m.len, m.bits, b, a, zeroH⟩ else ⟨false, zeroH, zeroH, m.len, m.bits, a, b, zeroH⟩
def join_c : Ctr where
  D := Fo × Int × Int
  pre := fun (l, a, b) => l.length ≤ 10000000 ∧ inF l a ∧ inF l b
  args := fun (_, a, b) => [.ptr 0 0, .int .i64 a, .int .i64 b]
  objs := fun (l, _) => fo l
  nn := 2
  res := fun (l, _) _ => .int .i64 l.length
  out := fun (l, a, b) _ => [(0, .box 85 [.own 2]), (2, .row 51 132 eNd (l ++ [mk l (joinN l a b)]))]
  mm := 1
def join_H : Cfg := ⟨[(85, cover_c), (87, meet_c), (54, bit_c), (69, add_c)], [(1, [3, 6, 11, 14], [7, 15, 16, 17, 18, 19], (.one 0 0 false (.one 1 0 false (.one 2 0 false (.one 3 1 false (.one 4 0 false (.one 5 0 false (.one 6 1 false (.one 8 0 false (.one 9 0 false (.one 10 0 false (.one 11 1 false (.one 12 0 false (.one 13 0 false (.one 14 1 false (.alt 7 true (.alt 15 true (.alt 16 true (.one 17 2 true (.one 18 2 false (.one 19 2 false .nil))) (.one 17 2 true (.one 16 2 true (.one 18 2 false (.one 19 2 false .nil))))) (.alt 16 true (.alt 15 true (.one 17 2 true (.one 18 2 false (.one 19 2 false .nil))) (.one 17 2 true (.one 15 2 false (.one 18 2 false (.one 19 2 false .nil))))) (.one 17 2 true (.alt 15 true (.one 16 2 true (.one 18 2 false (.one 19 2 false .nil))) (.one 16 2 true (.one 15 2 false (.one 18 2 false (.one 19 2 false .nil)))))))) (.alt 16 true (.alt 7 true (.alt 15 true (.one 17 2 true (.one 18 2 false (.one 19 2 false .nil))) (.one 17 2 true (.one 15 2 false (.one 18 2 false (.one 19 2 false .nil))))) (.one 17 2 true (.one 7 2 true (.one 15 2 false (.one 18 2 false (.one 19 2 false .nil)))))) (.one 17 2 true (.alt 7 true (.alt 15 true (.one 16 2 true (.one 18 2 false (.one 19 2 false .nil))) (.one 16 2 true (.one 15 2 false (.one 18 2 false (.one 19 2 false .nil))))) (.one 16 2 true (.one 7 2 true (.one 15 2 false (.one 18 2 false (.one 19 2 false .nil))))))))))))))))))))))), [])], [], [], 43, 2, [], [1]⟩
theorem join_ok : join_c.Ok Tryd.prog 75 := by
  refine fn_ok join_H 2 rfl _ Tryd.func75 rfl rfl ⟨cover_ok, meet_ok, bit_ok, add_ok, trivial⟩ rfl rfl (by kernel_rfl) (fun _ => Nat.le_of_ble_eq_true rfl) ?_
  rintro ⟨l, a, b⟩ hp hr
  try dsimp only [join_c] at hp
  try simp only [join_c, Rng, RngL, inR, and_true, true_and] at hr
  obtain ⟨hlen, ⟨ha0, ha1⟩, hb0, hb1⟩ := hp
  have ea := nd_get l a ha0 (by omega)
  have eb := nd_get l b hb0 (by omega)
  repeat' (first | (with_reducible first | refine Unf.h ?_ | refine loopK_n ?_ | refine cutK_n ?_) | ((conv => whnf); first | refine Both.mk ?_ ?_ | refine Fork.mkn (fun h => ?_) (fun h => ?_) | refine Fork.mk (fun h => ?_) (fun h => ?_) | (refine Side.mk ?_ ?_; focus (first | with_reducible rfl | exact True.intro | assumption | omega | (refine congrArg (SV.int _) ?_; omega) | (dsimp only; omega) | (intros; (try simp only [lenS, inR, cutS, loI, hiI] at *); omega) | exact nnS (by decide) | exact List.eq_nil_of_length_eq_zero (by assumption) | exact dT (by omega) | exact dF (by omega) | exact decide_eq_decide.2 (by omega) | (split <;> first | rfl | (exfalso; omega)) | (refine ⟨fun h => ?_, fun h => ?_⟩ <;> first | rfl | (cases h; done) | omega | (exfalso; omega) | (simp only [Bool.false_eq_true] at h; done)) | (simp only [*]; done) | (simp only [*, List.map_cons, List.map_nil, eB]; done) | (simp [*]; done) | (dsimp only [resS, join_c]; done) | (dsimp only [resS, join_c]; first | with_reducible rfl | exact True.intro | assumption | omega | (refine congrArg (SV.int _) ?_; omega) | ((try simp only [lenS, inR, cutS, loI, hiI]); omega) | (simp only [*]; done) | (simp only [*, List.map_cons, List.map_nil, eB]; done) | (simp [*]; done)))) | (refine Idx.mk ?_ ?_; focus (first | omega | (simp only [lenS, inR, cutS, loI, hiI]; omega))) | refine RetE.mk () trivial ?_ | refine Got.mk (fun _ _ => ?_) | refine Ex.mk _ rfl ?_ | refine Ex.mk [_] rfl ?_ | refine Ex.mk [_, _] rfl ?_ | refine Ex.mk [_, _, _] rfl ?_ | refine Ex.mk [_, _, _, _] rfl ?_ | refine boolK (fun h => ?_) ?_ | (with_reducible first | refine Unf.h ?_ | refine loopK_n ?_ | refine cutK_n ?_) | refine retK_n ?_ | refine retK_r ?_ | exact rfl | exact True.intro)); all_goals try (conv => whnf)
  refine CutS.auto (I := Unit) (fun _ => True) (fun _ => [(7, .ptr 2 0), (8, .ptr 3 0)]) (fun _ => [(0, .box 85 [.own 1]), (1, .row 51 132 eNd l), (2, .box 27 (ePfx (nd l a).cover)), (3, .box 27 (ePfx (nd l b).cover))]) 4 ?_ ?_
  · repeat' (first | (with_reducible first | refine Unf.h ?_ | refine loopK_n ?_ | refine cutK_n ?_) | ((conv => whnf); first | refine Both.mk ?_ ?_ | refine Fork.mkn (fun h => ?_) (fun h => ?_) | refine Fork.mk (fun h => ?_) (fun h => ?_) | (refine Side.mk ?_ ?_; focus (first | with_reducible rfl | exact True.intro | assumption | omega | (refine congrArg (SV.int _) ?_; omega) | (dsimp only; omega) | (intros; (try simp only [lenS, inR, cutS, loI, hiI] at *); omega) | exact nnS (by decide) | exact List.eq_nil_of_length_eq_zero (by assumption) | exact dT (by omega) | exact dF (by omega) | exact decide_eq_decide.2 (by omega) | (split <;> first | rfl | (exfalso; omega)) | (refine ⟨fun h => ?_, fun h => ?_⟩ <;> first | rfl | (cases h; done) | omega | (exfalso; omega) | (simp only [Bool.false_eq_true] at h; done)) | (simp only [*]; done) | (simp only [*, List.map_cons, List.map_nil, eB]; done) | (simp [*]; done) | (dsimp only [resS, join_c]; done) | (dsimp only [resS, join_c]; first | with_reducible rfl | exact True.intro | assumption | omega | (refine congrArg (SV.int _) ?_; omega) | ((try simp only [lenS, inR, cutS, loI, hiI]); omega) | (simp only [*]; done) | (simp only [*, List.map_cons, List.map_nil, eB]; done) | (simp [*]; done)))) | (refine Idx.mk ?_ ?_; focus (first | omega | (simp only [lenS, inR, cutS, loI, hiI]; omega))) | refine RetE.mk () trivial ?_ | refine Got.mk (fun _ _ => ?_) | refine Ex.mk _ rfl ?_ | refine Ex.mk [_] rfl ?_ | refine Ex.mk [_, _] rfl ?_ | refine Ex.mk [_, _, _] rfl ?_ | refine Ex.mk [_, _, _, _] rfl ?_ | refine boolK (fun h => ?_) ?_ | (with_reducible first | refine Unf.h ?_ | refine loopK_n ?_ | refine cutK_n ?_) | refine retK_n ?_ | refine retK_r ?_ | exact rfl | exact True.intro)); all_goals try (conv => whnf)
    all_goals refine CallS.mk (c := cover_c) ((nd l a)) ?_
    all_goals (repeat' (first | (with_reducible first | refine Unf.h ?_ | refine loopK_n ?_ | refine cutK_n ?_) | ((conv => whnf); first | refine Both.mk ?_ ?_ | refine Fork.mkn (fun h => ?_) (fun h => ?_) | refine Fork.mk (fun h => ?_) (fun h => ?_) | (refine Side.mk ?_ ?_; focus (first | with_reducible rfl | exact True.intro | assumption | omega | (refine congrArg (SV.int _) ?_; omega) | (dsimp only; omega) | (intros; (try simp only [lenS, inR, cutS, loI, hiI, ea] at *); omega) | exact nnS (by decide) | exact List.eq_nil_of_length_eq_zero (by assumption) | exact dT (by omega) | exact dF (by omega) | exact decide_eq_decide.2 (by omega) | (split <;> first | rfl | (exfalso; omega)) | (refine ⟨fun h => ?_, fun h => ?_⟩ <;> first | rfl | (cases h; done) | omega | (exfalso; omega) | (simp only [Bool.false_eq_true] at h; done)) | (simp only [*, ea]; done) | (simp only [*, ea, List.map_cons, List.map_nil, eB]; done) | (simp [*, ea]; done) | (dsimp only [resS, join_c]; done) | (dsimp only [resS, join_c]; first | with_reducible rfl | exact True.intro | assumption | omega | (refine congrArg (SV.int _) ?_; omega) | ((try simp only [lenS, inR, cutS, loI, hiI, ea]); omega) | (simp only [*, ea]; done) | (simp only [*, ea, List.map_cons, List.map_nil, eB]; done) | (simp [*, ea]; done)))) | (refine Idx.mk ?_ ?_; focus (first | omega | (simp only [lenS, inR, cutS, loI, hiI, ea]; omega))) | refine RetE.mk () trivial ?_ | refine Got.mk (fun _ _ => ?_) | refine Ex.mk _ rfl ?_ | refine Ex.mk [_] rfl ?_ | refine Ex.mk [_, _] rfl ?_ | refine Ex.mk [_, _, _] rfl ?_ | refine Ex.mk [_, _, _, _] rfl ?_ | refine boolK (fun h => ?_) ?_ | (with_reducible first | refine Unf.h ?_ | refine loopK_n ?_ | refine cutK_n ?_) | refine retK_n ?_ | refine retK_r ?_ | exact rfl | exact True.intro)); all_goals try (conv => whnf))
    all_goals refine CallS.mk (c := cover_c) ((nd l b)) ?_
    all_goals (repeat' (first | (with_reducible first | refine Unf.h ?_ | refine loopK_n ?_ | refine cutK_n ?_) | ((conv => whnf); first | refine Both.mk ?_ ?_ | refine Fork.mkn (fun h => ?_) (fun h => ?_) | refine Fork.mk (fun h => ?_) (fun h => ?_) | (refine Side.mk ?_ ?_; focus (first | with_reducible rfl | exact True.intro | assumption | omega | (refine congrArg (SV.int _) ?_; omega) | (dsimp only; omega) | (intros; (try simp only [lenS, inR, cutS, loI, hiI, eb] at *); omega) | exact nnS (by decide) | exact List.eq_nil_of_length_eq_zero (by assumption) | exact dT (by omega) | exact dF (by omega) | exact decide_eq_decide.2 (by omega) | (split <;> first | rfl | (exfalso; omega)) | (refine ⟨fun h => ?_, fun h => ?_⟩ <;> first | rfl | (cases h; done) | omega | (exfalso; omega) | (simp only [Bool.false_eq_true] at h; done)) | (simp only [*, eb]; done) | (simp only [*, eb, List.map_cons, List.map_nil, eB]; done) | (simp [*, eb]; done) | (dsimp only [resS, join_c]; done) | (dsimp only [resS, join_c]; first | with_reducible rfl | exact True.intro | assumption | omega | (refine congrArg (SV.int _) ?_; omega) | ((try simp only [lenS, inR, cutS, loI, hiI, eb]); omega) | (simp only [*, eb]; done) | (simp only [*, eb, List.map_cons, List.map_nil, eB]; done) | (simp [*, eb]; done)))) | (refine Idx.mk ?_ ?_; focus (first | omega | (simp only [lenS, inR, cutS, loI, hiI, eb]; omega))) | refine RetE.mk () trivial ?_ | refine Got.mk (fun _ _ => ?_) | refine Ex.mk _ rfl ?_ | refine Ex.mk [_] rfl ?_ | refine Ex.mk [_, _] rfl ?_ | refine Ex.mk [_, _, _] rfl ?_ | refine Ex.mk [_, _, _, _] rfl ?_ | refine boolK (fun h => ?_) ?_ | (with_reducible first | refine Unf.h ?_ | refine loopK_n ?_ | refine cutK_n ?_) | refine retK_n ?_ | refine retK_r ?_ | exact rfl | exact True.intro)); all_goals try (conv => whnf))
    all_goals (refine ⟨(), trivial, ?_⟩)
    all_goals (repeat' (first | (with_reducible first | refine Unf.h ?_ | refine loopK_n ?_ | refine cutK_n ?_) | ((conv => whnf); first | refine Both.mk ?_ ?_ | refine Fork.mkn (fun h => ?_) (fun h => ?_) | refine Fork.mk (fun h => ?_) (fun h => ?_) | (refine Side.mk ?_ ?_; focus (first | with_reducible rfl | exact True.intro | assumption | omega | (refine congrArg (SV.int _) ?_; omega) | (dsimp only; omega) | (intros; (try simp only [lenS, inR, cutS, loI, hiI] at *); omega) | exact nnS (by decide) | exact List.eq_nil_of_length_eq_zero (by assumption) | exact dT (by omega) | exact dF (by omega) | exact decide_eq_decide.2 (by omega) | (split <;> first | rfl | (exfalso; omega)) | (refine ⟨fun h => ?_, fun h => ?_⟩ <;> first | rfl | (cases h; done) | omega | (exfalso; omega) | (simp only [Bool.false_eq_true] at h; done)) | (simp only [*]; done) | (simp only [*, List.map_cons, List.map_nil, eB]; done) | (simp [*]; done) | (dsimp only [resS, join_c]; done) | (dsimp only [resS, join_c]; first | with_reducible rfl | exact True.intro | assumption | omega | (refine congrArg (SV.int _) ?_; omega) | ((try simp only [lenS, inR, cutS, loI, hiI]); omega) | (simp only [*]; done) | (simp only [*, List.map_cons, List.map_nil, eB]; done) | (simp [*]; done)))) | (refine Idx.mk ?_ ?_; focus (first | omega | (simp only [lenS, inR, cutS, loI, hiI]; omega))) | refine RetE.mk () trivial ?_ | refine Got.mk (fun _ _ => ?_) | refine Ex.mk _ rfl ?_ | refine Ex.mk [_] rfl ?_ | refine Ex.mk [_, _] rfl ?_ | refine Ex.mk [_, _, _] rfl ?_ | refine Ex.mk [_, _, _, _] rfl ?_ | refine boolK (fun h => ?_) ?_ | (with_reducible first | refine Unf.h ?_ | refine loopK_n ?_ | refine cutK_n ?_) | refine retK_n ?_ | refine retK_r ?_ | exact rfl | exact True.intro)); all_goals try (conv => whnf))
  · intro _ _
    repeat' (first | (with_reducible first | refine Unf.h ?_ | refine loopK_n ?_ | refine cutK_n ?_) | ((conv => whnf); first | refine Both.mk ?_ ?_ | refine Fork.mkn (fun h => ?_) (fun h => ?_) | refine Fork.mk (fun h => ?_) (fun h => ?_) | (refine Side.mk ?_ ?_; focus (first | with_reducible rfl | exact True.intro | assumption | omega | (refine congrArg (SV.int _) ?_; omega) | (dsimp only; omega) | (intros; (try simp only [lenS, inR, cutS, loI, hiI] at *); omega) | exact nnS (by decide) | exact List.eq_nil_of_length_eq_zero (by assumption) | exact dT (by omega) | exact dF (by omega) | exact decide_eq_decide.2 (by omega) | (split <;> first | rfl | (exfalso; omega)) | (refine ⟨fun h => ?_, fun h => ?_⟩ <;> first | rfl | (cases h; done) | omega | (exfalso; omega) | (simp only [Bool.false_eq_true] at h; done)) | (simp only [*]; done) | (simp only [*, List.map_cons, List.map_nil, eB]; done) | (simp [*]; done) | (dsimp only [resS, join_c]; done) | (dsimp only [resS, join_c]; first | with_reducible rfl | exact True.intro | assumption | omega | (refine congrArg (SV.int _) ?_; omega) | ((try simp only [lenS, inR, cutS, loI, hiI]); omega) | (simp only [*]; done) | (simp only [*, List.map_cons, List.map_nil, eB]; done) | (simp [*]; done)))) | (refine Idx.mk ?_ ?_; focus (first | omega | (simp only [lenS, inR, cutS, loI, hiI]; omega))) | refine RetE.mk () trivial ?_ | refine Got.mk (fun _ _ => ?_) | refine Ex.mk _ rfl ?_ | refine Ex.mk [_] rfl ?_ | refine Ex.mk [_, _] rfl ?_ | refine Ex.mk [_, _, _] rfl ?_ | refine Ex.mk [_, _, _, _] rfl ?_ | refine boolK (fun h => ?_) ?_ | (with_reducible first | refine Unf.h ?_ | refine loopK_n ?_ | refine cutK_n ?_) | refine retK_n ?_ | refine retK_r ?_ | exact rfl | exact True.intro | refine CallS.mk (c := meet_c) (((nd l a).cover, (nd l b).cover)) ?_ | refine CallS.mk (c := bit_c) (((nd l a).cover.bits, (meetP (nd l a).cover (nd l b).cover).len)) ?_)); all_goals try (conv => whnf)
    · have hj : joinN l a b = ⟨false, zeroH, zeroH, (meetP (nd l a).cover (nd l b).cover).len, (meetP (nd l a).cover (nd l b).cover).bits, b, a, zeroH⟩ := if_pos h
      have hadd : addable l (joinN l a b) := .inr (by rw [hj]; exact ⟨⟨hb0, hb1⟩, ha0, ha1⟩)
      refine CallS.mk (c := add_c) ((l, joinN l a b)) ?_
      repeat' (first | (with_reducible first | refine Unf.h ?_ | refine loopK_n ?_ | refine cutK_n ?_) | ((conv => whnf); first | refine Both.mk ?_ ?_ | refine Fork.mkn (fun h => ?_) (fun h => ?_) | refine Fork.mk (fun h => ?_) (fun h => ?_) | (refine Side.mk ?_ ?_; focus (first | with_reducible rfl | exact True.intro | assumption | omega | (refine congrArg (SV.int _) ?_; omega) | (dsimp only; omega) | (intros; (try simp only [lenS, inR, cutS, loI, hiI, hj] at *); omega) | exact nnS (by decide) | exact List.eq_nil_of_length_eq_zero (by assumption) | exact dT (by omega) | exact dF (by omega) | exact decide_eq_decide.2 (by omega) | (split <;> first | rfl | (exfalso; omega)) | (refine ⟨fun h => ?_, fun h => ?_⟩ <;> first | rfl | (cases h; done) | omega | (exfalso; omega) | (simp only [Bool.false_eq_true] at h; done)) | (simp only [*, hj]; done) | (simp only [*, hj, List.map_cons, List.map_nil, eB]; done) | (simp [*, hj]; done) | (dsimp only [resS, join_c, add_c]; done) | (dsimp only [resS, join_c, add_c]; first | with_reducible rfl | exact True.intro | assumption | omega | (refine congrArg (SV.int _) ?_; omega) | ((try simp only [lenS, inR, cutS, loI, hiI, hj]); omega) | (refine ⟨?_, ?_⟩; all_goals (repeat' apply And.intro); all_goals first | omega | assumption | (simp only [lenS, inR, cutS, loI, hiI, hj]; omega) | (simp; done) | (simp only [*, hj]; done) | (simp only [*, hj, List.map_cons, List.map_nil, eB]; done) | (simp [*, hj]; done)) | (simp only [*, hj]; done) | (simp only [*, hj, List.map_cons, List.map_nil, eB]; done) | (simp [*, hj]; done)))) | (refine Idx.mk ?_ ?_; focus (first | omega | (simp only [lenS, inR, cutS, loI, hiI, hj]; omega))) | refine RetE.mk () trivial ?_ | refine Got.mk (fun _ _ => ?_) | refine Ex.mk _ rfl ?_ | refine Ex.mk [_] rfl ?_ | refine Ex.mk [_, _] rfl ?_ | refine Ex.mk [_, _, _] rfl ?_ | refine Ex.mk [_, _, _, _] rfl ?_ | refine boolK (fun h => ?_) ?_ | (with_reducible first | refine Unf.h ?_ | refine loopK_n ?_ | refine cutK_n ?_) | refine retK_n ?_ | refine retK_r ?_ | exact rfl | exact True.intro)); all_goals try (conv => whnf)
    · have hj : joinN l a b = ⟨false, zeroH, zeroH, (meetP (nd l a).cover (nd l b).cover).len, (meetP (nd l a).cover (nd l b).cover).bits, a, b, zeroH⟩ := if_neg h
      have hadd : addable l (joinN l a b) := .inr (by rw [hj]; exact ⟨⟨ha0, ha1⟩, hb0, hb1⟩)
      refine CallS.mk (c := add_c) ((l, joinN l a b)) ?_
      repeat' (first | (with_reducible first | refine Unf.h ?_ | refine loopK_n ?_ | refine cutK_n ?_) | ((conv => whnf); first | refine Both.mk ?_ ?_ | refine Fork.mkn (fun h => ?_) (fun h => ?_) | refine Fork.mk (fun h => ?_) (fun h => ?_) | (refine Side.mk ?_ ?_; focus (first | with_reducible rfl | exact True.intro | assumption | omega | (refine congrArg (SV.int _) ?_; omega) | (dsimp only; omega) | (intros; (try simp only [lenS, inR, cutS, loI, hiI, hj] at *); omega) | exact nnS (by decide) | exact List.eq_nil_of_length_eq_zero (by assumption) | exact dT (by omega) | exact dF (by omega) | exact decide_eq_decide.2 (by omega) | (split <;> first | rfl | (exfalso; omega)) | (refine ⟨fun h => ?_, fun h => ?_⟩ <;> first | rfl | (cases h; done) | omega | (exfalso; omega) | (simp only [Bool.false_eq_true] at h; done)) | (simp only [*, hj]; done) | (simp only [*, hj, List.map_cons, List.map_nil, eB]; done) | (simp [*, hj]; done) | (dsimp only [resS, join_c, add_c]; done) | (dsimp only [resS, join_c, add_c]; first | with_reducible rfl | exact True.intro | assumption | omega | (refine congrArg (SV.int _) ?_; omega) | ((try simp only [lenS, inR, cutS, loI, hiI, hj]); omega) | (refine ⟨?_, ?_⟩; all_goals (repeat' apply And.intro); all_goals first | omega | assumption | (simp only [lenS, inR, cutS, loI, hiI, hj]; omega) | (simp; done) | (simp only [*, hj]; done) | (simp only [*, hj, List.map_cons, List.map_nil, eB]; done) | (simp [*, hj]; done)) | (simp only [*, hj]; done) | (simp only [*, hj, List.map_cons, List.map_nil, eB]; done) | (simp [*, hj]; done)))) | (refine Idx.mk ?_ ?_; focus (first | omega | (simp only [lenS, inR, cutS, loI, hiI, hj]; omega))) | refine RetE.mk () trivial ?_ | refine Got.mk (fun _ _ => ?_) | refine Ex.mk _ rfl ?_ | refine Ex.mk [_] rfl ?_ | refine Ex.mk [_, _] rfl ?_ | refine Ex.mk [_, _, _] rfl ?_ | refine Ex.mk [_, _, _, _] rfl ?_ | refine boolK (fun h => ?_) ?_ | (with_reducible first | refine Unf.h ?_ | refine loopK_n ?_ | refine cutK_n ?_) | refine retK_n ?_ | refine retK_r ?_ | exact rfl | exact True.intro)); all_goals try (conv => whnf)
end Go.Proofs.YtffaohckcggkdaaDoor

namespace Go.Proofs.YtffaohckcggkdaaDoor
set_option linter.all false
open Go.RowKit
/-! a key put -/
abbrev leafN (k v : H256) : Nd := ⟨true, k, v, 0, zeroH, 0, 0, zeroH⟩
def turnN (k : H256) (n : Nd) (m : Int) : Nd := if bitI k n.plen = 1 then ⟨n.leaf, n.key, n.value, n.plen, n.bits, n.left, m, n.hash⟩ else ⟨n.leaf, n.key, n.value, n.plen, n.bits, m, n.right, n.hash⟩
def upS (k : H256) (a : Int) (s : Fo × Int) : Fo × Int := (s.1 ++ [mk s.1 (turnN k (nd s.1 a) s.2)], s.1.length)
def upF (k : H256) : List Int → Fo × Int → Fo × Int
  | [], s => s
  | a :: r, s => upS k a (upF k r s)
def meets (l : Fo) (k : H256) (e : Int) : Prop := e ≠ -1 ∧ ¬ ((nd l e).leaf = true ∧ (nd l e).key = k)
instance (l : Fo) (k : H256) (e : Int) : Decidable (meets l k e) := inferInstanceAs (Decidable (_ ∧ ¬ (_ ∧ _)))
def startF (l : Fo) (k v : H256) (e : Int) : Fo × Int :=
  let l1 := l ++ [mk l (leafN k v)]
  if meets l k e then (l1 ++ [mk l1 (joinN l1 e l.length)], l1.length) else (l1, l.length)
def putF (l : Fo) (t : Int) (k v : H256) : Fo × Int := upF k (path l k t).1 (startF l k v (path l k t).2)
theorem path_mem {l : Fo} {k : H256} (hc : closed l) : ∀ (n : Nat) (t : Int), (t + 1).toNat ≤ n → isT l t → (∀ a ∈ (path l k t).1, inF l a ∧ (nd l a).leaf = false) ∧ isT l (path l k t).2
  | n, t, hn, ht => by
    by_cases hg : goes l k t
    · have hx := nxt_ok hc ht hg
      rw [path_go hc ht hg]
      match n with
      | 0 => have := ht.1; omega
      | n + 1 =>
        have ih := path_mem (k := k) hc n (nxt l k t) (by omega) ⟨by omega, by have := ht.2; omega⟩
        refine ⟨fun a ha => ?_, ih.2⟩
        rcases List.mem_cons.1 ha with rfl | ha
        · exact ⟨⟨by have := ht.1; have := hg.1; omega, ht.2⟩, hg.2.1⟩
        · exact ih.1 a ha
    · rw [path_stop hg]; exact ⟨fun a ha => (by cases ha), ht⟩
theorem startF_ok {l : Fo} {k v : H256} {e : Int} : ∃ m, (startF l k v e).1 = l ++ m ∧ 1 ≤ m.length ∧ m.length ≤ 2 ∧ (startF l k v e).2 = l.length + m.length - 1 := by
  unfold startF
  simp only
  split
  · exact ⟨_, List.append_assoc _ _ _, by simp, by simp, by simp; omega⟩
  · exact ⟨_, rfl, by simp, by simp, by simp⟩
theorem upF_ok {l : Fo} {k : H256} {s : Fo × Int} (h : ∃ m, s.1 = l ++ m ∧ 1 ≤ m.length ∧ s.2 = l.length + m.length - 1) : ∀ r : List Int, ∃ m, (upF k r s).1 = l ++ m ∧ 1 ≤ m.length ∧ (upF k r s).2 = l.length + m.length - 1 ∧ (upF k r s).1.length = s.1.length + r.length
  | [] => by obtain ⟨m, h1, h2, h3⟩ := h; exact ⟨m, h1, h2, h3, rfl⟩
  | a :: r => by
    obtain ⟨m, h1, h2, h3, h4⟩ := upF_ok h r
    refine ⟨m ++ [mk (upF k r s).1 (turnN k (nd (upF k r s).1 a) (upF k r s).2)], ?_, by simp, ?_, ?_⟩
    · show (upF k r s).1 ++ _ = _
      conv => lhs; rw [h1]
      rw [List.append_assoc, h1]
    · show ((upF k r s).1.length : Int) = _
      rw [h1]; simp; omega
    · show ((upF k r s).1 ++ _).length = _
      simp only [List.length_append, List.length_cons, List.length_nil]; omega
def put_c : Ctr where
  D := Fo × Int × H256 × H256
  pre := fun (l, t, _, _) => l.length ≤ 400000 ∧ closed l ∧ isT l t
  args := fun (_, t, k, v) => [.ptr 0 0, .int .i64 t, .agg [.arr8 k], .agg [.arr8 v]]
  objs := fun (l, _) => fo l
  nn := 2
  res := fun (l, t, k, v) _ => .tup [.int .i64 (putF l t k v).2, .int .i64 0]
  out := fun (l, t, k, v) _ => [(0, .box 85 [.own 2]), (2, .row 51 132 eNd (putF l t k v).1)]
  mm := 1
def put_H : Cfg := ⟨[(72, is_c), (74, path_c), (69, add_c), (75, join_c), (54, bit_c)], [(7, [6, 10, 15, 19, 20], [], (.one 0 0 false (.one 1 0 false (.one 2 0 false (.one 3 0 false (.one 4 0 false (.one 5 0 false (.one 6 1 false (.one 7 0 false (.one 8 0 false (.one 9 0 false (.one 10 1 false (.one 11 0 false (.one 12 0 false (.one 13 0 false (.one 14 0 false (.one 15 1 false (.one 16 0 false (.one 17 0 false (.one 18 0 false (.one 19 1 false (.one 20 1 false (.one 21 0 false (.one 22 0 false (.one 23 0 false (.one 24 0 false .nil))))))))))))))))))))))))), []), (12, [3, 7, 9], [10, 11], (.one 0 0 false (.one 1 0 false (.one 2 0 false (.one 3 1 false (.one 4 0 false (.one 5 0 false (.one 6 0 false (.one 7 1 false (.one 8 0 false (.one 9 1 false (.one 10 2 true (.one 11 2 false .nil)))))))))))), [])], [65], [], 101, 2, [], [7]⟩
theorem put_ok : put_c.Ok Tryd.prog 44 := by
  refine fn_ok put_H 2 rfl _ Tryd.func44 rfl rfl ⟨is_ok, path_ok, add_ok, join_ok, bit_ok, trivial⟩ rfl rfl (by kernel_rfl) (fun _ => Nat.le_of_ble_eq_true rfl) ?_
  rintro ⟨l, t, k, v⟩ hp hr
  try dsimp only [put_c] at hp
  try simp only [put_c, Rng, RngL, inR, and_true, true_and] at hr
  obtain ⟨hlen, hc, ht⟩ := hp
  have hpl := path_len (l := l) (k := k) _ t (Nat.le_refl _)
  have ht1 := ht.1
  have ht2 := ht.2
  obtain ⟨hpm, hpe⟩ := path_mem (k := k) hc _ t (Nat.le_refl _) ht
  have hl1 : addable l (leafN k v) := .inl rfl
  have hpre1 : path_c.pre (l, t, k) := ⟨by omega, hc, ht⟩
  have hpre2 : add_c.pre (l, leafN k v) := ⟨by omega, hl1⟩
  repeat' (first | (with_reducible first | refine Unf.h ?_ | refine loopK_n ?_ | refine cutK_n ?_) | ((conv => whnf); first | refine Both.mk ?_ ?_ | refine Fork.mkn (fun h => ?_) (fun h => ?_) | refine Fork.mk (fun h => ?_) (fun h => ?_) | (refine Side.mk ?_ ?_; focus (first | with_reducible rfl | exact True.intro | assumption | omega | (refine congrArg (SV.int _) ?_; omega) | (dsimp only; omega) | (intros; (try simp only [lenS, inR, cutS, loI, hiI] at *); omega) | exact nnS (by decide) | exact List.eq_nil_of_length_eq_zero (by assumption) | exact dT (by omega) | exact dF (by omega) | exact decide_eq_decide.2 (by omega) | (split <;> first | rfl | (exfalso; omega)) | (refine ⟨fun h => ?_, fun h => ?_⟩ <;> first | rfl | (cases h; done) | omega | (exfalso; omega) | (simp only [Bool.false_eq_true] at h; done)) | (simp only [*]; done) | (simp only [*, List.map_cons, List.map_nil, eB]; done) | (simp [*]; done) | (dsimp only [resS, put_c]; done) | (dsimp only [resS, put_c]; first | with_reducible rfl | exact True.intro | assumption | omega | (refine congrArg (SV.int _) ?_; omega) | ((try simp only [lenS, inR, cutS, loI, hiI]); omega) | (simp only [*]; done) | (simp only [*, List.map_cons, List.map_nil, eB]; done) | (simp [*]; done)))) | (refine Idx.mk ?_ ?_; focus (first | omega | (simp only [lenS, inR, cutS, loI, hiI]; omega))) | refine RetE.mk () trivial ?_ | refine Got.mk (fun _ _ => ?_) | refine Ex.mk _ rfl ?_ | refine Ex.mk [_] rfl ?_ | refine Ex.mk [_, _] rfl ?_ | refine Ex.mk [_, _, _] rfl ?_ | refine Ex.mk [_, _, _, _] rfl ?_ | refine boolK (fun h => ?_) ?_ | (with_reducible first | refine Unf.h ?_ | refine loopK_n ?_ | refine cutK_n ?_) | refine retK_n ?_ | refine retK_r ?_ | exact rfl | exact True.intro | refine CallS.mk (c := is_c) ((l, t)) ?_ | refine CallS.mk (c := path_c) ((l, t, k)) ?_ | refine CallS.mk (c := add_c) ((l, leafN k v)) ?_)); all_goals try (conv => whnf)
  rename_i hfull _ _
  generalize hA : (path l k t).1 = A at *
  generalize he : (path l k t).2 = e at *
  clear h
  have hml : (l ++ [mk l (leafN k v)]).length = l.length + 1 := by simp
  have hl1e : startF l k v e = if meets l k e then ((l ++ [mk l (leafN k v)]) ++ [mk (l ++ [mk l (leafN k v)]) (joinN (l ++ [mk l (leafN k v)]) e l.length)], ((l ++ [mk l (leafN k v)]).length : Int)) else (l ++ [mk l (leafN k v)], (l.length : Int)) := rfl
  have hpe1 := hpe.1
  have hpe2 := hpe.2
  generalize hl1d : l ++ [mk l (leafN k v)] = l1 at *
  have hnd : ∀ i : Int, i < l.length → nd l1 i = nd l i := fun i hi => by rw [← hl1d]; exact nd_app _ _ _ hi
  refine CutS.auto (I := Unit) (fun _ => True) (fun _ => [(12, .int .i64 (startF l k v e).2), (10, .own 5)]) (fun _ => [(0, .box 85 [.own 4]), (4, .row 51 132 eNd (startF l k v e).1), (2, .box 25 [.arr8 k]), (3, .box 25 [.arr8 v]), (5, .row 3 1 eI A)]) 6 ?_ ?_
  · repeat' (first | (with_reducible first | refine Unf.h ?_ | refine loopK_n ?_ | refine cutK_n ?_) | ((conv => whnf); first | refine Both.mk ?_ ?_ | refine Fork.mkn (fun h => ?_) (fun h => ?_) | refine Fork.mk (fun h => ?_) (fun h => ?_) | (refine Side.mk ?_ ?_; focus (first | with_reducible rfl | exact True.intro | assumption | omega | (refine congrArg (SV.int _) ?_; omega) | (dsimp only; omega) | (intros; (try simp only [lenS, inR, cutS, loI, hiI] at *); omega) | exact nnS (by decide) | exact List.eq_nil_of_length_eq_zero (by assumption) | exact dT (by omega) | exact dF (by omega) | exact decide_eq_decide.2 (by omega) | (split <;> first | rfl | (exfalso; omega)) | (refine ⟨fun h => ?_, fun h => ?_⟩ <;> first | rfl | (cases h; done) | omega | (exfalso; omega) | (simp only [Bool.false_eq_true] at h; done)) | (simp only [*]; done) | (simp only [*, List.map_cons, List.map_nil, eB]; done) | (simp [*]; done) | (dsimp only [resS, put_c]; done) | (dsimp only [resS, put_c]; first | with_reducible rfl | exact True.intro | assumption | omega | (refine congrArg (SV.int _) ?_; omega) | ((try simp only [lenS, inR, cutS, loI, hiI]); omega) | (simp only [*]; done) | (simp only [*, List.map_cons, List.map_nil, eB]; done) | (simp [*]; done)))) | (refine Idx.mk ?_ ?_; focus (first | omega | (simp only [lenS, inR, cutS, loI, hiI]; omega))) | refine RetE.mk () trivial ?_ | refine Got.mk (fun _ _ => ?_) | refine Ex.mk _ rfl ?_ | refine Ex.mk [_] rfl ?_ | refine Ex.mk [_, _] rfl ?_ | refine Ex.mk [_, _, _] rfl ?_ | refine Ex.mk [_, _, _, _] rfl ?_ | refine boolK (fun h => ?_) ?_ | (with_reducible first | refine Unf.h ?_ | refine loopK_n ?_ | refine cutK_n ?_) | refine retK_n ?_ | refine retK_r ?_ | exact rfl | exact True.intro)); all_goals try (conv => whnf)
    refine CutS.auto (I := Unit) (fun _ => True) (fun _ => [(65, .dec (meets l k e) inferInstance), (10, .own 5)]) (fun _ => [(0, .box 85 [.own 4]), (4, .row 51 132 eNd l1), (2, .box 25 [.arr8 k]), (3, .box 25 [.arr8 v]), (5, .row 3 1 eI A)]) 6 ?_ ?_
    · repeat' (first | (with_reducible first | refine Unf.h ?_ | refine loopK_n ?_ | refine cutK_n ?_) | ((conv => whnf); first | refine Both.mk ?_ ?_ | refine Fork.mkn (fun h => ?_) (fun h => ?_) | refine Fork.mk (fun h => ?_) (fun h => ?_) | (refine Side.mk ?_ ?_; focus (first | with_reducible rfl | exact True.intro | assumption | omega | (refine congrArg (SV.int _) ?_; omega) | (dsimp only; omega) | (intros; (try simp only [lenS, inR, cutS, loI, hiI] at *); omega) | exact nnS (by decide) | exact List.eq_nil_of_length_eq_zero (by assumption) | exact dT (by omega) | exact dF (by omega) | exact decide_eq_decide.2 (by omega) | (split <;> first | rfl | (exfalso; omega)) | (refine ⟨fun h => ?_, fun h => ?_⟩ <;> first | rfl | (cases h; done) | omega | (exfalso; omega) | (simp only [Bool.false_eq_true] at h; done)) | (simp only [*]; done) | (simp only [*, List.map_cons, List.map_nil, eB]; done) | (simp [*]; done) | (dsimp only [resS, put_c]; done) | (dsimp only [resS, put_c]; first | with_reducible rfl | exact True.intro | assumption | omega | (refine congrArg (SV.int _) ?_; omega) | ((try simp only [lenS, inR, cutS, loI, hiI]); omega) | (simp only [*]; done) | (simp only [*, List.map_cons, List.map_nil, eB]; done) | (simp [*]; done)))) | (refine Idx.mk ?_ ?_; focus (first | omega | (simp only [lenS, inR, cutS, loI, hiI]; omega))) | refine RetE.mk () trivial ?_ | refine Got.mk (fun _ _ => ?_) | refine Ex.mk _ rfl ?_ | refine Ex.mk [_] rfl ?_ | refine Ex.mk [_, _] rfl ?_ | refine Ex.mk [_, _, _] rfl ?_ | refine Ex.mk [_, _, _, _] rfl ?_ | refine boolK (fun h => ?_) ?_ | (with_reducible first | refine Unf.h ?_ | refine loopK_n ?_ | refine cutK_n ?_) | refine retK_n ?_ | refine retK_r ?_ | exact rfl | exact True.intro)); all_goals try (conv => whnf)
      · have hin : e.toNat < l1.length := by omega
        have en : l1[e.toNat]'hin = nd l e := by rw [nd_get _ e (by omega) hin, hnd _ hpe2]
        cases hb : (l1[e.toNat]'hin).leaf
        · rw [en] at hb
          have hm : meets l k e := ⟨by assumption, fun h' => by rw [h'.1] at hb; cases hb⟩
          repeat' (first | (with_reducible first | refine Unf.h ?_ | refine loopK_n ?_ | refine cutK_n ?_) | ((conv => whnf); first | refine Both.mk ?_ ?_ | refine Fork.mkn (fun h => ?_) (fun h => ?_) | refine Fork.mk (fun h => ?_) (fun h => ?_) | (refine Side.mk ?_ ?_; focus (first | with_reducible rfl | exact True.intro | assumption | omega | (refine congrArg (SV.int _) ?_; omega) | (dsimp only; omega) | (intros; (try simp only [lenS, inR, cutS, loI, hiI] at *); omega) | exact nnS (by decide) | exact List.eq_nil_of_length_eq_zero (by assumption) | exact dT (by omega) | exact dF (by omega) | exact decide_eq_decide.2 (by omega) | (split <;> first | rfl | (exfalso; omega)) | (refine ⟨fun h => ?_, fun h => ?_⟩ <;> first | rfl | (cases h; done) | omega | (exfalso; omega) | (simp only [Bool.false_eq_true] at h; done)) | (simp only [*]; done) | (simp only [*, List.map_cons, List.map_nil, eB]; done) | (simp [*]; done) | (dsimp only [resS, put_c]; done) | (dsimp only [resS, put_c]; first | with_reducible rfl | exact True.intro | assumption | omega | (refine congrArg (SV.int _) ?_; omega) | ((try simp only [lenS, inR, cutS, loI, hiI]); omega) | (simp only [*]; done) | (simp only [*, List.map_cons, List.map_nil, eB]; done) | (simp [*]; done)))) | (refine Idx.mk ?_ ?_; focus (first | omega | (simp only [lenS, inR, cutS, loI, hiI]; omega))) | refine RetE.mk () trivial ?_ | refine Got.mk (fun _ _ => ?_) | refine Ex.mk _ rfl ?_ | refine Ex.mk [_] rfl ?_ | refine Ex.mk [_, _] rfl ?_ | refine Ex.mk [_, _, _] rfl ?_ | refine Ex.mk [_, _, _, _] rfl ?_ | refine boolK (fun h => ?_) ?_ | (with_reducible first | refine Unf.h ?_ | refine loopK_n ?_ | refine cutK_n ?_) | refine retK_n ?_ | refine retK_r ?_ | exact rfl | exact True.intro)); all_goals try (conv => whnf)
          refine ⟨(), trivial, ?_⟩
          repeat' (first | (with_reducible first | refine Unf.h ?_ | refine loopK_n ?_ | refine cutK_n ?_) | ((conv => whnf); first | refine Both.mk ?_ ?_ | refine Fork.mkn (fun h => ?_) (fun h => ?_) | refine Fork.mk (fun h => ?_) (fun h => ?_) | (refine Side.mk ?_ ?_; focus (first | with_reducible rfl | exact True.intro | assumption | omega | (refine congrArg (SV.int _) ?_; omega) | (dsimp only; omega) | (intros; (try simp only [lenS, inR, cutS, loI, hiI, hm] at *); omega) | exact nnS (by decide) | exact List.eq_nil_of_length_eq_zero (by assumption) | exact dT (by omega) | exact dF (by omega) | exact decide_eq_decide.2 (by omega) | (split <;> first | rfl | (exfalso; omega)) | (refine ⟨fun h => ?_, fun h => ?_⟩ <;> first | rfl | (cases h; done) | omega | (exfalso; omega) | (simp only [Bool.false_eq_true] at h; done)) | (simp only [*, hm]; done) | (simp only [*, hm, List.map_cons, List.map_nil, eB]; done) | (simp [*, hm]; done) | (dsimp only [resS, put_c]; done) | (dsimp only [resS, put_c]; first | with_reducible rfl | exact True.intro | assumption | omega | (refine congrArg (SV.int _) ?_; omega) | ((try simp only [lenS, inR, cutS, loI, hiI, hm]); omega) | (simp only [*, hm]; done) | (simp only [*, hm, List.map_cons, List.map_nil, eB]; done) | (simp [*, hm]; done)))) | (refine Idx.mk ?_ ?_; focus (first | omega | (simp only [lenS, inR, cutS, loI, hiI, hm]; omega))) | refine RetE.mk () trivial ?_ | refine Got.mk (fun _ _ => ?_) | refine Ex.mk _ rfl ?_ | refine Ex.mk [_] rfl ?_ | refine Ex.mk [_, _] rfl ?_ | refine Ex.mk [_, _, _] rfl ?_ | refine Ex.mk [_, _, _, _] rfl ?_ | refine boolK (fun h => ?_) ?_ | (with_reducible first | refine Unf.h ?_ | refine loopK_n ?_ | refine cutK_n ?_) | refine retK_n ?_ | refine retK_r ?_ | exact rfl | exact True.intro)); all_goals try (conv => whnf)
        · rw [en] at hb
          have hm : (¬ (nd l e).key.toList = k.toList) ↔ meets l k e := ⟨fun h' => ⟨by assumption, fun hh => h' (by rw [hh.2])⟩, fun h' hk => h'.2 ⟨hb, Vector.toList_inj.1 hk⟩⟩
          repeat' (first | (with_reducible first | refine Unf.h ?_ | refine loopK_n ?_ | refine cutK_n ?_) | ((conv => whnf); first | refine Both.mk ?_ ?_ | refine Fork.mkn (fun h => ?_) (fun h => ?_) | refine Fork.mk (fun h => ?_) (fun h => ?_) | (refine Side.mk ?_ ?_; focus (first | with_reducible rfl | exact True.intro | assumption | omega | (refine congrArg (SV.int _) ?_; omega) | (dsimp only; omega) | (intros; (try simp only [lenS, inR, cutS, loI, hiI] at *); omega) | exact nnS (by decide) | exact List.eq_nil_of_length_eq_zero (by assumption) | exact dT (by omega) | exact dF (by omega) | exact decide_eq_decide.2 (by omega) | (split <;> first | rfl | (exfalso; omega)) | (refine ⟨fun h => ?_, fun h => ?_⟩ <;> first | rfl | (cases h; done) | omega | (exfalso; omega) | (simp only [Bool.false_eq_true] at h; done)) | (simp only [*]; done) | (simp only [*, List.map_cons, List.map_nil, eB]; done) | (simp [*]; done) | (dsimp only [resS, put_c]; done) | (dsimp only [resS, put_c]; first | with_reducible rfl | exact True.intro | assumption | omega | (refine congrArg (SV.int _) ?_; omega) | ((try simp only [lenS, inR, cutS, loI, hiI]); omega) | (simp only [*]; done) | (simp only [*, List.map_cons, List.map_nil, eB]; done) | (simp [*]; done)))) | (refine Idx.mk ?_ ?_; focus (first | omega | (simp only [lenS, inR, cutS, loI, hiI]; omega))) | refine RetE.mk () trivial ?_ | refine Got.mk (fun _ _ => ?_) | refine Ex.mk _ rfl ?_ | refine Ex.mk [_] rfl ?_ | refine Ex.mk [_, _] rfl ?_ | refine Ex.mk [_, _, _] rfl ?_ | refine Ex.mk [_, _, _, _] rfl ?_ | refine boolK (fun h => ?_) ?_ | (with_reducible first | refine Unf.h ?_ | refine loopK_n ?_ | refine cutK_n ?_) | refine retK_n ?_ | refine retK_r ?_ | exact rfl | exact True.intro)); all_goals try (conv => whnf)
          refine ⟨(), trivial, ?_⟩
          repeat' (first | (with_reducible first | refine Unf.h ?_ | refine loopK_n ?_ | refine cutK_n ?_) | ((conv => whnf); first | refine Both.mk ?_ ?_ | refine Fork.mkn (fun h => ?_) (fun h => ?_) | refine Fork.mk (fun h => ?_) (fun h => ?_) | (refine Side.mk ?_ ?_; focus (first | with_reducible rfl | exact True.intro | assumption | omega | (refine congrArg (SV.int _) ?_; omega) | (dsimp only; omega) | (intros; (try simp only [lenS, inR, cutS, loI, hiI] at *); omega) | exact nnS (by decide) | exact List.eq_nil_of_length_eq_zero (by assumption) | exact dT (by omega) | exact dF (by omega) | exact decide_eq_decide.2 (by omega) | (split <;> first | rfl | (exfalso; omega)) | (refine ⟨fun h => ?_, fun h => ?_⟩ <;> first | rfl | (cases h; done) | omega | (exfalso; omega) | (simp only [Bool.false_eq_true] at h; done)) | (simp only [*]; done) | (simp only [*, List.map_cons, List.map_nil, eB]; done) | (simp [*]; done) | (dsimp only [resS, put_c]; done) | (dsimp only [resS, put_c]; first | with_reducible rfl | exact True.intro | assumption | omega | (refine congrArg (SV.int _) ?_; omega) | ((try simp only [lenS, inR, cutS, loI, hiI]); omega) | (simp only [*]; done) | (simp only [*, List.map_cons, List.map_nil, eB]; done) | (simp [*]; done)))) | (refine Idx.mk ?_ ?_; focus (first | omega | (simp only [lenS, inR, cutS, loI, hiI]; omega))) | refine RetE.mk () trivial ?_ | refine Got.mk (fun _ _ => ?_) | refine Ex.mk _ rfl ?_ | refine Ex.mk [_] rfl ?_ | refine Ex.mk [_, _] rfl ?_ | refine Ex.mk [_, _, _] rfl ?_ | refine Ex.mk [_, _, _, _] rfl ?_ | refine boolK (fun h => ?_) ?_ | (with_reducible first | refine Unf.h ?_ | refine loopK_n ?_ | refine cutK_n ?_) | refine retK_n ?_ | refine retK_r ?_ | exact rfl | exact True.intro)); all_goals try (conv => whnf)
      · have hm : ¬ meets l k e := fun h' => h'.1 (by assumption)
        repeat' (first | (with_reducible first | refine Unf.h ?_ | refine loopK_n ?_ | refine cutK_n ?_) | ((conv => whnf); first | refine Both.mk ?_ ?_ | refine Fork.mkn (fun h => ?_) (fun h => ?_) | refine Fork.mk (fun h => ?_) (fun h => ?_) | (refine Side.mk ?_ ?_; focus (first | with_reducible rfl | exact True.intro | assumption | omega | (refine congrArg (SV.int _) ?_; omega) | (dsimp only; omega) | (intros; (try simp only [lenS, inR, cutS, loI, hiI] at *); omega) | exact nnS (by decide) | exact List.eq_nil_of_length_eq_zero (by assumption) | exact dT (by omega) | exact dF (by omega) | exact decide_eq_decide.2 (by omega) | (split <;> first | rfl | (exfalso; omega)) | (refine ⟨fun h => ?_, fun h => ?_⟩ <;> first | rfl | (cases h; done) | omega | (exfalso; omega) | (simp only [Bool.false_eq_true] at h; done)) | (simp only [*]; done) | (simp only [*, List.map_cons, List.map_nil, eB]; done) | (simp [*]; done) | (dsimp only [resS, put_c]; done) | (dsimp only [resS, put_c]; first | with_reducible rfl | exact True.intro | assumption | omega | (refine congrArg (SV.int _) ?_; omega) | ((try simp only [lenS, inR, cutS, loI, hiI]); omega) | (simp only [*]; done) | (simp only [*, List.map_cons, List.map_nil, eB]; done) | (simp [*]; done)))) | (refine Idx.mk ?_ ?_; focus (first | omega | (simp only [lenS, inR, cutS, loI, hiI]; omega))) | refine RetE.mk () trivial ?_ | refine Got.mk (fun _ _ => ?_) | refine Ex.mk _ rfl ?_ | refine Ex.mk [_] rfl ?_ | refine Ex.mk [_, _] rfl ?_ | refine Ex.mk [_, _, _] rfl ?_ | refine Ex.mk [_, _, _, _] rfl ?_ | refine boolK (fun h => ?_) ?_ | (with_reducible first | refine Unf.h ?_ | refine loopK_n ?_ | refine cutK_n ?_) | refine retK_n ?_ | refine retK_r ?_ | exact rfl | exact True.intro)); all_goals try (conv => whnf)
        refine ⟨(), trivial, ?_⟩
        repeat' (first | (with_reducible first | refine Unf.h ?_ | refine loopK_n ?_ | refine cutK_n ?_) | ((conv => whnf); first | refine Both.mk ?_ ?_ | refine Fork.mkn (fun h => ?_) (fun h => ?_) | refine Fork.mk (fun h => ?_) (fun h => ?_) | (refine Side.mk ?_ ?_; focus (first | with_reducible rfl | exact True.intro | assumption | omega | (refine congrArg (SV.int _) ?_; omega) | (dsimp only; omega) | (intros; (try simp only [lenS, inR, cutS, loI, hiI] at *); omega) | exact nnS (by decide) | exact List.eq_nil_of_length_eq_zero (by assumption) | exact dT (by omega) | exact dF (by omega) | exact decide_eq_decide.2 (by omega) | (split <;> first | rfl | (exfalso; omega)) | (refine ⟨fun h => ?_, fun h => ?_⟩ <;> first | rfl | (cases h; done) | omega | (exfalso; omega) | (simp only [Bool.false_eq_true] at h; done)) | (simp only [*]; done) | (simp only [*, List.map_cons, List.map_nil, eB]; done) | (simp [*]; done) | (dsimp only [resS, put_c]; done) | (dsimp only [resS, put_c]; first | with_reducible rfl | exact True.intro | assumption | omega | (refine congrArg (SV.int _) ?_; omega) | ((try simp only [lenS, inR, cutS, loI, hiI]); omega) | (simp only [*]; done) | (simp only [*, List.map_cons, List.map_nil, eB]; done) | (simp [*]; done)))) | (refine Idx.mk ?_ ?_; focus (first | omega | (simp only [lenS, inR, cutS, loI, hiI]; omega))) | refine RetE.mk () trivial ?_ | refine Got.mk (fun _ _ => ?_) | refine Ex.mk _ rfl ?_ | refine Ex.mk [_] rfl ?_ | refine Ex.mk [_, _] rfl ?_ | refine Ex.mk [_, _, _] rfl ?_ | refine Ex.mk [_, _, _, _] rfl ?_ | refine boolK (fun h => ?_) ?_ | (with_reducible first | refine Unf.h ?_ | refine loopK_n ?_ | refine cutK_n ?_) | refine retK_n ?_ | refine retK_r ?_ | exact rfl | exact True.intro)); all_goals try (conv => whnf)
        refine Side.mk (iffF hm) ?_
        repeat' (first | (with_reducible first | refine Unf.h ?_ | refine loopK_n ?_ | refine cutK_n ?_) | ((conv => whnf); first | refine Both.mk ?_ ?_ | refine Fork.mkn (fun h => ?_) (fun h => ?_) | refine Fork.mk (fun h => ?_) (fun h => ?_) | (refine Side.mk ?_ ?_; focus (first | with_reducible rfl | exact True.intro | assumption | omega | (refine congrArg (SV.int _) ?_; omega) | (dsimp only; omega) | (intros; (try simp only [lenS, inR, cutS, loI, hiI] at *); omega) | exact nnS (by decide) | exact List.eq_nil_of_length_eq_zero (by assumption) | exact dT (by omega) | exact dF (by omega) | exact decide_eq_decide.2 (by omega) | (split <;> first | rfl | (exfalso; omega)) | (refine ⟨fun h => ?_, fun h => ?_⟩ <;> first | rfl | (cases h; done) | omega | (exfalso; omega) | (simp only [Bool.false_eq_true] at h; done)) | (simp only [*]; done) | (simp only [*, List.map_cons, List.map_nil, eB]; done) | (simp [*]; done) | (dsimp only [resS, put_c]; done) | (dsimp only [resS, put_c]; first | with_reducible rfl | exact True.intro | assumption | omega | (refine congrArg (SV.int _) ?_; omega) | ((try simp only [lenS, inR, cutS, loI, hiI]); omega) | (simp only [*]; done) | (simp only [*, List.map_cons, List.map_nil, eB]; done) | (simp [*]; done)))) | (refine Idx.mk ?_ ?_; focus (first | omega | (simp only [lenS, inR, cutS, loI, hiI]; omega))) | refine RetE.mk () trivial ?_ | refine Got.mk (fun _ _ => ?_) | refine Ex.mk _ rfl ?_ | refine Ex.mk [_] rfl ?_ | refine Ex.mk [_, _] rfl ?_ | refine Ex.mk [_, _, _] rfl ?_ | refine Ex.mk [_, _, _, _] rfl ?_ | refine boolK (fun h => ?_) ?_ | (with_reducible first | refine Unf.h ?_ | refine loopK_n ?_ | refine cutK_n ?_) | refine retK_n ?_ | refine retK_r ?_ | exact rfl | exact True.intro)); all_goals try (conv => whnf)
    · intro _ _
      repeat' (first | (with_reducible first | refine Unf.h ?_ | refine loopK_n ?_ | refine cutK_n ?_) | ((conv => whnf); first | refine Both.mk ?_ ?_ | refine Fork.mkn (fun h => ?_) (fun h => ?_) | refine Fork.mk (fun h => ?_) (fun h => ?_) | (refine Side.mk ?_ ?_; focus (first | with_reducible rfl | exact True.intro | assumption | omega | (refine congrArg (SV.int _) ?_; omega) | (dsimp only; omega) | (intros; (try simp only [lenS, inR, cutS, loI, hiI] at *); omega) | exact nnS (by decide) | exact List.eq_nil_of_length_eq_zero (by assumption) | exact dT (by omega) | exact dF (by omega) | exact decide_eq_decide.2 (by omega) | (split <;> first | rfl | (exfalso; omega)) | (refine ⟨fun h => ?_, fun h => ?_⟩ <;> first | rfl | (cases h; done) | omega | (exfalso; omega) | (simp only [Bool.false_eq_true] at h; done)) | (simp only [*]; done) | (simp only [*, List.map_cons, List.map_nil, eB]; done) | (simp [*]; done) | (dsimp only [resS, put_c]; done) | (dsimp only [resS, put_c]; first | with_reducible rfl | exact True.intro | assumption | omega | (refine congrArg (SV.int _) ?_; omega) | ((try simp only [lenS, inR, cutS, loI, hiI]); omega) | (simp only [*]; done) | (simp only [*, List.map_cons, List.map_nil, eB]; done) | (simp [*]; done)))) | (refine Idx.mk ?_ ?_; focus (first | omega | (simp only [lenS, inR, cutS, loI, hiI]; omega))) | refine RetE.mk () trivial ?_ | refine Got.mk (fun _ _ => ?_) | refine Ex.mk _ rfl ?_ | refine Ex.mk [_] rfl ?_ | refine Ex.mk [_, _] rfl ?_ | refine Ex.mk [_, _, _] rfl ?_ | refine Ex.mk [_, _, _, _] rfl ?_ | refine boolK (fun h => ?_) ?_ | (with_reducible first | refine Unf.h ?_ | refine loopK_n ?_ | refine cutK_n ?_) | refine retK_n ?_ | refine retK_r ?_ | exact rfl | exact True.intro)); all_goals try (conv => whnf)
      · have hj : join_c.pre (l1, e, (l.length : Int)) := ⟨by omega, ⟨by have := (show meets l k e by assumption).1; omega, by omega⟩, by omega, by omega⟩
        refine CallS.mk (c := join_c) ((l1, e, (l.length : Int))) ?_
        repeat' (first | (with_reducible first | refine Unf.h ?_ | refine loopK_n ?_ | refine cutK_n ?_) | ((conv => whnf); first | refine Both.mk ?_ ?_ | refine Fork.mkn (fun h => ?_) (fun h => ?_) | refine Fork.mk (fun h => ?_) (fun h => ?_) | (refine Side.mk ?_ ?_; focus (first | with_reducible rfl | exact True.intro | assumption | omega | (refine congrArg (SV.int _) ?_; omega) | (dsimp only; omega) | (intros; (try simp only [lenS, inR, cutS, loI, hiI] at *); omega) | exact nnS (by decide) | exact List.eq_nil_of_length_eq_zero (by assumption) | exact dT (by omega) | exact dF (by omega) | exact decide_eq_decide.2 (by omega) | (split <;> first | rfl | (exfalso; omega)) | (refine ⟨fun h => ?_, fun h => ?_⟩ <;> first | rfl | (cases h; done) | omega | (exfalso; omega) | (simp only [Bool.false_eq_true] at h; done)) | (simp only [*]; done) | (simp only [*, List.map_cons, List.map_nil, eB]; done) | (simp [*]; done) | (dsimp only [resS, put_c]; done) | (dsimp only [resS, put_c]; first | with_reducible rfl | exact True.intro | assumption | omega | (refine congrArg (SV.int _) ?_; omega) | ((try simp only [lenS, inR, cutS, loI, hiI]); omega) | (simp only [*]; done) | (simp only [*, List.map_cons, List.map_nil, eB]; done) | (simp [*]; done)))) | (refine Idx.mk ?_ ?_; focus (first | omega | (simp only [lenS, inR, cutS, loI, hiI]; omega))) | refine RetE.mk () trivial ?_ | refine Got.mk (fun _ _ => ?_) | refine Ex.mk _ rfl ?_ | refine Ex.mk [_] rfl ?_ | refine Ex.mk [_, _] rfl ?_ | refine Ex.mk [_, _, _] rfl ?_ | refine Ex.mk [_, _, _, _] rfl ?_ | refine boolK (fun h => ?_) ?_ | (with_reducible first | refine Unf.h ?_ | refine loopK_n ?_ | refine cutK_n ?_) | refine retK_n ?_ | refine retK_r ?_ | exact rfl | exact True.intro)); all_goals try (conv => whnf)
        have hs : startF l k v e = _ := hl1e.trans (if_pos (by assumption))
        refine ⟨(), trivial, ?_⟩
        repeat' (first | (with_reducible first | refine Unf.h ?_ | refine loopK_n ?_ | refine cutK_n ?_) | ((conv => whnf); first | refine Both.mk ?_ ?_ | refine Fork.mkn (fun h => ?_) (fun h => ?_) | refine Fork.mk (fun h => ?_) (fun h => ?_) | (refine Side.mk ?_ ?_; focus (first | with_reducible rfl | exact True.intro | assumption | omega | (refine congrArg (SV.int _) ?_; omega) | (dsimp only; omega) | (intros; (try simp only [lenS, inR, cutS, loI, hiI, hs] at *); omega) | exact nnS (by decide) | exact List.eq_nil_of_length_eq_zero (by assumption) | exact dT (by omega) | exact dF (by omega) | exact decide_eq_decide.2 (by omega) | (split <;> first | rfl | (exfalso; omega)) | (refine ⟨fun h => ?_, fun h => ?_⟩ <;> first | rfl | (cases h; done) | omega | (exfalso; omega) | (simp only [Bool.false_eq_true] at h; done)) | (simp only [*, hs]; done) | (simp only [*, hs, List.map_cons, List.map_nil, eB]; done) | (simp [*, hs]; done) | (dsimp only [resS, put_c]; done) | (dsimp only [resS, put_c]; first | with_reducible rfl | exact True.intro | assumption | omega | (refine congrArg (SV.int _) ?_; omega) | ((try simp only [lenS, inR, cutS, loI, hiI, hs]); omega) | (simp only [*, hs]; done) | (simp only [*, hs, List.map_cons, List.map_nil, eB]; done) | (simp [*, hs]; done)))) | (refine Idx.mk ?_ ?_; focus (first | omega | (simp only [lenS, inR, cutS, loI, hiI, hs]; omega))) | refine RetE.mk () trivial ?_ | refine Got.mk (fun _ _ => ?_) | refine Ex.mk _ rfl ?_ | refine Ex.mk [_] rfl ?_ | refine Ex.mk [_, _] rfl ?_ | refine Ex.mk [_, _, _] rfl ?_ | refine Ex.mk [_, _, _, _] rfl ?_ | refine boolK (fun h => ?_) ?_ | (with_reducible first | refine Unf.h ?_ | refine loopK_n ?_ | refine cutK_n ?_) | refine retK_n ?_ | refine retK_r ?_ | exact rfl | exact True.intro)); all_goals try (conv => whnf)
      · have hs : startF l k v e = _ := hl1e.trans (if_neg (by assumption))
        repeat' (first | (with_reducible first | refine Unf.h ?_ | refine loopK_n ?_ | refine cutK_n ?_) | ((conv => whnf); first | refine Both.mk ?_ ?_ | refine Fork.mkn (fun h => ?_) (fun h => ?_) | refine Fork.mk (fun h => ?_) (fun h => ?_) | (refine Side.mk ?_ ?_; focus (first | with_reducible rfl | exact True.intro | assumption | omega | (refine congrArg (SV.int _) ?_; omega) | (dsimp only; omega) | (intros; (try simp only [lenS, inR, cutS, loI, hiI, hs] at *); omega) | exact nnS (by decide) | exact List.eq_nil_of_length_eq_zero (by assumption) | exact dT (by omega) | exact dF (by omega) | exact decide_eq_decide.2 (by omega) | (split <;> first | rfl | (exfalso; omega)) | (refine ⟨fun h => ?_, fun h => ?_⟩ <;> first | rfl | (cases h; done) | omega | (exfalso; omega) | (simp only [Bool.false_eq_true] at h; done)) | (simp only [*, hs]; done) | (simp only [*, hs, List.map_cons, List.map_nil, eB]; done) | (simp [*, hs]; done) | (dsimp only [resS, put_c]; done) | (dsimp only [resS, put_c]; first | with_reducible rfl | exact True.intro | assumption | omega | (refine congrArg (SV.int _) ?_; omega) | ((try simp only [lenS, inR, cutS, loI, hiI, hs]); omega) | (simp only [*, hs]; done) | (simp only [*, hs, List.map_cons, List.map_nil, eB]; done) | (simp [*, hs]; done)))) | (refine Idx.mk ?_ ?_; focus (first | omega | (simp only [lenS, inR, cutS, loI, hiI, hs]; omega))) | refine RetE.mk () trivial ?_ | refine Got.mk (fun _ _ => ?_) | refine Ex.mk _ rfl ?_ | refine Ex.mk [_] rfl ?_ | refine Ex.mk [_, _] rfl ?_ | refine Ex.mk [_, _, _] rfl ?_ | refine Ex.mk [_, _, _, _] rfl ?_ | refine boolK (fun h => ?_) ?_ | (with_reducible first | refine Unf.h ?_ | refine loopK_n ?_ | refine cutK_n ?_) | refine retK_n ?_ | refine retK_r ?_ | exact rfl | exact True.intro)); all_goals try (conv => whnf)
        refine ⟨(), trivial, ?_⟩
        repeat' (first | (with_reducible first | refine Unf.h ?_ | refine loopK_n ?_ | refine cutK_n ?_) | ((conv => whnf); first | refine Both.mk ?_ ?_ | refine Fork.mkn (fun h => ?_) (fun h => ?_) | refine Fork.mk (fun h => ?_) (fun h => ?_) | (refine Side.mk ?_ ?_; focus (first | with_reducible rfl | exact True.intro | assumption | omega | (refine congrArg (SV.int _) ?_; omega) | (dsimp only; omega) | (intros; (try simp only [lenS, inR, cutS, loI, hiI, hs] at *); omega) | exact nnS (by decide) | exact List.eq_nil_of_length_eq_zero (by assumption) | exact dT (by omega) | exact dF (by omega) | exact decide_eq_decide.2 (by omega) | (split <;> first | rfl | (exfalso; omega)) | (refine ⟨fun h => ?_, fun h => ?_⟩ <;> first | rfl | (cases h; done) | omega | (exfalso; omega) | (simp only [Bool.false_eq_true] at h; done)) | (simp only [*, hs]; done) | (simp only [*, hs, List.map_cons, List.map_nil, eB]; done) | (simp [*, hs]; done) | (dsimp only [resS, put_c]; done) | (dsimp only [resS, put_c]; first | with_reducible rfl | exact True.intro | assumption | omega | (refine congrArg (SV.int _) ?_; omega) | ((try simp only [lenS, inR, cutS, loI, hiI, hs]); omega) | (simp only [*, hs]; done) | (simp only [*, hs, List.map_cons, List.map_nil, eB]; done) | (simp [*, hs]; done)))) | (refine Idx.mk ?_ ?_; focus (first | omega | (simp only [lenS, inR, cutS, loI, hiI, hs]; omega))) | refine RetE.mk () trivial ?_ | refine Got.mk (fun _ _ => ?_) | refine Ex.mk _ rfl ?_ | refine Ex.mk [_] rfl ?_ | refine Ex.mk [_, _] rfl ?_ | refine Ex.mk [_, _, _] rfl ?_ | refine Ex.mk [_, _, _, _] rfl ?_ | refine boolK (fun h => ?_) ?_ | (with_reducible first | refine Unf.h ?_ | refine loopK_n ?_ | refine cutK_n ?_) | refine retK_n ?_ | refine retK_r ?_ | exact rfl | exact True.intro)); all_goals try (conv => whnf)
  · intro _ _
    generalize hS : startF l k v e = s0 at *
    have hs0 : ∃ m, s0.1 = l ++ m ∧ 1 ≤ m.length ∧ s0.2 = l.length + m.length - 1 := by
      obtain ⟨m, h1, h2, h3, h4⟩ := startF_ok (l := l) (k := k) (v := v) (e := e)
      rw [hS] at h1 h4
      exact ⟨m, h1, h2, h4⟩
    have hs0l : s0.1.length ≤ l.length + 2 := by
      obtain ⟨m, h1, h2, h3, h4⟩ := startF_ok (l := l) (k := k) (v := v) (e := e)
      rw [hS] at h1
      rw [h1, List.length_append]; omega
    repeat' (first | (with_reducible first | refine Unf.h ?_ | refine loopK_n ?_ | refine cutK_n ?_) | ((conv => whnf); first | refine Both.mk ?_ ?_ | refine Fork.mkn (fun h => ?_) (fun h => ?_) | refine Fork.mk (fun h => ?_) (fun h => ?_) | (refine Side.mk ?_ ?_; focus (first | with_reducible rfl | exact True.intro | assumption | omega | (refine congrArg (SV.int _) ?_; omega) | (dsimp only; omega) | (intros; (try simp only [lenS, inR, cutS, loI, hiI] at *); omega) | exact nnS (by decide) | exact List.eq_nil_of_length_eq_zero (by assumption) | exact dT (by omega) | exact dF (by omega) | exact decide_eq_decide.2 (by omega) | (split <;> first | rfl | (exfalso; omega)) | (refine ⟨fun h => ?_, fun h => ?_⟩ <;> first | rfl | (cases h; done) | omega | (exfalso; omega) | (simp only [Bool.false_eq_true] at h; done)) | (simp only [*]; done) | (simp only [*, List.map_cons, List.map_nil, eB]; done) | (simp [*]; done) | (dsimp only [resS, put_c]; done) | (dsimp only [resS, put_c]; first | with_reducible rfl | exact True.intro | assumption | omega | (refine congrArg (SV.int _) ?_; omega) | ((try simp only [lenS, inR, cutS, loI, hiI]); omega) | (simp only [*]; done) | (simp only [*, List.map_cons, List.map_nil, eB]; done) | (simp [*]; done)))) | (refine Idx.mk ?_ ?_; focus (first | omega | (simp only [lenS, inR, cutS, loI, hiI]; omega))) | refine RetE.mk () trivial ?_ | refine Got.mk (fun _ _ => ?_) | refine Ex.mk _ rfl ?_ | refine Ex.mk [_] rfl ?_ | refine Ex.mk [_, _] rfl ?_ | refine Ex.mk [_, _, _] rfl ?_ | refine Ex.mk [_, _, _, _] rfl ?_ | refine boolK (fun h => ?_) ?_ | (with_reducible first | refine Unf.h ?_ | refine loopK_n ?_ | refine cutK_n ?_) | refine retK_n ?_ | refine retK_r ?_ | exact rfl | exact True.intro)); all_goals try (conv => whnf)
    refine LoopS.auto (fun n : Nat => n ≤ A.length) (fun n => [(13, .int .i64 ((n : Int) - 1)), (12, .int .i64 (upF k (A.drop n) s0).2), (10, .own 5)]) (fun n => [(0, .box 85 [.own 4]), (4, .row 51 132 eNd (upF k (A.drop n) s0).1), (2, .box 25 [.arr8 k]), (3, .box 25 [.arr8 v]), (5, .row 3 1 eI A)]) (fun n => n) A.length (Nat.le_refl _) ?_ ?_
    · repeat' (first | (with_reducible first | refine Unf.h ?_ | refine loopK_n ?_ | refine cutK_n ?_) | ((conv => whnf); first | refine Both.mk ?_ ?_ | refine Fork.mkn (fun h => ?_) (fun h => ?_) | refine Fork.mk (fun h => ?_) (fun h => ?_) | (refine Side.mk ?_ ?_; focus (first | with_reducible rfl | exact True.intro | assumption | omega | (refine congrArg (SV.int _) ?_; omega) | (dsimp only; omega) | (intros; (try simp only [lenS, inR, cutS, loI, hiI, List.drop_length, upF] at *); omega) | exact nnS (by decide) | exact List.eq_nil_of_length_eq_zero (by assumption) | exact dT (by omega) | exact dF (by omega) | exact decide_eq_decide.2 (by omega) | (split <;> first | rfl | (exfalso; omega)) | (refine ⟨fun h => ?_, fun h => ?_⟩ <;> first | rfl | (cases h; done) | omega | (exfalso; omega) | (simp only [Bool.false_eq_true] at h; done)) | (simp only [*, List.drop_length, upF]; done) | (simp only [*, List.drop_length, upF, List.map_cons, List.map_nil, eB]; done) | (simp [*, List.drop_length, upF]; done) | (dsimp only [resS, put_c]; done) | (dsimp only [resS, put_c]; first | with_reducible rfl | exact True.intro | assumption | omega | (refine congrArg (SV.int _) ?_; omega) | ((try simp only [lenS, inR, cutS, loI, hiI, List.drop_length, upF]); omega) | (simp only [*, List.drop_length, upF]; done) | (simp only [*, List.drop_length, upF, List.map_cons, List.map_nil, eB]; done) | (simp [*, List.drop_length, upF]; done)))) | (refine Idx.mk ?_ ?_; focus (first | omega | (simp only [lenS, inR, cutS, loI, hiI, List.drop_length, upF]; omega))) | refine RetE.mk () trivial ?_ | refine Got.mk (fun _ _ => ?_) | refine Ex.mk _ rfl ?_ | refine Ex.mk [_] rfl ?_ | refine Ex.mk [_, _] rfl ?_ | refine Ex.mk [_, _, _] rfl ?_ | refine Ex.mk [_, _, _, _] rfl ?_ | refine boolK (fun h => ?_) ?_ | (with_reducible first | refine Unf.h ?_ | refine loopK_n ?_ | refine cutK_n ?_) | refine retK_n ?_ | refine retK_r ?_ | exact rfl | exact True.intro)); all_goals try (conv => whnf)
    · intro n hn
      obtain ⟨m, h1, h2, h3, h4⟩ := upF_ok (k := k) hs0 (A.drop n)
      have h1l : (upF k (A.drop n) s0).1.length = l.length + m.length := by rw [h1]; simp
      have hdl : (A.drop n).length ≤ A.length := by simp
      repeat' (first | (with_reducible first | refine Unf.h ?_ | refine loopK_n ?_ | refine cutK_n ?_) | ((conv => whnf); first | refine Both.mk ?_ ?_ | refine Fork.mkn (fun h => ?_) (fun h => ?_) | refine Fork.mk (fun h => ?_) (fun h => ?_) | (refine Side.mk ?_ ?_; focus (first | with_reducible rfl | exact True.intro | assumption | omega | (refine congrArg (SV.int _) ?_; omega) | (dsimp only; omega) | (intros; (try simp only [lenS, inR, cutS, loI, hiI] at *); omega) | exact nnS (by decide) | exact List.eq_nil_of_length_eq_zero (by assumption) | exact dT (by omega) | exact dF (by omega) | exact decide_eq_decide.2 (by omega) | (split <;> first | rfl | (exfalso; omega)) | (refine ⟨fun h => ?_, fun h => ?_⟩ <;> first | rfl | (cases h; done) | omega | (exfalso; omega) | (simp only [Bool.false_eq_true] at h; done)) | (simp only [*]; done) | (simp only [*, List.map_cons, List.map_nil, eB]; done) | (simp [*]; done) | (dsimp only [resS, put_c]; done) | (dsimp only [resS, put_c]; first | with_reducible rfl | exact True.intro | assumption | omega | (refine congrArg (SV.int _) ?_; omega) | ((try simp only [lenS, inR, cutS, loI, hiI]); omega) | (simp only [*]; done) | (simp only [*, List.map_cons, List.map_nil, eB]; done) | (simp [*]; done)))) | (refine Idx.mk ?_ ?_; focus (first | omega | (simp only [lenS, inR, cutS, loI, hiI]; omega))) | refine RetE.mk () trivial ?_ | refine Got.mk (fun _ _ => ?_) | refine Ex.mk _ rfl ?_ | refine Ex.mk [_] rfl ?_ | refine Ex.mk [_, _] rfl ?_ | refine Ex.mk [_, _, _] rfl ?_ | refine Ex.mk [_, _, _, _] rfl ?_ | refine boolK (fun h => ?_) ?_ | (with_reducible first | refine Unf.h ?_ | refine loopK_n ?_ | refine cutK_n ?_) | refine retK_n ?_ | refine retK_r ?_ | exact rfl | exact True.intro)); all_goals try (conv => whnf)
      · have hidx : ((n : Int) - 1).toNat < A.length := by omega
        obtain ⟨⟨ha0, ha1⟩, hal⟩ := hpm _ (List.getElem_mem hidx)
        have hdrop : A.drop (n - 1) = A[((n : Int) - 1).toNat]'hidx :: A.drop n := by
          have := List.drop_eq_getElem_cons (l := A) (i := n - 1) (by omega)
          rw [this]
          congr 1
          · congr 1; omega
          · congr 1; omega
        have hup : upF k (A.drop (n - 1)) s0 = upS k (A[((n : Int) - 1).toNat]'hidx) (upF k (A.drop n) s0) := by rw [hdrop]; rfl
        generalize hav : A[((n : Int) - 1).toNat]'hidx = av at *
        generalize hL : upF k (A.drop n) s0 = sn at *
        have hbd : av.toNat < sn.1.length := by omega
        have hea : (sn.1)[av.toNat]'hbd = nd sn.1 av := nd_get _ av ha0 _
        have hla : nd sn.1 av = nd l av := by rw [h1]; exact nd_app _ _ _ ha1
        have hch : inF sn.1 (nd sn.1 av).left ∧ inF sn.1 (nd sn.1 av).right := by
          rw [hla]
          rcases hc av ⟨ha0, ha1⟩ with hx | hx
          · rw [hal] at hx; cases hx
          · exact ⟨⟨hx.1.1, by omega⟩, hx.2.1, by omega⟩
        have hM : inF sn.1 sn.2 := ⟨by omega, by omega⟩
        have hadd : add_c.pre (sn.1, turnN k (nd sn.1 av) sn.2) := ⟨by omega, .inr (by unfold turnN; split; exact ⟨hch.1, hM⟩; exact ⟨hM, hch.2⟩)⟩
        have hle : inR sn.2 := ⟨by have := hM.1; omega, by have := hM.2; omega⟩
        have hupe : upS k av sn = (sn.1 ++ [mk sn.1 (turnN k (nd sn.1 av) sn.2)], (sn.1.length : Int)) := rfl
        rw [hupe] at hup
        clear h1 hla hS hl1e hs0 hA hpm hav hL hupe hdrop
        repeat' (first | (with_reducible first | refine Unf.h ?_ | refine loopK_n ?_ | refine cutK_n ?_) | ((conv => whnf); first | refine Both.mk ?_ ?_ | refine Fork.mkn (fun h => ?_) (fun h => ?_) | refine Fork.mk (fun h => ?_) (fun h => ?_) | (refine Side.mk ?_ ?_; focus (first | with_reducible rfl | exact True.intro | assumption | omega | (refine congrArg (SV.int _) ?_; omega) | (dsimp only; omega) | (intros; (try simp only [lenS, inR, cutS, loI, hiI] at *); omega) | exact nnS (by decide) | exact List.eq_nil_of_length_eq_zero (by assumption) | exact dT (by omega) | exact dF (by omega) | exact decide_eq_decide.2 (by omega) | (split <;> first | rfl | (exfalso; omega)) | (refine ⟨fun h => ?_, fun h => ?_⟩ <;> first | rfl | (cases h; done) | omega | (exfalso; omega) | (simp only [Bool.false_eq_true] at h; done)) | (simp only [*]; done) | (simp only [*, List.map_cons, List.map_nil, eB]; done) | (simp [*]; done) | (dsimp only [resS, put_c]; done) | (dsimp only [resS, put_c]; first | with_reducible rfl | exact True.intro | assumption | omega | (refine congrArg (SV.int _) ?_; omega) | ((try simp only [lenS, inR, cutS, loI, hiI]); omega) | (simp only [*]; done) | (simp only [*, List.map_cons, List.map_nil, eB]; done) | (simp [*]; done)))) | (refine Idx.mk ?_ ?_; focus (first | omega | (simp only [lenS, inR, cutS, loI, hiI]; omega))) | refine RetE.mk () trivial ?_ | refine Got.mk (fun _ _ => ?_) | refine Ex.mk _ rfl ?_ | refine Ex.mk [_] rfl ?_ | refine Ex.mk [_, _] rfl ?_ | refine Ex.mk [_, _, _] rfl ?_ | refine Ex.mk [_, _, _, _] rfl ?_ | refine boolK (fun h => ?_) ?_ | (with_reducible first | refine Unf.h ?_ | refine loopK_n ?_ | refine cutK_n ?_) | refine retK_n ?_ | refine retK_r ?_ | exact rfl | exact True.intro)); all_goals try (conv => whnf)
        refine CallS.mk (c := bit_c) ((k, (nd sn.1 av).plen)) ?_
        repeat' (first | (with_reducible first | refine Unf.h ?_ | refine loopK_n ?_ | refine cutK_n ?_) | ((conv => whnf); first | refine Both.mk ?_ ?_ | refine Fork.mkn (fun h => ?_) (fun h => ?_) | refine Fork.mk (fun h => ?_) (fun h => ?_) | (refine Side.mk ?_ ?_; focus (first | with_reducible rfl | exact True.intro | assumption | omega | (refine congrArg (SV.int _) ?_; omega) | (dsimp only; omega) | (intros; (try simp only [lenS, inR, cutS, loI, hiI, hea] at *); omega) | exact nnS (by decide) | exact List.eq_nil_of_length_eq_zero (by assumption) | exact dT (by omega) | exact dF (by omega) | exact decide_eq_decide.2 (by omega) | (split <;> first | rfl | (exfalso; omega)) | (refine ⟨fun h => ?_, fun h => ?_⟩ <;> first | rfl | (cases h; done) | omega | (exfalso; omega) | (simp only [Bool.false_eq_true] at h; done)) | (simp only [*, hea]; done) | (simp only [*, hea, List.map_cons, List.map_nil, eB]; done) | (simp [*, hea]; done) | (dsimp only [resS, put_c]; done) | (dsimp only [resS, put_c]; first | with_reducible rfl | exact True.intro | assumption | omega | (refine congrArg (SV.int _) ?_; omega) | ((try simp only [lenS, inR, cutS, loI, hiI, hea]); omega) | (simp only [*, hea]; done) | (simp only [*, hea, List.map_cons, List.map_nil, eB]; done) | (simp [*, hea]; done)))) | (refine Idx.mk ?_ ?_; focus (first | omega | (simp only [lenS, inR, cutS, loI, hiI, hea]; omega))) | refine RetE.mk () trivial ?_ | refine Got.mk (fun _ _ => ?_) | refine Ex.mk _ rfl ?_ | refine Ex.mk [_] rfl ?_ | refine Ex.mk [_, _] rfl ?_ | refine Ex.mk [_, _, _] rfl ?_ | refine Ex.mk [_, _, _, _] rfl ?_ | refine boolK (fun h => ?_) ?_ | (with_reducible first | refine Unf.h ?_ | refine loopK_n ?_ | refine cutK_n ?_) | refine retK_n ?_ | refine retK_r ?_ | exact rfl | exact True.intro)); all_goals try (conv => whnf)
        · have ht2 : turnN k (nd sn.1 av) sn.2 = _ := if_pos h
          refine CallS.mk (c := add_c) ((sn.1, turnN k (nd sn.1 av) sn.2)) ?_
          rw [ht2] at hadd hup ⊢
          repeat' (first | (with_reducible first | refine Unf.h ?_ | refine loopK_n ?_ | refine cutK_n ?_) | ((conv => whnf); first | refine Both.mk ?_ ?_ | refine Fork.mkn (fun h => ?_) (fun h => ?_) | refine Fork.mk (fun h => ?_) (fun h => ?_) | (refine Side.mk ?_ ?_; focus (first | with_reducible rfl | exact True.intro | assumption | omega | (refine congrArg (SV.int _) ?_; omega) | (dsimp only; omega) | (intros; (try simp only [lenS, inR, cutS, loI, hiI, hea] at *); omega) | exact nnS (by decide) | exact List.eq_nil_of_length_eq_zero (by assumption) | exact dT (by omega) | exact dF (by omega) | exact decide_eq_decide.2 (by omega) | (split <;> first | rfl | (exfalso; omega)) | (refine ⟨fun h => ?_, fun h => ?_⟩ <;> first | rfl | (cases h; done) | omega | (exfalso; omega) | (simp only [Bool.false_eq_true] at h; done)) | (simp only [*, hea]; done) | (simp only [*, hea, List.map_cons, List.map_nil, eB]; done) | (simp [*, hea]; done) | (dsimp only [resS, put_c]; done) | (dsimp only [resS, put_c]; first | with_reducible rfl | exact True.intro | assumption | omega | (refine congrArg (SV.int _) ?_; omega) | ((try simp only [lenS, inR, cutS, loI, hiI, hea]); omega) | (simp only [*, hea]; done) | (simp only [*, hea, List.map_cons, List.map_nil, eB]; done) | (simp [*, hea]; done)))) | (refine Idx.mk ?_ ?_; focus (first | omega | (simp only [lenS, inR, cutS, loI, hiI, hea]; omega))) | refine RetE.mk () trivial ?_ | refine Got.mk (fun _ _ => ?_) | refine Ex.mk _ rfl ?_ | refine Ex.mk [_] rfl ?_ | refine Ex.mk [_, _] rfl ?_ | refine Ex.mk [_, _, _] rfl ?_ | refine Ex.mk [_, _, _, _] rfl ?_ | refine boolK (fun h => ?_) ?_ | (with_reducible first | refine Unf.h ?_ | refine loopK_n ?_ | refine cutK_n ?_) | refine retK_n ?_ | refine retK_r ?_ | exact rfl | exact True.intro)); all_goals try (conv => whnf)
          refine ⟨n - 1, ⟨by omega, by omega⟩, ?_⟩
          repeat' (first | (with_reducible first | refine Unf.h ?_ | refine loopK_n ?_ | refine cutK_n ?_) | ((conv => whnf); first | refine Both.mk ?_ ?_ | refine Fork.mkn (fun h => ?_) (fun h => ?_) | refine Fork.mk (fun h => ?_) (fun h => ?_) | (refine Side.mk ?_ ?_; focus (first | with_reducible rfl | exact True.intro | assumption | omega | (refine congrArg (SV.int _) ?_; omega) | (dsimp only; omega) | (intros; (try simp only [lenS, inR, cutS, loI, hiI, hup] at *); omega) | exact nnS (by decide) | exact List.eq_nil_of_length_eq_zero (by assumption) | exact dT (by omega) | exact dF (by omega) | exact decide_eq_decide.2 (by omega) | (split <;> first | rfl | (exfalso; omega)) | (refine ⟨fun h => ?_, fun h => ?_⟩ <;> first | rfl | (cases h; done) | omega | (exfalso; omega) | (simp only [Bool.false_eq_true] at h; done)) | (simp only [*, hup]; done) | (simp only [*, hup, List.map_cons, List.map_nil, eB]; done) | (simp [*, hup]; done) | (dsimp only [resS, put_c]; done) | (dsimp only [resS, put_c]; first | with_reducible rfl | exact True.intro | assumption | omega | (refine congrArg (SV.int _) ?_; omega) | ((try simp only [lenS, inR, cutS, loI, hiI, hup]); omega) | (simp only [*, hup]; done) | (simp only [*, hup, List.map_cons, List.map_nil, eB]; done) | (simp [*, hup]; done)))) | (refine Idx.mk ?_ ?_; focus (first | omega | (simp only [lenS, inR, cutS, loI, hiI, hup]; omega))) | refine RetE.mk () trivial ?_ | refine Got.mk (fun _ _ => ?_) | refine Ex.mk _ rfl ?_ | refine Ex.mk [_] rfl ?_ | refine Ex.mk [_, _] rfl ?_ | refine Ex.mk [_, _, _] rfl ?_ | refine Ex.mk [_, _, _, _] rfl ?_ | refine boolK (fun h => ?_) ?_ | (with_reducible first | refine Unf.h ?_ | refine loopK_n ?_ | refine cutK_n ?_) | refine retK_n ?_ | refine retK_r ?_ | exact rfl | exact True.intro)); all_goals try (conv => whnf)
        · have ht2 : turnN k (nd sn.1 av) sn.2 = _ := if_neg h
          refine CallS.mk (c := add_c) ((sn.1, turnN k (nd sn.1 av) sn.2)) ?_
          rw [ht2] at hadd hup ⊢
          repeat' (first | (with_reducible first | refine Unf.h ?_ | refine loopK_n ?_ | refine cutK_n ?_) | ((conv => whnf); first | refine Both.mk ?_ ?_ | refine Fork.mkn (fun h => ?_) (fun h => ?_) | refine Fork.mk (fun h => ?_) (fun h => ?_) | (refine Side.mk ?_ ?_; focus (first | with_reducible rfl | exact True.intro | assumption | omega | (refine congrArg (SV.int _) ?_; omega) | (dsimp only; omega) | (intros; (try simp only [lenS, inR, cutS, loI, hiI, hea] at *); omega) | exact nnS (by decide) | exact List.eq_nil_of_length_eq_zero (by assumption) | exact dT (by omega) | exact dF (by omega) | exact decide_eq_decide.2 (by omega) | (split <;> first | rfl | (exfalso; omega)) | (refine ⟨fun h => ?_, fun h => ?_⟩ <;> first | rfl | (cases h; done) | omega | (exfalso; omega) | (simp only [Bool.false_eq_true] at h; done)) | (simp only [*, hea]; done) | (simp only [*, hea, List.map_cons, List.map_nil, eB]; done) | (simp [*, hea]; done) | (dsimp only [resS, put_c]; done) | (dsimp only [resS, put_c]; first | with_reducible rfl | exact True.intro | assumption | omega | (refine congrArg (SV.int _) ?_; omega) | ((try simp only [lenS, inR, cutS, loI, hiI, hea]); omega) | (simp only [*, hea]; done) | (simp only [*, hea, List.map_cons, List.map_nil, eB]; done) | (simp [*, hea]; done)))) | (refine Idx.mk ?_ ?_; focus (first | omega | (simp only [lenS, inR, cutS, loI, hiI, hea]; omega))) | refine RetE.mk () trivial ?_ | refine Got.mk (fun _ _ => ?_) | refine Ex.mk _ rfl ?_ | refine Ex.mk [_] rfl ?_ | refine Ex.mk [_, _] rfl ?_ | refine Ex.mk [_, _, _] rfl ?_ | refine Ex.mk [_, _, _, _] rfl ?_ | refine boolK (fun h => ?_) ?_ | (with_reducible first | refine Unf.h ?_ | refine loopK_n ?_ | refine cutK_n ?_) | refine retK_n ?_ | refine retK_r ?_ | exact rfl | exact True.intro)); all_goals try (conv => whnf)
          refine ⟨n - 1, ⟨by omega, by omega⟩, ?_⟩
          repeat' (first | (with_reducible first | refine Unf.h ?_ | refine loopK_n ?_ | refine cutK_n ?_) | ((conv => whnf); first | refine Both.mk ?_ ?_ | refine Fork.mkn (fun h => ?_) (fun h => ?_) | refine Fork.mk (fun h => ?_) (fun h => ?_) | (refine Side.mk ?_ ?_; focus (first | with_reducible rfl | exact True.intro | assumption | omega | (refine congrArg (SV.int _) ?_; omega) | (dsimp only; omega) | (intros; (try simp only [lenS, inR, cutS, loI, hiI, hup] at *); omega) | exact nnS (by decide) | exact List.eq_nil_of_length_eq_zero (by assumption) | exact dT (by omega) | exact dF (by omega) | exact decide_eq_decide.2 (by omega) | (split <;> first | rfl | (exfalso; omega)) | (refine ⟨fun h => ?_, fun h => ?_⟩ <;> first | rfl | (cases h; done) | omega | (exfalso; omega) | (simp only [Bool.false_eq_true] at h; done)) | (simp only [*, hup]; done) | (simp only [*, hup, List.map_cons, List.map_nil, eB]; done) | (simp [*, hup]; done) | (dsimp only [resS, put_c]; done) | (dsimp only [resS, put_c]; first | with_reducible rfl | exact True.intro | assumption | omega | (refine congrArg (SV.int _) ?_; omega) | ((try simp only [lenS, inR, cutS, loI, hiI, hup]); omega) | (simp only [*, hup]; done) | (simp only [*, hup, List.map_cons, List.map_nil, eB]; done) | (simp [*, hup]; done)))) | (refine Idx.mk ?_ ?_; focus (first | omega | (simp only [lenS, inR, cutS, loI, hiI, hup]; omega))) | refine RetE.mk () trivial ?_ | refine Got.mk (fun _ _ => ?_) | refine Ex.mk _ rfl ?_ | refine Ex.mk [_] rfl ?_ | refine Ex.mk [_, _] rfl ?_ | refine Ex.mk [_, _, _] rfl ?_ | refine Ex.mk [_, _, _, _] rfl ?_ | refine boolK (fun h => ?_) ?_ | (with_reducible first | refine Unf.h ?_ | refine loopK_n ?_ | refine cutK_n ?_) | refine retK_n ?_ | refine retK_r ?_ | exact rfl | exact True.intro)); all_goals try (conv => whnf)
      · have hn0 : n = 0 := by omega
        subst hn0
        have hfin : putF l t k v = upF k (A.drop 0) s0 := by unfold putF; rw [hA, he, hS]; rfl
        repeat' (first | (with_reducible first | refine Unf.h ?_ | refine loopK_n ?_ | refine cutK_n ?_) | ((conv => whnf); first | refine Both.mk ?_ ?_ | refine Fork.mkn (fun h => ?_) (fun h => ?_) | refine Fork.mk (fun h => ?_) (fun h => ?_) | (refine Side.mk ?_ ?_; focus (first | with_reducible rfl | exact True.intro | assumption | omega | (refine congrArg (SV.int _) ?_; omega) | (dsimp only; omega) | (intros; (try simp only [lenS, inR, cutS, loI, hiI, hfin] at *); omega) | exact nnS (by decide) | exact List.eq_nil_of_length_eq_zero (by assumption) | exact dT (by omega) | exact dF (by omega) | exact decide_eq_decide.2 (by omega) | (split <;> first | rfl | (exfalso; omega)) | (refine ⟨fun h => ?_, fun h => ?_⟩ <;> first | rfl | (cases h; done) | omega | (exfalso; omega) | (simp only [Bool.false_eq_true] at h; done)) | (simp only [*, hfin]; done) | (simp only [*, hfin, List.map_cons, List.map_nil, eB]; done) | (simp [*, hfin]; done) | (dsimp only [resS, put_c]; done) | (dsimp only [resS, put_c]; first | with_reducible rfl | exact True.intro | assumption | omega | (refine congrArg (SV.int _) ?_; omega) | ((try simp only [lenS, inR, cutS, loI, hiI, hfin]); omega) | (simp only [*, hfin]; done) | (simp only [*, hfin, List.map_cons, List.map_nil, eB]; done) | (simp [*, hfin]; done)))) | (refine Idx.mk ?_ ?_; focus (first | omega | (simp only [lenS, inR, cutS, loI, hiI, hfin]; omega))) | refine RetE.mk () trivial ?_ | refine Got.mk (fun _ _ => ?_) | refine Ex.mk _ rfl ?_ | refine Ex.mk [_] rfl ?_ | refine Ex.mk [_, _] rfl ?_ | refine Ex.mk [_, _, _] rfl ?_ | refine Ex.mk [_, _, _, _] rfl ?_ | refine boolK (fun h => ?_) ?_ | (with_reducible first | refine Unf.h ?_ | refine loopK_n ?_ | refine cutK_n ?_) | refine retK_n ?_ | refine retK_r ?_ | exact rfl | exact True.intro)); all_goals try (conv => whnf)
end Go.Proofs.YtffaohckcggkdaaDoor

namespace Go.Proofs.YtffaohckcggkdaaDoor
set_option linter.all false
open Go.RowKit
/-! the first law's fixed fact -/
def awake11_c : Ctr where
  D := Unit
  args := fun _ => []
  res := fun _ _ => .bool true
abbrev key1 : H256 := (Vector.replicate 32 0#8).setIfInBounds 0 1#8
abbrev key2 : H256 := (Vector.replicate 32 0#8).setIfInBounds 0 2#8
theorem path_none (k : H256) : path [] k (-1) = ([], -1) := path_stop fun h => h.1 rfl
theorem put_none (k v : H256) : putF [] (-1) k v = ([mk [] (leafN k v)], 0) := by
  unfold putF
  rw [path_none]
  show startF [] k v (-1) = _
  unfold startF
  rw [if_neg (fun h => h.1 rfl)]; rfl
theorem closed_nil : closed [] := fun i hi => by have := hi.1; have := hi.2; simp at this; omega
def awake11_H : Cfg := ⟨[(44, put_c), (33, size_c)], [], [], [], 24, 0, [], []⟩
theorem awake11_ok : awake11_c.Ok Tryd.prog 25 := by
  refine fn_ok awake11_H 0 rfl _ Tryd.func25 rfl rfl ⟨put_ok, size_ok, trivial⟩ rfl rfl (by kernel_rfl) (fun _ => Nat.le_of_ble_eq_true rfl) ?_
  intro (_ : Unit) hp hr
  have hpre : put_c.pre ([], -1, key1, key2) := ⟨by simp, closed_nil, by decide, by decide⟩
  have e := put_none key1 key2
  repeat' (first | (with_reducible first | refine Unf.h ?_ | refine loopK_n ?_ | refine cutK_n ?_) | ((conv => whnf); first | refine Both.mk ?_ ?_ | refine Fork.mkn (fun h => ?_) (fun h => ?_) | refine Fork.mk (fun h => ?_) (fun h => ?_) | (refine Side.mk ?_ ?_; focus (first | with_reducible rfl | exact True.intro | assumption | omega | (refine congrArg (SV.int _) ?_; omega) | (dsimp only; omega) | (intros; (try simp only [lenS, inR, cutS, loI, hiI] at *); omega) | exact nnS (by decide) | exact List.eq_nil_of_length_eq_zero (by assumption) | exact dT (by omega) | exact dF (by omega) | exact decide_eq_decide.2 (by omega) | (split <;> first | rfl | (exfalso; omega)) | (refine ⟨fun h => ?_, fun h => ?_⟩ <;> first | rfl | (cases h; done) | omega | (exfalso; omega) | (simp only [Bool.false_eq_true] at h; done)) | (simp only [*]; done) | (simp only [*, List.map_cons, List.map_nil, eB]; done) | (simp [*]; done) | (dsimp only [resS, put_c]; done) | (dsimp only [resS, put_c]; first | with_reducible rfl | exact True.intro | assumption | omega | (refine congrArg (SV.int _) ?_; omega) | ((try simp only [lenS, inR, cutS, loI, hiI]); omega) | (simp only [*]; done) | (simp only [*, List.map_cons, List.map_nil, eB]; done) | (simp [*]; done)))) | (refine Idx.mk ?_ ?_; focus (first | omega | (simp only [lenS, inR, cutS, loI, hiI]; omega))) | refine RetE.mk () trivial ?_ | refine Got.mk (fun _ _ => ?_) | refine Ex.mk _ rfl ?_ | refine Ex.mk [_] rfl ?_ | refine Ex.mk [_, _] rfl ?_ | refine Ex.mk [_, _, _] rfl ?_ | refine Ex.mk [_, _, _, _] rfl ?_ | refine boolK (fun h => ?_) ?_ | (with_reducible first | refine Unf.h ?_ | refine loopK_n ?_ | refine cutK_n ?_) | refine retK_n ?_ | refine retK_r ?_ | exact rfl | exact True.intro)); all_goals try (conv => whnf)
  refine CallS.mk (c := put_c) (([], -1, key1, key2)) ?_
  repeat' (first | (with_reducible first | refine Unf.h ?_ | refine loopK_n ?_ | refine cutK_n ?_) | ((conv => whnf); first | refine Both.mk ?_ ?_ | refine Fork.mkn (fun h => ?_) (fun h => ?_) | refine Fork.mk (fun h => ?_) (fun h => ?_) | (refine Side.mk ?_ ?_; focus (first | with_reducible rfl | exact True.intro | assumption | omega | (refine congrArg (SV.int _) ?_; omega) | (dsimp only; omega) | (intros; (try simp only [lenS, inR, cutS, loI, hiI, e] at *); omega) | exact nnS (by decide) | exact List.eq_nil_of_length_eq_zero (by assumption) | exact dT (by omega) | exact dF (by omega) | exact decide_eq_decide.2 (by omega) | (split <;> first | rfl | (exfalso; omega)) | (refine ⟨fun h => ?_, fun h => ?_⟩ <;> first | rfl | (cases h; done) | omega | (exfalso; omega) | (simp only [Bool.false_eq_true] at h; done)) | (simp only [*, e]; done) | (simp only [*, e, List.map_cons, List.map_nil, eB]; done) | (simp [*, e]; done) | (dsimp only [resS, put_c]; done) | (dsimp only [resS, put_c]; first | with_reducible rfl | exact True.intro | assumption | omega | (refine congrArg (SV.int _) ?_; omega) | ((try simp only [lenS, inR, cutS, loI, hiI, e]); omega) | (simp only [*, e]; done) | (simp only [*, e, List.map_cons, List.map_nil, eB]; done) | (simp [*, e]; done)))) | (refine Idx.mk ?_ ?_; focus (first | omega | (simp only [lenS, inR, cutS, loI, hiI, e]; omega))) | refine RetE.mk () trivial ?_ | refine Got.mk (fun _ _ => ?_) | refine Ex.mk _ rfl ?_ | refine Ex.mk [_] rfl ?_ | refine Ex.mk [_, _] rfl ?_ | refine Ex.mk [_, _, _] rfl ?_ | refine Ex.mk [_, _, _, _] rfl ?_ | refine boolK (fun h => ?_) ?_ | (with_reducible first | refine Unf.h ?_ | refine loopK_n ?_ | refine cutK_n ?_) | refine retK_n ?_ | refine retK_r ?_ | exact rfl | exact True.intro)); all_goals try (conv => whnf)
  · refine CallS.mk (c := size_c) ((putF [] (-1) key1 key2).1) ?_
    repeat' (first | (with_reducible first | refine Unf.h ?_ | refine loopK_n ?_ | refine cutK_n ?_) | ((conv => whnf); first | refine Both.mk ?_ ?_ | refine Fork.mkn (fun h => ?_) (fun h => ?_) | refine Fork.mk (fun h => ?_) (fun h => ?_) | (refine Side.mk ?_ ?_; focus (first | with_reducible rfl | exact True.intro | assumption | omega | (refine congrArg (SV.int _) ?_; omega) | (dsimp only; omega) | (intros; (try simp only [lenS, inR, cutS, loI, hiI] at *); omega) | exact nnS (by decide) | exact List.eq_nil_of_length_eq_zero (by assumption) | exact dT (by omega) | exact dF (by omega) | exact decide_eq_decide.2 (by omega) | (split <;> first | rfl | (exfalso; omega)) | (refine ⟨fun h => ?_, fun h => ?_⟩ <;> first | rfl | (cases h; done) | omega | (exfalso; omega) | (simp only [Bool.false_eq_true] at h; done)) | (simp only [*]; done) | (simp only [*, List.map_cons, List.map_nil, eB]; done) | (simp [*]; done) | (dsimp only [resS, put_c]; done) | (dsimp only [resS, put_c]; first | with_reducible rfl | exact True.intro | assumption | omega | (refine congrArg (SV.int _) ?_; omega) | ((try simp only [lenS, inR, cutS, loI, hiI]); omega) | (simp only [*]; done) | (simp only [*, List.map_cons, List.map_nil, eB]; done) | (simp [*]; done)))) | (refine Idx.mk ?_ ?_; focus (first | omega | (simp only [lenS, inR, cutS, loI, hiI]; omega))) | refine RetE.mk () trivial ?_ | refine Got.mk (fun _ _ => ?_) | refine Ex.mk _ rfl ?_ | refine Ex.mk [_] rfl ?_ | refine Ex.mk [_, _] rfl ?_ | refine Ex.mk [_, _, _] rfl ?_ | refine Ex.mk [_, _, _, _] rfl ?_ | refine boolK (fun h => ?_) ?_ | (with_reducible first | refine Unf.h ?_ | refine loopK_n ?_ | refine cutK_n ?_) | refine retK_n ?_ | refine retK_r ?_ | exact rfl | exact True.intro)); all_goals try (conv => whnf)
  · rw [e] at h; exact absurd rfl h
def texts_c : Ctr where
  D := Nd × H256 × H256
  args := fun (n, l, r) => [.agg (eNd n), .agg [.arr8 l], .agg [.arr8 r]]
  res := fun _ _ => .bool true
def texts_H : Cfg := ⟨[(25, awake11_c), (27, ttext_c), (28, rleaf_c), (29, rinner_c), (26, same_c), (30, hempty_c), (31, rempty_c)], [(2, [2, 3, 4, 7, 9], [0, 5, 11, 12], (.one 0 2 true (.one 1 0 false (.one 2 1 false (.one 3 1 false (.one 4 1 false (.one 6 0 false (.one 7 1 false (.one 8 0 false (.one 9 1 false (.one 10 0 false (.one 5 2 true (.one 11 2 false (.one 12 2 false (.one 13 0 false (.one 14 0 false .nil))))))))))))))), []), (5, [2, 3, 4, 7, 8, 9], [0, 5, 10, 11, 14, 15], (.one 0 2 true (.one 1 0 false (.one 2 1 false (.one 3 1 false (.one 4 1 false (.one 6 0 false (.one 7 1 false (.one 8 1 false (.one 9 1 false (.one 5 2 true (.one 10 2 false (.one 11 2 false (.one 12 0 false (.one 13 0 false (.one 14 2 false (.one 15 2 false (.one 16 0 false (.one 17 0 false (.one 18 0 false .nil))))))))))))))))))), [])], [], [], 52, 0, [], []⟩
theorem texts_ok : texts_c.Ok Tryd.prog 5 := by
  refine fn_ok texts_H 0 rfl _ Tryd.func5 rfl rfl ⟨awake11_ok, ttext_ok, rleaf_ok, rinner_ok, same_ok, hempty_ok, rempty_ok, trivial⟩ rfl rfl (by kernel_rfl) (fun _ => Nat.le_of_ble_eq_true rfl) ?_
  rintro ⟨n, l, r⟩ hp hr
  try dsimp only [texts_c] at hp
  try simp only [texts_c, Rng, RngL, inR, and_true, true_and] at hr
  obtain ⟨leaf, key, value, plen, bits, left, right, hash⟩ := n
  cases leaf
  · repeat' (first | (with_reducible first | refine Unf.h ?_ | refine loopK_n ?_ | refine cutK_n ?_) | ((conv => whnf); first | refine Both.mk ?_ ?_ | refine Fork.mkn (fun h => ?_) (fun h => ?_) | refine Fork.mk (fun h => ?_) (fun h => ?_) | (refine Side.mk ?_ ?_; focus (first | with_reducible rfl | exact True.intro | assumption | omega | (refine congrArg (SV.int _) ?_; omega) | (dsimp only; omega) | (intros; (try simp only [lenS, inR, cutS, loI, hiI] at *); omega) | exact nnS (by decide) | exact List.eq_nil_of_length_eq_zero (by assumption) | exact dT (by omega) | exact dF (by omega) | exact decide_eq_decide.2 (by omega) | (split <;> first | rfl | (exfalso; omega)) | (refine ⟨fun h => ?_, fun h => ?_⟩ <;> first | rfl | (cases h; done) | omega | (exfalso; omega) | (simp only [Bool.false_eq_true] at h; done)) | (simp only [*]; done) | (simp only [*, List.map_cons, List.map_nil, eB]; done) | (simp [*]; done) | (dsimp only [resS, texts_c]; done) | (dsimp only [resS, texts_c]; first | with_reducible rfl | exact True.intro | assumption | omega | (refine congrArg (SV.int _) ?_; omega) | ((try simp only [lenS, inR, cutS, loI, hiI]); omega) | (simp only [*]; done) | (simp only [*, List.map_cons, List.map_nil, eB]; done) | (simp [*]; done)))) | (refine Idx.mk ?_ ?_; focus (first | omega | (simp only [lenS, inR, cutS, loI, hiI]; omega))) | refine RetE.mk () trivial ?_ | refine Got.mk (fun _ _ => ?_) | refine Ex.mk _ rfl ?_ | refine Ex.mk [_] rfl ?_ | refine Ex.mk [_, _] rfl ?_ | refine Ex.mk [_, _, _] rfl ?_ | refine Ex.mk [_, _, _, _] rfl ?_ | refine boolK (fun h => ?_) ?_ | (with_reducible first | refine Unf.h ?_ | refine loopK_n ?_ | refine cutK_n ?_) | refine retK_n ?_ | refine retK_r ?_ | exact rfl | exact True.intro | refine CallS.mk (c := awake11_c) (()) ?_)); all_goals try (conv => whnf)
    refine CallS.mk (c := ttext_c) ((⟨false, key, value, plen, bits, left, right, hash⟩, l, r)) ?_
    repeat' (first | (with_reducible first | refine Unf.h ?_ | refine loopK_n ?_ | refine cutK_n ?_) | ((conv => whnf); first | refine Both.mk ?_ ?_ | refine Fork.mkn (fun h => ?_) (fun h => ?_) | refine Fork.mk (fun h => ?_) (fun h => ?_) | (refine Side.mk ?_ ?_; focus (first | with_reducible rfl | exact True.intro | assumption | omega | (refine congrArg (SV.int _) ?_; omega) | (dsimp only; omega) | (intros; (try simp only [lenS, inR, cutS, loI, hiI] at *); omega) | exact nnS (by decide) | exact List.eq_nil_of_length_eq_zero (by assumption) | exact dT (by omega) | exact dF (by omega) | exact decide_eq_decide.2 (by omega) | (split <;> first | rfl | (exfalso; omega)) | (refine ⟨fun h => ?_, fun h => ?_⟩ <;> first | rfl | (cases h; done) | omega | (exfalso; omega) | (simp only [Bool.false_eq_true] at h; done)) | (simp only [*]; done) | (simp only [*, List.map_cons, List.map_nil, eB]; done) | (simp [*]; done) | (dsimp only [resS, texts_c]; done) | (dsimp only [resS, texts_c]; first | with_reducible rfl | exact True.intro | assumption | omega | (refine congrArg (SV.int _) ?_; omega) | ((try simp only [lenS, inR, cutS, loI, hiI]); omega) | (simp only [*]; done) | (simp only [*, List.map_cons, List.map_nil, eB]; done) | (simp [*]; done)))) | (refine Idx.mk ?_ ?_; focus (first | omega | (simp only [lenS, inR, cutS, loI, hiI]; omega))) | refine RetE.mk () trivial ?_ | refine Got.mk (fun _ _ => ?_) | refine Ex.mk _ rfl ?_ | refine Ex.mk [_] rfl ?_ | refine Ex.mk [_, _] rfl ?_ | refine Ex.mk [_, _, _] rfl ?_ | refine Ex.mk [_, _, _, _] rfl ?_ | refine boolK (fun h => ?_) ?_ | (with_reducible first | refine Unf.h ?_ | refine loopK_n ?_ | refine cutK_n ?_) | refine retK_n ?_ | refine retK_r ?_ | exact rfl | exact True.intro)); all_goals try (conv => whnf)
    refine CallS.mk (c := rinner_c) ((plen, bits, l, r)) ?_
    repeat' (first | (with_reducible first | refine Unf.h ?_ | refine loopK_n ?_ | refine cutK_n ?_) | ((conv => whnf); first | refine Both.mk ?_ ?_ | refine Fork.mkn (fun h => ?_) (fun h => ?_) | refine Fork.mk (fun h => ?_) (fun h => ?_) | (refine Side.mk ?_ ?_; focus (first | with_reducible rfl | exact True.intro | assumption | omega | (refine congrArg (SV.int _) ?_; omega) | (dsimp only; omega) | (intros; (try simp only [lenS, inR, cutS, loI, hiI] at *); omega) | exact nnS (by decide) | exact List.eq_nil_of_length_eq_zero (by assumption) | exact dT (by omega) | exact dF (by omega) | exact decide_eq_decide.2 (by omega) | (split <;> first | rfl | (exfalso; omega)) | (refine ⟨fun h => ?_, fun h => ?_⟩ <;> first | rfl | (cases h; done) | omega | (exfalso; omega) | (simp only [Bool.false_eq_true] at h; done)) | (simp only [*]; done) | (simp only [*, List.map_cons, List.map_nil, eB]; done) | (simp [*]; done) | (dsimp only [resS, texts_c]; done) | (dsimp only [resS, texts_c]; first | with_reducible rfl | exact True.intro | assumption | omega | (refine congrArg (SV.int _) ?_; omega) | ((try simp only [lenS, inR, cutS, loI, hiI]); omega) | (simp only [*]; done) | (simp only [*, List.map_cons, List.map_nil, eB]; done) | (simp [*]; done)))) | (refine Idx.mk ?_ ?_; focus (first | omega | (simp only [lenS, inR, cutS, loI, hiI]; omega))) | refine RetE.mk () trivial ?_ | refine Got.mk (fun _ _ => ?_) | refine Ex.mk _ rfl ?_ | refine Ex.mk [_] rfl ?_ | refine Ex.mk [_, _] rfl ?_ | refine Ex.mk [_, _, _] rfl ?_ | refine Ex.mk [_, _, _, _] rfl ?_ | refine boolK (fun h => ?_) ?_ | (with_reducible first | refine Unf.h ?_ | refine loopK_n ?_ | refine cutK_n ?_) | refine retK_n ?_ | refine retK_r ?_ | exact rfl | exact True.intro)); all_goals try (conv => whnf)
    refine CallS.mk (c := same_c) ((innerT plen bits l r, innerT plen bits l r)) ?_
    repeat' (first | (with_reducible first | refine Unf.h ?_ | refine loopK_n ?_ | refine cutK_n ?_) | ((conv => whnf); first | refine Both.mk ?_ ?_ | refine Fork.mkn (fun h => ?_) (fun h => ?_) | refine Fork.mk (fun h => ?_) (fun h => ?_) | (refine Side.mk ?_ ?_; focus (first | with_reducible rfl | exact True.intro | assumption | omega | (refine congrArg (SV.int _) ?_; omega) | (dsimp only; omega) | (intros; (try simp only [lenS, inR, cutS, loI, hiI] at *); omega) | exact nnS (by decide) | exact List.eq_nil_of_length_eq_zero (by assumption) | exact dT (by omega) | exact dF (by omega) | exact decide_eq_decide.2 (by omega) | (split <;> first | rfl | (exfalso; omega)) | (refine ⟨fun h => ?_, fun h => ?_⟩ <;> first | rfl | (cases h; done) | omega | (exfalso; omega) | (simp only [Bool.false_eq_true] at h; done)) | (simp only [*]; done) | (simp only [*, List.map_cons, List.map_nil, eB]; done) | (simp [*]; done) | (dsimp only [resS, texts_c]; done) | (dsimp only [resS, texts_c]; first | with_reducible rfl | exact True.intro | assumption | omega | (refine congrArg (SV.int _) ?_; omega) | ((try simp only [lenS, inR, cutS, loI, hiI]); omega) | (simp only [*]; done) | (simp only [*, List.map_cons, List.map_nil, eB]; done) | (simp [*]; done)))) | (refine Idx.mk ?_ ?_; focus (first | omega | (simp only [lenS, inR, cutS, loI, hiI]; omega))) | refine RetE.mk () trivial ?_ | refine Got.mk (fun _ _ => ?_) | refine Ex.mk _ rfl ?_ | refine Ex.mk [_] rfl ?_ | refine Ex.mk [_, _] rfl ?_ | refine Ex.mk [_, _, _] rfl ?_ | refine Ex.mk [_, _, _, _] rfl ?_ | refine boolK (fun h => ?_) ?_ | (with_reducible first | refine Unf.h ?_ | refine loopK_n ?_ | refine cutK_n ?_) | refine retK_n ?_ | refine retK_r ?_ | exact rfl | exact True.intro | refine CallS.mk (c := hempty_c) (()) ?_ | refine CallS.mk (c := rempty_c) (()) ?_)); all_goals try (conv => whnf)
    refine Side.mk rfl ?_
    repeat' (first | (with_reducible first | refine Unf.h ?_ | refine loopK_n ?_ | refine cutK_n ?_) | ((conv => whnf); first | refine Both.mk ?_ ?_ | refine Fork.mkn (fun h => ?_) (fun h => ?_) | refine Fork.mk (fun h => ?_) (fun h => ?_) | (refine Side.mk ?_ ?_; focus (first | with_reducible rfl | exact True.intro | assumption | omega | (refine congrArg (SV.int _) ?_; omega) | (dsimp only; omega) | (intros; (try simp only [lenS, inR, cutS, loI, hiI] at *); omega) | exact nnS (by decide) | exact List.eq_nil_of_length_eq_zero (by assumption) | exact dT (by omega) | exact dF (by omega) | exact decide_eq_decide.2 (by omega) | (split <;> first | rfl | (exfalso; omega)) | (refine ⟨fun h => ?_, fun h => ?_⟩ <;> first | rfl | (cases h; done) | omega | (exfalso; omega) | (simp only [Bool.false_eq_true] at h; done)) | (simp only [*]; done) | (simp only [*, List.map_cons, List.map_nil, eB]; done) | (simp [*]; done) | (dsimp only [resS, texts_c]; done) | (dsimp only [resS, texts_c]; first | with_reducible rfl | exact True.intro | assumption | omega | (refine congrArg (SV.int _) ?_; omega) | ((try simp only [lenS, inR, cutS, loI, hiI]); omega) | (simp only [*]; done) | (simp only [*, List.map_cons, List.map_nil, eB]; done) | (simp [*]; done)))) | (refine Idx.mk ?_ ?_; focus (first | omega | (simp only [lenS, inR, cutS, loI, hiI]; omega))) | refine RetE.mk () trivial ?_ | refine Got.mk (fun _ _ => ?_) | refine Ex.mk _ rfl ?_ | refine Ex.mk [_] rfl ?_ | refine Ex.mk [_, _] rfl ?_ | refine Ex.mk [_, _, _] rfl ?_ | refine Ex.mk [_, _, _, _] rfl ?_ | refine boolK (fun h => ?_) ?_ | (with_reducible first | refine Unf.h ?_ | refine loopK_n ?_ | refine cutK_n ?_) | refine retK_n ?_ | refine retK_r ?_ | exact rfl | exact True.intro | refine CallS.mk (c := hempty_c) (()) ?_ | refine CallS.mk (c := rempty_c) (()) ?_)); all_goals try (conv => whnf)
    exact absurd rfl (by assumption)
  · repeat' (first | (with_reducible first | refine Unf.h ?_ | refine loopK_n ?_ | refine cutK_n ?_) | ((conv => whnf); first | refine Both.mk ?_ ?_ | refine Fork.mkn (fun h => ?_) (fun h => ?_) | refine Fork.mk (fun h => ?_) (fun h => ?_) | (refine Side.mk ?_ ?_; focus (first | with_reducible rfl | exact True.intro | assumption | omega | (refine congrArg (SV.int _) ?_; omega) | (dsimp only; omega) | (intros; (try simp only [lenS, inR, cutS, loI, hiI] at *); omega) | exact nnS (by decide) | exact List.eq_nil_of_length_eq_zero (by assumption) | exact dT (by omega) | exact dF (by omega) | exact decide_eq_decide.2 (by omega) | (split <;> first | rfl | (exfalso; omega)) | (refine ⟨fun h => ?_, fun h => ?_⟩ <;> first | rfl | (cases h; done) | omega | (exfalso; omega) | (simp only [Bool.false_eq_true] at h; done)) | (simp only [*]; done) | (simp only [*, List.map_cons, List.map_nil, eB]; done) | (simp [*]; done) | (dsimp only [resS, texts_c]; done) | (dsimp only [resS, texts_c]; first | with_reducible rfl | exact True.intro | assumption | omega | (refine congrArg (SV.int _) ?_; omega) | ((try simp only [lenS, inR, cutS, loI, hiI]); omega) | (simp only [*]; done) | (simp only [*, List.map_cons, List.map_nil, eB]; done) | (simp [*]; done)))) | (refine Idx.mk ?_ ?_; focus (first | omega | (simp only [lenS, inR, cutS, loI, hiI]; omega))) | refine RetE.mk () trivial ?_ | refine Got.mk (fun _ _ => ?_) | refine Ex.mk _ rfl ?_ | refine Ex.mk [_] rfl ?_ | refine Ex.mk [_, _] rfl ?_ | refine Ex.mk [_, _, _] rfl ?_ | refine Ex.mk [_, _, _, _] rfl ?_ | refine boolK (fun h => ?_) ?_ | (with_reducible first | refine Unf.h ?_ | refine loopK_n ?_ | refine cutK_n ?_) | refine retK_n ?_ | refine retK_r ?_ | exact rfl | exact True.intro | refine CallS.mk (c := awake11_c) (()) ?_)); all_goals try (conv => whnf)
    refine CallS.mk (c := ttext_c) ((⟨true, key, value, plen, bits, left, right, hash⟩, l, r)) ?_
    repeat' (first | (with_reducible first | refine Unf.h ?_ | refine loopK_n ?_ | refine cutK_n ?_) | ((conv => whnf); first | refine Both.mk ?_ ?_ | refine Fork.mkn (fun h => ?_) (fun h => ?_) | refine Fork.mk (fun h => ?_) (fun h => ?_) | (refine Side.mk ?_ ?_; focus (first | with_reducible rfl | exact True.intro | assumption | omega | (refine congrArg (SV.int _) ?_; omega) | (dsimp only; omega) | (intros; (try simp only [lenS, inR, cutS, loI, hiI] at *); omega) | exact nnS (by decide) | exact List.eq_nil_of_length_eq_zero (by assumption) | exact dT (by omega) | exact dF (by omega) | exact decide_eq_decide.2 (by omega) | (split <;> first | rfl | (exfalso; omega)) | (refine ⟨fun h => ?_, fun h => ?_⟩ <;> first | rfl | (cases h; done) | omega | (exfalso; omega) | (simp only [Bool.false_eq_true] at h; done)) | (simp only [*]; done) | (simp only [*, List.map_cons, List.map_nil, eB]; done) | (simp [*]; done) | (dsimp only [resS, texts_c]; done) | (dsimp only [resS, texts_c]; first | with_reducible rfl | exact True.intro | assumption | omega | (refine congrArg (SV.int _) ?_; omega) | ((try simp only [lenS, inR, cutS, loI, hiI]); omega) | (simp only [*]; done) | (simp only [*, List.map_cons, List.map_nil, eB]; done) | (simp [*]; done)))) | (refine Idx.mk ?_ ?_; focus (first | omega | (simp only [lenS, inR, cutS, loI, hiI]; omega))) | refine RetE.mk () trivial ?_ | refine Got.mk (fun _ _ => ?_) | refine Ex.mk _ rfl ?_ | refine Ex.mk [_] rfl ?_ | refine Ex.mk [_, _] rfl ?_ | refine Ex.mk [_, _, _] rfl ?_ | refine Ex.mk [_, _, _, _] rfl ?_ | refine boolK (fun h => ?_) ?_ | (with_reducible first | refine Unf.h ?_ | refine loopK_n ?_ | refine cutK_n ?_) | refine retK_n ?_ | refine retK_r ?_ | exact rfl | exact True.intro)); all_goals try (conv => whnf)
    refine CallS.mk (c := rleaf_c) ((key, value)) ?_
    repeat' (first | (with_reducible first | refine Unf.h ?_ | refine loopK_n ?_ | refine cutK_n ?_) | ((conv => whnf); first | refine Both.mk ?_ ?_ | refine Fork.mkn (fun h => ?_) (fun h => ?_) | refine Fork.mk (fun h => ?_) (fun h => ?_) | (refine Side.mk ?_ ?_; focus (first | with_reducible rfl | exact True.intro | assumption | omega | (refine congrArg (SV.int _) ?_; omega) | (dsimp only; omega) | (intros; (try simp only [lenS, inR, cutS, loI, hiI] at *); omega) | exact nnS (by decide) | exact List.eq_nil_of_length_eq_zero (by assumption) | exact dT (by omega) | exact dF (by omega) | exact decide_eq_decide.2 (by omega) | (split <;> first | rfl | (exfalso; omega)) | (refine ⟨fun h => ?_, fun h => ?_⟩ <;> first | rfl | (cases h; done) | omega | (exfalso; omega) | (simp only [Bool.false_eq_true] at h; done)) | (simp only [*]; done) | (simp only [*, List.map_cons, List.map_nil, eB]; done) | (simp [*]; done) | (dsimp only [resS, texts_c]; done) | (dsimp only [resS, texts_c]; first | with_reducible rfl | exact True.intro | assumption | omega | (refine congrArg (SV.int _) ?_; omega) | ((try simp only [lenS, inR, cutS, loI, hiI]); omega) | (simp only [*]; done) | (simp only [*, List.map_cons, List.map_nil, eB]; done) | (simp [*]; done)))) | (refine Idx.mk ?_ ?_; focus (first | omega | (simp only [lenS, inR, cutS, loI, hiI]; omega))) | refine RetE.mk () trivial ?_ | refine Got.mk (fun _ _ => ?_) | refine Ex.mk _ rfl ?_ | refine Ex.mk [_] rfl ?_ | refine Ex.mk [_, _] rfl ?_ | refine Ex.mk [_, _, _] rfl ?_ | refine Ex.mk [_, _, _, _] rfl ?_ | refine boolK (fun h => ?_) ?_ | (with_reducible first | refine Unf.h ?_ | refine loopK_n ?_ | refine cutK_n ?_) | refine retK_n ?_ | refine retK_r ?_ | exact rfl | exact True.intro)); all_goals try (conv => whnf)
    refine CallS.mk (c := same_c) ((leafT key value, leafT key value)) ?_
    repeat' (first | (with_reducible first | refine Unf.h ?_ | refine loopK_n ?_ | refine cutK_n ?_) | ((conv => whnf); first | refine Both.mk ?_ ?_ | refine Fork.mkn (fun h => ?_) (fun h => ?_) | refine Fork.mk (fun h => ?_) (fun h => ?_) | (refine Side.mk ?_ ?_; focus (first | with_reducible rfl | exact True.intro | assumption | omega | (refine congrArg (SV.int _) ?_; omega) | (dsimp only; omega) | (intros; (try simp only [lenS, inR, cutS, loI, hiI] at *); omega) | exact nnS (by decide) | exact List.eq_nil_of_length_eq_zero (by assumption) | exact dT (by omega) | exact dF (by omega) | exact decide_eq_decide.2 (by omega) | (split <;> first | rfl | (exfalso; omega)) | (refine ⟨fun h => ?_, fun h => ?_⟩ <;> first | rfl | (cases h; done) | omega | (exfalso; omega) | (simp only [Bool.false_eq_true] at h; done)) | (simp only [*]; done) | (simp only [*, List.map_cons, List.map_nil, eB]; done) | (simp [*]; done) | (dsimp only [resS, texts_c]; done) | (dsimp only [resS, texts_c]; first | with_reducible rfl | exact True.intro | assumption | omega | (refine congrArg (SV.int _) ?_; omega) | ((try simp only [lenS, inR, cutS, loI, hiI]); omega) | (simp only [*]; done) | (simp only [*, List.map_cons, List.map_nil, eB]; done) | (simp [*]; done)))) | (refine Idx.mk ?_ ?_; focus (first | omega | (simp only [lenS, inR, cutS, loI, hiI]; omega))) | refine RetE.mk () trivial ?_ | refine Got.mk (fun _ _ => ?_) | refine Ex.mk _ rfl ?_ | refine Ex.mk [_] rfl ?_ | refine Ex.mk [_, _] rfl ?_ | refine Ex.mk [_, _, _] rfl ?_ | refine Ex.mk [_, _, _, _] rfl ?_ | refine boolK (fun h => ?_) ?_ | (with_reducible first | refine Unf.h ?_ | refine loopK_n ?_ | refine cutK_n ?_) | refine retK_n ?_ | refine retK_r ?_ | exact rfl | exact True.intro)); all_goals try (conv => whnf)
    refine Side.mk rfl ?_
    repeat' (first | (with_reducible first | refine Unf.h ?_ | refine loopK_n ?_ | refine cutK_n ?_) | ((conv => whnf); first | refine Both.mk ?_ ?_ | refine Fork.mkn (fun h => ?_) (fun h => ?_) | refine Fork.mk (fun h => ?_) (fun h => ?_) | (refine Side.mk ?_ ?_; focus (first | with_reducible rfl | exact True.intro | assumption | omega | (refine congrArg (SV.int _) ?_; omega) | (dsimp only; omega) | (intros; (try simp only [lenS, inR, cutS, loI, hiI] at *); omega) | exact nnS (by decide) | exact List.eq_nil_of_length_eq_zero (by assumption) | exact dT (by omega) | exact dF (by omega) | exact decide_eq_decide.2 (by omega) | (split <;> first | rfl | (exfalso; omega)) | (refine ⟨fun h => ?_, fun h => ?_⟩ <;> first | rfl | (cases h; done) | omega | (exfalso; omega) | (simp only [Bool.false_eq_true] at h; done)) | (simp only [*]; done) | (simp only [*, List.map_cons, List.map_nil, eB]; done) | (simp [*]; done) | (dsimp only [resS, texts_c]; done) | (dsimp only [resS, texts_c]; first | with_reducible rfl | exact True.intro | assumption | omega | (refine congrArg (SV.int _) ?_; omega) | ((try simp only [lenS, inR, cutS, loI, hiI]); omega) | (simp only [*]; done) | (simp only [*, List.map_cons, List.map_nil, eB]; done) | (simp [*]; done)))) | (refine Idx.mk ?_ ?_; focus (first | omega | (simp only [lenS, inR, cutS, loI, hiI]; omega))) | refine RetE.mk () trivial ?_ | refine Got.mk (fun _ _ => ?_) | refine Ex.mk _ rfl ?_ | refine Ex.mk [_] rfl ?_ | refine Ex.mk [_, _] rfl ?_ | refine Ex.mk [_, _, _] rfl ?_ | refine Ex.mk [_, _, _, _] rfl ?_ | refine boolK (fun h => ?_) ?_ | (with_reducible first | refine Unf.h ?_ | refine loopK_n ?_ | refine cutK_n ?_) | refine retK_n ?_ | refine retK_r ?_ | exact rfl | exact True.intro)); all_goals try (conv => whnf)
end Go.Proofs.YtffaohckcggkdaaDoor

/- MY OWN ENGINE: what a law's arguments are: from the reading to symbolic values. -/
namespace Go.Proofs.YtffaohckcggkdaaDoor
set_option linter.all false
open Go.RowKit
section
variable {P : Program} [TabC P] {H : Type} {enc : TypeId × Value → H} {W : World} {spare : Nat → Bool} {held : Bool}
abbrev none0 : Own := fun _ => False
variable (P enc W spare held) in
/-- whatever is read at type t is of this form -/
def Opens (t : Nat) {α : Type} (f : α → List SV) : Prop := ∀ (fuel : Nat) (cs : List Value) (x : DataW H × List MemPlace), DataW.trod enc P W 0 spare held fuel t cs = some x → ∃ a, hL W none0 (f a) sg0 cs
theorem ty_cells {t : Nat} {i : TI} (h : ty P t = some i) : P.cellsOf t = i.size := by
  obtain ⟨inf, d, hi, _, hs, _⟩ := ty_spec h
  simp [Program.cellsOf, hi, hs]
theorem one_of {s : SV} {v : Value} (h : s.hc W none0 sg0 [v]) : hL W none0 [s] sg0 [v] := ⟨[v], [], rfl, h, rfl⟩
/-- an int -/
theorem o_i64 {t : Nat} {i : TI} (h : ty P t = some i) (hk : i.k = .int .i64) : Opens P enc W spare held t (fun n : Int => [.int .i64 n]) := fun fuel cs x hx => by
  obtain ⟨n, rfl, _, hw⟩ := DataW.trod_int (ty_int h hk) hx
  refine ⟨n, one_of ?_⟩
  simp only [SV.hc, true_and]
  intro _
  have : -9223372036854775808 ≤ n ∧ n ≤ 9223372036854775807 := by simpa [Lit.wf, IntKind.min, IntKind.max, IntKind.signed, IntKind.bits] using hw
  exact ⟨this.1, by omega⟩
theorem o_uns {t w : Nat} {i : TI} {k : IntKind} {mk : BitVec w → SV} (h : ty P t = some i) (hk : i.k = .int k) (hs : k.signed = false) (hw : k.bits = w) (hmk : ∀ x v, (mk x).hc W none0 sg0 [v] ↔ v = bV k x) : Opens P enc W spare held t (fun x : BitVec w => [mk x]) := fun fuel cs x hx => by
  obtain ⟨n, rfl, _, hwf⟩ := DataW.trod_int (ty_int h hk) hx
  subst hw
  refine ⟨BitVec.ofInt k.bits n, one_of ((hmk _ _).2 ?_)⟩
  have hr : 0 ≤ n ∧ n < 2 ^ k.bits := by cases k <;> simp [IntKind.signed] at hs <;> simp [Lit.wf, IntKind.min, IntKind.max, IntKind.signed, IntKind.bits] at hwf ⊢ <;> omega
  simp only [bV, Value.int.injEq, true_and, BitVec.toNat_ofInt]
  rw [Int.toNat_of_nonneg (Int.emod_nonneg _ (by have := Nat.two_pow_pos k.bits; omega))]
  rw [Int.emod_eq_of_lt hr.1]
  exact_mod_cast hr.2
theorem hc8 {x : BitVec 8} {v : Value} : (SV.u8 x).hc W none0 sg0 [v] ↔ v = bV .u8 x := by simp [SV.hc]
theorem hc16 {x : BitVec 16} {v : Value} : (SV.u16 x).hc W none0 sg0 [v] ↔ v = bV .u16 x := by simp [SV.hc]
theorem hc32 {x : BitVec 32} {v : Value} : (SV.u32 x).hc W none0 sg0 [v] ↔ v = bV .u32 x := by simp [SV.hc]
theorem hc64 {x : BitVec 64} {v : Value} : (SV.u64 x).hc W none0 sg0 [v] ↔ v = bV .u64 x := by simp [SV.hc]
theorem o_slice {t e z : Nat} {i j : TI} {α : Type} {f : α → List SV} (h : ty P t = some i) (hk : i.k = .sl e) (hj : ty P e = some j) (hz : Nat.beq j.size z = true) (hz0 : Nat.blt 0 z = true) (he : Opens P enc W spare held e f) (hs : ∀ a, szL (f a) = z) :
    Opens P enc W spare held t (fun l : List α => [.fs z f l]) := fun fuel cs x hx => by
  have hz' := Nat.eq_of_beq_eq_true hz
  have hpos : 0 < z := by simpa [Nat.blt_eq] using hz0
  rcases DataW.trod_slice (ty_slice h hk) hx with ⟨rfl, _⟩ | ⟨a, len, cap, elems, rest, n, _, rfl, _, _, hl, hm, hlen, hel, _⟩
  · refine ⟨[], one_of ?_⟩
    simp only [SV.hc]
    exact ⟨none, 0, rfl, Nat.le_refl _, by decide, fun _ => by simp, fun i hi => hs _, fun ad had => by cases had⟩
  · have hc : P.cellsOf e = z := by rw [ty_cells hj, hz']
    rw [hc] at hel
    have each : ∀ i, i < len → ∃ b cs', hL W none0 (f b) sg0 cs' ∧ W.cells? 0 (a.add (i * z)) z = some cs' := fun i hi => by
      have h1 := hel i hi
      have hi' : i < elems.length := by omega
      rw [List.getElem?_eq_getElem hi', Option.bind_eq_some_iff] at h1
      obtain ⟨cs', h2, h3⟩ := h1
      obtain ⟨b, hb⟩ := he _ _ _ h3
      exact ⟨b, cs', hb, h2⟩
    by_cases hl0 : len = 0
    · subst hl0
      refine ⟨[], one_of ?_⟩
      simp only [SV.hc]
      exact ⟨some a, cap, rfl, Nat.zero_le _, hm, (fun h => (by cases h)), fun i hi => hs _, fun ad had => .inl (by simp)⟩
    · obtain ⟨b0, cs0, hb0, hc0⟩ := each 0 (by omega)
      have h0 := (World.cells?_some hc0).2.2 0 hpos
      have hlen0 := (World.cells?_some hc0).2.1
      simp only [Nat.zero_mul, Addr.add, if_true] at h0
      obtain ⟨C, T, fr, hblk, hsp⟩ : ∃ C T fr, W.heap[a.block]? = some (.cells C T fr) ∧ a.spot = none := by
        unfold World.cell? at h0
        have hsome : (cs0[0]?).isSome = true := by simp [hlen0, hpos]
        rw [← h0] at hsome
        split at hsome
        · rename_i C T fr hh
          refine ⟨C, T, fr, hh, ?_⟩
          cases hsp : a.spot with
          | none => rfl
          | some q => simp [hsp] at hsome
        · simp at hsome
      obtain ⟨g, p, sp⟩ := a
      simp only at hsp hblk; subst hsp
      have cell : ∀ i, i < len → ∃ b, hL W none0 (f b) sg0 ((C.toList.drop (p + i * z)).take z) := fun i hi => by
        obtain ⟨b, cs', hb, hcs⟩ := each i hi
        obtain ⟨_, hl', hcc⟩ := World.cells?_some hcs
        refine ⟨b, ?_⟩
        have : (C.toList.drop (p + i * z)).take z = cs' := by
          apply List.ext_getElem?
          intro q
          rw [List.getElem?_take]
          split
          · rename_i hq
            rw [List.getElem?_drop, ← hcc q hq, addr_add, addr_add, cell_of_row W g (p + i * z + q) C T fr hblk]
            simp
          · rename_i hq
            rw [List.getElem?_eq_none (by omega)]
        rw [this]; exact hb
      have all : ∀ n, n ≤ len → ∃ l : List α, l.length = n ∧ ∀ i (h : i < l.length), hL W none0 (f l[i]) sg0 ((C.toList.drop (p + i * z)).take z) := by
        intro n
        induction n with
        | zero => intro _; exact ⟨[], rfl, fun i h => by simp at h⟩
        | succ n ih =>
          intro hn
          obtain ⟨l, hl, hE⟩ := ih (by omega)
          obtain ⟨b, hb⟩ := cell n (by omega)
          refine ⟨l ++ [b], by simp [hl], fun i hi => ?_⟩
          rw [List.getElem_append]
          split
          · exact hE i _
          · rename_i h1
            have : i = n := by simp at hi; omega
            subst this; simpa using hb
      obtain ⟨l, hll, hE⟩ := all len (Nat.le_refl _)
      refine ⟨l, one_of ?_⟩
      simp only [SV.hc]
      refine ⟨some ⟨g, p, none⟩, cap, by rw [hll], by rw [hll]; exact hl, hm, (fun h => (by cases h)), fun i hi => hs _, fun ad had => ?_⟩
      simp only [Option.some.injEq] at had; subst had
      exact .inr ⟨rfl, fun h => h, C, T, fr, hblk, hE⟩
/-- the fields of a struct, from one on -/
def OpensF (P : Program) [TabC P] {H : Type} (enc : TypeId × Value → H) (W : World) (spare : Nat → Bool) (held : Bool) (off : Nat) (fl : List (Nat × Nat)) {α : Type} (f : α → List SV) : Prop :=
  ∀ (n : Nat) (cs : List Value), (∀ q ∈ fl, ∃ x, DataW.trod enc P W 0 spare held n q.2 ((cs.drop q.1).take (P.cellsOf q.2)) = some x) → (∀ q ∈ fl, q.1 + P.cellsOf q.2 ≤ cs.length) → ∃ a, hL W none0 (f a) sg0 ((cs.drop off).take (szL (f a))) ∧ off + szL (f a) ≤ cs.length
theorem o_last {off t : Nat} {α : Type} {f : α → List SV} {j : TI} (hj : ty P t = some j) (h : Opens P enc W spare held t f) (hs : ∀ a, szL (f a) = j.size) : OpensF P enc W spare held off [(off, t)] f := fun n cs hx hle => by
  obtain ⟨x, hx⟩ := hx (off, t) (by simp)
  obtain ⟨a, ha⟩ := h _ _ _ hx
  have := hle (off, t) (by simp)
  rw [ty_cells hj] at ha this
  exact ⟨a, by rw [hs]; exact ha, by rw [hs]; exact this⟩
theorem hL_app {w : World} {A : Own} {σ : Sg} : ∀ {x y : List SV} {c d : List Value}, hL w A x σ c → hL w A y σ d → hL w A (x ++ y) σ (c ++ d)
  | [], y, c, d, hc, hd => by simp only [hL] at hc; subst hc; exact hd
  | s :: r, y, c, d, hc, hd => by
    simp only [hL] at hc
    obtain ⟨a, b, rfl, h1, h2⟩ := hc
    simp only [List.cons_append, hL]
    exact ⟨a, b ++ d, by rw [List.append_assoc], h1, hL_app h2 hd⟩
theorem o_field {off off2 t : Nat} {fl : List (Nat × Nat)} {α β : Type} {f : α → List SV} {g : β → List SV} {j : TI} (hj : ty P t = some j) (h : Opens P enc W spare held t f) (hs : ∀ a, szL (f a) = j.size) (ho : Nat.beq (off + j.size) off2 = true) (hr : OpensF P enc W spare held off2 fl g) :
    OpensF P enc W spare held off ((off, t) :: fl) (fun x : α × β => f x.1 ++ g x.2) := fun n cs hx hle => by
  obtain rfl := Nat.eq_of_beq_eq_true ho
  obtain ⟨x, hx1⟩ := hx (off, t) (by simp)
  obtain ⟨a, ha⟩ := h _ _ _ hx1
  obtain ⟨b, hb, hb2⟩ := hr n cs (fun q hq => hx q (List.mem_cons_of_mem _ hq)) (fun q hq => hle q (List.mem_cons_of_mem _ hq))
  rw [ty_cells hj] at ha
  refine ⟨(a, b), ?_, ?_⟩
  · simp only [szL_append, hs]
    rw [List.take_add, List.drop_drop]
    exact hL_app ha hb
  · simp only [szL_append, hs]; omega
theorem o_struct {t : Nat} {i : TI} {fl : List (Nat × Nat)} {α : Type} {f : α → List SV} (h : ty P t = some i) (hk : i.k = .st fl) (hr : OpensF P enc W spare held 0 fl f) (hs : ∀ a, szL (f a) = i.size) (hfit : fl.all (fun q => match ty P q.2 with | some j => Nat.ble (q.1 + j.size) i.size | none => false) = true) :
    Opens P enc W spare held t f := fun fuel cs x hx => by
  obtain ⟨gs, hu, hm⟩ := ty_struct h hk
  obtain ⟨xs, n, _, _, hlen, hxl, hel⟩ := DataW.trod_struct hu hx
  rw [ty_cells h] at hlen
  have h1 : ∀ q ∈ fl, ∃ x, DataW.trod enc P W 0 spare held n q.2 ((cs.drop q.1).take (P.cellsOf q.2)) = some x := fun q hq => by
    rw [← hm, List.mem_map] at hq
    obtain ⟨g, hg, rfl⟩ := hq
    obtain ⟨k, hk, he⟩ := List.mem_iff_getElem.1 hg
    have hgk : gs[k]? = some g := by rw [← Array.getElem?_toList, List.getElem?_eq_getElem hk, he]
    have hk' : k < xs.length := by rw [hxl]; simpa using hk
    exact ⟨xs[k], by rw [hel k g hgk, List.getElem?_eq_getElem hk']⟩
  have h2 : ∀ q ∈ fl, q.1 + P.cellsOf q.2 ≤ cs.length := fun q hq => by
    have := List.all_eq_true.1 hfit q hq
    split at this
    · rename_i j hj
      rw [ty_cells hj, hlen]; exact Nat.le_of_ble_eq_true this
    · cases this
  obtain ⟨a, ha, hle⟩ := hr n cs h1 h2
  refine ⟨a, ?_⟩
  rw [hs, List.drop_zero, ← hlen, List.take_length] at ha
  exact ha
/-- said otherwise -/
theorem Opens.map {t : Nat} {α β : Type} {f : α → List SV} {g : β → List SV} (h : Opens P enc W spare held t f) (m : α → β) (hm : ∀ a, f a = g (m a)) : Opens P enc W spare held t g := fun fuel cs x hx => by
  obtain ⟨a, ha⟩ := h fuel cs x hx
  exact ⟨m a, by rw [← hm]; exact ha⟩
/-- a law keeps its contract: it hands back true, and nothing that stood is turned -/
theorem law_calls {f : Nat} {c : Ctr} (hc : c.Ok P f) (d : c.D) (hp : c.pre d) (ho : c.objs d = []) (hr : ∀ e, c.post d e → c.res d e = .bool true) (W : World) {vs : List Value} (hv : hvs W none0 sg0 (c.args d) vs) (hg : TabC.gl P = []) :
    Calls P f vs.toArray W (fun e W' => e = .returned (.bool true) ∧ Below W.heap.size W W') := by
  have hA : Later W none0 W (Av none0 sg0 (c.objs d)) := Later.own fun b hb => by rw [ho] at hb; exact hb.elim id id
  refine (hc d hp none0 W sg0 vs (fun _ h => h.elim) (by rw [ho]; exact ⟨fun o ho => (by cases ho), trivial, fun b hb => hb.elim⟩) (hvs.later hA hv) (fun _ _ => rfl) (fun g ps h => by rw [hg] at h; cases h)).mono ?_
  rintro e W' ⟨e', v, σ', rfl, hpost, _, _, hres, hm, _, _⟩
  rw [hr e' hpost] at hres
  simp only [SV.hv, SV.h1, SV.hc, List.cons.injEq, and_true] at hres
  subst hres
  exact ⟨rfl, hm.os, hm.tape, hm.output, hm.size, fun k hk => hm.block k hk (fun h => by rw [ho] at h; exact h)⟩
end
end Go.Proofs.YtffaohckcggkdaaDoor

/- MY OWN ENGINE: laws whose rows list variables. -/
namespace Go.Proofs.YtffaohckcggkdaaDoor
set_option linter.all false
open Go.RowKit Go.ChangeShapes Go.WideShapes Go.ChangeAt
section
variable {P : Program} [TabC P] {H : Type} {enc : TypeId × Value → H} {W : World} {spare : Nat → Bool} {held : Bool}
theorem ty_bool' {t : Nat} {i : TI} (h : ty P t = some i) (hk : i.k = .bool) : P.underlying t = some .bool := ty_bool h hk
theorem o_bool {t : Nat} {i : TI} (h : ty P t = some i) (hk : i.k = .bool) : Opens P enc W spare held t (fun b : Bool => [.bool b]) := fun fuel cs x hx => by
  obtain ⟨b, rfl, _⟩ := DataW.trod_bool (ty_bool h hk) hx
  exact ⟨b, one_of (by simp only [SV.hc])⟩
/-- the cells of an array of numbers -/
theorem arr_cells {t e n w : Nat} {k : IntKind} {i j : TI} {base : Nat} (h : ty P t = some i) (hk : i.k = .ar n e) (hj : ty P e = some j) (hjk : j.k = .int k) (hj1 : j.size = 1) (hi : i.size = n) (hs : k.signed = false) (hw : k.bits = w) {fuel : Nat} {cs : List Value} {x : DataW H × List MemPlace}
    (hx : DataW.trod enc P W base spare held fuel t cs = some x) : ∃ v : Vector (BitVec w) n, cs = v.toList.map (bV k) ∧ x.1 = .agg (v.toList.map fun b => .lit (.int k (b.toNat : Int))) := by
  subst hw
  obtain ⟨xs, m, _, hx1, hlen, hxl, hel⟩ := DataW.trod_array (ty_array h hk) hx
  rw [ty_cells h, hi] at hlen
  have each : ∀ q (hq : q < n), ∃ b : BitVec k.bits, cs[q]? = some (bV k b) ∧ ∃ y, xs[q]? = some y ∧ y.1 = .lit (.int k (b.toNat : Int)) := fun q hq => by
    have h1 := hel q hq
    rw [ty_cells hj, hj1, Nat.mul_one] at h1
    have hq' : q < xs.length := by omega
    rw [List.getElem?_eq_getElem hq'] at h1
    obtain ⟨z, hz, hz2, hwf⟩ := DataW.trod_int (ty_int hj hjk) h1
    have hr : 0 ≤ z ∧ z < 2 ^ k.bits := by cases k <;> simp [IntKind.signed] at hs <;> simp [Lit.wf, IntKind.min, IntKind.max, IntKind.signed, IntKind.bits] at hwf ⊢ <;> omega
    have hzn : z = ((BitVec.ofInt k.bits z).toNat : Int) := by
      rw [BitVec.toNat_ofInt, Int.toNat_of_nonneg (Int.emod_nonneg _ (by have := Nat.two_pow_pos k.bits; omega)), Int.emod_eq_of_lt hr.1 (by exact_mod_cast hr.2)]
    refine ⟨BitVec.ofInt k.bits z, ?_, xs[q], List.getElem?_eq_getElem hq', ?_⟩
    · have : (cs.drop q).take 1 = [cs[q]'(by omega)] := by
        rw [List.drop_eq_getElem_cons (by omega)]; rfl
      rw [this] at hz
      rw [List.getElem?_eq_getElem (by omega)]
      simp only [List.cons.injEq, and_true] at hz
      rw [hz, bV, ← hzn]
    · rw [hz2, ← hzn]
  have all : ∀ q, q ≤ n → ∃ l : List (BitVec k.bits), l.length = q ∧ ∀ p (hp : p < l.length), cs[p]? = some (bV k l[p]) ∧ ∃ y, xs[p]? = some y ∧ y.1 = .lit (.int k (l[p].toNat : Int)) := by
    intro q
    induction q with
    | zero => intro _; exact ⟨[], rfl, fun p hp => by simp at hp⟩
    | succ q ih =>
      intro hq
      obtain ⟨l, hl, hE⟩ := ih (by omega)
      obtain ⟨b, hb⟩ := each q (by omega)
      refine ⟨l ++ [b], by simp [hl], fun p hp => ?_⟩
      rw [List.getElem_append]
      split
      · exact hE p _
      · rename_i h1
        have : p = q := by simp at hp; omega
        subst this; simpa using hb
  obtain ⟨l, hl, hE⟩ := all n (Nat.le_refl _)
  refine ⟨⟨l.toArray, by simpa using hl⟩, ?_, ?_⟩
  · show cs = l.map (bV k)
    refine List.ext_getElem (by simp; omega) fun p h1 h2 => ?_
    have := (hE p (by simpa using h2)).1
    rw [List.getElem?_eq_getElem h1] at this
    simpa using this
  · rw [hx1]
    show DataW.agg _ = .agg (l.map _)
    congr 1
    refine List.ext_getElem (by simp; omega) fun p h1 h2 => ?_
    obtain ⟨y, hy, hy2⟩ := (hE p (by simpa using h2)).2
    have hp : p < xs.length := by simpa using h1
    rw [List.getElem?_eq_getElem hp] at hy
    simp only [Option.some.injEq] at hy
    simp [hy, hy2]
theorem o_arr8 {t e n : Nat} {i j : TI} (h : ty P t = some i) (hk : i.k = .ar n e) (hj : ty P e = some j) (hjk : j.k = .int .u8) (hj1 : j.size = 1) (hi : i.size = n) : Opens P enc W spare held t (fun v : Vector (BitVec 8) n => [.arr8 v]) := fun fuel cs x hx => by
  obtain ⟨v, rfl, _⟩ := arr_cells (w := 8) h hk hj hjk hj1 hi rfl rfl hx
  exact ⟨v, v.toList.map (bV .u8), [], (List.append_nil _).symm, by simp only [SV.hc], rfl⟩
theorem arg_agg {t base : Nat} {i : TI} {α : Type} {f : α → List SV} (ht : ty P t = some i) (hrow : i.row = true) (ho : Opens P enc W spare held t f) {v : Value} {d : DataW H} {p : List MemPlace} (hv : Value.okWide P W .any base t v) (h : DataW.Trod enc P W 0 spare held t v d p) : ∃ a, (SV.agg (f a)).h1 W none0 sg0 v := by
  obtain ⟨fuel, hT⟩ := h
  obtain ⟨a, ha⟩ := ho _ _ _ hT
  obtain ⟨dd, hd, hr⟩ := ty_row ht
  rw [hrow] at hr
  have : ∃ cs : Array Value, v = .agg cs := by
    cases dd <;> simp at hr
    all_goals (simp only [Value.okWide, hd] at hv; obtain ⟨cs, h1, _⟩ := hv; exact ⟨cs, h1⟩)
  obtain ⟨cs, rfl⟩ := this
  exact ⟨a, cs.toList, by simp, ha⟩
/-- a law keeps its contract: it hands back true, and nothing that stood is turned -/
theorem law_callsG {f : Nat} {c : Ctr} (hc : c.Ok P f) (d : c.D) (hp : c.pre d) (ho : c.objs d = []) (hr : ∀ e, c.post d e → c.res d e = .bool true) (W : World) {vs : List Value} (hv : hvs W none0 sg0 (c.args d) vs) (hg : Glob P W none0) :
    Calls P f vs.toArray W (fun e W' => e = .returned (.bool true) ∧ Below W.heap.size W W') := by
  have hA : Later W none0 W (Av none0 sg0 (c.objs d)) := Later.own fun b hb => by rw [ho] at hb; exact hb.elim id id
  refine (hc d hp none0 W sg0 vs (fun _ h => h.elim) (by rw [ho]; exact ⟨fun o ho => (by cases ho), trivial, fun b hb => hb.elim⟩) (hvs.later hA hv) (fun _ _ => rfl) (hg.later hA)).mono ?_
  rintro e W' ⟨e', v, σ', rfl, hpost, _, _, hres, hm, _, _⟩
  rw [hr e' hpost] at hres
  simp only [SV.hv, SV.h1, SV.hc, List.cons.injEq, and_true] at hres
  subst hres
  exact ⟨rfl, hm.os, hm.tape, hm.output, hm.size, fun k hk => hm.block k hk (fun h => by rw [ho] at h; exact h)⟩
/-- a listed variable, as the engine has it -/
theorem glob_arr32 {n : String} {g t e m f : Nat} {i j : TI} {cs : Array Value} {p : List MemPlace} {v : Vector (BitVec 32) m} (hg : P.globalNamed n = some g) (hv : W.var? P n = some cs) (ht : ty P t = some i) (hk : i.k = .ar m e) (hj : ty P e = some j) (hjk : j.k = .int .u32) (hj1 : j.size = 1) (hi : i.size = m)
    (hd : DataW.trod enc P W 0 spare held f t cs.toList = some (.agg (v.toList.map fun b => .lit (.int .u32 (b.toNat : Int))), p)) : (SV.fpt [.arr32 v]).hc W none0 sg0 [.pointer (some ⟨g, 0, none⟩)] := by
  obtain ⟨u, hcs, hx⟩ := arr_cells (w := 32) ht hk hj hjk hj1 hi rfl rfl hd
  have huv : u = v := by
    have hx' : v.toList.map (fun b => (DataW.lit (.int .u32 (b.toNat : Int)) : DataW H)) = u.toList.map fun b => .lit (.int .u32 (b.toNat : Int)) := by simpa using hx
    have : v.toList = u.toList := by
      have inj : ∀ {l k : List (BitVec 32)}, l.map (fun b => (DataW.lit (.int .u32 (b.toNat : Int)) : DataW H)) = k.map (fun b => .lit (.int .u32 (b.toNat : Int))) → l = k := by
        intro l
        induction l with
        | nil => intro k h; cases k with
          | nil => rfl
          | cons _ _ => cases h
        | cons a r ih => intro k h; cases k with
          | nil => cases h
          | cons b s =>
            simp only [List.map_cons, List.cons.injEq, DataW.lit.injEq, Lit.int.injEq, true_and, Int.natCast_inj] at h
            rw [BitVec.eq_of_toNat_eq h.1, ih h.2]
      exact inj hx'
    exact (Vector.toList_inj.1 this).symm
  subst huv
  simp only [World.var?, hg, Option.bind_some] at hv
  simp only [SV.hc]
  split at hv
  · rename_i C T fr hh
    have e := Option.some.inj hv
    refine ⟨g, 0, rfl, fun h => h, C, T, fr, hh, ?_⟩
    rw [List.drop_zero, e, hcs]
    refine ⟨u.toList.map (bV .u32), [], ?_, by simp only [SV.hc], rfl⟩
    rw [List.append_nil, List.take_of_length_le (by simp [szL, SV.sz])]
  · cases hv
end
end Go.Proofs.YtffaohckcggkdaaDoor

/- MY OWN ENGINE: the variables that the rows of this seat list. -/
namespace Go.Proofs.YtffaohckcggkdaaDoor
set_option linter.all false
open Go.RowKit Go.ChangeShapes Go.WideShapes Go.ChangeAt
theorem Tryd.own : ownKnob Tryd.prog.godebug = none := by kernel_rfl
theorem Tryd.laidOut : laidOutB Tryd.prog = true := by kernel_rfl
def laidL {H : Type} : List (String × DataW H) := [("rolodex/hash.begin", Rows.laid_rolodex_hash_begin), ("rolodex/hash.rounds", Rows.laid_rolodex_hash_rounds)]
theorem gBegin : Tryd.prog.globalNamed "rolodex/hash.begin" = some 0 := by kernel_rfl
theorem gRounds : Tryd.prog.globalNamed "rolodex/hash.rounds" = some 1 := by kernel_rfl
theorem tBegin : (Tryd.prog.globals[0]?).map (·.type) = some 135 := by kernel_rfl
theorem tRounds : (Tryd.prog.globals[1]?).map (·.type) = some 138 := by kernel_rfl
theorem dBegin : (Rows.laid_rolodex_hash_begin : DataW Unit) = .agg (gv0.toList.map fun b => .lit (.int .u32 (b.toNat : Int))) := by kernel_rfl
theorem dRounds : (Rows.laid_rolodex_hash_rounds : DataW Unit) = .agg (gv1.toList.map fun b => .lit (.int .u32 (b.toNat : Int))) := by kernel_rfl
theorem glob_of_laid {W : World} (h : laidMetH Tryd.prog laidL W) : Glob Tryd.prog W none0 := by
  rw [MakeChecks.laidMetH_plain _ _ _ (by kernel_rfl)] at h
  obtain ⟨ps, ⟨g0, t0, cs0, f0, p0, q0, hg0, ht0, hv0, hd0, ⟨g1, t1, cs1, f1, p1, q1, hg1, ht1, hv1, hd1, _, _⟩, _⟩, _, _⟩ := h
  obtain rfl := Option.some.inj (gBegin.symm.trans hg0)
  obtain rfl := Option.some.inj (gRounds.symm.trans hg1)
  obtain rfl := Option.some.inj (tBegin.symm.trans ht0)
  obtain rfl := Option.some.inj (tRounds.symm.trans ht1)
  rw [dBegin] at hd0
  rw [dRounds] at hd1
  intro g ps hm
  have hm' : (g, ps) = (0, [SV.arr32 gv0]) ∨ (g, ps) = (1, [SV.arr32 gv1]) := by
    have e : TabC.gl Tryd.prog = [(0, [SV.arr32 gv0]), (1, [SV.arr32 gv1])] := rfl
    rw [e] at hm
    simpa using hm
  rcases hm' with e | e
  · cases e
    exact glob_arr32 (i := ⟨.ar 8 110, 8, 32⟩) (j := ⟨.int .u32, 1, 4⟩) hg0 hv0 rfl rfl rfl rfl rfl rfl hd0
  · cases e
    exact glob_arr32 (i := ⟨.ar 64 110, 64, 256⟩) (j := ⟨.int .u32, 1, 4⟩) hg1 hv1 rfl rfl rfl rfl rfl rfl hd1
theorem door_met (os : Os) (args : Array Value) : laidMetH Tryd.prog laidL ((World.doorLaid Tryd.prog 400 os).forCall (fun _ _ => 0) ⟨#[], args, []⟩).memory :=
  laidMetH_of_parts3 (fuel := 8) (laidMet_of_run' 8 (by kernel_rfl) (by kernel_rfl)) (by kernel_rfl) (by kernel_rfl)
/-! what the arguments are -/
section
variable {H : Type} {enc : TypeId × Value → H} {W : World} {spare : Nat → Bool} {held : Bool}
theorem o_hash : Opens Tryd.prog enc W spare held 25 (fun v : H256 => [.arr8 v]) := o_arr8 (i := ⟨.ar 32 5, 32, 32⟩) (j := ⟨.int .u8, 1, 1⟩) rfl rfl rfl rfl rfl rfl
theorem o_int : Opens Tryd.prog enc W spare held 3 (fun n : Int => [.int .i64 n]) := o_i64 (i := ⟨.int .i64, 1, 8⟩) rfl rfl
theorem o_boolT : Opens Tryd.prog enc W spare held 4 (fun b : Bool => [.bool b]) := o_bool (i := ⟨.bool, 1, 1⟩) rfl rfl
theorem o_pfx : Opens Tryd.prog enc W spare held 27 ePfx :=
  (o_struct (i := ⟨.st [(0, 3), (1, 25)], 33, 40⟩) rfl rfl (o_field (off := 0) (off2 := 1) (j := ⟨.int .i64, 1, 8⟩) rfl o_int (fun _ => rfl) rfl (o_last (j := ⟨.ar 32 5, 32, 32⟩) rfl o_hash (fun _ => rfl))) (fun _ => rfl) (by kernel_rfl)).map (fun p => (⟨p.1, p.2⟩ : Pfx)) (fun _ => rfl)
theorem o_node : Opens Tryd.prog enc W spare held 51 eNd :=
  (o_struct (i := ⟨.st [(0, 4), (1, 25), (33, 25), (65, 27), (98, 3), (99, 3), (100, 25)], 132, 160⟩) rfl rfl
    (o_field (off := 0) (off2 := 1) (j := ⟨.bool, 1, 1⟩) rfl o_boolT (fun _ => rfl) rfl
    (o_field (off := 1) (off2 := 33) (j := ⟨.ar 32 5, 32, 32⟩) rfl o_hash (fun _ => rfl) rfl
    (o_field (off := 33) (off2 := 65) (j := ⟨.ar 32 5, 32, 32⟩) rfl o_hash (fun _ => rfl) rfl
    (o_field (off := 65) (off2 := 98) (j := ⟨.st [(0, 3), (1, 25)], 33, 40⟩) rfl o_pfx (fun _ => rfl) rfl
    (o_field (off := 98) (off2 := 99) (j := ⟨.int .i64, 1, 8⟩) rfl o_int (fun _ => rfl) rfl
    (o_field (off := 99) (off2 := 100) (j := ⟨.int .i64, 1, 8⟩) rfl o_int (fun _ => rfl) rfl
    (o_last (j := ⟨.ar 32 5, 32, 32⟩) rfl o_hash (fun _ => rfl)))))))) (fun _ => rfl) (by kernel_rfl)).map (fun p => (⟨p.1, p.2.1, p.2.2.1, p.2.2.2.1.len, p.2.2.2.1.bits, p.2.2.2.2.1, p.2.2.2.2.2.1, p.2.2.2.2.2.2⟩ : Nd)) (fun _ => rfl)
end
end Go.Proofs.YtffaohckcggkdaaDoor

import Derived.Test.YtmbkoigeekofdaaDoorZLDSince2
import Derived.Test.YtmbkoigeekofdaaDoorFn
import Derived.DeepKeys4
import Derived.Shelf.Sort.Plain
import Derived.Shelf.Slices.In.SortNone
import Derived.Sort.OwnSortedInts
import Derived.Test.YtmbkoigeekofdaaDoorLaw
namespace Go.Proofs.YtmbkoigeekofdaaDoor
set_option linter.all false
open Go.RowKit
/-! the numbers of a tree's nodes -/
/-- who is asked whether a number is wanted -/
def want_c (wn : Int → Bool) (J : AO) : Ctr where
  D := Int
  args := fun i => [.int .i64 i]
  objs := fun _ => [(0, .ab J)]
  nn := 1
  res := fun i _ => .bool (wn i)
  out := fun _ _ => [(0, .ab J)]
def numsV_c : Ctr where
  D := Fo × Int × Option PT × (Int → Bool) × AO × Value
  pre := fun (l, t, o, wn, J, y) => treeAt l t o ∧ (listO o).length ≤ 100000 ∧ (want_c wn J).OkBy Tryd.prog (CallsF Tryd.prog y)
  args := fun (_, t, _, _, _, y) => [.ptr 0 0, .int .i64 t, .val y]
  objs := fun (l, _, _, _, J, _) => [(0, .box 71 [.own 1]), (1, .row 40 132 eNd l), (2, .ab J)]
  nn := 3
  res := fun _ _ => .own 3
  out := fun (l, t, o, wn, J, _) _ => [(0, .box 71 [.own 1]), (1, .row 40 132 eNd l), (2, .ab J), (3, .row 3 1 eI (ordsO l wn o t))]
  mm := 1
def numsV_H : Cfg := ⟨[(13, node_c)], [], [], [], 57, 3, [27], [], []⟩
theorem numsV_ok : numsV_c.Ok Tryd.prog 21 := by
  refine fn_ok numsV_H 3 rfl _ Tryd.func21 rfl rfl ⟨node_ok, trivial⟩ rfl rfl (by kernel_rfl) (fun _ => Nat.le_of_ble_eq_true rfl) ?_
  rintro ⟨l, t, o, wn, J, y⟩ hp hr
  try dsimp only [numsV_c] at hp
  try simp only [numsV_c, Rng, RngL, inR, and_true, true_and] at hr
  obtain ⟨hd, hlen, hw⟩ := hp
  cases o with
  | none =>
    have ht : t = -1 := hd
    subst ht
    have hn : ¬ inF l (-1) := fun h => absurd h.1 (by decide)
    repeat' (first | (with_reducible refine Unf.h ?_) | fail); all_goals try (conv => whnf); all_goals try (exfalso; omega)
    refine LoopS.autoN (I := List Int) (fun s => s = [-1] ∨ s = []) (fun _ => [(7, .nils), (8, .own 3)]) (fun s => [(0, .box 71 [.own 1]), (1, .row 40 132 eNd l), (2, .ab J), (3, .row 3 1 eI s)]) 4 (fun s => s.length) [-1] (.inl rfl) ?_ ?_
    · repeat' (first | (with_reducible refine Unf.h ?_) | ((conv => whnf); first | (refine Side.mk ?_ ?_; focus (first | with_reducible rfl | (simp only [*, List.map_cons, List.map_nil, eB]; done))) | (with_reducible refine Unf.h ?_) | exact True.intro) | fail); all_goals try (conv => whnf); all_goals try (exfalso; omega)
    · have hs0 : List.take (([-1] : List Int).length - 1 : Int).toNat ([-1] : List Int) = [] := rfl
      have e0 : ordsO l wn none (-1) = [] := rfl
      rintro _ (rfl | rfl)
      · repeat' (first | (with_reducible refine Unf.h ?_) | ((conv => whnf); first | refine Fork.mk (fun h => ?_) (fun h => ?_) | (refine Side.mk ?_ ?_; focus (first | with_reducible rfl | assumption | omega | (intros; (try simp only [lenS, inR, cutS, loI, hiI, hs0] at *); omega))) | (refine Idx.mk ?_ ?_; focus (omega)) | refine RetE.mk () trivial ?_ | refine retK_r ?_ | exact rfl) | fail); all_goals try (conv => whnf); all_goals try (exfalso; omega)
        have hpn : (([-1] : List Int)[((([-1] : List Int).length : Int) - 1).toNat]'(by decide)) = -1 := rfl
        rw [hpn]
        refine CallS.mk (c := node_c) ((l, -1)) ?_
        repeat' (first | (with_reducible first | refine Unf.h ?_ | refine loopK_n ?_) | ((conv => whnf); first | refine Fork.mkn (fun h => ?_) (fun h => ?_) | (refine Side.mk ?_ ?_; focus (first | with_reducible rfl | exact True.intro)) | refine Got.mk (fun _ _ => ?_)) | fail); all_goals try (conv => whnf); all_goals try (exfalso; omega)
        · refine ⟨[], ⟨by decide, .inr rfl⟩, ?_⟩
          repeat' (first | (with_reducible refine Unf.h ?_) | ((conv => whnf); first | (refine Side.mk ?_ ?_; focus (first | with_reducible rfl | (simp only [*, hs0]; done))) | (with_reducible refine Unf.h ?_) | exact True.intro) | fail); all_goals try (conv => whnf); all_goals try (exfalso; omega)
        · exact absurd h hn
      · repeat' (first | (with_reducible refine Unf.h ?_) | ((conv => whnf); first | refine Fork.mk (fun h => ?_) (fun h => ?_) | (refine Side.mk ?_ ?_; focus (first | with_reducible rfl | assumption | omega | (intros; (try simp only [lenS, inR, cutS, loI, hiI, e0] at *); omega))) | (refine Idx.mk ?_ ?_; focus (omega)) | refine RetE.mk () trivial ?_ | refine retK_r ?_ | exact rfl) | fail); all_goals try (conv => whnf); all_goals try (exfalso; omega)
        exact absurd h (by decide)
  | some T =>
    have hd : den l t T := hd
    have hlen : T.list.length ≤ 100000 := hlen
    repeat' (first | (with_reducible refine Unf.h ?_) | fail); all_goals try (conv => whnf); all_goals try (exfalso; omega)
    refine LoopS.autoN (I := List (Int × PT) × List Int) (fun s => (∀ p ∈ s.1, den l p.1 p.2) ∧ s.2 ++ remN l wn s.1 = ords l wn T t ∧ s.2.length + szS s.1 ≤ 2 * T.list.length) (fun _ => [(7, .own 3), (8, .own 4)]) (fun s => [(0, .box 71 [.own 1]), (1, .row 40 132 eNd l), (2, .ab J), (3, .row 3 1 eI s.2), (4, .row 3 1 eIP s.1)]) 5 (fun s => szS s.1) ([(t, T)], []) ⟨?_, ?_, ?_⟩ ?_ ?_
    · intro p hp
      obtain rfl := List.mem_singleton.1 hp
      exact hd
    · simp [remN]
    · have := list_pos T
      simp only [szS, szT, List.length_nil]; omega
    · repeat' (first | (with_reducible refine Unf.h ?_) | ((conv => whnf); first | (refine Side.mk ?_ ?_; focus (first | with_reducible rfl | (simp only [*, List.map_cons, List.map_nil, eB]; done))) | (with_reducible refine Unf.h ?_) | exact True.intro) | fail); all_goals try (conv => whnf); all_goals try (exfalso; omega)
    · rintro ⟨ps, out⟩ ⟨h1, h2, h3⟩
      dsimp only at h1 h2 h3
      rcases List.eq_nil_or_concat ps with rfl | ⟨qs, ⟨i, U⟩, rfl⟩
      · have e0 : ordsO l wn (some T) t = out := by show ords l wn T t = out; simpa [remN] using h2.symm
        repeat' (first | (with_reducible refine Unf.h ?_) | ((conv => whnf); first | refine Fork.mk (fun h => ?_) (fun h => ?_) | (refine Side.mk ?_ ?_; focus (first | with_reducible rfl | omega | (intros; (try simp only [lenS, inR, cutS, loI, hiI, e0] at *); omega) | (simp only [*, e0]; done))) | (refine Idx.mk ?_ ?_; focus (omega)) | refine RetE.mk () trivial ?_ | refine retK_r ?_ | exact rfl) | fail); all_goals try (conv => whnf); all_goals try (exfalso; omega)
        exact absurd h (by simp)
      · rw [List.concat_eq_append] at h1 h2 h3 ⊢
        rw [remN_snoc] at h2
        rw [szS_snoc] at h3
        have hU := h1 (i, U) (by simp)
        have hlast : ∀ hx, (qs ++ [(i, U)])[(((qs ++ [(i, U)]).length : Int) - 1).toNat]'hx = (i, U) := fun hx => by
          simp
        have hin : inF l i := den_in hU
        repeat' (first | (with_reducible refine Unf.h ?_) | ((conv => whnf); first | refine Fork.mk (fun h => ?_) (fun h => ?_) | (refine Side.mk ?_ ?_; focus (first | with_reducible rfl | omega | (intros; (try simp only [lenS, inR, cutS, loI, hiI] at *); omega))) | (refine Idx.mk ?_ ?_; focus (omega)) | refine RetE.mk () trivial ?_ | refine retK_r ?_ | exact rfl) | fail); all_goals try (conv => whnf); all_goals try (exfalso; omega)
        · generalize he : (qs ++ [(i, U)])[(((qs ++ [(i, U)]).length : Int) - 1).toNat]'(by simp) = e
          obtain rfl : e = (i, U) := he ▸ hlast _
          clear he
          have hdq : List.take (((qs ++ [(i, U)]).length : Int) - 1).toNat (qs ++ [(i, U)]) = qs := by simp
          have hz := list_sz U
          refine CallS.mk (c := node_c) ((l, i)) ?_
          repeat' (first | (with_reducible first | refine Unf.h ?_ | refine loopK_n ?_) | ((conv => whnf); first | refine Fork.mkn (fun h => ?_) (fun h => ?_) | (refine Side.mk ?_ ?_; focus (first | with_reducible rfl | exact True.intro)) | refine Got.mk (fun _ _ => ?_)) | fail); all_goals try (conv => whnf); all_goals try (exfalso; omega)
          · exact absurd hin h
          · refine ValS.mk (OpsK.callFG ?_)
            all_goals try (conv => whnf); all_goals try (exfalso; omega)
            refine CallF.mk hw rfl rfl (.inl rfl) rfl rfl ?_
            refine CallS.mk (c := want_c wn J) i ?_
            cases hwn : wn i with
            | false =>
              have e1 := ords_no (l := l) (wn := wn) (T := U) hwn
              repeat' (first | (with_reducible refine Unf.h ?_) | ((conv => whnf); first | (refine Side.mk ?_ ?_; focus (first | with_reducible rfl | exact True.intro)) | refine Got.mk (fun _ _ => ?_)) | fail); all_goals try (conv => whnf); all_goals try (exfalso; omega)
              rw [hwn]
              repeat' (first | (with_reducible first | refine Unf.h ?_ | refine loopK_n ?_) | ((conv => whnf); (with_reducible refine Unf.h ?_)) | fail); all_goals try (conv => whnf); all_goals try (exfalso; omega)
              have h3' : out.length + (szS qs + szT U) ≤ 2 * T.list.length := h3
              have h2' : out ++ (ords l wn U i ++ remN l wn qs) = ords l wn T t := h2
              rw [e1] at h2'
              refine ⟨(qs, out), ⟨by simp only [szS_snoc]; omega, fun p hp => h1 p (by simp [hp]), h2', by dsimp only; omega⟩, ?_⟩
              repeat' (first | (with_reducible refine Unf.h ?_) | ((conv => whnf); first | (refine Side.mk ?_ ?_; focus (first | with_reducible rfl | (simp only [*, hdq]; done))) | (with_reducible refine Unf.h ?_) | exact True.intro) | fail); all_goals try (conv => whnf); all_goals try (exfalso; omega)
            | true =>
              repeat' (first | (with_reducible refine Unf.h ?_) | ((conv => whnf); first | (refine Side.mk ?_ ?_; focus (first | with_reducible rfl | exact True.intro)) | refine Got.mk (fun _ _ => ?_)) | fail); all_goals try (conv => whnf); all_goals try (exfalso; omega)
              rw [hwn]
              repeat' (first | (with_reducible refine Unf.h ?_) | ((conv => whnf); first | (refine Side.mk ?_ ?_; focus ((intros; (try simp only [lenS, inR, cutS, loI, hiI] at *); omega))) | refine Ex.mk [_] rfl ?_ | (with_reducible refine Unf.h ?_)) | fail); all_goals try (conv => whnf); all_goals try (exfalso; omega)
              have h3' : out.length + (szS qs + szT U) ≤ 2 * T.list.length := h3
              have h2' : out ++ (ords l wn U i ++ remN l wn qs) = ords l wn T t := h2
              clear h2 h3
              cases U with
              | leaf k v =>
                rw [ords_leaf hwn] at h2'
                have hnl : (nd l i).leaf = true := by rw [hU.2]
                rw [hnl]
                repeat' (first | (with_reducible first | refine Unf.h ?_ | refine loopK_n ?_) | ((conv => whnf); (with_reducible refine Unf.h ?_)) | fail); all_goals try (conv => whnf); all_goals try (exfalso; omega)
                refine ⟨(qs, out ++ [i]), ⟨by simp only [szS_snoc]; omega, fun p hp => h1 p (by simp [hp]), by rw [← h2']; simp, by simp only [List.length_append, List.length_singleton]; omega⟩, ?_⟩
                repeat' (first | (with_reducible refine Unf.h ?_) | ((conv => whnf); first | (refine Side.mk ?_ ?_; focus (first | with_reducible rfl | (simp only [*, hdq]; done))) | (with_reducible refine Unf.h ?_) | exact True.intro) | fail); all_goals try (conv => whnf); all_goals try (exfalso; omega)
              | node p a b =>
                obtain ⟨_, x, y', en, ha, hb⟩ := hU
                rw [ords_node hwn, en] at h2'
                dsimp only at h2'
                rw [en]
                repeat' (first | (with_reducible refine Unf.h ?_) | ((conv => whnf); (with_reducible refine Unf.h ?_)) | fail); all_goals try (conv => whnf); all_goals try (exfalso; omega)
                refine Ex.mk [(x, a), (y', b)] rfl ?_
                have hq := szS_len qs
                have ht := szT_node p a b
                repeat' (first | (with_reducible first | refine Unf.h ?_ | refine loopK_n ?_) | ((conv => whnf); (refine Side.mk ?_ ?_; focus ((intros; (try simp only [lenS, inR, cutS, loI, hiI] at *); omega)))) | fail); all_goals try (conv => whnf); all_goals try (exfalso; omega)
                have hd2 : List.take (((qs ++ [(i, PT.node p a b)]).length : Int) - 1).toNat (qs ++ [(i, PT.node p a b)]) ++ [(x, a), (y', b)] = qs ++ [(x, a), (y', b)] := by simp
                have e2 : qs ++ [(x, a), (y', b)] = (qs ++ [(x, a)]) ++ [(y', b)] := by simp
                refine ⟨(qs ++ [(x, a), (y', b)], out ++ [i]), ⟨?_, fun p hp => ?_, ?_, ?_⟩, ?_⟩
                · simp only [e2, szS_snoc]; omega
                · rcases List.mem_append.1 hp with hp | hp
                  · exact h1 p (by simp [hp])
                  · rcases List.mem_cons.1 hp with rfl | hp
                    · exact ha
                    · obtain rfl := List.mem_singleton.1 hp
                      exact hb
                · show (out ++ [i]) ++ remN l wn (qs ++ [(x, a), (y', b)]) = _
                  rw [e2, remN_snoc, remN_snoc, ← h2']; simp
                · show (out ++ [i]).length + szS (qs ++ [(x, a), (y', b)]) ≤ _
                  rw [e2, szS_snoc, szS_snoc, List.length_append, List.length_singleton]; simp only; omega
                repeat' (first | (with_reducible refine Unf.h ?_) | ((conv => whnf); first | (refine Side.mk ?_ ?_; focus (first | with_reducible rfl | (simp only [*, hd2]; done))) | (with_reducible refine Unf.h ?_) | exact True.intro) | fail); all_goals try (conv => whnf); all_goals try (exfalso; omega)
def wantF_c (wn : Int → Bool) : Ctr where
  D := Int
  args := fun i => [.int .i64 i]
  res := fun i _ => .bool (wn i)
def numsF_c : Ctr where
  D := Fo × Int × Option PT × (Int → Bool) × Nat
  pre := fun (l, t, o, wn, g) => treeAt l t o ∧ (listO o).length ≤ 100000 ∧ (wantF_c wn).OkBy Tryd.prog (CallsF Tryd.prog (.func (.func g) #[] #[]))
  args := fun (_, t, _, _, g) => [.ptr 0 0, .int .i64 t, .fn g]
  objs := fun (l, _, _, _, _) => [(0, .box 71 [.own 1]), (1, .row 40 132 eNd l)]
  nn := 2
  res := fun _ _ => .own 2
  out := fun (l, t, o, wn, _) _ => [(0, .box 71 [.own 1]), (1, .row 40 132 eNd l), (2, .row 3 1 eI (ordsO l wn o t))]
  mm := 1
def numsF_H : Cfg := ⟨[(13, node_c)], [], [], [], 57, 2, [27], [], []⟩
theorem numsF_ok : numsF_c.Ok Tryd.prog 21 := by
  refine fn_ok numsF_H 2 rfl _ Tryd.func21 rfl rfl ⟨node_ok, trivial⟩ rfl rfl (by kernel_rfl) (fun _ => Nat.le_of_ble_eq_true rfl) ?_
  rintro ⟨l, t, o, wn, g⟩ hp hr
  try dsimp only [numsF_c] at hp
  try simp only [numsF_c, Rng, RngL, inR, and_true, true_and] at hr
  obtain ⟨hd, hlen, hw⟩ := hp
  cases o with
  | none =>
    have ht : t = -1 := hd
    subst ht
    have hn : ¬ inF l (-1) := fun h => absurd h.1 (by decide)
    repeat' (first | (with_reducible refine Unf.h ?_) | fail); all_goals try (conv => whnf); all_goals try (exfalso; omega)
    refine LoopS.autoN (I := List Int) (fun s => s = [-1] ∨ s = []) (fun _ => [(7, .nils), (8, .own 2)]) (fun s => [(0, .box 71 [.own 1]), (1, .row 40 132 eNd l), (2, .row 3 1 eI s)]) 3 (fun s => s.length) [-1] (.inl rfl) ?_ ?_
    · repeat' (first | (with_reducible refine Unf.h ?_) | ((conv => whnf); first | (refine Side.mk ?_ ?_; focus (first | with_reducible rfl | (simp only [*, List.map_cons, List.map_nil, eB]; done))) | (with_reducible refine Unf.h ?_) | exact True.intro) | fail); all_goals try (conv => whnf); all_goals try (exfalso; omega)
    · have hs0 : List.take (([-1] : List Int).length - 1 : Int).toNat ([-1] : List Int) = [] := rfl
      have e0 : ordsO l wn none (-1) = [] := rfl
      rintro _ (rfl | rfl)
      · repeat' (first | (with_reducible refine Unf.h ?_) | ((conv => whnf); first | refine Fork.mk (fun h => ?_) (fun h => ?_) | (refine Side.mk ?_ ?_; focus (first | with_reducible rfl | assumption | omega | (intros; (try simp only [lenS, inR, cutS, loI, hiI, hs0] at *); omega))) | (refine Idx.mk ?_ ?_; focus (omega)) | refine RetE.mk () trivial ?_ | refine retK_r ?_ | exact rfl) | fail); all_goals try (conv => whnf); all_goals try (exfalso; omega)
        have hpn : (([-1] : List Int)[((([-1] : List Int).length : Int) - 1).toNat]'(by decide)) = -1 := rfl
        rw [hpn]
        refine CallS.mk (c := node_c) ((l, -1)) ?_
        repeat' (first | (with_reducible first | refine Unf.h ?_ | refine loopK_n ?_) | ((conv => whnf); first | refine Fork.mkn (fun h => ?_) (fun h => ?_) | (refine Side.mk ?_ ?_; focus (first | with_reducible rfl | exact True.intro)) | refine Got.mk (fun _ _ => ?_)) | fail); all_goals try (conv => whnf); all_goals try (exfalso; omega)
        · refine ⟨[], ⟨by decide, .inr rfl⟩, ?_⟩
          repeat' (first | (with_reducible refine Unf.h ?_) | ((conv => whnf); first | (refine Side.mk ?_ ?_; focus (first | with_reducible rfl | (simp only [*, hs0]; done))) | (with_reducible refine Unf.h ?_) | exact True.intro) | fail); all_goals try (conv => whnf); all_goals try (exfalso; omega)
        · exact absurd h hn
      · repeat' (first | (with_reducible refine Unf.h ?_) | ((conv => whnf); first | refine Fork.mk (fun h => ?_) (fun h => ?_) | (refine Side.mk ?_ ?_; focus (first | with_reducible rfl | assumption | omega | (intros; (try simp only [lenS, inR, cutS, loI, hiI, e0] at *); omega))) | (refine Idx.mk ?_ ?_; focus (omega)) | refine RetE.mk () trivial ?_ | refine retK_r ?_ | exact rfl) | fail); all_goals try (conv => whnf); all_goals try (exfalso; omega)
        exact absurd h (by decide)
  | some T =>
    have hd : den l t T := hd
    have hlen : T.list.length ≤ 100000 := hlen
    repeat' (first | (with_reducible refine Unf.h ?_) | fail); all_goals try (conv => whnf); all_goals try (exfalso; omega)
    refine LoopS.autoN (I := List (Int × PT) × List Int) (fun s => (∀ p ∈ s.1, den l p.1 p.2) ∧ s.2 ++ remN l wn s.1 = ords l wn T t ∧ s.2.length + szS s.1 ≤ 2 * T.list.length) (fun _ => [(7, .own 2), (8, .own 3)]) (fun s => [(0, .box 71 [.own 1]), (1, .row 40 132 eNd l), (2, .row 3 1 eI s.2), (3, .row 3 1 eIP s.1)]) 4 (fun s => szS s.1) ([(t, T)], []) ⟨?_, ?_, ?_⟩ ?_ ?_
    · intro p hp
      obtain rfl := List.mem_singleton.1 hp
      exact hd
    · simp [remN]
    · have := list_pos T
      simp only [szS, szT, List.length_nil]; omega
    · repeat' (first | (with_reducible refine Unf.h ?_) | ((conv => whnf); first | (refine Side.mk ?_ ?_; focus (first | with_reducible rfl | (simp only [*, List.map_cons, List.map_nil, eB]; done))) | (with_reducible refine Unf.h ?_) | exact True.intro) | fail); all_goals try (conv => whnf); all_goals try (exfalso; omega)
    · rintro ⟨ps, out⟩ ⟨h1, h2, h3⟩
      dsimp only at h1 h2 h3
      rcases List.eq_nil_or_concat ps with rfl | ⟨qs, ⟨i, U⟩, rfl⟩
      · have e0 : ordsO l wn (some T) t = out := by show ords l wn T t = out; simpa [remN] using h2.symm
        repeat' (first | (with_reducible refine Unf.h ?_) | ((conv => whnf); first | refine Fork.mk (fun h => ?_) (fun h => ?_) | (refine Side.mk ?_ ?_; focus (first | with_reducible rfl | omega | (intros; (try simp only [lenS, inR, cutS, loI, hiI, e0] at *); omega) | (simp only [*, e0]; done))) | (refine Idx.mk ?_ ?_; focus (omega)) | refine RetE.mk () trivial ?_ | refine retK_r ?_ | exact rfl) | fail); all_goals try (conv => whnf); all_goals try (exfalso; omega)
        exact absurd h (by simp)
      · rw [List.concat_eq_append] at h1 h2 h3 ⊢
        rw [remN_snoc] at h2
        rw [szS_snoc] at h3
        have hU := h1 (i, U) (by simp)
        have hlast : ∀ hx, (qs ++ [(i, U)])[(((qs ++ [(i, U)]).length : Int) - 1).toNat]'hx = (i, U) := fun hx => by
          simp
        have hin : inF l i := den_in hU
        repeat' (first | (with_reducible refine Unf.h ?_) | ((conv => whnf); first | refine Fork.mk (fun h => ?_) (fun h => ?_) | (refine Side.mk ?_ ?_; focus (first | with_reducible rfl | omega | (intros; (try simp only [lenS, inR, cutS, loI, hiI] at *); omega))) | (refine Idx.mk ?_ ?_; focus (omega)) | refine RetE.mk () trivial ?_ | refine retK_r ?_ | exact rfl) | fail); all_goals try (conv => whnf); all_goals try (exfalso; omega)
        · generalize he : (qs ++ [(i, U)])[(((qs ++ [(i, U)]).length : Int) - 1).toNat]'(by simp) = e
          obtain rfl : e = (i, U) := he ▸ hlast _
          clear he
          have hdq : List.take (((qs ++ [(i, U)]).length : Int) - 1).toNat (qs ++ [(i, U)]) = qs := by simp
          have hz := list_sz U
          refine CallS.mk (c := node_c) ((l, i)) ?_
          repeat' (first | (with_reducible first | refine Unf.h ?_ | refine loopK_n ?_) | ((conv => whnf); first | refine Fork.mkn (fun h => ?_) (fun h => ?_) | (refine Side.mk ?_ ?_; focus (first | with_reducible rfl | exact True.intro)) | refine Got.mk (fun _ _ => ?_)) | fail); all_goals try (conv => whnf); all_goals try (exfalso; omega)
          · exact absurd hin h
          · refine ValS.mk (OpsK.callFG ?_)
            all_goals try (conv => whnf); all_goals try (exfalso; omega)
            refine CallF.mk hw rfl rfl (.inr ⟨g, rfl, rfl⟩) rfl rfl ?_
            refine CallS.mk (c := wantF_c wn) i ?_
            cases hwn : wn i with
            | false =>
              have e1 := ords_no (l := l) (wn := wn) (T := U) hwn
              repeat' (first | (with_reducible refine Unf.h ?_) | ((conv => whnf); first | (refine Side.mk ?_ ?_; focus (first | with_reducible rfl | exact True.intro)) | refine Got.mk (fun _ _ => ?_)) | fail); all_goals try (conv => whnf); all_goals try (exfalso; omega)
              rw [hwn]
              repeat' (first | (with_reducible first | refine Unf.h ?_ | refine loopK_n ?_) | ((conv => whnf); (with_reducible refine Unf.h ?_)) | fail); all_goals try (conv => whnf); all_goals try (exfalso; omega)
              have h3' : out.length + (szS qs + szT U) ≤ 2 * T.list.length := h3
              have h2' : out ++ (ords l wn U i ++ remN l wn qs) = ords l wn T t := h2
              rw [e1] at h2'
              refine ⟨(qs, out), ⟨by simp only [szS_snoc]; omega, fun p hp => h1 p (by simp [hp]), h2', by dsimp only; omega⟩, ?_⟩
              repeat' (first | (with_reducible refine Unf.h ?_) | ((conv => whnf); first | (refine Side.mk ?_ ?_; focus (first | with_reducible rfl | (simp only [*, hdq]; done))) | (with_reducible refine Unf.h ?_) | exact True.intro) | fail); all_goals try (conv => whnf); all_goals try (exfalso; omega)
            | true =>
              repeat' (first | (with_reducible refine Unf.h ?_) | ((conv => whnf); first | (refine Side.mk ?_ ?_; focus (first | with_reducible rfl | exact True.intro)) | refine Got.mk (fun _ _ => ?_)) | fail); all_goals try (conv => whnf); all_goals try (exfalso; omega)
              rw [hwn]
              repeat' (first | (with_reducible refine Unf.h ?_) | ((conv => whnf); first | (refine Side.mk ?_ ?_; focus ((intros; (try simp only [lenS, inR, cutS, loI, hiI] at *); omega))) | refine Ex.mk [_] rfl ?_ | (with_reducible refine Unf.h ?_)) | fail); all_goals try (conv => whnf); all_goals try (exfalso; omega)
              have h3' : out.length + (szS qs + szT U) ≤ 2 * T.list.length := h3
              have h2' : out ++ (ords l wn U i ++ remN l wn qs) = ords l wn T t := h2
              clear h2 h3
              cases U with
              | leaf k v =>
                rw [ords_leaf hwn] at h2'
                have hnl : (nd l i).leaf = true := by rw [hU.2]
                rw [hnl]
                repeat' (first | (with_reducible first | refine Unf.h ?_ | refine loopK_n ?_) | ((conv => whnf); (with_reducible refine Unf.h ?_)) | fail); all_goals try (conv => whnf); all_goals try (exfalso; omega)
                refine ⟨(qs, out ++ [i]), ⟨by simp only [szS_snoc]; omega, fun p hp => h1 p (by simp [hp]), by rw [← h2']; simp, by simp only [List.length_append, List.length_singleton]; omega⟩, ?_⟩
                repeat' (first | (with_reducible refine Unf.h ?_) | ((conv => whnf); first | (refine Side.mk ?_ ?_; focus (first | with_reducible rfl | (simp only [*, hdq]; done))) | (with_reducible refine Unf.h ?_) | exact True.intro) | fail); all_goals try (conv => whnf); all_goals try (exfalso; omega)
              | node p a b =>
                obtain ⟨_, x, y', en, ha, hb⟩ := hU
                rw [ords_node hwn, en] at h2'
                dsimp only at h2'
                rw [en]
                repeat' (first | (with_reducible refine Unf.h ?_) | ((conv => whnf); (with_reducible refine Unf.h ?_)) | fail); all_goals try (conv => whnf); all_goals try (exfalso; omega)
                refine Ex.mk [(x, a), (y', b)] rfl ?_
                have hq := szS_len qs
                have ht := szT_node p a b
                repeat' (first | (with_reducible first | refine Unf.h ?_ | refine loopK_n ?_) | ((conv => whnf); (refine Side.mk ?_ ?_; focus ((intros; (try simp only [lenS, inR, cutS, loI, hiI] at *); omega)))) | fail); all_goals try (conv => whnf); all_goals try (exfalso; omega)
                have hd2 : List.take (((qs ++ [(i, PT.node p a b)]).length : Int) - 1).toNat (qs ++ [(i, PT.node p a b)]) ++ [(x, a), (y', b)] = qs ++ [(x, a), (y', b)] := by simp
                have e2 : qs ++ [(x, a), (y', b)] = (qs ++ [(x, a)]) ++ [(y', b)] := by simp
                refine ⟨(qs ++ [(x, a), (y', b)], out ++ [i]), ⟨?_, fun p hp => ?_, ?_, ?_⟩, ?_⟩
                · simp only [e2, szS_snoc]; omega
                · rcases List.mem_append.1 hp with hp | hp
                  · exact h1 p (by simp [hp])
                  · rcases List.mem_cons.1 hp with rfl | hp
                    · exact ha
                    · obtain rfl := List.mem_singleton.1 hp
                      exact hb
                · show (out ++ [i]) ++ remN l wn (qs ++ [(x, a), (y', b)]) = _
                  rw [e2, remN_snoc, remN_snoc, ← h2']; simp
                · show (out ++ [i]).length + szS (qs ++ [(x, a), (y', b)]) ≤ _
                  rw [e2, szS_snoc, szS_snoc, List.length_append, List.length_singleton]; simp only; omega
                repeat' (first | (with_reducible refine Unf.h ?_) | ((conv => whnf); first | (refine Side.mk ?_ ?_; focus (first | with_reducible rfl | (simp only [*, hd2]; done))) | (with_reducible refine Unf.h ?_) | exact True.intro) | fail); all_goals try (conv => whnf); all_goals try (exfalso; omega)
end Go.Proofs.YtmbkoigeekofdaaDoor

/- MY OWN ENGINE: maps keyed by hashes. -/
namespace Go.Proofs.YtmbkoigeekofdaaDoor
set_option linter.all false
open Go.RowKit
theorem mapM_all {α β : Type} {f : α → Option β} : ∀ {l : List α}, (∀ i ∈ l, ∃ y, f i = some y) → ∃ ys, l.mapM f = some ys
  | [], _ => ⟨[], rfl⟩
  | a :: r, h => by
    obtain ⟨y, hy⟩ := h a (by simp)
    obtain ⟨ys, hys⟩ := mapM_all (l := r) fun i hi => h i (by simp [hi])
    exact ⟨y :: ys, by simp [List.mapM_cons, hy, hys]⟩
abbrev hashV {n : Nat} (h : Vector (BitVec 8) n) : Value := .agg (h.toList.map (bV .u8)).toArray
theorem keyOf_hash {P : Program} {k e n : Nat} (hu : P.underlying k = some (.array n e)) (he : P.underlying e = some (.int .u8)) (hc : P.cellsOf e = 1) (hck : P.cellsOf k = n) (hk : P.keyType k = true) (hs : 0 < P.types.size) (h : Vector (BitVec 8) n) : ∃ l, keyOf P k (hashV h) = some l := by
  have hf : (hashV h).formed P k = true := by simp [Value.formed, hu, hck]
  have hm : ∀ i ∈ List.range n, ∃ y, P.keyLits P.types.size e (((h.toList.map (bV .u8)).drop (i * 1)).take 1) = some y := fun i hi => by
    have hi' : i < n := List.mem_range.1 hi
    obtain ⟨m, hm⟩ : ∃ m, P.types.size = m + 1 := ⟨P.types.size - 1, by omega⟩
    have hl : i < (h.toList.map (bV .u8)).length := by simpa using hi'
    rw [hm, Nat.mul_one, List.drop_eq_getElem_cons hl]
    simp only [List.take_succ_cons, List.take_zero, List.getElem_map]
    have hil : i < h.toList.length := by simpa using hi'
    generalize h.toList[i]'hil = x
    have hx := x.isLt
    have hwf : (Lit.int .u8 (x.toNat : Int)).wf = true := by
      have key : ∀ m : Nat, m < 256 → (Lit.int .u8 (m : Int)).wf = true := by decide +kernel
      exact key _ hx
    refine ⟨[.int .u8 (x.toNat : Int)], ?_⟩
    unfold Program.keyLits
    rw [he]
    simp only [bV]
    rw [if_pos ⟨trivial, hwf⟩]
  obtain ⟨ys, hys⟩ := mapM_all hm
  refine ⟨.string (keyBytes ys.flatten), ?_⟩
  unfold keyOf
  rw [hu]
  simp only [hk, hf, Bool.and_self, if_true]
  unfold Program.keyLits
  rw [hu]
  have hcs : (hashV h).cells.toList = h.toList.map (bV .u8) := by simp [Value.cells]
  rw [hcs]
  simp only [List.length_map, Vector.length_toList, hck, if_true, hc]
  rw [hys]; rfl
theorem hashV_inj {n : Nat} {a b : Vector (BitVec 8) n} (h : hashV a = hashV b) : a = b := by
  simp only [hashV, Value.agg.injEq] at h
  have h1 := congrArg Array.toList h
  simp only at h1
  have key : ∀ {l m : List (BitVec 8)}, l.map (bV .u8) = m.map (bV .u8) → l = m := by
    intro l
    induction l with
    | nil => intro m h; cases m <;> simp_all
    | cons x r ih =>
      intro m h
      cases m with
      | nil => simp at h
      | cons y q =>
        simp only [List.map_cons, List.cons.injEq, bV, Value.int.injEq, true_and] at h
        rw [ih h.2, BitVec.eq_of_toNat_eq (Int.ofNat.inj h.1)]
  exact Vector.toList_inj.1 (key h1)
theorem hash_hv {n : Nat} (h : Vector (BitVec 8) n) (w : World) (A : Own) (σ : Sg) (u : Value) : (SV.agg [.arr8 h]).hv w A σ u ↔ u = hashV h := by
  simp only [SV.hv, SV.h1]
  constructor
  · rintro ⟨cs, rfl, hc⟩
    have := hL.single.1 hc
    simp only [SV.hc] at this
    rw [this]
  · rintro rfl
    exact ⟨_, rfl, hL.single.2 (by simp only [SV.hc])⟩
theorem mkey_hash {P : Program} {k e n : Nat} (hl : laidOutB P = true) (hrow : k < P.types.size) (hkt : P.keyTypeAt 2 k = true) (hu : P.underlying k = some (.array n e)) (he : P.underlying e = some (.int .u8)) (hc : P.cellsOf e = 1) (hck : P.cellsOf k = n) (hk : P.keyType k = true) : MKey P k (fun h : Vector (BitVec 8) n => .agg [.arr8 h]) :=
  mkey_law (Maps.Keyed.of_law (deep_law_laid hl (m := 2) (by omega) hrow hkt (by rw [hu]))) hashV (keyOf_hash hu he hc hck hk (by omega)) (fun a b => hashV_inj) (fun a w A σ u => hash_hv a w A σ u)
end Go.Proofs.YtmbkoigeekofdaaDoor

namespace Go.Proofs.YtmbkoigeekofdaaDoor
set_option linter.all false
open Go.RowKit
/-! a node's hash, a node's row; a row's node -/
def hof_c : Ctr where
  D := Fo × Int
  args := fun (_, i) => [.ptr 0 0, .int .i64 i]
  objs := fun (l, _) => fo l
  nn := 2
  res := fun (l, i) _ => .agg [.arr8 (nd l i).hash]
  out := fun (l, _) _ => fo l
def hof_H : Cfg := ⟨[(13, node_c)], [], [], [], 15, 2, [], [], []⟩
theorem hof_ok : hof_c.Ok Tryd.prog 32 := by
  refine fn_ok hof_H 2 rfl _ Tryd.func32 rfl rfl ⟨node_ok, trivial⟩ rfl rfl (by kernel_rfl) (fun _ => Nat.le_of_ble_eq_true rfl) ?_
  rintro ⟨l, i⟩ hp hr
  try dsimp only [hof_c] at hp
  try simp only [hof_c, Rng, RngL, inR, and_true, true_and] at hr
  repeat' (first | (with_reducible refine Unf.h ?_) | ((conv => whnf); first | (refine Side.mk ?_ ?_; focus (first | with_reducible rfl | exact True.intro)) | refine RetE.mk () trivial ?_ | refine Got.mk (fun _ _ => ?_) | refine retK_r ?_ | exact rfl | refine CallS.mk (c := node_c) ((l, i)) ?_) | fail); all_goals try (conv => whnf)
def drow_c : Ctr where
  D := Fo × Int
  args := fun (_, i) => [.ptr 0 0, .int .i64 i]
  objs := fun (l, _) => fo l
  nn := 2
  res := fun (l, i) _ => .agg (eRw (rowOf l i))
  out := fun (l, _) _ => fo l
def drow_H : Cfg := ⟨[(13, node_c), (32, hof_c)], [(4, [1, 4, 8], [5, 9, 11], (.one 0 0 false (.one 1 1 false (.one 2 0 false (.one 3 0 false (.one 4 1 false (.one 6 0 false (.one 7 0 false (.one 8 1 false (.one 5 2 true (.one 9 2 true (.one 10 0 false (.one 11 2 false .nil)))))))))))), [1000000])], [], [], 31, 2, [], [], []⟩
theorem drow_ok : drow_c.Ok Tryd.prog 24 := by
  refine fn_ok drow_H 2 rfl _ Tryd.func24 rfl rfl ⟨node_ok, hof_ok, trivial⟩ rfl rfl (by kernel_rfl) (fun _ => Nat.le_of_ble_eq_true rfl) ?_
  rintro ⟨l, i⟩ hp hr
  try dsimp only [drow_c] at hp
  try simp only [drow_c, Rng, RngL, inR, and_true, true_and] at hr
  repeat' (first | (with_reducible refine Unf.h ?_) | fail); all_goals try (conv => whnf); all_goals try (exfalso; omega)
  refine CallS.mk (c := node_c) ((l, i)) ?_
  repeat' (first | (with_reducible refine Unf.h ?_) | ((conv => whnf); first | (refine Side.mk ?_ ?_; focus (first | with_reducible rfl | exact True.intro)) | refine Got.mk (fun _ _ => ?_)) | fail); all_goals try (conv => whnf); all_goals try (exfalso; omega)
  generalize hn : nd l i = n
  obtain ⟨leaf, key, value, plen, bits, left, right, hash⟩ := n
  cases leaf with
  | true =>
    have e : rowOf l i = ⟨true, key, value, 0, zeroH, zeroH, zeroH⟩ := by unfold rowOf; rw [hn]; rfl
    repeat' (first | (with_reducible refine Unf.h ?_) | ((conv => whnf); first | (refine Side.mk ?_ ?_; focus (first | with_reducible rfl | (simp only [*, e]; done))) | refine RetE.mk () trivial ?_ | refine retK_r ?_ | exact rfl) | fail); all_goals try (conv => whnf); all_goals try (exfalso; omega)
  | false =>
    have e : rowOf l i = ⟨false, zeroH, zeroH, plen, bits, (nd l left).hash, (nd l right).hash⟩ := by unfold rowOf; rw [hn]; rfl
    repeat' (first | (with_reducible refine Unf.h ?_) | fail); all_goals try (conv => whnf); all_goals try (exfalso; omega)
    refine CallS.mk (c := hof_c) ((l, left)) ?_
    repeat' (first | (with_reducible refine Unf.h ?_) | ((conv => whnf); first | (refine Side.mk ?_ ?_; focus (first | with_reducible rfl | exact True.intro)) | refine Got.mk (fun _ _ => ?_)) | fail); all_goals try (conv => whnf); all_goals try (exfalso; omega)
    refine CallS.mk (c := hof_c) ((l, right)) ?_
    repeat' (first | (with_reducible refine Unf.h ?_) | ((conv => whnf); first | (refine Side.mk ?_ ?_; focus (first | with_reducible rfl | exact True.intro | (simp only [*, e]; done))) | refine RetE.mk () trivial ?_ | refine Got.mk (fun _ _ => ?_) | refine retK_r ?_ | exact rfl) | fail); all_goals try (conv => whnf); all_goals try (exfalso; omega)
/-! the maker -/
abbrev Kn := List (H256 × Int)
abbrev eK : H256 → SV := fun h => .agg [.arr8 h]
abbrev eZ : Int → SV := fun n => .int .i64 n
abbrev mpO (kn : Kn) : SO := .mp 32 3 inferInstance eK eZ kn
/-- a maker: 0: itself; 1: the forest; 2: its nodes; 3: what is known -/
abbrev mkO (l : Fo) (kn : Kn) : List Ob := [(0, .box 82 [.ptr 1 0, .own 3]), (1, .box 71 [.own 2]), (2, .row 40 132 eNd l), (3, mpO kn)]
def knG (kn : Kn) (h : H256) : Int := (mget kn h).getD 0
def rowN (kn : Kn) (r : Rw) : Nd := if r.leaf then ⟨true, r.key, r.value, 0, zeroH, 0, 0, zeroH⟩ else ⟨false, zeroH, zeroH, r.plen, r.bits, knG kn r.left, knG kn r.right, zeroH⟩
abbrev rowK (kn : Kn) (r : Rw) : Prop := r.leaf = true ∨ ((mget kn r.left).isSome = true ∧ (mget kn r.right).isSome = true)
def mnode_c : Ctr where
  D := Fo × Kn × Rw
  args := fun (_, _, r) => [.ptr 0 0, .agg (eRw r)]
  objs := fun (l, kn, _) => mkO l kn
  nn := 4
  res := fun (_, kn, r) _ => .tup [.agg (eNd (rowN kn r)), .dec (rowK kn r) inferInstance]
  out := fun (l, kn, _) _ => mkO l kn
theorem mkeyH : MKey Tryd.prog 32 eK :=
  mkey_hash (by kernel_rfl) (by decide +kernel) (by kernel_rfl) Tryd.underlying32 Tryd.underlying5 (by kernel_rfl) (by kernel_rfl) (by kernel_rfl)
theorem zeroI : ZeroIs Tryd.prog 3 (.int .i64 0) := ⟨_, Tryd.zeroValue3, fun w A σ => by simp [SV.hv, SV.h1, SV.hc, inR]⟩
def mnode_H : Cfg := ⟨[], [(3, [3, 5], [6], (.one 0 0 false (.one 1 0 false (.one 2 0 false (.one 3 1 false (.one 4 0 false (.one 5 1 false (.one 6 2 false (.one 7 0 false (.one 8 0 false (.one 9 0 false (.one 10 0 false (.one 11 0 false .nil)))))))))))), []), (4, [3, 5], [6], (.one 0 0 false (.one 1 0 false (.one 2 0 false (.one 3 1 false (.one 4 0 false (.one 5 1 false (.one 6 2 false (.one 7 0 false (.one 8 0 false (.one 9 0 false (.one 10 0 false (.one 11 0 false .nil)))))))))))), [])], [], [], 46, 4, [], [], []⟩
theorem mnode_ok : mnode_c.Ok Tryd.prog 48 := by
  refine fn_ok mnode_H 4 rfl _ Tryd.func48 rfl rfl trivial rfl rfl (by kernel_rfl) (fun _ => Nat.le_of_ble_eq_true rfl) ?_
  rintro ⟨l, kn, r⟩ hp hr
  try dsimp only [mnode_c] at hp
  try simp only [mnode_c, Rng, RngL, inR, and_true, true_and] at hr
  have hk := mkeyH
  have hz := zeroI
  obtain ⟨leaf, key, value, plen, bits, left, right⟩ := r
  cases leaf with
  | true =>
    have e : rowN kn ⟨true, key, value, plen, bits, left, right⟩ = ⟨true, key, value, 0, zeroH, 0, 0, zeroH⟩ := rfl
    repeat' (first | (with_reducible refine Unf.h ?_) | ((conv => whnf); first | (refine Side.mk ?_ ?_; focus ((simp only [*, e]; done))) | refine RetE.mk () trivial ?_ | refine retK_r ?_) | fail); all_goals try (conv => whnf); all_goals try (exfalso; omega)
    refine Side.mk ⟨fun _ => .inl rfl, fun _ => rfl⟩ ?_
    repeat' (first | (with_reducible refine Unf.h ?_) | ((conv => whnf); first | (refine Side.mk ?_ ?_; focus (with_reducible rfl)) | exact rfl) | fail); all_goals try (conv => whnf); all_goals try (exfalso; omega)
  | false =>
    repeat' (first | (with_reducible refine Unf.h ?_) | fail); all_goals try (conv => whnf); all_goals try (exfalso; omega)
    refine LookS.mk left rfl hk _ hz ⟨rfl, fun _ => rfl⟩ (fun b1 hb1 => ?_) (fun hb1 => ?_)
    · repeat' (first | (with_reducible refine Unf.h ?_) | ((conv => whnf); (with_reducible refine Unf.h ?_)) | fail); all_goals try (conv => whnf); all_goals try (exfalso; omega)
      refine LookS.mk right rfl hk _ hz ⟨rfl, fun _ => rfl⟩ (fun b2 hb2 => ?_) (fun hb2 => ?_)
      · have e : rowN kn ⟨false, key, value, plen, bits, left, right⟩ = ⟨false, zeroH, zeroH, plen, bits, b1, b2, zeroH⟩ := by simp [rowN, knG, hb1, hb2]
        repeat' (first | (with_reducible refine Unf.h ?_) | ((conv => whnf); first | (refine Side.mk ?_ ?_; focus ((simp only [*, e]; done))) | refine RetE.mk () trivial ?_ | (with_reducible refine Unf.h ?_) | refine retK_r ?_) | fail); all_goals try (conv => whnf); all_goals try (exfalso; omega)
        refine Side.mk ⟨fun _ => .inr ⟨by rw [hb1]; rfl, by rw [hb2]; rfl⟩, fun _ => rfl⟩ ?_
        repeat' (first | (with_reducible refine Unf.h ?_) | ((conv => whnf); first | (refine Side.mk ?_ ?_; focus (with_reducible rfl)) | exact rfl) | fail); all_goals try (conv => whnf); all_goals try (exfalso; omega)
      · have e : rowN kn ⟨false, key, value, plen, bits, left, right⟩ = ⟨false, zeroH, zeroH, plen, bits, b1, 0, zeroH⟩ := by simp [rowN, knG, hb1, hb2]
        repeat' (first | (with_reducible refine Unf.h ?_) | ((conv => whnf); first | (refine Side.mk ?_ ?_; focus (first | with_reducible rfl | (simp only [*, e]; done) | (simp [*, e]; done))) | refine RetE.mk () trivial ?_ | (with_reducible refine Unf.h ?_) | refine retK_r ?_ | exact rfl) | fail); all_goals try (conv => whnf); all_goals try (exfalso; omega)
    · repeat' (first | (with_reducible refine Unf.h ?_) | ((conv => whnf); (with_reducible refine Unf.h ?_)) | fail); all_goals try (conv => whnf); all_goals try (exfalso; omega)
      refine LookS.mk right rfl hk _ hz ⟨rfl, fun _ => rfl⟩ (fun b2 hb2 => ?_) (fun hb2 => ?_)
      · have e : rowN kn ⟨false, key, value, plen, bits, left, right⟩ = ⟨false, zeroH, zeroH, plen, bits, 0, b2, zeroH⟩ := by simp [rowN, knG, hb1, hb2]
        repeat' (first | (with_reducible refine Unf.h ?_) | ((conv => whnf); first | (refine Side.mk ?_ ?_; focus (first | with_reducible rfl | (simp only [*, e]; done) | (simp [*, e]; done))) | refine RetE.mk () trivial ?_ | (with_reducible refine Unf.h ?_) | refine retK_r ?_ | exact rfl) | fail); all_goals try (conv => whnf); all_goals try (exfalso; omega)
      · have e : rowN kn ⟨false, key, value, plen, bits, left, right⟩ = ⟨false, zeroH, zeroH, plen, bits, 0, 0, zeroH⟩ := by simp [rowN, knG, hb1, hb2]
        repeat' (first | (with_reducible refine Unf.h ?_) | ((conv => whnf); first | (refine Side.mk ?_ ?_; focus (first | with_reducible rfl | (simp only [*, e]; done) | (simp [*, e]; done))) | refine RetE.mk () trivial ?_ | (with_reducible refine Unf.h ?_) | refine retK_r ?_ | exact rfl) | fail); all_goals try (conv => whnf); all_goals try (exfalso; omega)
end Go.Proofs.YtmbkoigeekofdaaDoor

namespace Go.Proofs.YtmbkoigeekofdaaDoor
set_option linter.all false
open Go.RowKit
/-! a row is added -/
abbrev rowMay (l : Fo) (kn : Kn) (r : Rw) : Prop := rowK kn r ∧ ((rowN kn r).leaf = true ∨ mayP l (rowN kn r))
def addR (l : Fo) (kn : Kn) (r : Rw) : Option (Fo × Kn) := if rowMay l kn r then some (l ++ [mk l (rowN kn r)], mput kn (mk l (rowN kn r)).hash (l.length : Int)) else none
def madd_c : Ctr where
  D := Fo × Kn × Rw
  pre := fun (l, kn, _) => l.length ≤ 1000000 ∧ kn.length ≤ 1000000
  args := fun (_, _, r) => [.ptr 0 0, .agg (eRw r)]
  objs := fun (l, kn, _) => mkO l kn
  nn := 4
  E := Option (Fo × Kn)
  post := fun (l, kn, r) e => e = addR l kn r
  res := fun (l, _, _) e => match e with
    | some _ => .tup [.int .i64 (l.length : Int), .int .i64 0]
    | none => .tup [.int .i64 0, .int .i64 9]
  out := fun (l, kn, _) e => match e with
    | some p => [(0, .box 82 [.ptr 1 0, .own 3]), (1, .box 71 [.own 4]), (4, .row 40 132 eNd p.1), (3, mpO p.2)]
    | none => mkO l kn
  mm := 1
def madd_H : Cfg := ⟨[(48, mnode_c), (49, addA_c), (49, addX_c), (32, hof_c)], [(4, [3, 4], [5], (.one 0 0 false (.one 1 0 false (.one 2 0 false (.one 3 1 false (.one 4 1 false (.one 5 2 false (.one 6 0 false (.one 7 0 false (.one 8 0 false (.one 9 0 false (.one 10 0 false .nil))))))))))), []), (7, [3, 7], [9, 11], (.one 0 0 false (.one 1 0 false (.one 2 0 false (.one 3 1 false (.one 4 0 false (.one 5 0 false (.one 6 0 false (.one 7 1 false (.one 8 0 false (.one 10 0 false (.one 9 2 true (.one 11 2 false .nil)))))))))))), [1000022])], [], [], 45, 4, [], [], []⟩
theorem madd_ok : madd_c.Ok Tryd.prog 33 := by
  refine fn_ok madd_H 4 rfl _ Tryd.func33 rfl rfl ⟨mnode_ok, addA_ok, addX_ok, hof_ok, trivial⟩ rfl rfl (by kernel_rfl) (fun _ => Nat.le_of_ble_eq_true rfl) ?_
  rintro ⟨l, kn, r⟩ ⟨hp1, hp2⟩ hr
  try dsimp only [madd_c] at hp
  try simp only [madd_c, Rng, RngL, inR, and_true, true_and] at hr
  have hk := mkeyH
  repeat' (first | (with_reducible refine Unf.h ?_) | fail); all_goals try (conv => whnf); all_goals try (exfalso; omega)
  refine CallS.mk (c := mnode_c) ((l, kn, r)) ?_
  repeat' (first | (with_reducible refine Unf.h ?_) | ((conv => whnf); first | refine Fork.mkn (fun h => ?_) (fun h => ?_) | (refine Side.mk ?_ ?_; focus (first | with_reducible rfl | exact True.intro)) | refine Got.mk (fun _ _ => ?_) | refine retK_r ?_) | fail); all_goals try (conv => whnf); all_goals try (exfalso; omega)
  · have e : addR l kn r = none := if_neg fun hh => h hh.1
    exact RetE.mk (none : Option (Fo × Kn)) e.symm (by repeat' (first | (with_reducible refine Unf.h ?_) | ((conv => whnf); first | (refine Side.mk ?_ ?_; focus (with_reducible rfl)) | (with_reducible refine Unf.h ?_) | exact rfl) | fail); all_goals try (conv => whnf); all_goals try (exfalso; omega))
  · by_cases hm : (rowN kn r).leaf = true ∨ mayP l (rowN kn r)
    · have e : addR l kn r = some (l ++ [mk l (rowN kn r)], mput kn (mk l (rowN kn r)).hash (l.length : Int)) := if_pos ⟨h, hm⟩
      have hpa : addA_c.pre (l, rowN kn r) := ⟨hp1, hm⟩
      all_goals try (conv => whnf); all_goals try (exfalso; omega)
      have hl2 := nd_last l (mk l (rowN kn r))
      refine Or2.l (CallS.mk (c := addA_c) ((l, rowN kn r)) ?_)
      repeat' (first | (with_reducible refine Unf.h ?_) | ((conv => whnf); first | refine Fork.mk (fun h => ?_) (fun h => ?_) | (refine Side.mk ?_ ?_; focus (first | with_reducible rfl | assumption)) | refine Got.mk (fun _ _ => ?_)) | fail); all_goals try (conv => whnf); all_goals try (exfalso; omega)
      · refine CallS.mk (c := hof_c) ((l ++ [mk l (rowN kn r)], (l.length : Int))) ?_
        repeat' (first | (with_reducible refine Unf.h ?_) | ((conv => whnf); first | (refine Side.mk ?_ ?_; focus (first | with_reducible rfl | exact True.intro)) | refine Got.mk (fun _ _ => ?_)) | fail); all_goals try (conv => whnf); all_goals try (exfalso; omega)
        refine UpdS.mk _ rfl _ rfl hk (by omega) ?_
        rw [hl2]
        repeat' (first | (with_reducible refine Unf.h ?_) | ((conv => whnf); first | (with_reducible refine Unf.h ?_) | refine retK_r ?_) | fail); all_goals try (conv => whnf); all_goals try (exfalso; omega)
        exact RetE.mk (some (l ++ [mk l (rowN kn r)], mput kn (mk l (rowN kn r)).hash (l.length : Int))) e.symm (by repeat' (first | (with_reducible refine Unf.h ?_) | ((conv => whnf); first | (refine Side.mk ?_ ?_; focus (with_reducible rfl)) | (with_reducible refine Unf.h ?_) | exact rfl) | fail); all_goals try (conv => whnf); all_goals try (exfalso; omega))
      all_goals exact absurd rfl h
    · have e : addR l kn r = none := if_neg fun hh => hm hh.2
      have hpx : addX_c.pre (l, rowN kn r) := ⟨by cases hl : (rowN kn r).leaf with | false => rfl | true => exact absurd (.inl hl) hm, fun x => hm (.inr x)⟩
      all_goals try (conv => whnf); all_goals try (exfalso; omega)
      refine Or2.r (CallS.mk (c := addX_c) ((l, rowN kn r)) ?_)
      repeat' (first | (with_reducible refine Unf.h ?_) | ((conv => whnf); first | refine Fork.mk (fun h => ?_) (fun h => ?_) | (refine Side.mk ?_ ?_; focus (first | with_reducible rfl | assumption)) | refine Got.mk (fun _ _ => ?_) | refine retK_r ?_) | fail); all_goals try (conv => whnf); all_goals try (exfalso; omega)
      exact RetE.mk (none : Option (Fo × Kn)) e.symm (by repeat' (first | (with_reducible refine Unf.h ?_) | ((conv => whnf); first | (refine Side.mk ?_ ?_; focus (with_reducible rfl)) | (with_reducible refine Unf.h ?_) | exact rfl) | fail); all_goals try (conv => whnf); all_goals try (exfalso; omega))
end Go.Proofs.YtmbkoigeekofdaaDoor

/- slices.Sort at ints: the shelf's contract laid at this seat (printed by tools/shelf.py) -/
namespace Go.Proofs.YtmbkoigeekofdaaDoor
set_option linter.all false
open Go.Shelf Go.RowKit Go.Sort
def lays189_ren : Go.Shelf.Ren := ⟨fun | 189 => 23 | 125 => 42 | 257 => 41 | 128 => 69 | 129 => 70 | 294 => 60 | 295 => 61 | 296 => 62 | 297 => 63 | 298 => 64 | 299 => 65 | 216 => 66 | 300 => 67 | 301 => 68 | 328 => 81 | 329 => 82 | 330 => 83 | 331 => 84 | 332 => 85 | 215 => 86 | 343 => 93 | n => n, fun | 28 => 63 | 3 => 3 | 46 => 78 | 0 => 0 | 51 => 72 | 53 => 100 | 4 => 4 | 183 => 119 | 182 => 118 | 131 => 124 | 5 => 5 | 9 => 9 | 218 => 137 | 222 => 141 | 228 => 149 | 229 => 150 | n => n, fun | n => n⟩
theorem lays189 : Go.Proofs.Lays.n189 Tryd.prog lays189_ren := {
  mixed := by kernel_rfl
  f125 := Tryd.func42.trans (congrArg some (by kernel_rfl))
  f128 := Tryd.func69.trans (congrArg some (by kernel_rfl))
  f129 := Tryd.func70.trans (congrArg some (by kernel_rfl))
  f189 := Tryd.func23.trans (congrArg some (by kernel_rfl))
  f215 := Tryd.func86.trans (congrArg some (by kernel_rfl))
  f216 := Tryd.func66.trans (congrArg some (by kernel_rfl))
  f257 := Tryd.func41.trans (congrArg some (by kernel_rfl))
  f294 := Tryd.func60.trans (congrArg some (by kernel_rfl))
  f295 := Tryd.func61.trans (congrArg some (by kernel_rfl))
  f296 := Tryd.func62.trans (congrArg some (by kernel_rfl))
  f297 := Tryd.func63.trans (congrArg some (by kernel_rfl))
  f298 := Tryd.func64.trans (congrArg some (by kernel_rfl))
  f299 := Tryd.func65.trans (congrArg some (by kernel_rfl))
  f300 := Tryd.func67.trans (congrArg some (by kernel_rfl))
  f301 := Tryd.func68.trans (congrArg some (by kernel_rfl))
  f328 := Tryd.func81.trans (congrArg some (by kernel_rfl))
  f329 := Tryd.func82.trans (congrArg some (by kernel_rfl))
  f330 := Tryd.func83.trans (congrArg some (by kernel_rfl))
  f331 := Tryd.func84.trans (congrArg some (by kernel_rfl))
  f332 := Tryd.func85.trans (congrArg some (by kernel_rfl))
  f343 := Tryd.func93.trans (congrArg some (by kernel_rfl))
  t0 := Tryd.underlying0
  a0 := Tryd.isAgg0
  z0 := Tryd.sizeOf0
  v0 := Tryd.zeroValue0
  t3 := Tryd.underlying3
  a3 := Tryd.isAgg3
  z3 := Tryd.sizeOf3
  v3 := Tryd.zeroValue3
  t4 := Tryd.underlying4
  a4 := Tryd.isAgg4
  z4 := Tryd.sizeOf4
  v4 := Tryd.zeroValue4
  t5 := Tryd.underlying5
  a5 := Tryd.isAgg5
  z5 := Tryd.sizeOf5
  v5 := Tryd.zeroValue5
  t9 := Tryd.underlying9
  a9 := Tryd.isAgg9
  z9 := Tryd.sizeOf9
  v9 := Tryd.zeroValue9
  t28 := Tryd.underlying63
  a28 := Tryd.isAgg63
  z28 := Tryd.sizeOf63
  v28 := Tryd.zeroValue63
  t46 := Tryd.underlying78
  a46 := Tryd.isAgg78
  z46 := Tryd.sizeOf78
  v46 := Tryd.zeroValue78
  t51 := Tryd.underlying72
  a51 := Tryd.isAgg72
  z51 := Tryd.sizeOf72
  v51 := Tryd.zeroValue72
  t53 := Tryd.underlying100
  a53 := Tryd.isAgg100
  z53 := Tryd.sizeOf100
  v53 := Tryd.zeroValue100
  t131 := Tryd.underlying124
  a131 := Tryd.isAgg124
  z131 := Tryd.sizeOf124
  v131 := Tryd.zeroValue124
  t182 := Tryd.underlying118
  a182 := Tryd.isAgg118
  z182 := Tryd.sizeOf118
  v182 := Tryd.zeroValue118
  t183 := Tryd.underlying119
  a183 := Tryd.isAgg119
  z183 := Tryd.sizeOf119
  v183 := Tryd.zeroValue119
  t218 := Tryd.underlying137
  a218 := Tryd.isAgg137
  z218 := Tryd.sizeOf137
  v218 := Tryd.zeroValue137
  t222 := Tryd.underlying141
  a222 := Tryd.isAgg141
  z222 := Tryd.sizeOf141
  v222 := Tryd.zeroValue141
  t228 := Tryd.underlying149
  a228 := Tryd.isAgg149
  z228 := Tryd.sizeOf149
  v228 := Tryd.zeroValue149
  t229 := Tryd.underlying150
  a229 := Tryd.isAgg150
  z229 := Tryd.sizeOf150
  v229 := Tryd.zeroValue150 }


/-! slices.Sort at ints -/
theorem hE_ints {w : World} {A : Own} : ∀ {l : List Int} {cs : List Value}, hE w A sg0 (l.map eI) cs → cs = l.map (Value.int .i64)
  | [], cs, h => by simp only [List.map_nil, hE] at h; subst h; rfl
  | b :: r, cs, h => by
    simp only [List.map_cons, hE] at h
    obtain ⟨c, rest, rfl, h1, h2⟩ := h
    rw [hL.single] at h1
    simp only [SV.hc] at h1
    obtain ⟨rfl, _⟩ := h1
    rw [hE_ints h2]; rfl
theorem hE_rng {w : World} {A : Own} : ∀ {l : List Int} {cs : List Value}, hE w A sg0 (l.map eI) cs → ∀ i ∈ l, inR i
  | [], cs, h => fun i hi => absurd hi (by simp)
  | b :: r, cs, h => by
    simp only [List.map_cons, hE] at h
    obtain ⟨c, rest, rfl, h1, h2⟩ := h
    rw [hL.single] at h1
    simp only [SV.hc] at h1
    obtain ⟨_, hb⟩ := h1
    intro i hi
    rcases List.mem_cons.1 hi with rfl | hi
    · exact hb trivial
    · exact hE_rng h2 i hi
theorem hE_of_ints {w : World} {A : Own} : ∀ {l : List Int}, (∀ i ∈ l, inR i) → hE w A sg0 (l.map eI) (l.map (Value.int .i64))
  | [], h => rfl
  | b :: r, h => by
    simp only [List.map_cons, hE]
    exact ⟨[_], _, rfl, by rw [hL.single]; exact ⟨rfl, fun _ => h b (by simp)⟩, hE_of_ints fun i hi => h i (by simp [hi])⟩
def srt_c : Ctr where
  D := List Int
  pre := fun l => l.length ≤ 1000000
  args := fun _ => [.own 0]
  objs := fun l => [(0, .row 3 1 eI l)]
  nn := 1
  res := fun _ _ => .tup []
  out := fun l _ => [(0, .row 3 1 eI (srtI l))]
theorem srt_ok : srt_c.Ok Tryd.prog 23 := by
  intro (l : List Int) hp A0 w σ vs hA hobs hargs hdom hgl
  obtain ⟨p, m1, rfl, h1, h3⟩ := hargs
  simp only [hvs] at h3; subst h3
  obtain ⟨v, cs, r1, r2, r3, r4, r5⟩ := hobs.holds _ (List.mem_cons_self ..)
  obtain rfl : p = v := by
    simp only [SV.h1, SV.hc, List.cons.injEq, and_true] at h1
    obtain ⟨u, e1, _, e2⟩ := h1
    dsimp only at r1
    rw [r1] at e1; cases e1
    exact e2
  obtain rfl := hE_ints r4
  have hr := hE_rng r4
  rw [List.length_map] at r5
  have hsl : (srtI l).length = l.length := srtI_len l
  have fin : ∀ w', Mod (fun b => owns σ (srt_c.objs l) b) w w' → w'.ownsRow 0 3 1 p (srtI l).length ((srtI l).map (Value.int .i64)) → ∃ (e' : Unit) (v : Value) (σ' : Sg), Ending.returned (Value.tuple #[]) = .returned v ∧ srt_c.post l e' ∧ (∀ k, k < srt_c.nn → ∀ v, σ' k = some v → σ k = some v) ∧ (∀ k, srt_c.nn + srt_c.mm ≤ k → σ' k = none) ∧ (srt_c.res l e').hv w' (Av A0 σ' (srt_c.out l e')) σ' v ∧ Mod (fun b => srt_c.kp = false ∧ owns σ (srt_c.objs l) b) w w' ∧ Obs σ' A0 (srt_c.out l e') w' ∧
    (∀ b, owns σ' (srt_c.out l e') b → owns σ (srt_c.objs l) b ∨ w.heap.size ≤ b) := by
    intro w' hm ho
    have hown : ∀ b, owns σ (srt_c.out l ()) b ↔ owns σ (srt_c.objs l) b := fun b => Iff.rfl
    refine ⟨(), _, σ, rfl, trivial, fun _ _ _ h => h, fun k hk => hdom k hk, ⟨[], rfl, rfl⟩, hm.mono fun b hb => ⟨rfl, hb⟩, ⟨fun o ho' => ?_, hobs.disj, fun b hb => ⟨Nat.lt_of_lt_of_le (hobs.lt b hb).1 hm.size, (hobs.lt b hb).2⟩⟩, fun c hc => .inl hc⟩
    obtain rfl := List.mem_singleton.1 ho'
    refine ⟨p, _, r1, ?_, ?_, hE_of_ints (fun i hi => hr i (srtI_mem.1 hi)), by rw [List.length_map]; exact ho⟩
    · intro e he
      obtain ⟨i, _, rfl⟩ := List.mem_map.1 he
      rfl
    · rw [List.length_map, hsl]; rw [List.length_map] at r3; exact r3
  rcases r5.2 with ⟨rfl, hz⟩ | ⟨g, cap, cur, rfl, hbg, hg, hnc, hcm, hcs, htake⟩
  · obtain rfl := List.eq_nil_of_length_eq_zero hz
    refine (Any.slices_Sort_int_none lays189 none 0 w).mono ?_
    rintro e w' ⟨rfl, rfl⟩
    exact fin _ (Mod.refl _ _) (by rw [show srtI [] = [] from List.mergeSort_nil]; exact r5)
  · have hgl : g < w.heap.size := (Array.getElem?_eq_some_iff.1 hg).1
    refine (Any.slices_Sort_int lays189 g 0 cap l w (holds_of_blockI hg (by rw [Nat.mul_one] at htake; exact htake)) hgl (by have : l.length ≤ 1000000 := hp; omega)).mono ?_
    rintro e w' ⟨rfl, n, os, rfl⟩
    refine fin _ ((Mod.grown (grownBy_sortedI (n := n) (os := os) (srtI l).toArray)).mono fun b hb => ?_) ?_
    · cases hb
      exact .inl ⟨_, r1, rfl⟩
    · have := ownsRow_sortedI (w := w) (base := 0) (n := n) (os := os) (ss := l) (ts := srtI l) hsl hbg hg hnc hcm hcs
      rw [hsl]
      exact this
end Go.Proofs.YtmbkoigeekofdaaDoor

namespace Go.Proofs.YtmbkoigeekofdaaDoor
set_option linter.all false
open Go.RowKit
/-! who asks for the numbers from a size on -/
def sin1_c (sz : Int) : Ctr where
  D := Int
  args := fun i => [.int .i64 i, .ptr 0 0]
  objs := fun _ => [(0, .box 3 [.int .i64 sz])]
  nn := 1
  res := fun i _ => .dec (sz ≤ i) inferInstance
  out := fun _ _ => [(0, .box 3 [.int .i64 sz])]
def sin1_H : Cfg := ⟨[], [], [], [], 7, 1, [], [], []⟩
theorem sin1_ok (sz : Int): (sin1_c sz).Ok Tryd.prog 22 := by
  refine fn_ok sin1_H 1 rfl _ Tryd.func22 rfl rfl trivial rfl rfl (by kernel_rfl) (fun _ => Nat.le_of_ble_eq_true rfl) ?_
  intro (i : Int) hp hr
  try dsimp only [sin1_c] at hp
  try simp only [sin1_c, Rng, RngL, inR, and_true, true_and] at hr
  repeat' (first | (with_reducible refine Unf.h ?_) | ((conv => whnf); first | (refine Side.mk ?_ ?_; focus (with_reducible rfl)) | refine RetE.mk () trivial ?_ | refine retK_r ?_ | exact rfl) | fail); all_goals try (conv => whnf); all_goals try (exfalso; omega)
theorem sin1_by (sz : Int) (τ : Sg) (v : Value) : (want_c (fun i => decide (sz ≤ i)) (packAO τ [(0, .box 3 [.int .i64 sz])] (cloQ 22 1 τ v))).OkBy Tryd.prog (CallsF Tryd.prog v) := by
  intro (i : Int) _ A0 w σ vs hA hobs hargs hdom hgl
  obtain ⟨p, m1, rfl, h1, h3⟩ := hargs
  simp only [hvs] at h3; subst h3
  obtain ⟨⟨lb, hlen, hlb, hptr, hv, hd⟩, hob⟩ := hobs.unpack
  refine ⟨22, lb.toArray, hv, by kernel_rfl, ?_⟩
  have hA' : Later w (Av A0 σ (want_c (fun i => decide (sz ≤ i)) (packAO τ [(0, .box 3 [.int .i64 sz])] (cloQ 22 1 τ v)) |>.objs i)) w (Av A0 τ [(0, .box 3 [.int .i64 sz])]) := Later.own fun b hb => hb.imp id (pack_owns b).2
  have hpt : hvs w (Av A0 τ [(0, .box 3 [.int .i64 sz])]) τ (ptrsF 0 lb.length) lb := ptrs_hvs (fun j hj => by rw [Nat.zero_add]; exact hlb j (by omega)) hptr
  rw [hlen] at hpt
  have hc := sin1_ok sz i trivial A0 w τ (p :: lb) hA hob ⟨p, lb, rfl, h1, hpt⟩ hd (hgl.later hA')
  rw [show (p :: lb).toArray = #[p] ++ lb.toArray by simp] at hc
  refine hc.mono ?_
  rintro e w' ⟨e', u, σ', rfl, _, s1, s2, r1, m, ob, ow⟩
  obtain rfl : σ' = τ := by
    funext k
    cases k with
    | zero =>
      obtain ⟨b, cs, h, _⟩ := ob.holds _ (List.mem_cons_self ..)
      dsimp only at h
      rw [h]; exact (s1 0 Nat.zero_lt_one _ h).symm
    | succ k => rw [s2 (k + 1) (by show 1 + 0 ≤ k + 1; omega), hd (k + 1) (by show 1 ≤ k + 1; omega)]
  refine ⟨(), u, σ, rfl, trivial, fun _ _ _ h => h, fun k hk => hdom k hk, hvB.2 (hvD.1 r1), m.mono fun b hb => ⟨rfl, (pack_owns b).2 hb.2⟩, ob.pack ⟨lb, hlen, hlb, hptr, hv, hd⟩, fun c hc => ?_⟩
  exact (ow c ((pack_owns c).1 hc)).imp (pack_owns c).2 id
end Go.Proofs.YtmbkoigeekofdaaDoor

namespace Go.Proofs.YtmbkoigeekofdaaDoor
set_option linter.all false
open Go.RowKit
/-! the rows from a size on -/
def sinceL (l : Fo) (t : Int) (o : Option PT) (sz : Int) : List Rw := (srtI (ordsO l (fun i => decide (sz ≤ i)) o t)).map (rowOf l)
theorem treeAt_isT {l : Fo} {t : Int} {o : Option PT} (h : treeAt l t o) : isT l t := by
  cases o with
  | none => exact ⟨by rw [show t = -1 from h]; omega, by rw [show t = -1 from h]; omega⟩
  | some T => have := den_in (show den l t T from h); exact ⟨by have := this.1; omega, by have := this.2; omega⟩
def since_c : Ctr where
  D := Fo × Int × Option PT × Int
  pre := fun (l, t, o, sz) => treeAt l t o ∧ (listO o).length ≤ 100000 ∧ 0 ≤ sz
  args := fun (_, t, _, sz) => [.ptr 0 0, .int .i64 t, .int .i64 sz]
  objs := fun (l, _) => fo l
  nn := 2
  res := fun _ _ => .tup [.own 2, .int .i64 0]
  out := fun (l, t, o, sz) _ => fo l ++ [(2, .row 38 162 eRw (sinceL l t o sz))]
  mm := 1
def since_H : Cfg := ⟨[(9, root_c), (9, rootX_c), (21, numsV_c), (23, srt_c), (24, drow_c)], [], [], [], 46, 2, [], [], []⟩
theorem since_ok : since_c.Ok Tryd.prog 8 := by
  refine fn_ok since_H 2 rfl _ Tryd.func8 rfl rfl ⟨root_ok, rootX_ok, numsV_ok, srt_ok, drow_ok, trivial⟩ rfl rfl (by kernel_rfl) (fun _ => Nat.le_of_ble_eq_true rfl) ?_
  rintro ⟨l, t, o, sz⟩ hp hr
  try dsimp only [since_c] at hp
  try simp only [since_c, Rng, RngL, inR, and_true, true_and] at hr
  obtain ⟨ht, hlen, hsz⟩ := hp
  have hpr := treeAt_isT ht
  repeat' (first | (with_reducible refine Unf.h ?_) | fail); all_goals try (conv => whnf); all_goals try (exfalso; omega)
  refine Or2.l (CallS.mk (c := root_c) ((l, t)) ?_)
  repeat' (first | (with_reducible refine Unf.h ?_) | ((conv => whnf); first | refine Fork.mkn (fun h => ?_) (fun h => ?_) | refine Fork.mk (fun h => ?_) (fun h => ?_) | (refine Side.mk ?_ ?_; focus (first | with_reducible rfl | assumption)) | refine Got.mk (fun _ _ => ?_)) | fail); all_goals try (conv => whnf); all_goals try (exfalso; omega)
  refine ValS.mk (OpsK.mkFn1 rfl rfl (by decide) rfl rfl rfl rfl ?_)
  intro v τ
  have hby := sin1_by sz τ v
  generalize hJ : packAO τ [(0, SO.box 3 [.int .i64 sz])] (cloQ 22 1 τ v) = J at hby
  repeat' (first | (with_reducible refine Unf.h ?_) | fail); all_goals try (conv => whnf); all_goals try (exfalso; omega)
  clear hJ
  have hpn : numsV_c.pre (l, t, o, (fun i => decide (sz ≤ i)), J, v) := ⟨ht, hlen, hby⟩
  have hol : (ordsO l (fun i => decide (sz ≤ i)) o t).length ≤ 200000 := by
    cases o with
    | none => exact Nat.zero_le _
    | some T =>
      have h1 := ords_len (l := l) (wn := fun i => decide (sz ≤ i)) T t
      have h2 : szT T = 2 * T.list.length - 1 := rfl
      have h3 : T.list.length ≤ 100000 := hlen
      show (ords l (fun i => decide (sz ≤ i)) T t).length ≤ 200000
      omega
  refine CallS.mk (c := numsV_c) ((l, t, o, (fun i => decide (sz ≤ i)), J, v)) ?_
  repeat' (first | (with_reducible refine Unf.h ?_) | ((conv => whnf); first | (refine Side.mk ?_ ?_; focus (first | with_reducible rfl | assumption)) | refine Got.mk (fun _ _ => ?_)) | fail); all_goals try (conv => whnf); all_goals try (exfalso; omega)
  have hps : srt_c.pre (ordsO l (fun i => decide (sz ≤ i)) o t) := show _ ≤ 1000000 by omega
  refine CallS.mk (c := srt_c) ((ordsO l (fun i => decide (sz ≤ i)) o t)) ?_
  repeat' (first | (with_reducible refine Unf.h ?_) | ((conv => whnf); first | (refine Side.mk ?_ ?_; focus (first | with_reducible rfl | assumption)) | refine Got.mk (fun _ _ => ?_)) | fail); all_goals try (conv => whnf); all_goals try (exfalso; omega)
  have hsl := srtI_len (ordsO l (fun i => decide (sz ≤ i)) o t)
  have hS : sinceL l t o sz = (srtI (ordsO l (fun i => decide (sz ≤ i)) o t)).map (rowOf l) := rfl
  generalize hq : srtI (ordsO l (fun i => decide (sz ≤ i)) o t) = s at *
  refine LoopS.mk (I := List Rw) (fun rs => rs.length ≤ s.length ∧ (s.map (rowOf l)).take rs.length = rs) (fun rs => [(34, .int .i64 (rs.length : Int)), (11, .own 3), (32, .own 2), (33, .int .i64 (s.length : Int)), (0, .ptr 0 0)]) (fun rs => fo l ++ [(2, .row 3 1 eI s), (3, .row 38 162 eRw rs)]) 4 (fun rs => s.length - rs.length) [] ⟨Nat.zero_le _, rfl⟩ ?_ ?_
  · repeat' (first | (with_reducible refine Unf.h ?_) | ((conv => whnf); first | (refine Side.mk ?_ ?_; focus (first | with_reducible rfl | (refine congrArg (SV.int _) ?_; omega))) | (with_reducible refine Unf.h ?_) | exact True.intro) | fail); all_goals try (conv => whnf); all_goals try (exfalso; omega)
  · rintro rs ⟨hi, he⟩
    repeat' (first | (with_reducible refine Unf.h ?_) | ((conv => whnf); first | refine Fork.mk (fun h => ?_) (fun h => ?_) | (refine Side.mk ?_ ?_; focus (first | with_reducible rfl | omega)) | (refine Idx.mk ?_ ?_; focus (omega)) | refine RetE.mk () trivial ?_ | refine retK_r ?_) | fail); all_goals try (conv => whnf); all_goals try (exfalso; omega)
    · have h0 : rs.length < s.length := by omega
      refine CallS.mk (c := drow_c) ((l, s[((rs.length : Nat) : Int).toNat]'h0)) ?_
      repeat' (first | (with_reducible first | refine Unf.h ?_ | refine loopK_n ?_) | ((conv => whnf); first | (refine Side.mk ?_ ?_; focus (first | with_reducible rfl | exact True.intro | (intros; (try simp only [lenS, inR, cutS, loI, hiI] at *); omega))) | refine Got.mk (fun _ _ => ?_) | refine Ex.mk [_] rfl ?_) | fail); all_goals try (conv => whnf); all_goals try (exfalso; omega)
      refine ⟨rs ++ [rowOf l (s[rs.length]'h0)], ⟨by rw [List.length_append]; simp; omega, by rw [List.length_append]; simp; omega, ?_⟩, ?_⟩
      · rw [List.length_append, List.length_singleton, List.take_succ_eq_append_getElem (by rw [List.length_map]; exact h0), List.getElem_map, he]
      · have e : ((rs.length : Nat) : Int) + 1 = (((rs ++ [rowOf l (s[rs.length]'h0)]).length : Nat) : Int) := by simp
        repeat' (first | (with_reducible refine Unf.h ?_) | ((conv => whnf); first | (refine Side.mk ?_ ?_; focus (first | with_reducible rfl | (refine congrArg (SV.int _) ?_; omega) | (simp [*, e]; done))) | (with_reducible refine Unf.h ?_) | exact True.intro) | fail); all_goals try (conv => whnf); all_goals try (exfalso; omega)
    · have e : rs = sinceL l t o sz := by
        rw [hS, ← he, List.take_of_length_le (by rw [List.length_map]; omega)]
      repeat' (first | (with_reducible refine Unf.h ?_) | ((conv => whnf); first | (refine Side.mk ?_ ?_; focus ((simp only [*, e]; done))) | exact rfl) | fail); all_goals try (conv => whnf); all_goals try (exfalso; omega)
end Go.Proofs.YtmbkoigeekofdaaDoor

namespace Go.Proofs.YtmbkoigeekofdaaDoor
set_option linter.all false
open Go.RowKit
/-! no rows where there is no tree -/
def sinceX_c : Ctr where
  D := Fo × Int × Int
  pre := fun (l, t, sz) => isT l t → sz < 0
  args := fun (_, t, sz) => [.ptr 0 0, .int .i64 t, .int .i64 sz]
  objs := fun (l, _) => fo l
  nn := 2
  res := fun _ _ => .tup [.nils, .int .i64 1]
  out := fun (l, _) _ => fo l
def sinceX_H : Cfg := ⟨[(9, root_c), (9, rootX_c), (21, numsV_c), (23, srt_c), (24, drow_c)], [], [], [], 46, 2, [], [], []⟩
theorem sinceX_ok : sinceX_c.Ok Tryd.prog 8 := by
  refine fn_ok sinceX_H 2 rfl _ Tryd.func8 rfl rfl ⟨root_ok, rootX_ok, numsV_ok, srt_ok, drow_ok, trivial⟩ rfl rfl (by kernel_rfl) (fun _ => Nat.le_of_ble_eq_true rfl) ?_
  rintro ⟨l, t, sz⟩ hp hr
  try dsimp only [sinceX_c] at hp
  try simp only [sinceX_c, Rng, RngL, inR, and_true, true_and] at hr
  by_cases ht : isT l t
  · have hsz := hp ht
    repeat' (first | (with_reducible refine Unf.h ?_) | fail); all_goals try (conv => whnf); all_goals try (exfalso; omega)
    refine Or2.l (CallS.mk (c := root_c) ((l, t)) ?_)
    repeat' (first | (with_reducible refine Unf.h ?_) | ((conv => whnf); first | refine Fork.mkn (fun h => ?_) (fun h => ?_) | refine Fork.mk (fun h => ?_) (fun h => ?_) | (refine Side.mk ?_ ?_; focus (first | with_reducible rfl | assumption)) | refine RetE.mk () trivial ?_ | refine Got.mk (fun _ _ => ?_) | refine retK_r ?_ | exact rfl) | fail); all_goals try (conv => whnf); all_goals try (exfalso; omega)
  · repeat' (first | (with_reducible refine Unf.h ?_) | fail); all_goals try (conv => whnf); all_goals try (exfalso; omega)
    refine Or2.r (CallS.mk (c := rootX_c) ((l, t)) ?_)
    repeat' (first | (with_reducible refine Unf.h ?_) | ((conv => whnf); first | refine Fork.mkn (fun h => ?_) (fun h => ?_) | (refine Side.mk ?_ ?_; focus (first | with_reducible rfl | assumption)) | refine RetE.mk () trivial ?_ | refine Got.mk (fun _ _ => ?_) | refine retK_r ?_ | exact rfl) | fail); all_goals try (conv => whnf); all_goals try (exfalso; omega)
def sinceN_c : Ctr where
  D := Int × Int
  args := fun (t, sz) => [.nilp, .int .i64 t, .int .i64 sz]
  res := fun _ _ => .tup [.nils, .int .i64 1]
def sinceN_H : Cfg := ⟨[(9, rootN_c), (21, numsV_c), (23, srt_c), (24, drow_c)], [], [], [], 46, 0, [], [], []⟩
theorem sinceN_ok : sinceN_c.Ok Tryd.prog 8 := by
  refine fn_ok sinceN_H 0 rfl _ Tryd.func8 rfl rfl ⟨rootN_ok, numsV_ok, srt_ok, drow_ok, trivial⟩ rfl rfl (by kernel_rfl) (fun _ => Nat.le_of_ble_eq_true rfl) ?_
  rintro ⟨t, sz⟩ hp hr
  try dsimp only [sinceN_c] at hp
  try simp only [sinceN_c, Rng, RngL, inR, and_true, true_and] at hr
  repeat' (first | (with_reducible refine Unf.h ?_) | fail); all_goals try (conv => whnf); all_goals try (exfalso; omega)
  refine CallS.mk (c := rootN_c) (t) ?_
  repeat' (first | (with_reducible refine Unf.h ?_) | ((conv => whnf); first | refine Fork.mkn (fun h => ?_) (fun h => ?_) | (refine Side.mk ?_ ?_; focus (first | with_reducible rfl | exact True.intro)) | refine RetE.mk () trivial ?_ | refine Got.mk (fun _ _ => ?_) | refine retK_r ?_ | exact rfl) | fail); all_goals try (conv => whnf); all_goals try (exfalso; omega)
def ap1_H : Cfg := ⟨[], [], [], [], 3, 0, [], [], []⟩
theorem ap1_ok : (wantF_c fun _ => true).Ok Tryd.prog 31 := by
  refine fn_ok ap1_H 0 rfl _ Tryd.func31 rfl rfl trivial rfl rfl (by kernel_rfl) (fun _ => Nat.le_of_ble_eq_true rfl) ?_
  intro (i : Int) hp hr
  try dsimp only [wantF_c] at hp
  try simp only [wantF_c, Rng, RngL, inR, and_true, true_and] at hr
  repeat' (first | (with_reducible refine Unf.h ?_) | ((conv => whnf); first | (refine Side.mk ?_ ?_; focus (with_reducible rfl)) | refine RetE.mk () trivial ?_ | refine retK_r ?_ | exact rfl) | fail); all_goals try (conv => whnf); all_goals try (exfalso; omega)
theorem okBy_fn {c : Ctr} {g : Nat} (h : c.Ok Tryd.prog g) (hc : nth (TabC.cl Tryd.prog) g = some true) : c.OkBy Tryd.prog (CallsF Tryd.prog (.func (.func g) #[] #[])) := fun d hp A0 w σ vs h1 h2 h3 h4 h5 => by
  refine ⟨g, #[], rfl, hc, ?_⟩
  rw [show vs.toArray ++ (#[] : Array Value) = vs.toArray by simp]
  exact h d hp A0 w σ vs h1 h2 h3 h4 h5
theorem ap1_by : (wantF_c fun _ => true).OkBy Tryd.prog (CallsF Tryd.prog (.func (.func 31) #[] #[])) := okBy_fn ap1_ok (by kernel_rfl)
end Go.Proofs.YtmbkoigeekofdaaDoor

namespace Go.Proofs.YtmbkoigeekofdaaDoor
set_option linter.all false
open Go.RowKit
/-! awake; a tree and what came later -/
def awake13_c : Ctr where
  D := Unit
  args := fun _ => []
  res := fun _ _ => .bool true
theorem since_all {l : Fo} {t : Int} {k v : H256} (h : den l t (.leaf k v)) : sinceL l t (some (.leaf k v)) 0 = [⟨true, k, v, 0, zeroH, zeroH, zeroH⟩] := by
  have h0 : (0 : Int) ≤ t := (den_in h).1
  have e1 : ords l (fun i => decide ((0 : Int) ≤ i)) (.leaf k v) t = [t] := ords_leaf (wn := fun i => decide ((0 : Int) ≤ i)) (decide_eq_true h0)
  unfold sinceL
  rw [show ordsO l (fun i => decide ((0 : Int) ≤ i)) (some (.leaf k v)) t = [t] from e1, show srtI [t] = [t] from List.mergeSort_singleton _, List.map_singleton]
  unfold rowOf
  rw [h.2]; rfl
def awake13_H : Cfg := ⟨[(14, built_c), (8, since_c)], [], [], [], 31, 0, [], [], []⟩
theorem awake13_ok : awake13_c.Ok Tryd.prog 6 := by
  refine fn_ok awake13_H 0 rfl _ Tryd.func6 rfl rfl ⟨built_ok, since_ok, trivial⟩ rfl rfl (by kernel_rfl) (fun _ => Nat.le_of_ble_eq_true rfl) ?_
  intro (_ : Unit) hp hr
  try dsimp only [awake13_c] at hp
  try simp only [awake13_c, Rng, RngL, inR, and_true, true_and] at hr
  have hpb : built_c.pre [(key1, zeroH)] := show 1 ≤ 25 by decide
  have ht := (builtOk [(key1, zeroH)]).tree
  repeat' (first | (with_reducible refine Unf.h ?_) | fail); all_goals try (conv => whnf); all_goals try (exfalso; omega)
  refine CallS.mk (c := built_c) ([(key1, zeroH)]) ?_
  repeat' (first | (with_reducible refine Unf.h ?_) | fail); all_goals try (conv => whnf); all_goals try (exfalso; omega)
  refine Side.mk rfl ?_
  repeat' (first | (with_reducible refine Unf.h ?_) | ((conv => whnf); first | (refine Side.mk ?_ ?_; focus (assumption)) | refine Got.mk (fun _ _ => ?_) | (with_reducible refine Unf.h ?_)) | fail); all_goals try (conv => whnf); all_goals try (exfalso; omega)
  generalize (builtF [(key1, zeroH)]).1 = l at *
  generalize (builtF [(key1, zeroH)]).2 = t at *
  have e0 : treesF [(key1, zeroH)] = some (.leaf key1 zeroH) := rfl
  rw [e0] at ht
  have hps : since_c.pre (l, t, some (.leaf key1 zeroH), 0) := ⟨ht, by decide, by decide⟩
  have e1 := since_all (show den l t (.leaf key1 zeroH) from ht)
  refine CallS.mk (c := since_c) ((l, t, some (.leaf key1 zeroH), 0)) ?_
  repeat' (first | (with_reducible refine Unf.h ?_) | ((conv => whnf); first | refine Fork.mk (fun h => ?_) (fun h => ?_) | (refine Side.mk ?_ ?_; focus (first | with_reducible rfl | assumption | omega | (intros; (try simp only [lenS, inR, cutS, loI, hiI, e1] at *); omega) | (simp [*, e1]; done))) | (refine Idx.mk ?_ ?_; focus (omega)) | refine RetE.mk () trivial ?_ | refine Got.mk (fun _ _ => ?_) | refine retK_r ?_ | exact rfl) | fail); all_goals try (conv => whnf); all_goals try (exfalso; omega)
/-- a tree; the forest's size then; the tree after what came later -/
def later_c : Ctr where
  D := List KV × List KV
  pre := fun (ps, qs) => ps.length + qs.length ≤ 25
  args := fun (ps, qs) => [.fs 64 eKV ps, .fs 64 eKV qs]
  res := fun (ps, qs) _ => .tup [.ptr 0 0, .int .i64 (builtF ps).2, .int .i64 ((builtF ps).1.length : Int), .int .i64 (builtF (ps ++ qs)).2]
  out := fun (ps, qs) _ => fo (builtF (ps ++ qs)).1
  mm := 2
def later_H : Cfg := ⟨[(14, built_c), (12, size_c), (20, put_c)], [(7, [6, 11], [12], (.one 0 0 false (.one 1 0 false (.one 2 0 false (.one 3 0 false (.one 4 0 false (.one 5 0 false (.one 6 1 false (.one 7 0 false (.one 8 0 false (.one 9 0 false (.one 10 0 false (.one 11 1 false (.one 12 2 false (.one 13 0 false (.one 14 0 false (.one 15 0 false (.one 16 0 false (.one 17 0 false .nil)))))))))))))))))), [])], [], [], 50, 0, [], [], []⟩
theorem later_ok : later_c.Ok Tryd.prog 7 := by
  refine fn_ok later_H 0 rfl _ Tryd.func7 rfl rfl ⟨built_ok, size_ok, put_ok, trivial⟩ rfl rfl (by kernel_rfl) (fun _ => Nat.le_of_ble_eq_true rfl) ?_
  rintro ⟨ps, qs⟩ hp hr
  try dsimp only [later_c] at hp
  try simp only [later_c, Rng, RngL, inR, and_true, true_and] at hr
  have hp : ps.length + qs.length ≤ 25 := hp
  have hpb : built_c.pre ps := show ps.length ≤ 25 by omega
  have hsz := built_size (ps := ps) (by omega)
  repeat' (first | (with_reducible refine Unf.h ?_) | fail); all_goals try (conv => whnf); all_goals try (exfalso; omega)
  refine CallS.mk (c := built_c) (ps) ?_
  repeat' (first | (with_reducible refine Unf.h ?_) | ((conv => whnf); first | (refine Side.mk ?_ ?_; focus (first | with_reducible rfl | assumption)) | refine Got.mk (fun _ _ => ?_)) | fail); all_goals try (conv => whnf); all_goals try (exfalso; omega)
  refine CallS.mk (c := size_c) ((builtF ps).1) ?_
  repeat' (first | (with_reducible refine Unf.h ?_) | ((conv => whnf); first | (refine Side.mk ?_ ?_; focus (first | with_reducible rfl | exact True.intro)) | refine Got.mk (fun _ _ => ?_)) | fail); all_goals try (conv => whnf); all_goals try (exfalso; omega)
  refine LoopS.autoN (fun i : Nat => i ≤ qs.length) (fun i => [(12, .int .i64 i), (11, .int .i64 (builtF (ps ++ qs.take i)).2), (8, .ptr 0 0)]) (fun i => [(0, .box 71 [.own 1]), (1, .row 40 132 eNd (builtF (ps ++ qs.take i)).1)]) 2 (fun i => qs.length - i) 0 (by omega) ?_ ?_
  · have hb0 : ps ++ qs.take 0 = ps := by simp
    repeat' (first | (with_reducible refine Unf.h ?_) | ((conv => whnf); first | (refine Side.mk ?_ ?_; focus (first | with_reducible rfl | (refine congrArg (SV.int _) ?_; omega) | (simp only [*, hb0]; done))) | (with_reducible refine Unf.h ?_) | exact True.intro) | fail); all_goals try (conv => whnf); all_goals try (exfalso; omega)
  · intro i hi
    have hsz2 : (builtF (ps ++ qs.take i)).1.length ≤ 675 := built_size (by rw [List.length_append, List.length_take]; omega)
    have hb := builtOk (ps ++ qs.take i)
    have ht := treeAt_is hb.tree
    have ht1 := ht.1
    have ht2 := ht.2
    repeat' (first | (with_reducible refine Unf.h ?_) | ((conv => whnf); first | refine Fork.mk (fun h => ?_) (fun h => ?_) | (refine Side.mk ?_ ?_; focus (with_reducible rfl)) | (refine Idx.mk ?_ ?_; focus (omega)) | refine RetE.mk () trivial ?_ | refine retK_r ?_) | fail); all_goals try (conv => whnf); all_goals try (exfalso; omega)
    · have h0 : i < qs.length := by omega
      have hpre : put_c.pre ((builtF (ps ++ qs.take i)).1, (builtF (ps ++ qs.take i)).2, (qs[((i : Nat) : Int).toNat]'h0).1, (qs[((i : Nat) : Int).toNat]'h0).2) := ⟨by omega, hb.closed, ht⟩
      have hu : builtF (ps ++ qs.take (i + 1)) = putF (builtF (ps ++ qs.take i)).1 (builtF (ps ++ qs.take i)).2 (qs[((i : Nat) : Int).toNat]'h0).1 (qs[((i : Nat) : Int).toNat]'h0).2 := by
        rw [List.take_succ_eq_append_getElem h0, ← List.append_assoc, builtF_snoc]; rfl
      refine CallS.mk (c := put_c) (((builtF (ps ++ qs.take i)).1, (builtF (ps ++ qs.take i)).2, (qs[((i : Nat) : Int).toNat]'h0).1, (qs[((i : Nat) : Int).toNat]'h0).2)) ?_
      repeat' (first | (with_reducible first | refine Unf.h ?_ | refine loopK_n ?_) | ((conv => whnf); first | (refine Side.mk ?_ ?_; focus (first | with_reducible rfl | assumption | (intros; (try simp only [lenS, inR, cutS, loI, hiI] at *); omega))) | refine Got.mk (fun _ _ => ?_)) | fail); all_goals try (conv => whnf); all_goals try (exfalso; omega)
      refine ⟨i + 1, ⟨by omega, by omega⟩, ?_⟩
      repeat' (first | (with_reducible refine Unf.h ?_) | ((conv => whnf); first | (refine Side.mk ?_ ?_; focus (first | with_reducible rfl | (refine congrArg (SV.int _) ?_; omega) | (simp only [*, hu]; done))) | (with_reducible refine Unf.h ?_) | exact True.intro) | fail); all_goals try (conv => whnf); all_goals try (exfalso; omega)
    · have e : qs.take i = qs := List.take_of_length_le (by omega)
      repeat' (first | (with_reducible refine Unf.h ?_) | ((conv => whnf); first | (refine Side.mk ?_ ?_; focus ((simp only [*, e]; done))) | exact rfl) | fail); all_goals try (conv => whnf); all_goals try (exfalso; omega)
end Go.Proofs.YtmbkoigeekofdaaDoor

namespace Go.Proofs.YtmbkoigeekofdaaDoor
set_option linter.all false
open Go.RowKit
/-! DeltaSince -/
theorem ords_den {l : Fo} {wn : Int → Bool} : ∀ {T : PT} {t : Int}, den l t T → ∀ i ∈ ords l wn T t, ∃ U, den l i U
  | .leaf k v, t, h, i, hi => by
    cases hw : wn t with
    | false => rw [ords_no hw] at hi; exact absurd hi (by simp)
    | true => rw [ords_leaf hw] at hi; obtain rfl := List.mem_singleton.1 hi; exact ⟨_, h⟩
  | .node p a b, t, h, i, hi => by
    cases hw : wn t with
    | false => rw [ords_no hw] at hi; exact absurd hi (by simp)
    | true =>
      rw [ords_node hw] at hi
      have h' := h
      obtain ⟨_, x, y, e, ha, hb⟩ := h
      rw [e] at hi
      rcases List.mem_cons.1 hi with rfl | hi
      · exact ⟨_, h'⟩
      · rcases List.mem_append.1 hi with hi | hi
        · exact ords_den hb i hi
        · exact ords_den ha i hi
theorem since_len {l : Fo} {t : Int} {o : Option PT} {sz : Int} (hsz : 0 ≤ sz) (h : treeAt l t o) : ((sinceL l t o sz).length : Int) = 0 ↔ t < sz := by
  unfold sinceL
  rw [List.length_map, srtI_len]
  cases o with
  | none =>
    have : t = -1 := h
    exact ⟨fun _ => by omega, fun _ => rfl⟩
  | some T =>
    by_cases ht : sz ≤ t
    · have := ords_top (l := l) (wn := fun i => decide (sz ≤ i)) (T := T) (t := t) (decide_eq_true ht)
      have hp := List.length_pos_of_mem this
      refine ⟨fun e => ?_, fun e => by omega⟩
      have e' : (ords l (fun i => decide (sz ≤ i)) T t).length = 0 := by have : (((ords l (fun i => decide (sz ≤ i)) T t).length : Nat) : Int) = 0 := e; omega
      omega
    · have e : ords l (fun i => decide (sz ≤ i)) T t = [] := ords_no (wn := fun i => decide (sz ≤ i)) (decide_eq_false ht)
      refine ⟨fun _ => by omega, fun _ => ?_⟩
      show (((ords l (fun i => decide (sz ≤ i)) T t).length : Nat) : Int) = 0
      rw [e]; rfl
theorem since_at {l : Fo} {t : Int} {o : Option PT} {sz : Int} (hc : closed l) (h : treeAt l t o) {j : Nat} (hj : j < (sinceL l t o sz).length) : ∃ i, sz ≤ i ∧ inF l i ∧ sha (rowT (sinceL l t o sz)[j]) = (nd l i).hash ∧ (j = (sinceL l t o sz).length - 1 → i = t) := by
  cases o with
  | none => exact absurd hj (by unfold sinceL; rw [List.length_map, srtI_len]; exact Nat.not_lt_zero j)
  | some T =>
    have h : den l t T := h
    have hj' : j < (srtI (ords l (fun i => decide (sz ≤ i)) T t)).length := by have := hj; unfold sinceL at this; rwa [List.length_map] at this
    have hm : (srtI (ords l (fun i => decide (sz ≤ i)) T t))[j] ∈ ords l (fun i => decide (sz ≤ i)) T t := srtI_mem.1 (List.getElem_mem _)
    obtain ⟨h1, h2⟩ := ords_in h _ hm
    obtain ⟨U, hU⟩ := ords_den h _ hm
    have e1 : (sinceL l t (some T) sz)[j] = rowOf l (srtI (ords l (fun i => decide (sz ≤ i)) T t))[j] := List.getElem_map (rowOf l)
    have e2 : (sinceL l t (some T) sz).length = (srtI (ords l (fun i => decide (sz ≤ i)) T t)).length := by unfold sinceL; rw [List.length_map]; rfl
    refine ⟨_, of_decide_eq_true h2, h1, by rw [e1]; exact row_hash hU, fun e => ?_⟩
    rw [e2] at e
    subst e
    have hpos : 0 < (ords l (fun i => decide (sz ≤ i)) T t).length := by rw [srtI_len] at hj'; omega
    have hwt : sz ≤ t := by
      by_cases hw : sz ≤ t
      · exact hw
      · rw [ords_no (wn := fun i => decide (sz ≤ i)) (decide_eq_false hw)] at hpos; exact absurd hpos (by simp)
    exact srtI_last (ords_top (wn := fun i => decide (sz ≤ i)) (decide_eq_true hwt)) (ords_le hc h) (by omega)
theorem since_small (l : Fo) (t : Int) (o : Option PT) (sz : Int) : (sinceL l t o sz).length ≤ 2 * (listO o).length := by
  unfold sinceL
  rw [List.length_map, srtI_len]
  cases o with
  | none => exact Nat.zero_le _
  | some T =>
    have h1 := ords_len (l := l) (wn := fun i => decide (sz ≤ i)) T t
    have h2 : szT T = 2 * T.list.length - 1 := rfl
    show (ords l (fun i => decide (sz ≤ i)) T t).length ≤ 2 * T.list.length
    omega
theorem rootF_in {l : Fo} {t : Int} (h : inF l t) : rootF l t = (nd l t).hash := if_neg (by have := h.1; omega)
def dsince_c : Ctr where
  D := List KV × List KV × BitVec 8
  args := fun (ps, qs, n) => [.fs 64 eKV ps, .fs 64 eKV qs, .u8 n]
  res := fun _ _ => .bool true
def dsince_H : Cfg := ⟨[(6, awake13_c), (7, later_c), (8, since_c), (9, root_c), (11, ttext_c), (10, refsum_c), (12, size_c), (13, node_c)], [(12, [4, 9, 14, 19], [21, 22], (.one 0 0 false (.one 1 0 false (.one 2 0 false (.one 3 0 false (.one 4 1 false (.one 5 0 false (.one 6 0 false (.one 7 0 false (.one 8 0 false (.one 9 1 false (.one 10 0 false (.one 11 0 false (.one 12 0 false (.one 13 0 false (.one 14 1 false (.one 15 0 false (.one 16 0 false (.one 17 0 false (.one 18 0 false (.one 19 1 false (.one 20 0 false (.one 21 2 true (.one 22 2 false .nil))))))))))))))))))))))), []), (13, [0, 5, 10], [11, 12, 13, 14], (.one 0 1 false (.one 1 0 false (.one 2 0 false (.one 3 0 false (.one 4 0 false (.one 5 1 false (.one 6 0 false (.one 7 0 false (.one 8 0 false (.one 9 0 false (.one 10 1 false (.alt 11 true (.alt 12 true (.one 13 2 true (.one 14 2 false .nil)) (.one 13 2 true (.one 12 2 false (.one 14 2 false .nil)))) (.one 13 2 true (.one 11 2 false (.one 12 2 false (.one 14 2 false .nil)))))))))))))))), [])], [], [], 147, 0, [], [13], []⟩
theorem dsince_ok : dsince_c.Ok Tryd.prog 3 := by
  refine fn_ok dsince_H 0 rfl _ Tryd.func3 rfl rfl ⟨awake13_ok, later_ok, since_ok, root_ok, ttext_ok, refsum_ok, size_ok, node_ok, trivial⟩ rfl rfl (by kernel_rfl) (fun _ => Nat.le_of_ble_eq_true rfl) ?_
  rintro ⟨ps, qs, n⟩ hp hr
  try dsimp only [dsince_c] at hp
  try simp only [dsince_c, Rng, RngL, inR, and_true, true_and] at hr
  repeat' (first | (with_reducible refine Unf.h ?_) | ((conv => whnf); first | refine Fork.mk (fun h => ?_) (fun h => ?_) | (refine Side.mk ?_ ?_; focus (first | with_reducible rfl | exact True.intro)) | refine RetE.mk () trivial ?_ | refine Got.mk (fun _ _ => ?_) | refine retK_r ?_ | exact rfl | refine CallS.mk (c := awake13_c) (()) ?_) | fail); all_goals try (conv => whnf); all_goals try (exfalso; omega)
  have hpl : later_c.pre (ps, qs) := show ps.length + qs.length ≤ 25 by omega
  have hb := builtOk (ps ++ qs)
  have hs1 : (builtF ps).1.length ≤ 675 := built_size (by omega)
  have hs2 : (builtF (ps ++ qs)).1.length ≤ 675 := built_size (by rw [List.length_append]; omega)
  have ht := hb.tree
  have hcl := hb.closed
  refine CallS.mk (c := later_c) ((ps, qs)) ?_
  repeat' (first | (with_reducible refine Unf.h ?_) | ((conv => whnf); first | (refine Side.mk ?_ ?_; focus (first | with_reducible rfl | assumption | (intros; (try simp only [lenS, inR, cutS, loI, hiI] at *); omega) | (simp [*]; done))) | refine Got.mk (fun _ _ => ?_)) | fail); all_goals try (conv => whnf); all_goals try (exfalso; omega)
  have hol : (listO (treesF (ps ++ qs))).length ≤ 25 := by rw [← all_trees]; exact Nat.le_trans (allL_len _ _ rfl) (by rw [List.length_append]; omega)
  generalize hz : max (((builtF ps).1.length : Int) - ((n % 4#8).toNat : Int)) 0 = z
  have hz0 : 0 ≤ z := by omega
  have hz1 : z ≤ 675 := by omega
  clear hz
  generalize (builtF (ps ++ qs)).1 = l at *
  generalize (builtF (ps ++ qs)).2 = t at *
  generalize treesF (ps ++ qs) = o at *
  have hps : since_c.pre (l, t, o, z) := ⟨ht, by omega, hz0⟩
  have hpr : root_c.pre (l, t) := treeAt_isT ht
  have hsl := since_len hz0 ht
  have hsa := fun j hj => since_at (j := j) (sz := z) hcl ht hj
  have hsm := since_small l t o z
  refine CallS.mk (c := since_c) ((l, t, o, z)) ?_
  repeat' (first | (with_reducible refine Unf.h ?_) | ((conv => whnf); first | (refine Side.mk ?_ ?_; focus (first | with_reducible rfl | assumption)) | refine Got.mk (fun _ _ => ?_)) | fail); all_goals try (conv => whnf); all_goals try (exfalso; omega)
  refine CallS.mk (c := root_c) ((l, t)) ?_
  repeat' (first | (with_reducible refine Unf.h ?_) | ((conv => whnf); first | refine Fork.mkn (fun h => ?_) (fun h => ?_) | (refine Side.mk ?_ ?_; focus (first | with_reducible rfl | assumption)) | refine RetE.mk () trivial ?_ | refine Got.mk (fun _ _ => ?_) | refine retK_r ?_) | fail); all_goals try (conv => whnf); all_goals try (exfalso; omega)
  · exact absurd (decide_eq_decide.2 hsl.symm) (by assumption)
  clear hsl
  generalize sinceL l t o z = S at *
  refine LoopS.mk (I := Nat) (fun j => j ≤ S.length) (fun j => [(15, .int .i64 (j : Int)), (11, .own 2), (7, .ptr 0 0), (13, .ptr 3 0), (9, .int .i64 z)]) (fun _ => fo l ++ [(2, .row 38 162 eRw S), (3, .box 32 [.arr8 (rootF l t)])]) 4 (fun j => S.length - j) 0 (Nat.zero_le _) ?_ ?_
  · repeat' (first | (with_reducible refine Unf.h ?_) | ((conv => whnf); first | (refine Side.mk ?_ ?_; focus (first | with_reducible rfl | (refine congrArg (SV.int _) ?_; omega))) | (with_reducible refine Unf.h ?_) | exact True.intro) | fail); all_goals try (conv => whnf); all_goals try (exfalso; omega)
  · intro j hj
    repeat' (first | (with_reducible refine Unf.h ?_) | ((conv => whnf); first | refine Fork.mk (fun h => ?_) (fun h => ?_) | (refine Side.mk ?_ ?_; focus (first | with_reducible rfl | omega)) | (refine Idx.mk ?_ ?_; focus (omega)) | refine RetE.mk () trivial ?_ | refine retK_r ?_ | exact rfl) | fail); all_goals try (conv => whnf); all_goals try (exfalso; omega)
    · have h0 : j < S.length := by omega
      obtain ⟨i, hi1, hi2, hi3, hi4⟩ := hsa j h0
      generalize hr : S[((j : Nat) : Int).toNat]'h0 = r
      have hr2 : S[j]'h0 = r := hr
      rw [hr2] at hi3
      have hi5 := hi2.1
      have hi6 := hi2.2
      have hpf : refsum_c.pre (ndT ⟨r.leaf, r.key, r.value, r.plen, r.bits, 0, 0, zeroH⟩ r.left r.right) := ndT_len _ _ _
      have hi7 : sha (ndT ⟨r.leaf, r.key, r.value, r.plen, r.bits, 0, 0, zeroH⟩ r.left r.right) = (nd l i).hash := hi3
      clear hi3 hsa
      refine CutS.mk (I := Unit) (fun _ => True) (fun _ => [(15, .int .i64 (j : Int)), (11, .own 2), (7, .ptr 0 0), (13, .ptr 3 0), (9, .int .i64 z), (17, .ptr 4 0)]) (fun _ => fo l ++ [(2, .row 38 162 eRw S), (3, .box 32 [.arr8 (rootF l t)]), (4, .box 32 [.arr8 (nd l i).hash])]) 5 ?_ ?_
      · repeat' (first | (with_reducible refine Unf.h ?_) | ((conv => whnf); first | refine Both.mk ?_ ?_ | refine Both.mk ?_ ?_ | (refine Side.mk ?_ ?_; focus (omega)) | (refine Idx.mk ?_ ?_; focus (omega))) | fail); all_goals try (conv => whnf); all_goals try (exfalso; omega)
        all_goals
          refine CallS.mk (c := ttext_c) ((⟨r.leaf, r.key, r.value, r.plen, r.bits, 0, 0, zeroH⟩, r.left, r.right)) ?_
          repeat' (first | (with_reducible refine Unf.h ?_) | ((conv => whnf); first | refine Both.mk ?_ ?_ | refine Both.mk ?_ ?_ | (refine Side.mk ?_ ?_; focus (first | with_reducible rfl | exact True.intro | (simp only [*]; done))) | refine Got.mk (fun _ _ => ?_)) | fail); all_goals try (conv => whnf); all_goals try (exfalso; omega)
          all_goals
            refine CallS.mk (c := refsum_c) ((ndT ⟨r.leaf, r.key, r.value, r.plen, r.bits, 0, 0, zeroH⟩ r.left r.right)) ?_
            repeat' (first | (with_reducible first | refine Unf.h ?_ | refine cutK_n ?_) | ((conv => whnf); first | (refine Side.mk ?_ ?_; focus (first | with_reducible rfl | assumption)) | refine Got.mk (fun _ _ => ?_)) | fail); all_goals try (conv => whnf); all_goals try (exfalso; omega)
            refine ⟨(), trivial, ?_⟩
            repeat' (first | (with_reducible refine Unf.h ?_) | ((conv => whnf); first | (refine Side.mk ?_ ?_; focus (first | with_reducible rfl | (simp only [*, hi7]; done))) | (with_reducible refine Unf.h ?_) | exact True.intro) | fail); all_goals try (conv => whnf); all_goals try (exfalso; omega)
      · rintro _ _
        repeat' (first | (with_reducible refine Unf.h ?_) | fail); all_goals try (conv => whnf); all_goals try (exfalso; omega)
        refine LoopS.mk (I := Int × Bool) (fun (k, b) => z ≤ k ∧ k ≤ l.length ∧ (b = false → ∀ i', z ≤ i' → i' < k → (nd l i').hash ≠ (nd l i).hash)) (fun (k, b) => [(19, .int .i64 k), (18, .bool b), (15, .int .i64 (j : Int)), (11, .own 2), (7, .ptr 0 0), (13, .ptr 3 0), (9, .int .i64 z), (17, .ptr 4 0)]) (fun _ => fo l ++ [(2, .row 38 162 eRw S), (3, .box 32 [.arr8 (rootF l t)]), (4, .box 32 [.arr8 (nd l i).hash])]) 5 (fun (k, _) => ((l.length : Int) - k).toNat) (z, false) ⟨Int.le_refl _, by omega, fun _ i' h1 h2 => by omega⟩ ?_ ?_
        · repeat' (first | (with_reducible refine Unf.h ?_) | ((conv => whnf); first | (refine Side.mk ?_ ?_; focus (with_reducible rfl)) | (with_reducible refine Unf.h ?_) | exact True.intro) | fail); all_goals try (conv => whnf); all_goals try (exfalso; omega)
        · rintro ⟨k, b⟩ ⟨hk1, hk2, hk3⟩
          have hk1 : z ≤ k := hk1
          have hk2 : k ≤ (l.length : Int) := hk2
          have hk3 : b = false → ∀ i', z ≤ i' → i' < k → (nd l i').hash ≠ (nd l i).hash := hk3
          repeat' (first | (with_reducible refine Unf.h ?_) | fail); all_goals try (conv => whnf); all_goals try (exfalso; omega)
          refine CallS.mk (c := size_c) (l) ?_
          repeat' (first | (with_reducible refine Unf.h ?_) | ((conv => whnf); first | refine Fork.mk (fun h => ?_) (fun h => ?_) | (refine Side.mk ?_ ?_; focus (first | with_reducible rfl | exact True.intro)) | refine Got.mk (fun _ _ => ?_)) | fail); all_goals try (conv => whnf); all_goals try (exfalso; omega)
          · have hin : inF l k := ⟨by omega, by omega⟩
            refine CallS.mk (c := node_c) ((l, k)) ?_
            repeat' (first | (with_reducible refine Unf.h ?_) | ((conv => whnf); first | (refine Side.mk ?_ ?_; focus (first | with_reducible rfl | exact True.intro)) | refine Got.mk (fun _ _ => ?_)) | fail); all_goals try (conv => whnf); all_goals try (exfalso; omega)
            cases b with
            | true =>
              repeat' (first | (with_reducible first | refine Unf.h ?_ | refine loopK_n ?_) | ((conv => whnf); first | (refine Side.mk ?_ ?_; focus ((intros; (try simp only [lenS, inR, cutS, loI, hiI] at *); omega))) | (with_reducible refine Unf.h ?_)) | fail); all_goals try (conv => whnf); all_goals try (exfalso; omega)
              refine ⟨(k + 1, true), ⟨by show ((l.length : Int) - (k + 1)).toNat < ((l.length : Int) - k).toNat; omega, by omega, by omega, fun e => by cases e⟩, ?_⟩
              repeat' (first | (with_reducible refine Unf.h ?_) | ((conv => whnf); first | (refine Side.mk ?_ ?_; focus (with_reducible rfl)) | (with_reducible refine Unf.h ?_) | exact True.intro) | fail); all_goals try (conv => whnf); all_goals try (exfalso; omega)
            | false =>
              repeat' (first | (with_reducible first | refine Unf.h ?_ | refine loopK_n ?_) | ((conv => whnf); first | (refine Side.mk ?_ ?_; focus ((intros; (try simp only [lenS, inR, cutS, loI, hiI] at *); omega))) | (with_reducible refine Unf.h ?_)) | fail); all_goals try (conv => whnf); all_goals try (exfalso; omega)
              refine ⟨(k + 1, decide ((nd l k).hash.toList = (nd l i).hash.toList)), ⟨by show ((l.length : Int) - (k + 1)).toNat < ((l.length : Int) - k).toNat; omega, by omega, by omega, fun e i' h1 h2 => ?_⟩, ?_⟩
              · by_cases hk : i' = k
                · subst hk; exact fun e' => of_decide_eq_false e (congrArg Vector.toList e')
                · exact hk3 rfl i' h1 (by omega)
              · repeat' (first | (with_reducible refine Unf.h ?_) | ((conv => whnf); first | (refine Side.mk ?_ ?_; focus (with_reducible rfl)) | (with_reducible refine Unf.h ?_) | exact True.intro) | fail); all_goals try (conv => whnf); all_goals try (exfalso; omega)
          · cases b with
            | false => exact absurd rfl (hk3 rfl i hi1 (by omega))
            | true =>
              repeat' (first | (with_reducible first | refine Unf.h ?_ | refine loopK_n ?_) | ((conv => whnf); first | refine Fork.mkn (fun h => ?_) (fun h => ?_) | refine Fork.mk (fun h => ?_) (fun h => ?_) | (refine Side.mk ?_ ?_; focus ((intros; (try simp only [lenS, inR, cutS, loI, hiI] at *); omega))) | refine RetE.mk () trivial ?_ | (with_reducible refine Unf.h ?_) | refine retK_r ?_) | fail); all_goals try (conv => whnf); all_goals try (exfalso; omega)
              · refine absurd (congrArg Vector.toList ?_) (show ¬ (nd l i).hash.toList = (rootF l t).toList by assumption)
                have e : i = t := hi4 (by omega)
                rw [← e, rootF_in hi2]
              all_goals
                refine ⟨j + 1, ⟨by omega, by omega⟩, ?_⟩
                repeat' (first | (with_reducible refine Unf.h ?_) | ((conv => whnf); first | (refine Side.mk ?_ ?_; focus (first | with_reducible rfl | (refine congrArg (SV.int _) ?_; omega))) | (with_reducible refine Unf.h ?_) | exact True.intro) | fail); all_goals try (conv => whnf); all_goals try (exfalso; omega)
end Go.Proofs.YtmbkoigeekofdaaDoor

/- MY OWN ENGINE: the variables that the delta rows list; what their arguments are. -/
namespace Go.Proofs.YtmbkoigeekofdaaDoor
set_option linter.all false
open Go.RowKit Go.ChangeShapes Go.WideShapes Go.ChangeAt
theorem Tryd.own : ownKnob Tryd.prog.godebug = none := by kernel_rfl
theorem Tryd.laidOut : laidOutB Tryd.prog = true := by kernel_rfl
def laidL {H : Type} : List (String × DataW H) := [("rolodex/hash.begin", Rows.laid_rolodex_hash_begin), ("rolodex/hash.rounds", Rows.laid_rolodex_hash_rounds)]
theorem gBegin : Tryd.prog.globalNamed "rolodex/hash.begin" = some 0 := by kernel_rfl
theorem gRounds : Tryd.prog.globalNamed "rolodex/hash.rounds" = some 1 := by kernel_rfl
theorem tBegin : (Tryd.prog.globals[0]?).map (·.type) = some 134 := by kernel_rfl
theorem tRounds : (Tryd.prog.globals[1]?).map (·.type) = some 101 := by kernel_rfl
theorem dBegin : (Rows.laid_rolodex_hash_begin : DataW Unit) = .agg (gv0.toList.map fun b => .lit (.int .u32 (b.toNat : Int))) := by kernel_rfl
theorem dRounds : (Rows.laid_rolodex_hash_rounds : DataW Unit) = .agg (gv1.toList.map fun b => .lit (.int .u32 (b.toNat : Int))) := by kernel_rfl
theorem glob_arr32s {P : Program} [TabC P] {H : Type} {enc : TypeId × Value → H} {W : World} {spare : Nat → Bool} {held : Bool} {n : String} {g t e m f : Nat} {i j : TI} {cs : Array Value} {p : List MemPlace} {v : Vector (BitVec 32) m} (hg : P.globalNamed n = some g) (hv : W.var? P n = some cs) (ht : ty P t = some i) (hk : i.k = .ar m e) (hj : ty P e = some j) (hjk : j.k = .int .u32) (hj1 : j.size = 1) (hi : i.size = m)
    (hd : DataW.trod enc P W 0 spare held f t cs.toList = some (.agg (v.toList.map fun b => .lit (.int .u32 (b.toNat : Int))), p)) : (SV.fpt [.arr32 v]).hc W none0 sg0 [.pointer (some ⟨g, 0, none⟩)] ∧ ∃ C T fr, W.heap[g]? = some (.cells C T fr) ∧ C.size = szL [SV.arr32 v] := by
  refine ⟨glob_arr32 hg hv ht hk hj hjk hj1 hi hd, ?_⟩
  obtain ⟨u, hcs, hx⟩ := arr_cells (w := 32) ht hk hj hjk hj1 hi rfl rfl hd
  simp only [World.var?, hg, Option.bind_some] at hv
  split at hv
  · rename_i C T fr hh
    have e := Option.some.inj hv
    refine ⟨C, T, fr, hh, ?_⟩
    have hl := congrArg List.length hcs
    rw [e]
    simpa [szL, SV.sz] using hl
  · cases hv
theorem glob_of_laid {W : World} (h : laidMetH Tryd.prog laidL W) : Glob Tryd.prog W none0 := by
  rw [MakeChecks.laidMetH_plain _ _ _ (by kernel_rfl)] at h
  obtain ⟨ps, ⟨g0, t0, cs0, f0, p0, q0, hg0, ht0, hv0, hd0, ⟨g1, t1, cs1, f1, p1, q1, hg1, ht1, hv1, hd1, _, _⟩, _⟩, _, _⟩ := h
  obtain rfl := Option.some.inj (gBegin.symm.trans hg0)
  obtain rfl := Option.some.inj (gRounds.symm.trans hg1)
  obtain rfl := Option.some.inj (tBegin.symm.trans ht0)
  obtain rfl := Option.some.inj (tRounds.symm.trans ht1)
  rw [dBegin] at hd0
  rw [dRounds] at hd1
  intro g ps hm
  have hm' : (g, ps) = (0, [SV.arr32 gv0]) ∨ (g, ps) = (1, [SV.arr32 gv1]) := by
    have e : TabC.gl Tryd.prog = [(0, [SV.arr32 gv0]), (1, [SV.arr32 gv1])] := rfl
    rw [e] at hm
    simpa using hm
  rcases hm' with e | e
  · cases e
    exact glob_arr32s (i := ⟨.ar 8 72, 8, 32⟩) (j := ⟨.int .u32, 1, 4⟩) hg0 hv0 rfl rfl rfl rfl rfl rfl hd0
  · cases e
    exact glob_arr32s (i := ⟨.ar 64 72, 64, 256⟩) (j := ⟨.int .u32, 1, 4⟩) hg1 hv1 rfl rfl rfl rfl rfl rfl hd1
theorem door_met (os : Os) (args : Array Value) : laidMetH Tryd.prog laidL ((World.doorLaid Tryd.prog 400 os).forCall (fun _ _ => 0) ⟨#[], args, []⟩).memory :=
  laidMetH_of_parts3 (fuel := 8) (laidMet_of_run' 8 (by kernel_rfl) (by kernel_rfl)) (by kernel_rfl) (by kernel_rfl)
/-! what the arguments are -/
section
variable {H : Type} {enc : TypeId × Value → H} {W : World} {spare : Nat → Bool} {held : Bool}
theorem o_hash : Opens Tryd.prog enc W spare held 32 (fun v : H256 => [.arr8 v]) := o_arr8 (i := ⟨.ar 32 5, 32, 32⟩) (j := ⟨.int .u8, 1, 1⟩) rfl rfl rfl rfl rfl rfl
theorem o_int : Opens Tryd.prog enc W spare held 3 (fun n : Int => [.int .i64 n]) := o_i64 (i := ⟨.int .i64, 1, 8⟩) rfl rfl
theorem o_boolT : Opens Tryd.prog enc W spare held 4 (fun b : Bool => [.bool b]) := o_bool (i := ⟨.bool, 1, 1⟩) rfl rfl
theorem o_pfx : Opens Tryd.prog enc W spare held 36 ePfx :=
  (o_struct (i := ⟨.st [(0, 3), (1, 32)], 33, 40⟩) rfl rfl (o_field (off := 0) (off2 := 1) (j := ⟨.int .i64, 1, 8⟩) rfl o_int (fun _ => rfl) rfl (o_last (j := ⟨.ar 32 5, 32, 32⟩) rfl o_hash (fun _ => rfl))) (fun _ => rfl) (by kernel_rfl)).map (fun p => (⟨p.1, p.2⟩ : Pfx)) (fun _ => rfl)
theorem o_pair : Opens Tryd.prog enc W spare held 61 eKV :=
  (o_struct (i := ⟨.st [(0, 32), (32, 32)], 64, 64⟩) rfl rfl
    (o_field (off := 0) (off2 := 32) (j := ⟨.ar 32 5, 32, 32⟩) rfl o_hash (fun _ => rfl) rfl
    (o_last (j := ⟨.ar 32 5, 32, 32⟩) rfl o_hash (fun _ => rfl))) (fun _ => rfl) (by kernel_rfl)).map (fun p => ((p.1, p.2) : KV)) (fun _ => rfl)
theorem o_pairs : Opens Tryd.prog enc W spare held 22 (fun l : List KV => [.fs 64 eKV l]) :=
  o_slice (i := ⟨.sl 61, 1, 24⟩) (j := ⟨.st [(0, 32), (32, 32)], 64, 64⟩) rfl rfl rfl rfl rfl o_pair (fun _ => rfl)
theorem o_row : Opens Tryd.prog enc W spare held 85 eRw :=
  (o_struct (i := ⟨.st [(0, 4), (1, 32), (33, 32), (65, 36), (98, 32), (130, 32)], 162, 176⟩) rfl rfl
    (o_field (off := 0) (off2 := 1) (j := ⟨.bool, 1, 1⟩) rfl o_boolT (fun _ => rfl) rfl
    (o_field (off := 1) (off2 := 33) (j := ⟨.ar 32 5, 32, 32⟩) rfl o_hash (fun _ => rfl) rfl
    (o_field (off := 33) (off2 := 65) (j := ⟨.ar 32 5, 32, 32⟩) rfl o_hash (fun _ => rfl) rfl
    (o_field (off := 65) (off2 := 98) (j := ⟨.st [(0, 3), (1, 32)], 33, 40⟩) rfl o_pfx (fun _ => rfl) rfl
    (o_field (off := 98) (off2 := 130) (j := ⟨.ar 32 5, 32, 32⟩) rfl o_hash (fun _ => rfl) rfl
    (o_last (j := ⟨.ar 32 5, 32, 32⟩) rfl o_hash (fun _ => rfl))))))) (fun _ => rfl) (by kernel_rfl)).map (fun p => (⟨p.1, p.2.1, p.2.2.1, p.2.2.2.1.len, p.2.2.2.1.bits, p.2.2.2.2.1, p.2.2.2.2.2⟩ : Rw)) (fun _ => rfl)
theorem o_rows : Opens Tryd.prog enc W spare held 53 (fun l : List Rw => [.fs 162 eRw l]) :=
  o_slice (i := ⟨.sl 85, 1, 24⟩) (j := ⟨.st [(0, 4), (1, 32), (33, 32), (65, 36), (98, 32), (130, 32)], 162, 176⟩) rfl rfl rfl rfl rfl o_row (fun _ => rfl)
end
section
variable {P : Program} [TabC P] {H : Type} {enc : TypeId × Value → H} {W : World} {spare : Nat → Bool} {held : Bool}
theorem arg_u8 {t base : Nat} {i : TI} (ht : ty P t = some i) (hk : i.k = .int .u8) {v : Value} {d : DataW H} {p : List MemPlace} (hv : Value.okWide P W .any base t v) (h : DataW.Trod enc P W 0 spare held t v d p) : ∃ x : BitVec 8, (SV.u8 x).h1 W none0 sg0 v := by
  obtain ⟨fuel, hT⟩ := h
  obtain ⟨x, hx⟩ := (o_uns (k := .u8) (w := 8) (mk := .u8) ht hk rfl rfl (fun _ _ => hc8)) _ _ _ hT
  obtain ⟨m, rfl⟩ := okWide_int (ty_int ht hk) hv
  refine ⟨x, ?_⟩
  simp only [hL, List.append_nil] at hx
  obtain ⟨a, b, h1, h2, rfl⟩ := hx
  rw [List.append_nil] at h1
  have : a = [Value.int .u8 m] := by rw [← h1]; rfl
  rw [this] at h2; exact h2
end
end Go.Proofs.YtmbkoigeekofdaaDoor

import Derived.Test.YtmbkoigeekofdaaDoorZLDNone2
import Derived.Test.YtmbkoigeekofdaaDoorFn
import Derived.DeepKeys4
import Derived.Shelf.Sort.Plain
import Derived.Shelf.Slices.In.SortNone
import Derived.Sort.OwnSortedInts
import Derived.Test.YtmbkoigeekofdaaDoorLaw
namespace Go.Proofs.YtmbkoigeekofdaaDoor
set_option linter.all false
open Go.RowKit
/-! the numbers of a tree's nodes -/
/-- who is asked whether a number is wanted -/
def want_c (wn : Int → Bool) (J : AO) : Ctr where
  D := Int
  args := fun i => [.int .i64 i]
  objs := fun _ => [(0, .ab J)]
  nn := 1
  res := fun i _ => .bool (wn i)
  out := fun _ _ => [(0, .ab J)]
def numsV_c : Ctr where
  D := Fo × Int × Option PT × (Int → Bool) × AO × Value
  pre := fun (l, t, o, wn, J, y) => treeAt l t o ∧ (listO o).length ≤ 100000 ∧ (want_c wn J).OkBy Tryd.prog (CallsF Tryd.prog y)
  args := fun (_, t, _, _, _, y) => [.ptr 0 0, .int .i64 t, .val y]
  objs := fun (l, _, _, _, J, _) => [(0, .box 71 [.own 1]), (1, .row 40 132 eNd l), (2, .ab J)]
  nn := 3
  res := fun _ _ => .own 3
  out := fun (l, t, o, wn, J, _) _ => [(0, .box 71 [.own 1]), (1, .row 40 132 eNd l), (2, .ab J), (3, .row 3 1 eI (ordsO l wn o t))]
  mm := 1
def numsV_H : Cfg := ⟨[(13, node_c)], [], [], [], 57, 3, [27], [], []⟩
theorem numsV_ok : numsV_c.Ok Tryd.prog 21 := by
  refine fn_ok numsV_H 3 rfl _ Tryd.func21 rfl rfl ⟨node_ok, trivial⟩ rfl rfl (by kernel_rfl) (fun _ => Nat.le_of_ble_eq_true rfl) ?_
  rintro ⟨l, t, o, wn, J, y⟩ hp hr
  try dsimp only [numsV_c] at hp
  try simp only [numsV_c, Rng, RngL, inR, and_true, true_and] at hr
  obtain ⟨hd, hlen, hw⟩ := hp
  cases o with
  | none =>
    have ht : t = -1 := hd
    subst ht
    have hn : ¬ inF l (-1) := fun h => absurd h.1 (by decide)
    repeat' (first | (with_reducible refine Unf.h ?_) | fail); all_goals try (conv => whnf); all_goals try (exfalso; omega)
    refine LoopS.autoN (I := List Int) (fun s => s = [-1] ∨ s = []) (fun _ => [(7, .nils), (8, .own 3)]) (fun s => [(0, .box 71 [.own 1]), (1, .row 40 132 eNd l), (2, .ab J), (3, .row 3 1 eI s)]) 4 (fun s => s.length) [-1] (.inl rfl) ?_ ?_
    · repeat' (first | (with_reducible refine Unf.h ?_) | ((conv => whnf); first | (refine Side.mk ?_ ?_; focus (first | with_reducible rfl | (simp only [*, List.map_cons, List.map_nil, eB]; done))) | (with_reducible refine Unf.h ?_) | exact True.intro) | fail); all_goals try (conv => whnf); all_goals try (exfalso; omega)
    · have hs0 : List.take (([-1] : List Int).length - 1 : Int).toNat ([-1] : List Int) = [] := rfl
      have e0 : ordsO l wn none (-1) = [] := rfl
      rintro _ (rfl | rfl)
      · repeat' (first | (with_reducible refine Unf.h ?_) | ((conv => whnf); first | refine Fork.mk (fun h => ?_) (fun h => ?_) | (refine Side.mk ?_ ?_; focus (first | with_reducible rfl | assumption | omega | (intros; (try simp only [lenS, inR, cutS, loI, hiI, hs0] at *); omega))) | (refine Idx.mk ?_ ?_; focus (omega)) | refine RetE.mk () trivial ?_ | refine retK_r ?_ | exact rfl) | fail); all_goals try (conv => whnf); all_goals try (exfalso; omega)
        have hpn : (([-1] : List Int)[((([-1] : List Int).length : Int) - 1).toNat]'(by decide)) = -1 := rfl
        rw [hpn]
        refine CallS.mk (c := node_c) ((l, -1)) ?_
        repeat' (first | (with_reducible first | refine Unf.h ?_ | refine loopK_n ?_) | ((conv => whnf); first | refine Fork.mkn (fun h => ?_) (fun h => ?_) | (refine Side.mk ?_ ?_; focus (first | with_reducible rfl | exact True.intro)) | refine Got.mk (fun _ _ => ?_)) | fail); all_goals try (conv => whnf); all_goals try (exfalso; omega)
        · refine ⟨[], ⟨by decide, .inr rfl⟩, ?_⟩
          repeat' (first | (with_reducible refine Unf.h ?_) | ((conv => whnf); first | (refine Side.mk ?_ ?_; focus (first | with_reducible rfl | (simp only [*, hs0]; done))) | (with_reducible refine Unf.h ?_) | exact True.intro) | fail); all_goals try (conv => whnf); all_goals try (exfalso; omega)
        · exact absurd h hn
      · repeat' (first | (with_reducible refine Unf.h ?_) | ((conv => whnf); first | refine Fork.mk (fun h => ?_) (fun h => ?_) | (refine Side.mk ?_ ?_; focus (first | with_reducible rfl | assumption | omega | (intros; (try simp only [lenS, inR, cutS, loI, hiI, e0] at *); omega))) | (refine Idx.mk ?_ ?_; focus (omega)) | refine RetE.mk () trivial ?_ | refine retK_r ?_ | exact rfl) | fail); all_goals try (conv => whnf); all_goals try (exfalso; omega)
        exact absurd h (by decide)
  | some T =>
    have hd : den l t T := hd
    have hlen : T.list.length ≤ 100000 := hlen
    repeat' (first | (with_reducible refine Unf.h ?_) | fail); all_goals try (conv => whnf); all_goals try (exfalso; omega)
    refine LoopS.autoN (I := List (Int × PT) × List Int) (fun s => (∀ p ∈ s.1, den l p.1 p.2) ∧ s.2 ++ remN l wn s.1 = ords l wn T t ∧ s.2.length + szS s.1 ≤ 2 * T.list.length) (fun _ => [(7, .own 3), (8, .own 4)]) (fun s => [(0, .box 71 [.own 1]), (1, .row 40 132 eNd l), (2, .ab J), (3, .row 3 1 eI s.2), (4, .row 3 1 eIP s.1)]) 5 (fun s => szS s.1) ([(t, T)], []) ⟨?_, ?_, ?_⟩ ?_ ?_
    · intro p hp
      obtain rfl := List.mem_singleton.1 hp
      exact hd
    · simp [remN]
    · have := list_pos T
      simp only [szS, szT, List.length_nil]; omega
    · repeat' (first | (with_reducible refine Unf.h ?_) | ((conv => whnf); first | (refine Side.mk ?_ ?_; focus (first | with_reducible rfl | (simp only [*, List.map_cons, List.map_nil, eB]; done))) | (with_reducible refine Unf.h ?_) | exact True.intro) | fail); all_goals try (conv => whnf); all_goals try (exfalso; omega)
    · rintro ⟨ps, out⟩ ⟨h1, h2, h3⟩
      dsimp only at h1 h2 h3
      rcases List.eq_nil_or_concat ps with rfl | ⟨qs, ⟨i, U⟩, rfl⟩
      · have e0 : ordsO l wn (some T) t = out := by show ords l wn T t = out; simpa [remN] using h2.symm
        repeat' (first | (with_reducible refine Unf.h ?_) | ((conv => whnf); first | refine Fork.mk (fun h => ?_) (fun h => ?_) | (refine Side.mk ?_ ?_; focus (first | with_reducible rfl | omega | (intros; (try simp only [lenS, inR, cutS, loI, hiI, e0] at *); omega) | (simp only [*, e0]; done))) | (refine Idx.mk ?_ ?_; focus (omega)) | refine RetE.mk () trivial ?_ | refine retK_r ?_ | exact rfl) | fail); all_goals try (conv => whnf); all_goals try (exfalso; omega)
        exact absurd h (by simp)
      · rw [List.concat_eq_append] at h1 h2 h3 ⊢
        rw [remN_snoc] at h2
        rw [szS_snoc] at h3
        have hU := h1 (i, U) (by simp)
        have hlast : ∀ hx, (qs ++ [(i, U)])[(((qs ++ [(i, U)]).length : Int) - 1).toNat]'hx = (i, U) := fun hx => by
          simp
        have hin : inF l i := den_in hU
        repeat' (first | (with_reducible refine Unf.h ?_) | ((conv => whnf); first | refine Fork.mk (fun h => ?_) (fun h => ?_) | (refine Side.mk ?_ ?_; focus (first | with_reducible rfl | omega | (intros; (try simp only [lenS, inR, cutS, loI, hiI] at *); omega))) | (refine Idx.mk ?_ ?_; focus (omega)) | refine RetE.mk () trivial ?_ | refine retK_r ?_ | exact rfl) | fail); all_goals try (conv => whnf); all_goals try (exfalso; omega)
        · generalize he : (qs ++ [(i, U)])[(((qs ++ [(i, U)]).length : Int) - 1).toNat]'(by simp) = e
          obtain rfl : e = (i, U) := he ▸ hlast _
          clear he
          have hdq : List.take (((qs ++ [(i, U)]).length : Int) - 1).toNat (qs ++ [(i, U)]) = qs := by simp
          have hz := list_sz U
          refine CallS.mk (c := node_c) ((l, i)) ?_
          repeat' (first | (with_reducible first | refine Unf.h ?_ | refine loopK_n ?_) | ((conv => whnf); first | refine Fork.mkn (fun h => ?_) (fun h => ?_) | (refine Side.mk ?_ ?_; focus (first | with_reducible rfl | exact True.intro)) | refine Got.mk (fun _ _ => ?_)) | fail); all_goals try (conv => whnf); all_goals try (exfalso; omega)
          · exact absurd hin h
          · refine ValS.mk (OpsK.callFG ?_)
            all_goals try (conv => whnf); all_goals try (exfalso; omega)
            refine CallF.mk hw rfl rfl (.inl rfl) rfl rfl ?_
            refine CallS.mk (c := want_c wn J) i ?_
            cases hwn : wn i with
            | false =>
              have e1 := ords_no (l := l) (wn := wn) (T := U) hwn
              repeat' (first | (with_reducible refine Unf.h ?_) | ((conv => whnf); first | (refine Side.mk ?_ ?_; focus (first | with_reducible rfl | exact True.intro)) | refine Got.mk (fun _ _ => ?_)) | fail); all_goals try (conv => whnf); all_goals try (exfalso; omega)
              rw [hwn]
              repeat' (first | (with_reducible first | refine Unf.h ?_ | refine loopK_n ?_) | ((conv => whnf); (with_reducible refine Unf.h ?_)) | fail); all_goals try (conv => whnf); all_goals try (exfalso; omega)
              have h3' : out.length + (szS qs + szT U) ≤ 2 * T.list.length := h3
              have h2' : out ++ (ords l wn U i ++ remN l wn qs) = ords l wn T t := h2
              rw [e1] at h2'
              refine ⟨(qs, out), ⟨by simp only [szS_snoc]; omega, fun p hp => h1 p (by simp [hp]), h2', by dsimp only; omega⟩, ?_⟩
              repeat' (first | (with_reducible refine Unf.h ?_) | ((conv => whnf); first | (refine Side.mk ?_ ?_; focus (first | with_reducible rfl | (simp only [*, hdq]; done))) | (with_reducible refine Unf.h ?_) | exact True.intro) | fail); all_goals try (conv => whnf); all_goals try (exfalso; omega)
            | true =>
              repeat' (first | (with_reducible refine Unf.h ?_) | ((conv => whnf); first | (refine Side.mk ?_ ?_; focus (first | with_reducible rfl | exact True.intro)) | refine Got.mk (fun _ _ => ?_)) | fail); all_goals try (conv => whnf); all_goals try (exfalso; omega)
              rw [hwn]
              repeat' (first | (with_reducible refine Unf.h ?_) | ((conv => whnf); first | (refine Side.mk ?_ ?_; focus ((intros; (try simp only [lenS, inR, cutS, loI, hiI] at *); omega))) | refine Ex.mk [_] rfl ?_ | (with_reducible refine Unf.h ?_)) | fail); all_goals try (conv => whnf); all_goals try (exfalso; omega)
              have h3' : out.length + (szS qs + szT U) ≤ 2 * T.list.length := h3
              have h2' : out ++ (ords l wn U i ++ remN l wn qs) = ords l wn T t := h2
              clear h2 h3
              cases U with
              | leaf k v =>
                rw [ords_leaf hwn] at h2'
                have hnl : (nd l i).leaf = true := by rw [hU.2]
                rw [hnl]
                repeat' (first | (with_reducible first | refine Unf.h ?_ | refine loopK_n ?_) | ((conv => whnf); (with_reducible refine Unf.h ?_)) | fail); all_goals try (conv => whnf); all_goals try (exfalso; omega)
                refine ⟨(qs, out ++ [i]), ⟨by simp only [szS_snoc]; omega, fun p hp => h1 p (by simp [hp]), by rw [← h2']; simp, by simp only [List.length_append, List.length_singleton]; omega⟩, ?_⟩
                repeat' (first | (with_reducible refine Unf.h ?_) | ((conv => whnf); first | (refine Side.mk ?_ ?_; focus (first | with_reducible rfl | (simp only [*, hdq]; done))) | (with_reducible refine Unf.h ?_) | exact True.intro) | fail); all_goals try (conv => whnf); all_goals try (exfalso; omega)
              | node p a b =>
                obtain ⟨_, x, y', en, ha, hb⟩ := hU
                rw [ords_node hwn, en] at h2'
                dsimp only at h2'
                rw [en]
                repeat' (first | (with_reducible refine Unf.h ?_) | ((conv => whnf); (with_reducible refine Unf.h ?_)) | fail); all_goals try (conv => whnf); all_goals try (exfalso; omega)
                refine Ex.mk [(x, a), (y', b)] rfl ?_
                have hq := szS_len qs
                have ht := szT_node p a b
                repeat' (first | (with_reducible first | refine Unf.h ?_ | refine loopK_n ?_) | ((conv => whnf); (refine Side.mk ?_ ?_; focus ((intros; (try simp only [lenS, inR, cutS, loI, hiI] at *); omega)))) | fail); all_goals try (conv => whnf); all_goals try (exfalso; omega)
                have hd2 : List.take (((qs ++ [(i, PT.node p a b)]).length : Int) - 1).toNat (qs ++ [(i, PT.node p a b)]) ++ [(x, a), (y', b)] = qs ++ [(x, a), (y', b)] := by simp
                have e2 : qs ++ [(x, a), (y', b)] = (qs ++ [(x, a)]) ++ [(y', b)] := by simp
                refine ⟨(qs ++ [(x, a), (y', b)], out ++ [i]), ⟨?_, fun p hp => ?_, ?_, ?_⟩, ?_⟩
                · simp only [e2, szS_snoc]; omega
                · rcases List.mem_append.1 hp with hp | hp
                  · exact h1 p (by simp [hp])
                  · rcases List.mem_cons.1 hp with rfl | hp
                    · exact ha
                    · obtain rfl := List.mem_singleton.1 hp
                      exact hb
                · show (out ++ [i]) ++ remN l wn (qs ++ [(x, a), (y', b)]) = _
                  rw [e2, remN_snoc, remN_snoc, ← h2']; simp
                · show (out ++ [i]).length + szS (qs ++ [(x, a), (y', b)]) ≤ _
                  rw [e2, szS_snoc, szS_snoc, List.length_append, List.length_singleton]; simp only; omega
                repeat' (first | (with_reducible refine Unf.h ?_) | ((conv => whnf); first | (refine Side.mk ?_ ?_; focus (first | with_reducible rfl | (simp only [*, hd2]; done))) | (with_reducible refine Unf.h ?_) | exact True.intro) | fail); all_goals try (conv => whnf); all_goals try (exfalso; omega)
def wantF_c (wn : Int → Bool) : Ctr where
  D := Int
  args := fun i => [.int .i64 i]
  res := fun i _ => .bool (wn i)
def numsF_c : Ctr where
  D := Fo × Int × Option PT × (Int → Bool) × Nat
  pre := fun (l, t, o, wn, g) => treeAt l t o ∧ (listO o).length ≤ 100000 ∧ (wantF_c wn).OkBy Tryd.prog (CallsF Tryd.prog (.func (.func g) #[] #[]))
  args := fun (_, t, _, _, g) => [.ptr 0 0, .int .i64 t, .fn g]
  objs := fun (l, _, _, _, _) => [(0, .box 71 [.own 1]), (1, .row 40 132 eNd l)]
  nn := 2
  res := fun _ _ => .own 2
  out := fun (l, t, o, wn, _) _ => [(0, .box 71 [.own 1]), (1, .row 40 132 eNd l), (2, .row 3 1 eI (ordsO l wn o t))]
  mm := 1
def numsF_H : Cfg := ⟨[(13, node_c)], [], [], [], 57, 2, [27], [], []⟩
theorem numsF_ok : numsF_c.Ok Tryd.prog 21 := by
  refine fn_ok numsF_H 2 rfl _ Tryd.func21 rfl rfl ⟨node_ok, trivial⟩ rfl rfl (by kernel_rfl) (fun _ => Nat.le_of_ble_eq_true rfl) ?_
  rintro ⟨l, t, o, wn, g⟩ hp hr
  try dsimp only [numsF_c] at hp
  try simp only [numsF_c, Rng, RngL, inR, and_true, true_and] at hr
  obtain ⟨hd, hlen, hw⟩ := hp
  cases o with
  | none =>
    have ht : t = -1 := hd
    subst ht
    have hn : ¬ inF l (-1) := fun h => absurd h.1 (by decide)
    repeat' (first | (with_reducible refine Unf.h ?_) | fail); all_goals try (conv => whnf); all_goals try (exfalso; omega)
    refine LoopS.autoN (I := List Int) (fun s => s = [-1] ∨ s = []) (fun _ => [(7, .nils), (8, .own 2)]) (fun s => [(0, .box 71 [.own 1]), (1, .row 40 132 eNd l), (2, .row 3 1 eI s)]) 3 (fun s => s.length) [-1] (.inl rfl) ?_ ?_
    · repeat' (first | (with_reducible refine Unf.h ?_) | ((conv => whnf); first | (refine Side.mk ?_ ?_; focus (first | with_reducible rfl | (simp only [*, List.map_cons, List.map_nil, eB]; done))) | (with_reducible refine Unf.h ?_) | exact True.intro) | fail); all_goals try (conv => whnf); all_goals try (exfalso; omega)
    · have hs0 : List.take (([-1] : List Int).length - 1 : Int).toNat ([-1] : List Int) = [] := rfl
      have e0 : ordsO l wn none (-1) = [] := rfl
      rintro _ (rfl | rfl)
      · repeat' (first | (with_reducible refine Unf.h ?_) | ((conv => whnf); first | refine Fork.mk (fun h => ?_) (fun h => ?_) | (refine Side.mk ?_ ?_; focus (first | with_reducible rfl | assumption | omega | (intros; (try simp only [lenS, inR, cutS, loI, hiI, hs0] at *); omega))) | (refine Idx.mk ?_ ?_; focus (omega)) | refine RetE.mk () trivial ?_ | refine retK_r ?_ | exact rfl) | fail); all_goals try (conv => whnf); all_goals try (exfalso; omega)
        have hpn : (([-1] : List Int)[((([-1] : List Int).length : Int) - 1).toNat]'(by decide)) = -1 := rfl
        rw [hpn]
        refine CallS.mk (c := node_c) ((l, -1)) ?_
        repeat' (first | (with_reducible first | refine Unf.h ?_ | refine loopK_n ?_) | ((conv => whnf); first | refine Fork.mkn (fun h => ?_) (fun h => ?_) | (refine Side.mk ?_ ?_; focus (first | with_reducible rfl | exact True.intro)) | refine Got.mk (fun _ _ => ?_)) | fail); all_goals try (conv => whnf); all_goals try (exfalso; omega)
        · refine ⟨[], ⟨by decide, .inr rfl⟩, ?_⟩
          repeat' (first | (with_reducible refine Unf.h ?_) | ((conv => whnf); first | (refine Side.mk ?_ ?_; focus (first | with_reducible rfl | (simp only [*, hs0]; done))) | (with_reducible refine Unf.h ?_) | exact True.intro) | fail); all_goals try (conv => whnf); all_goals try (exfalso; omega)
        · exact absurd h hn
      · repeat' (first | (with_reducible refine Unf.h ?_) | ((conv => whnf); first | refine Fork.mk (fun h => ?_) (fun h => ?_) | (refine Side.mk ?_ ?_; focus (first | with_reducible rfl | assumption | omega | (intros; (try simp only [lenS, inR, cutS, loI, hiI, e0] at *); omega))) | (refine Idx.mk ?_ ?_; focus (omega)) | refine RetE.mk () trivial ?_ | refine retK_r ?_ | exact rfl) | fail); all_goals try (conv => whnf); all_goals try (exfalso; omega)
        exact absurd h (by decide)
  | some T =>
    have hd : den l t T := hd
    have hlen : T.list.length ≤ 100000 := hlen
    repeat' (first | (with_reducible refine Unf.h ?_) | fail); all_goals try (conv => whnf); all_goals try (exfalso; omega)
    refine LoopS.autoN (I := List (Int × PT) × List Int) (fun s => (∀ p ∈ s.1, den l p.1 p.2) ∧ s.2 ++ remN l wn s.1 = ords l wn T t ∧ s.2.length + szS s.1 ≤ 2 * T.list.length) (fun _ => [(7, .own 2), (8, .own 3)]) (fun s => [(0, .box 71 [.own 1]), (1, .row 40 132 eNd l), (2, .row 3 1 eI s.2), (3, .row 3 1 eIP s.1)]) 4 (fun s => szS s.1) ([(t, T)], []) ⟨?_, ?_, ?_⟩ ?_ ?_
    · intro p hp
      obtain rfl := List.mem_singleton.1 hp
      exact hd
    · simp [remN]
    · have := list_pos T
      simp only [szS, szT, List.length_nil]; omega
    · repeat' (first | (with_reducible refine Unf.h ?_) | ((conv => whnf); first | (refine Side.mk ?_ ?_; focus (first | with_reducible rfl | (simp only [*, List.map_cons, List.map_nil, eB]; done))) | (with_reducible refine Unf.h ?_) | exact True.intro) | fail); all_goals try (conv => whnf); all_goals try (exfalso; omega)
    · rintro ⟨ps, out⟩ ⟨h1, h2, h3⟩
      dsimp only at h1 h2 h3
      rcases List.eq_nil_or_concat ps with rfl | ⟨qs, ⟨i, U⟩, rfl⟩
      · have e0 : ordsO l wn (some T) t = out := by show ords l wn T t = out; simpa [remN] using h2.symm
        repeat' (first | (with_reducible refine Unf.h ?_) | ((conv => whnf); first | refine Fork.mk (fun h => ?_) (fun h => ?_) | (refine Side.mk ?_ ?_; focus (first | with_reducible rfl | omega | (intros; (try simp only [lenS, inR, cutS, loI, hiI, e0] at *); omega) | (simp only [*, e0]; done))) | (refine Idx.mk ?_ ?_; focus (omega)) | refine RetE.mk () trivial ?_ | refine retK_r ?_ | exact rfl) | fail); all_goals try (conv => whnf); all_goals try (exfalso; omega)
        exact absurd h (by simp)
      · rw [List.concat_eq_append] at h1 h2 h3 ⊢
        rw [remN_snoc] at h2
        rw [szS_snoc] at h3
        have hU := h1 (i, U) (by simp)
        have hlast : ∀ hx, (qs ++ [(i, U)])[(((qs ++ [(i, U)]).length : Int) - 1).toNat]'hx = (i, U) := fun hx => by
          simp
        have hin : inF l i := den_in hU
        repeat' (first | (with_reducible refine Unf.h ?_) | ((conv => whnf); first | refine Fork.mk (fun h => ?_) (fun h => ?_) | (refine Side.mk ?_ ?_; focus (first | with_reducible rfl | omega | (intros; (try simp only [lenS, inR, cutS, loI, hiI] at *); omega))) | (refine Idx.mk ?_ ?_; focus (omega)) | refine RetE.mk () trivial ?_ | refine retK_r ?_ | exact rfl) | fail); all_goals try (conv => whnf); all_goals try (exfalso; omega)
        · generalize he : (qs ++ [(i, U)])[(((qs ++ [(i, U)]).length : Int) - 1).toNat]'(by simp) = e
          obtain rfl : e = (i, U) := he ▸ hlast _
          clear he
          have hdq : List.take (((qs ++ [(i, U)]).length : Int) - 1).toNat (qs ++ [(i, U)]) = qs := by simp
          have hz := list_sz U
          refine CallS.mk (c := node_c) ((l, i)) ?_
          repeat' (first | (with_reducible first | refine Unf.h ?_ | refine loopK_n ?_) | ((conv => whnf); first | refine Fork.mkn (fun h => ?_) (fun h => ?_) | (refine Side.mk ?_ ?_; focus (first | with_reducible rfl | exact True.intro)) | refine Got.mk (fun _ _ => ?_)) | fail); all_goals try (conv => whnf); all_goals try (exfalso; omega)
          · exact absurd hin h
          · refine ValS.mk (OpsK.callFG ?_)
            all_goals try (conv => whnf); all_goals try (exfalso; omega)
            refine CallF.mk hw rfl rfl (.inr ⟨g, rfl, rfl⟩) rfl rfl ?_
            refine CallS.mk (c := wantF_c wn) i ?_
            cases hwn : wn i with
            | false =>
              have e1 := ords_no (l := l) (wn := wn) (T := U) hwn
              repeat' (first | (with_reducible refine Unf.h ?_) | ((conv => whnf); first | (refine Side.mk ?_ ?_; focus (first | with_reducible rfl | exact True.intro)) | refine Got.mk (fun _ _ => ?_)) | fail); all_goals try (conv => whnf); all_goals try (exfalso; omega)
              rw [hwn]
              repeat' (first | (with_reducible first | refine Unf.h ?_ | refine loopK_n ?_) | ((conv => whnf); (with_reducible refine Unf.h ?_)) | fail); all_goals try (conv => whnf); all_goals try (exfalso; omega)
              have h3' : out.length + (szS qs + szT U) ≤ 2 * T.list.length := h3
              have h2' : out ++ (ords l wn U i ++ remN l wn qs) = ords l wn T t := h2
              rw [e1] at h2'
              refine ⟨(qs, out), ⟨by simp only [szS_snoc]; omega, fun p hp => h1 p (by simp [hp]), h2', by dsimp only; omega⟩, ?_⟩
              repeat' (first | (with_reducible refine Unf.h ?_) | ((conv => whnf); first | (refine Side.mk ?_ ?_; focus (first | with_reducible rfl | (simp only [*, hdq]; done))) | (with_reducible refine Unf.h ?_) | exact True.intro) | fail); all_goals try (conv => whnf); all_goals try (exfalso; omega)
            | true =>
              repeat' (first | (with_reducible refine Unf.h ?_) | ((conv => whnf); first | (refine Side.mk ?_ ?_; focus (first | with_reducible rfl | exact True.intro)) | refine Got.mk (fun _ _ => ?_)) | fail); all_goals try (conv => whnf); all_goals try (exfalso; omega)
              rw [hwn]
              repeat' (first | (with_reducible refine Unf.h ?_) | ((conv => whnf); first | (refine Side.mk ?_ ?_; focus ((intros; (try simp only [lenS, inR, cutS, loI, hiI] at *); omega))) | refine Ex.mk [_] rfl ?_ | (with_reducible refine Unf.h ?_)) | fail); all_goals try (conv => whnf); all_goals try (exfalso; omega)
              have h3' : out.length + (szS qs + szT U) ≤ 2 * T.list.length := h3
              have h2' : out ++ (ords l wn U i ++ remN l wn qs) = ords l wn T t := h2
              clear h2 h3
              cases U with
              | leaf k v =>
                rw [ords_leaf hwn] at h2'
                have hnl : (nd l i).leaf = true := by rw [hU.2]
                rw [hnl]
                repeat' (first | (with_reducible first | refine Unf.h ?_ | refine loopK_n ?_) | ((conv => whnf); (with_reducible refine Unf.h ?_)) | fail); all_goals try (conv => whnf); all_goals try (exfalso; omega)
                refine ⟨(qs, out ++ [i]), ⟨by simp only [szS_snoc]; omega, fun p hp => h1 p (by simp [hp]), by rw [← h2']; simp, by simp only [List.length_append, List.length_singleton]; omega⟩, ?_⟩
                repeat' (first | (with_reducible refine Unf.h ?_) | ((conv => whnf); first | (refine Side.mk ?_ ?_; focus (first | with_reducible rfl | (simp only [*, hdq]; done))) | (with_reducible refine Unf.h ?_) | exact True.intro) | fail); all_goals try (conv => whnf); all_goals try (exfalso; omega)
              | node p a b =>
                obtain ⟨_, x, y', en, ha, hb⟩ := hU
                rw [ords_node hwn, en] at h2'
                dsimp only at h2'
                rw [en]
                repeat' (first | (with_reducible refine Unf.h ?_) | ((conv => whnf); (with_reducible refine Unf.h ?_)) | fail); all_goals try (conv => whnf); all_goals try (exfalso; omega)
                refine Ex.mk [(x, a), (y', b)] rfl ?_
                have hq := szS_len qs
                have ht := szT_node p a b
                repeat' (first | (with_reducible first | refine Unf.h ?_ | refine loopK_n ?_) | ((conv => whnf); (refine Side.mk ?_ ?_; focus ((intros; (try simp only [lenS, inR, cutS, loI, hiI] at *); omega)))) | fail); all_goals try (conv => whnf); all_goals try (exfalso; omega)
                have hd2 : List.take (((qs ++ [(i, PT.node p a b)]).length : Int) - 1).toNat (qs ++ [(i, PT.node p a b)]) ++ [(x, a), (y', b)] = qs ++ [(x, a), (y', b)] := by simp
                have e2 : qs ++ [(x, a), (y', b)] = (qs ++ [(x, a)]) ++ [(y', b)] := by simp
                refine ⟨(qs ++ [(x, a), (y', b)], out ++ [i]), ⟨?_, fun p hp => ?_, ?_, ?_⟩, ?_⟩
                · simp only [e2, szS_snoc]; omega
                · rcases List.mem_append.1 hp with hp | hp
                  · exact h1 p (by simp [hp])
                  · rcases List.mem_cons.1 hp with rfl | hp
                    · exact ha
                    · obtain rfl := List.mem_singleton.1 hp
                      exact hb
                · show (out ++ [i]) ++ remN l wn (qs ++ [(x, a), (y', b)]) = _
                  rw [e2, remN_snoc, remN_snoc, ← h2']; simp
                · show (out ++ [i]).length + szS (qs ++ [(x, a), (y', b)]) ≤ _
                  rw [e2, szS_snoc, szS_snoc, List.length_append, List.length_singleton]; simp only; omega
                repeat' (first | (with_reducible refine Unf.h ?_) | ((conv => whnf); first | (refine Side.mk ?_ ?_; focus (first | with_reducible rfl | (simp only [*, hd2]; done))) | (with_reducible refine Unf.h ?_) | exact True.intro) | fail); all_goals try (conv => whnf); all_goals try (exfalso; omega)
end Go.Proofs.YtmbkoigeekofdaaDoor

/- MY OWN ENGINE: maps keyed by hashes. -/
namespace Go.Proofs.YtmbkoigeekofdaaDoor
set_option linter.all false
open Go.RowKit
theorem mapM_all {α β : Type} {f : α → Option β} : ∀ {l : List α}, (∀ i ∈ l, ∃ y, f i = some y) → ∃ ys, l.mapM f = some ys
  | [], _ => ⟨[], rfl⟩
  | a :: r, h => by
    obtain ⟨y, hy⟩ := h a (by simp)
    obtain ⟨ys, hys⟩ := mapM_all (l := r) fun i hi => h i (by simp [hi])
    exact ⟨y :: ys, by simp [List.mapM_cons, hy, hys]⟩
abbrev hashV {n : Nat} (h : Vector (BitVec 8) n) : Value := .agg (h.toList.map (bV .u8)).toArray
theorem keyOf_hash {P : Program} {k e n : Nat} (hu : P.underlying k = some (.array n e)) (he : P.underlying e = some (.int .u8)) (hc : P.cellsOf e = 1) (hck : P.cellsOf k = n) (hk : P.keyType k = true) (hs : 0 < P.types.size) (h : Vector (BitVec 8) n) : ∃ l, keyOf P k (hashV h) = some l := by
  have hf : (hashV h).formed P k = true := by simp [Value.formed, hu, hck]
  have hm : ∀ i ∈ List.range n, ∃ y, P.keyLits P.types.size e (((h.toList.map (bV .u8)).drop (i * 1)).take 1) = some y := fun i hi => by
    have hi' : i < n := List.mem_range.1 hi
    obtain ⟨m, hm⟩ : ∃ m, P.types.size = m + 1 := ⟨P.types.size - 1, by omega⟩
    have hl : i < (h.toList.map (bV .u8)).length := by simpa using hi'
    rw [hm, Nat.mul_one, List.drop_eq_getElem_cons hl]
    simp only [List.take_succ_cons, List.take_zero, List.getElem_map]
    have hil : i < h.toList.length := by simpa using hi'
    generalize h.toList[i]'hil = x
    have hx := x.isLt
    have hwf : (Lit.int .u8 (x.toNat : Int)).wf = true := by
      have key : ∀ m : Nat, m < 256 → (Lit.int .u8 (m : Int)).wf = true := by decide +kernel
      exact key _ hx
    refine ⟨[.int .u8 (x.toNat : Int)], ?_⟩
    unfold Program.keyLits
    rw [he]
    simp only [bV]
    rw [if_pos ⟨trivial, hwf⟩]
  obtain ⟨ys, hys⟩ := mapM_all hm
  refine ⟨.string (keyBytes ys.flatten), ?_⟩
  unfold keyOf
  rw [hu]
  simp only [hk, hf, Bool.and_self, if_true]
  unfold Program.keyLits
  rw [hu]
  have hcs : (hashV h).cells.toList = h.toList.map (bV .u8) := by simp [Value.cells]
  rw [hcs]
  simp only [List.length_map, Vector.length_toList, hck, if_true, hc]
  rw [hys]; rfl
theorem hashV_inj {n : Nat} {a b : Vector (BitVec 8) n} (h : hashV a = hashV b) : a = b := by
  simp only [hashV, Value.agg.injEq] at h
  have h1 := congrArg Array.toList h
  simp only at h1
  have key : ∀ {l m : List (BitVec 8)}, l.map (bV .u8) = m.map (bV .u8) → l = m := by
    intro l
    induction l with
    | nil => intro m h; cases m <;> simp_all
    | cons x r ih =>
      intro m h
      cases m with
      | nil => simp at h
      | cons y q =>
        simp only [List.map_cons, List.cons.injEq, bV, Value.int.injEq, true_and] at h
        rw [ih h.2, BitVec.eq_of_toNat_eq (Int.ofNat.inj h.1)]
  exact Vector.toList_inj.1 (key h1)
theorem hash_hv {n : Nat} (h : Vector (BitVec 8) n) (w : World) (A : Own) (σ : Sg) (u : Value) : (SV.agg [.arr8 h]).hv w A σ u ↔ u = hashV h := by
  simp only [SV.hv, SV.h1]
  constructor
  · rintro ⟨cs, rfl, hc⟩
    have := hL.single.1 hc
    simp only [SV.hc] at this
    rw [this]
  · rintro rfl
    exact ⟨_, rfl, hL.single.2 (by simp only [SV.hc])⟩
theorem mkey_hash {P : Program} {k e n : Nat} (hl : laidOutB P = true) (hrow : k < P.types.size) (hkt : P.keyTypeAt 2 k = true) (hu : P.underlying k = some (.array n e)) (he : P.underlying e = some (.int .u8)) (hc : P.cellsOf e = 1) (hck : P.cellsOf k = n) (hk : P.keyType k = true) : MKey P k (fun h : Vector (BitVec 8) n => .agg [.arr8 h]) :=
  mkey_law (Maps.Keyed.of_law (deep_law_laid hl (m := 2) (by omega) hrow hkt (by rw [hu]))) hashV (keyOf_hash hu he hc hck hk (by omega)) (fun a b => hashV_inj) (fun a w A σ u => hash_hv a w A σ u)
end Go.Proofs.YtmbkoigeekofdaaDoor

namespace Go.Proofs.YtmbkoigeekofdaaDoor
set_option linter.all false
open Go.RowKit
/-! a node's hash, a node's row; a row's node -/
def hof_c : Ctr where
  D := Fo × Int
  args := fun (_, i) => [.ptr 0 0, .int .i64 i]
  objs := fun (l, _) => fo l
  nn := 2
  res := fun (l, i) _ => .agg [.arr8 (nd l i).hash]
  out := fun (l, _) _ => fo l
def hof_H : Cfg := ⟨[(13, node_c)], [], [], [], 15, 2, [], [], []⟩
theorem hof_ok : hof_c.Ok Tryd.prog 32 := by
  refine fn_ok hof_H 2 rfl _ Tryd.func32 rfl rfl ⟨node_ok, trivial⟩ rfl rfl (by kernel_rfl) (fun _ => Nat.le_of_ble_eq_true rfl) ?_
  rintro ⟨l, i⟩ hp hr
  try dsimp only [hof_c] at hp
  try simp only [hof_c, Rng, RngL, inR, and_true, true_and] at hr
  repeat' (first | (with_reducible refine Unf.h ?_) | ((conv => whnf); first | (refine Side.mk ?_ ?_; focus (first | with_reducible rfl | exact True.intro)) | refine RetE.mk () trivial ?_ | refine Got.mk (fun _ _ => ?_) | refine retK_r ?_ | exact rfl | refine CallS.mk (c := node_c) ((l, i)) ?_) | fail); all_goals try (conv => whnf)
def drow_c : Ctr where
  D := Fo × Int
  args := fun (_, i) => [.ptr 0 0, .int .i64 i]
  objs := fun (l, _) => fo l
  nn := 2
  res := fun (l, i) _ => .agg (eRw (rowOf l i))
  out := fun (l, _) _ => fo l
def drow_H : Cfg := ⟨[(13, node_c), (32, hof_c)], [(4, [1, 4, 8], [5, 9, 11], (.one 0 0 false (.one 1 1 false (.one 2 0 false (.one 3 0 false (.one 4 1 false (.one 6 0 false (.one 7 0 false (.one 8 1 false (.one 5 2 true (.one 9 2 true (.one 10 0 false (.one 11 2 false .nil)))))))))))), [1000000])], [], [], 31, 2, [], [], []⟩
theorem drow_ok : drow_c.Ok Tryd.prog 24 := by
  refine fn_ok drow_H 2 rfl _ Tryd.func24 rfl rfl ⟨node_ok, hof_ok, trivial⟩ rfl rfl (by kernel_rfl) (fun _ => Nat.le_of_ble_eq_true rfl) ?_
  rintro ⟨l, i⟩ hp hr
  try dsimp only [drow_c] at hp
  try simp only [drow_c, Rng, RngL, inR, and_true, true_and] at hr
  repeat' (first | (with_reducible refine Unf.h ?_) | fail); all_goals try (conv => whnf); all_goals try (exfalso; omega)
  refine CallS.mk (c := node_c) ((l, i)) ?_
  repeat' (first | (with_reducible refine Unf.h ?_) | ((conv => whnf); first | (refine Side.mk ?_ ?_; focus (first | with_reducible rfl | exact True.intro)) | refine Got.mk (fun _ _ => ?_)) | fail); all_goals try (conv => whnf); all_goals try (exfalso; omega)
  generalize hn : nd l i = n
  obtain ⟨leaf, key, value, plen, bits, left, right, hash⟩ := n
  cases leaf with
  | true =>
    have e : rowOf l i = ⟨true, key, value, 0, zeroH, zeroH, zeroH⟩ := by unfold rowOf; rw [hn]; rfl
    repeat' (first | (with_reducible refine Unf.h ?_) | ((conv => whnf); first | (refine Side.mk ?_ ?_; focus (first | with_reducible rfl | (simp only [*, e]; done))) | refine RetE.mk () trivial ?_ | refine retK_r ?_ | exact rfl) | fail); all_goals try (conv => whnf); all_goals try (exfalso; omega)
  | false =>
    have e : rowOf l i = ⟨false, zeroH, zeroH, plen, bits, (nd l left).hash, (nd l right).hash⟩ := by unfold rowOf; rw [hn]; rfl
    repeat' (first | (with_reducible refine Unf.h ?_) | fail); all_goals try (conv => whnf); all_goals try (exfalso; omega)
    refine CallS.mk (c := hof_c) ((l, left)) ?_
    repeat' (first | (with_reducible refine Unf.h ?_) | ((conv => whnf); first | (refine Side.mk ?_ ?_; focus (first | with_reducible rfl | exact True.intro)) | refine Got.mk (fun _ _ => ?_)) | fail); all_goals try (conv => whnf); all_goals try (exfalso; omega)
    refine CallS.mk (c := hof_c) ((l, right)) ?_
    repeat' (first | (with_reducible refine Unf.h ?_) | ((conv => whnf); first | (refine Side.mk ?_ ?_; focus (first | with_reducible rfl | exact True.intro | (simp only [*, e]; done))) | refine RetE.mk () trivial ?_ | refine Got.mk (fun _ _ => ?_) | refine retK_r ?_ | exact rfl) | fail); all_goals try (conv => whnf); all_goals try (exfalso; omega)
/-! the maker -/
abbrev Kn := List (H256 × Int)
abbrev eK : H256 → SV := fun h => .agg [.arr8 h]
abbrev eZ : Int → SV := fun n => .int .i64 n
abbrev mpO (kn : Kn) : SO := .mp 32 3 inferInstance eK eZ kn
/-- a maker: 0: itself; 1: the forest; 2: its nodes; 3: what is known -/
abbrev mkO (l : Fo) (kn : Kn) : List Ob := [(0, .box 82 [.ptr 1 0, .own 3]), (1, .box 71 [.own 2]), (2, .row 40 132 eNd l), (3, mpO kn)]
def knG (kn : Kn) (h : H256) : Int := (mget kn h).getD 0
def rowN (kn : Kn) (r : Rw) : Nd := if r.leaf then ⟨true, r.key, r.value, 0, zeroH, 0, 0, zeroH⟩ else ⟨false, zeroH, zeroH, r.plen, r.bits, knG kn r.left, knG kn r.right, zeroH⟩
abbrev rowK (kn : Kn) (r : Rw) : Prop := r.leaf = true ∨ ((mget kn r.left).isSome = true ∧ (mget kn r.right).isSome = true)
def mnode_c : Ctr where
  D := Fo × Kn × Rw
  args := fun (_, _, r) => [.ptr 0 0, .agg (eRw r)]
  objs := fun (l, kn, _) => mkO l kn
  nn := 4
  res := fun (_, kn, r) _ => .tup [.agg (eNd (rowN kn r)), .dec (rowK kn r) inferInstance]
  out := fun (l, kn, _) _ => mkO l kn
theorem mkeyH : MKey Tryd.prog 32 eK :=
  mkey_hash (by kernel_rfl) (by decide +kernel) (by kernel_rfl) Tryd.underlying32 Tryd.underlying5 (by kernel_rfl) (by kernel_rfl) (by kernel_rfl)
theorem zeroI : ZeroIs Tryd.prog 3 (.int .i64 0) := ⟨_, Tryd.zeroValue3, fun w A σ => by simp [SV.hv, SV.h1, SV.hc, inR]⟩
def mnode_H : Cfg := ⟨[], [(3, [3, 5], [6], (.one 0 0 false (.one 1 0 false (.one 2 0 false (.one 3 1 false (.one 4 0 false (.one 5 1 false (.one 6 2 false (.one 7 0 false (.one 8 0 false (.one 9 0 false (.one 10 0 false (.one 11 0 false .nil)))))))))))), []), (4, [3, 5], [6], (.one 0 0 false (.one 1 0 false (.one 2 0 false (.one 3 1 false (.one 4 0 false (.one 5 1 false (.one 6 2 false (.one 7 0 false (.one 8 0 false (.one 9 0 false (.one 10 0 false (.one 11 0 false .nil)))))))))))), [])], [], [], 46, 4, [], [], []⟩
theorem mnode_ok : mnode_c.Ok Tryd.prog 48 := by
  refine fn_ok mnode_H 4 rfl _ Tryd.func48 rfl rfl trivial rfl rfl (by kernel_rfl) (fun _ => Nat.le_of_ble_eq_true rfl) ?_
  rintro ⟨l, kn, r⟩ hp hr
  try dsimp only [mnode_c] at hp
  try simp only [mnode_c, Rng, RngL, inR, and_true, true_and] at hr
  have hk := mkeyH
  have hz := zeroI
  obtain ⟨leaf, key, value, plen, bits, left, right⟩ := r
  cases leaf with
  | true =>
    have e : rowN kn ⟨true, key, value, plen, bits, left, right⟩ = ⟨true, key, value, 0, zeroH, 0, 0, zeroH⟩ := rfl
    repeat' (first | (with_reducible refine Unf.h ?_) | ((conv => whnf); first | (refine Side.mk ?_ ?_; focus ((simp only [*, e]; done))) | refine RetE.mk () trivial ?_ | refine retK_r ?_) | fail); all_goals try (conv => whnf); all_goals try (exfalso; omega)
    refine Side.mk ⟨fun _ => .inl rfl, fun _ => rfl⟩ ?_
    repeat' (first | (with_reducible refine Unf.h ?_) | ((conv => whnf); first | (refine Side.mk ?_ ?_; focus (with_reducible rfl)) | exact rfl) | fail); all_goals try (conv => whnf); all_goals try (exfalso; omega)
  | false =>
    repeat' (first | (with_reducible refine Unf.h ?_) | fail); all_goals try (conv => whnf); all_goals try (exfalso; omega)
    refine LookS.mk left rfl hk _ hz ⟨rfl, fun _ => rfl⟩ (fun b1 hb1 => ?_) (fun hb1 => ?_)
    · repeat' (first | (with_reducible refine Unf.h ?_) | ((conv => whnf); (with_reducible refine Unf.h ?_)) | fail); all_goals try (conv => whnf); all_goals try (exfalso; omega)
      refine LookS.mk right rfl hk _ hz ⟨rfl, fun _ => rfl⟩ (fun b2 hb2 => ?_) (fun hb2 => ?_)
      · have e : rowN kn ⟨false, key, value, plen, bits, left, right⟩ = ⟨false, zeroH, zeroH, plen, bits, b1, b2, zeroH⟩ := by simp [rowN, knG, hb1, hb2]
        repeat' (first | (with_reducible refine Unf.h ?_) | ((conv => whnf); first | (refine Side.mk ?_ ?_; focus ((simp only [*, e]; done))) | refine RetE.mk () trivial ?_ | (with_reducible refine Unf.h ?_) | refine retK_r ?_) | fail); all_goals try (conv => whnf); all_goals try (exfalso; omega)
        refine Side.mk ⟨fun _ => .inr ⟨by rw [hb1]; rfl, by rw [hb2]; rfl⟩, fun _ => rfl⟩ ?_
        repeat' (first | (with_reducible refine Unf.h ?_) | ((conv => whnf); first | (refine Side.mk ?_ ?_; focus (with_reducible rfl)) | exact rfl) | fail); all_goals try (conv => whnf); all_goals try (exfalso; omega)
      · have e : rowN kn ⟨false, key, value, plen, bits, left, right⟩ = ⟨false, zeroH, zeroH, plen, bits, b1, 0, zeroH⟩ := by simp [rowN, knG, hb1, hb2]
        repeat' (first | (with_reducible refine Unf.h ?_) | ((conv => whnf); first | (refine Side.mk ?_ ?_; focus (first | with_reducible rfl | (simp only [*, e]; done) | (simp [*, e]; done))) | refine RetE.mk () trivial ?_ | (with_reducible refine Unf.h ?_) | refine retK_r ?_ | exact rfl) | fail); all_goals try (conv => whnf); all_goals try (exfalso; omega)
    · repeat' (first | (with_reducible refine Unf.h ?_) | ((conv => whnf); (with_reducible refine Unf.h ?_)) | fail); all_goals try (conv => whnf); all_goals try (exfalso; omega)
      refine LookS.mk right rfl hk _ hz ⟨rfl, fun _ => rfl⟩ (fun b2 hb2 => ?_) (fun hb2 => ?_)
      · have e : rowN kn ⟨false, key, value, plen, bits, left, right⟩ = ⟨false, zeroH, zeroH, plen, bits, 0, b2, zeroH⟩ := by simp [rowN, knG, hb1, hb2]
        repeat' (first | (with_reducible refine Unf.h ?_) | ((conv => whnf); first | (refine Side.mk ?_ ?_; focus (first | with_reducible rfl | (simp only [*, e]; done) | (simp [*, e]; done))) | refine RetE.mk () trivial ?_ | (with_reducible refine Unf.h ?_) | refine retK_r ?_ | exact rfl) | fail); all_goals try (conv => whnf); all_goals try (exfalso; omega)
      · have e : rowN kn ⟨false, key, value, plen, bits, left, right⟩ = ⟨false, zeroH, zeroH, plen, bits, 0, 0, zeroH⟩ := by simp [rowN, knG, hb1, hb2]
        repeat' (first | (with_reducible refine Unf.h ?_) | ((conv => whnf); first | (refine Side.mk ?_ ?_; focus (first | with_reducible rfl | (simp only [*, e]; done) | (simp [*, e]; done))) | refine RetE.mk () trivial ?_ | (with_reducible refine Unf.h ?_) | refine retK_r ?_ | exact rfl) | fail); all_goals try (conv => whnf); all_goals try (exfalso; omega)
end Go.Proofs.YtmbkoigeekofdaaDoor

namespace Go.Proofs.YtmbkoigeekofdaaDoor
set_option linter.all false
open Go.RowKit
/-! a row is added -/
abbrev rowMay (l : Fo) (kn : Kn) (r : Rw) : Prop := rowK kn r ∧ ((rowN kn r).leaf = true ∨ mayP l (rowN kn r))
def addR (l : Fo) (kn : Kn) (r : Rw) : Option (Fo × Kn) := if rowMay l kn r then some (l ++ [mk l (rowN kn r)], mput kn (mk l (rowN kn r)).hash (l.length : Int)) else none
def madd_c : Ctr where
  D := Fo × Kn × Rw
  pre := fun (l, kn, _) => l.length ≤ 1000000 ∧ kn.length ≤ 1000000
  args := fun (_, _, r) => [.ptr 0 0, .agg (eRw r)]
  objs := fun (l, kn, _) => mkO l kn
  nn := 4
  E := Option (Fo × Kn)
  post := fun (l, kn, r) e => e = addR l kn r
  res := fun (l, _, _) e => match e with
    | some _ => .tup [.int .i64 (l.length : Int), .int .i64 0]
    | none => .tup [.int .i64 0, .int .i64 9]
  out := fun (l, kn, _) e => match e with
    | some p => [(0, .box 82 [.ptr 1 0, .own 3]), (1, .box 71 [.own 4]), (4, .row 40 132 eNd p.1), (3, mpO p.2)]
    | none => mkO l kn
  mm := 1
def madd_H : Cfg := ⟨[(48, mnode_c), (49, addA_c), (49, addX_c), (32, hof_c)], [(4, [3, 4], [5], (.one 0 0 false (.one 1 0 false (.one 2 0 false (.one 3 1 false (.one 4 1 false (.one 5 2 false (.one 6 0 false (.one 7 0 false (.one 8 0 false (.one 9 0 false (.one 10 0 false .nil))))))))))), []), (7, [3, 7], [9, 11], (.one 0 0 false (.one 1 0 false (.one 2 0 false (.one 3 1 false (.one 4 0 false (.one 5 0 false (.one 6 0 false (.one 7 1 false (.one 8 0 false (.one 10 0 false (.one 9 2 true (.one 11 2 false .nil)))))))))))), [1000022])], [], [], 45, 4, [], [], []⟩
theorem madd_ok : madd_c.Ok Tryd.prog 33 := by
  refine fn_ok madd_H 4 rfl _ Tryd.func33 rfl rfl ⟨mnode_ok, addA_ok, addX_ok, hof_ok, trivial⟩ rfl rfl (by kernel_rfl) (fun _ => Nat.le_of_ble_eq_true rfl) ?_
  rintro ⟨l, kn, r⟩ ⟨hp1, hp2⟩ hr
  try dsimp only [madd_c] at hp
  try simp only [madd_c, Rng, RngL, inR, and_true, true_and] at hr
  have hk := mkeyH
  repeat' (first | (with_reducible refine Unf.h ?_) | fail); all_goals try (conv => whnf); all_goals try (exfalso; omega)
  refine CallS.mk (c := mnode_c) ((l, kn, r)) ?_
  repeat' (first | (with_reducible refine Unf.h ?_) | ((conv => whnf); first | refine Fork.mkn (fun h => ?_) (fun h => ?_) | (refine Side.mk ?_ ?_; focus (first | with_reducible rfl | exact True.intro)) | refine Got.mk (fun _ _ => ?_) | refine retK_r ?_) | fail); all_goals try (conv => whnf); all_goals try (exfalso; omega)
  · have e : addR l kn r = none := if_neg fun hh => h hh.1
    exact RetE.mk (none : Option (Fo × Kn)) e.symm (by repeat' (first | (with_reducible refine Unf.h ?_) | ((conv => whnf); first | (refine Side.mk ?_ ?_; focus (with_reducible rfl)) | (with_reducible refine Unf.h ?_) | exact rfl) | fail); all_goals try (conv => whnf); all_goals try (exfalso; omega))
  · by_cases hm : (rowN kn r).leaf = true ∨ mayP l (rowN kn r)
    · have e : addR l kn r = some (l ++ [mk l (rowN kn r)], mput kn (mk l (rowN kn r)).hash (l.length : Int)) := if_pos ⟨h, hm⟩
      have hpa : addA_c.pre (l, rowN kn r) := ⟨hp1, hm⟩
      all_goals try (conv => whnf); all_goals try (exfalso; omega)
      have hl2 := nd_last l (mk l (rowN kn r))
      refine Or2.l (CallS.mk (c := addA_c) ((l, rowN kn r)) ?_)
      repeat' (first | (with_reducible refine Unf.h ?_) | ((conv => whnf); first | refine Fork.mk (fun h => ?_) (fun h => ?_) | (refine Side.mk ?_ ?_; focus (first | with_reducible rfl | assumption)) | refine Got.mk (fun _ _ => ?_)) | fail); all_goals try (conv => whnf); all_goals try (exfalso; omega)
      · refine CallS.mk (c := hof_c) ((l ++ [mk l (rowN kn r)], (l.length : Int))) ?_
        repeat' (first | (with_reducible refine Unf.h ?_) | ((conv => whnf); first | (refine Side.mk ?_ ?_; focus (first | with_reducible rfl | exact True.intro)) | refine Got.mk (fun _ _ => ?_)) | fail); all_goals try (conv => whnf); all_goals try (exfalso; omega)
        refine UpdS.mk _ rfl _ rfl hk (by omega) ?_
        rw [hl2]
        repeat' (first | (with_reducible refine Unf.h ?_) | ((conv => whnf); first | (with_reducible refine Unf.h ?_) | refine retK_r ?_) | fail); all_goals try (conv => whnf); all_goals try (exfalso; omega)
        exact RetE.mk (some (l ++ [mk l (rowN kn r)], mput kn (mk l (rowN kn r)).hash (l.length : Int))) e.symm (by repeat' (first | (with_reducible refine Unf.h ?_) | ((conv => whnf); first | (refine Side.mk ?_ ?_; focus (with_reducible rfl)) | (with_reducible refine Unf.h ?_) | exact rfl) | fail); all_goals try (conv => whnf); all_goals try (exfalso; omega))
      all_goals exact absurd rfl h
    · have e : addR l kn r = none := if_neg fun hh => hm hh.2
      have hpx : addX_c.pre (l, rowN kn r) := ⟨by cases hl : (rowN kn r).leaf with | false => rfl | true => exact absurd (.inl hl) hm, fun x => hm (.inr x)⟩
      all_goals try (conv => whnf); all_goals try (exfalso; omega)
      refine Or2.r (CallS.mk (c := addX_c) ((l, rowN kn r)) ?_)
      repeat' (first | (with_reducible refine Unf.h ?_) | ((conv => whnf); first | refine Fork.mk (fun h => ?_) (fun h => ?_) | (refine Side.mk ?_ ?_; focus (first | with_reducible rfl | assumption)) | refine Got.mk (fun _ _ => ?_) | refine retK_r ?_) | fail); all_goals try (conv => whnf); all_goals try (exfalso; omega)
      exact RetE.mk (none : Option (Fo × Kn)) e.symm (by repeat' (first | (with_reducible refine Unf.h ?_) | ((conv => whnf); first | (refine Side.mk ?_ ?_; focus (with_reducible rfl)) | (with_reducible refine Unf.h ?_) | exact rfl) | fail); all_goals try (conv => whnf); all_goals try (exfalso; omega))
end Go.Proofs.YtmbkoigeekofdaaDoor

/- slices.Sort at ints: the shelf's contract laid at this seat (printed by tools/shelf.py) -/
namespace Go.Proofs.YtmbkoigeekofdaaDoor
set_option linter.all false
open Go.Shelf Go.RowKit Go.Sort
def lays189_ren : Go.Shelf.Ren := ⟨fun | 189 => 23 | 125 => 42 | 257 => 41 | 128 => 69 | 129 => 70 | 294 => 60 | 295 => 61 | 296 => 62 | 297 => 63 | 298 => 64 | 299 => 65 | 216 => 66 | 300 => 67 | 301 => 68 | 328 => 81 | 329 => 82 | 330 => 83 | 331 => 84 | 332 => 85 | 215 => 86 | 343 => 93 | n => n, fun | 28 => 63 | 3 => 3 | 46 => 78 | 0 => 0 | 51 => 72 | 53 => 100 | 4 => 4 | 183 => 119 | 182 => 118 | 131 => 124 | 5 => 5 | 9 => 9 | 218 => 137 | 222 => 141 | 228 => 149 | 229 => 150 | n => n, fun | n => n⟩
theorem lays189 : Go.Proofs.Lays.n189 Tryd.prog lays189_ren := {
  mixed := by kernel_rfl
  f125 := Tryd.func42.trans (congrArg some (by kernel_rfl))
  f128 := Tryd.func69.trans (congrArg some (by kernel_rfl))
  f129 := Tryd.func70.trans (congrArg some (by kernel_rfl))
  f189 := Tryd.func23.trans (congrArg some (by kernel_rfl))
  f215 := Tryd.func86.trans (congrArg some (by kernel_rfl))
  f216 := Tryd.func66.trans (congrArg some (by kernel_rfl))
  f257 := Tryd.func41.trans (congrArg some (by kernel_rfl))
  f294 := Tryd.func60.trans (congrArg some (by kernel_rfl))
  f295 := Tryd.func61.trans (congrArg some (by kernel_rfl))
  f296 := Tryd.func62.trans (congrArg some (by kernel_rfl))
  f297 := Tryd.func63.trans (congrArg some (by kernel_rfl))
  f298 := Tryd.func64.trans (congrArg some (by kernel_rfl))
  f299 := Tryd.func65.trans (congrArg some (by kernel_rfl))
  f300 := Tryd.func67.trans (congrArg some (by kernel_rfl))
  f301 := Tryd.func68.trans (congrArg some (by kernel_rfl))
  f328 := Tryd.func81.trans (congrArg some (by kernel_rfl))
  f329 := Tryd.func82.trans (congrArg some (by kernel_rfl))
  f330 := Tryd.func83.trans (congrArg some (by kernel_rfl))
  f331 := Tryd.func84.trans (congrArg some (by kernel_rfl))
  f332 := Tryd.func85.trans (congrArg some (by kernel_rfl))
  f343 := Tryd.func93.trans (congrArg some (by kernel_rfl))
  t0 := Tryd.underlying0
  a0 := Tryd.isAgg0
  z0 := Tryd.sizeOf0
  v0 := Tryd.zeroValue0
  t3 := Tryd.underlying3
  a3 := Tryd.isAgg3
  z3 := Tryd.sizeOf3
  v3 := Tryd.zeroValue3
  t4 := Tryd.underlying4
  a4 := Tryd.isAgg4
  z4 := Tryd.sizeOf4
  v4 := Tryd.zeroValue4
  t5 := Tryd.underlying5
  a5 := Tryd.isAgg5
  z5 := Tryd.sizeOf5
  v5 := Tryd.zeroValue5
  t9 := Tryd.underlying9
  a9 := Tryd.isAgg9
  z9 := Tryd.sizeOf9
  v9 := Tryd.zeroValue9
  t28 := Tryd.underlying63
  a28 := Tryd.isAgg63
  z28 := Tryd.sizeOf63
  v28 := Tryd.zeroValue63
  t46 := Tryd.underlying78
  a46 := Tryd.isAgg78
  z46 := Tryd.sizeOf78
  v46 := Tryd.zeroValue78
  t51 := Tryd.underlying72
  a51 := Tryd.isAgg72
  z51 := Tryd.sizeOf72
  v51 := Tryd.zeroValue72
  t53 := Tryd.underlying100
  a53 := Tryd.isAgg100
  z53 := Tryd.sizeOf100
  v53 := Tryd.zeroValue100
  t131 := Tryd.underlying124
  a131 := Tryd.isAgg124
  z131 := Tryd.sizeOf124
  v131 := Tryd.zeroValue124
  t182 := Tryd.underlying118
  a182 := Tryd.isAgg118
  z182 := Tryd.sizeOf118
  v182 := Tryd.zeroValue118
  t183 := Tryd.underlying119
  a183 := Tryd.isAgg119
  z183 := Tryd.sizeOf119
  v183 := Tryd.zeroValue119
  t218 := Tryd.underlying137
  a218 := Tryd.isAgg137
  z218 := Tryd.sizeOf137
  v218 := Tryd.zeroValue137
  t222 := Tryd.underlying141
  a222 := Tryd.isAgg141
  z222 := Tryd.sizeOf141
  v222 := Tryd.zeroValue141
  t228 := Tryd.underlying149
  a228 := Tryd.isAgg149
  z228 := Tryd.sizeOf149
  v228 := Tryd.zeroValue149
  t229 := Tryd.underlying150
  a229 := Tryd.isAgg150
  z229 := Tryd.sizeOf150
  v229 := Tryd.zeroValue150 }


/-! slices.Sort at ints -/
theorem hE_ints {w : World} {A : Own} : ∀ {l : List Int} {cs : List Value}, hE w A sg0 (l.map eI) cs → cs = l.map (Value.int .i64)
  | [], cs, h => by simp only [List.map_nil, hE] at h; subst h; rfl
  | b :: r, cs, h => by
    simp only [List.map_cons, hE] at h
    obtain ⟨c, rest, rfl, h1, h2⟩ := h
    rw [hL.single] at h1
    simp only [SV.hc] at h1
    obtain ⟨rfl, _⟩ := h1
    rw [hE_ints h2]; rfl
theorem hE_rng {w : World} {A : Own} : ∀ {l : List Int} {cs : List Value}, hE w A sg0 (l.map eI) cs → ∀ i ∈ l, inR i
  | [], cs, h => fun i hi => absurd hi (by simp)
  | b :: r, cs, h => by
    simp only [List.map_cons, hE] at h
    obtain ⟨c, rest, rfl, h1, h2⟩ := h
    rw [hL.single] at h1
    simp only [SV.hc] at h1
    obtain ⟨_, hb⟩ := h1
    intro i hi
    rcases List.mem_cons.1 hi with rfl | hi
    · exact hb trivial
    · exact hE_rng h2 i hi
theorem hE_of_ints {w : World} {A : Own} : ∀ {l : List Int}, (∀ i ∈ l, inR i) → hE w A sg0 (l.map eI) (l.map (Value.int .i64))
  | [], h => rfl
  | b :: r, h => by
    simp only [List.map_cons, hE]
    exact ⟨[_], _, rfl, by rw [hL.single]; exact ⟨rfl, fun _ => h b (by simp)⟩, hE_of_ints fun i hi => h i (by simp [hi])⟩
def srt_c : Ctr where
  D := List Int
  pre := fun l => l.length ≤ 1000000
  args := fun _ => [.own 0]
  objs := fun l => [(0, .row 3 1 eI l)]
  nn := 1
  res := fun _ _ => .tup []
  out := fun l _ => [(0, .row 3 1 eI (srtI l))]
theorem srt_ok : srt_c.Ok Tryd.prog 23 := by
  intro (l : List Int) hp A0 w σ vs hA hobs hargs hdom hgl
  obtain ⟨p, m1, rfl, h1, h3⟩ := hargs
  simp only [hvs] at h3; subst h3
  obtain ⟨v, cs, r1, r2, r3, r4, r5⟩ := hobs.holds _ (List.mem_cons_self ..)
  obtain rfl : p = v := by
    simp only [SV.h1, SV.hc, List.cons.injEq, and_true] at h1
    obtain ⟨u, e1, _, e2⟩ := h1
    dsimp only at r1
    rw [r1] at e1; cases e1
    exact e2
  obtain rfl := hE_ints r4
  have hr := hE_rng r4
  rw [List.length_map] at r5
  have hsl : (srtI l).length = l.length := srtI_len l
  have fin : ∀ w', Mod (fun b => owns σ (srt_c.objs l) b) w w' → w'.ownsRow 0 3 1 p (srtI l).length ((srtI l).map (Value.int .i64)) → ∃ (e' : Unit) (v : Value) (σ' : Sg), Ending.returned (Value.tuple #[]) = .returned v ∧ srt_c.post l e' ∧ (∀ k, k < srt_c.nn → ∀ v, σ' k = some v → σ k = some v) ∧ (∀ k, srt_c.nn + srt_c.mm ≤ k → σ' k = none) ∧ (srt_c.res l e').hv w' (Av A0 σ' (srt_c.out l e')) σ' v ∧ Mod (fun b => srt_c.kp = false ∧ owns σ (srt_c.objs l) b) w w' ∧ Obs σ' A0 (srt_c.out l e') w' ∧
    (∀ b, owns σ' (srt_c.out l e') b → owns σ (srt_c.objs l) b ∨ w.heap.size ≤ b) := by
    intro w' hm ho
    have hown : ∀ b, owns σ (srt_c.out l ()) b ↔ owns σ (srt_c.objs l) b := fun b => Iff.rfl
    refine ⟨(), _, σ, rfl, trivial, fun _ _ _ h => h, fun k hk => hdom k hk, ⟨[], rfl, rfl⟩, hm.mono fun b hb => ⟨rfl, hb⟩, ⟨fun o ho' => ?_, hobs.disj, fun b hb => ⟨Nat.lt_of_lt_of_le (hobs.lt b hb).1 hm.size, (hobs.lt b hb).2⟩⟩, fun c hc => .inl hc⟩
    obtain rfl := List.mem_singleton.1 ho'
    refine ⟨p, _, r1, ?_, ?_, hE_of_ints (fun i hi => hr i (srtI_mem.1 hi)), by rw [List.length_map]; exact ho⟩
    · intro e he
      obtain ⟨i, _, rfl⟩ := List.mem_map.1 he
      rfl
    · rw [List.length_map, hsl]; rw [List.length_map] at r3; exact r3
  rcases r5.2 with ⟨rfl, hz⟩ | ⟨g, cap, cur, rfl, hbg, hg, hnc, hcm, hcs, htake⟩
  · obtain rfl := List.eq_nil_of_length_eq_zero hz
    refine (Any.slices_Sort_int_none lays189 none 0 w).mono ?_
    rintro e w' ⟨rfl, rfl⟩
    exact fin _ (Mod.refl _ _) (by rw [show srtI [] = [] from List.mergeSort_nil]; exact r5)
  · have hgl : g < w.heap.size := (Array.getElem?_eq_some_iff.1 hg).1
    refine (Any.slices_Sort_int lays189 g 0 cap l w (holds_of_blockI hg (by rw [Nat.mul_one] at htake; exact htake)) hgl (by have : l.length ≤ 1000000 := hp; omega)).mono ?_
    rintro e w' ⟨rfl, n, os, rfl⟩
    refine fin _ ((Mod.grown (grownBy_sortedI (n := n) (os := os) (srtI l).toArray)).mono fun b hb => ?_) ?_
    · cases hb
      exact .inl ⟨_, r1, rfl⟩
    · have := ownsRow_sortedI (w := w) (base := 0) (n := n) (os := os) (ss := l) (ts := srtI l) hsl hbg hg hnc hcm hcs
      rw [hsl]
      exact this
end Go.Proofs.YtmbkoigeekofdaaDoor

namespace Go.Proofs.YtmbkoigeekofdaaDoor
set_option linter.all false
open Go.RowKit
/-! who asks for the numbers from a size on -/
def sin1_c (sz : Int) : Ctr where
  D := Int
  args := fun i => [.int .i64 i, .ptr 0 0]
  objs := fun _ => [(0, .box 3 [.int .i64 sz])]
  nn := 1
  res := fun i _ => .dec (sz ≤ i) inferInstance
  out := fun _ _ => [(0, .box 3 [.int .i64 sz])]
def sin1_H : Cfg := ⟨[], [], [], [], 7, 1, [], [], []⟩
theorem sin1_ok (sz : Int): (sin1_c sz).Ok Tryd.prog 22 := by
  refine fn_ok sin1_H 1 rfl _ Tryd.func22 rfl rfl trivial rfl rfl (by kernel_rfl) (fun _ => Nat.le_of_ble_eq_true rfl) ?_
  intro (i : Int) hp hr
  try dsimp only [sin1_c] at hp
  try simp only [sin1_c, Rng, RngL, inR, and_true, true_and] at hr
  repeat' (first | (with_reducible refine Unf.h ?_) | ((conv => whnf); first | (refine Side.mk ?_ ?_; focus (with_reducible rfl)) | refine RetE.mk () trivial ?_ | refine retK_r ?_ | exact rfl) | fail); all_goals try (conv => whnf); all_goals try (exfalso; omega)
theorem sin1_by (sz : Int) (τ : Sg) (v : Value) : (want_c (fun i => decide (sz ≤ i)) (packAO τ [(0, .box 3 [.int .i64 sz])] (cloQ 22 1 τ v))).OkBy Tryd.prog (CallsF Tryd.prog v) := by
  intro (i : Int) _ A0 w σ vs hA hobs hargs hdom hgl
  obtain ⟨p, m1, rfl, h1, h3⟩ := hargs
  simp only [hvs] at h3; subst h3
  obtain ⟨⟨lb, hlen, hlb, hptr, hv, hd⟩, hob⟩ := hobs.unpack
  refine ⟨22, lb.toArray, hv, by kernel_rfl, ?_⟩
  have hA' : Later w (Av A0 σ (want_c (fun i => decide (sz ≤ i)) (packAO τ [(0, .box 3 [.int .i64 sz])] (cloQ 22 1 τ v)) |>.objs i)) w (Av A0 τ [(0, .box 3 [.int .i64 sz])]) := Later.own fun b hb => hb.imp id (pack_owns b).2
  have hpt : hvs w (Av A0 τ [(0, .box 3 [.int .i64 sz])]) τ (ptrsF 0 lb.length) lb := ptrs_hvs (fun j hj => by rw [Nat.zero_add]; exact hlb j (by omega)) hptr
  rw [hlen] at hpt
  have hc := sin1_ok sz i trivial A0 w τ (p :: lb) hA hob ⟨p, lb, rfl, h1, hpt⟩ hd (hgl.later hA')
  rw [show (p :: lb).toArray = #[p] ++ lb.toArray by simp] at hc
  refine hc.mono ?_
  rintro e w' ⟨e', u, σ', rfl, _, s1, s2, r1, m, ob, ow⟩
  obtain rfl : σ' = τ := by
    funext k
    cases k with
    | zero =>
      obtain ⟨b, cs, h, _⟩ := ob.holds _ (List.mem_cons_self ..)
      dsimp only at h
      rw [h]; exact (s1 0 Nat.zero_lt_one _ h).symm
    | succ k => rw [s2 (k + 1) (by show 1 + 0 ≤ k + 1; omega), hd (k + 1) (by show 1 ≤ k + 1; omega)]
  refine ⟨(), u, σ, rfl, trivial, fun _ _ _ h => h, fun k hk => hdom k hk, hvB.2 (hvD.1 r1), m.mono fun b hb => ⟨rfl, (pack_owns b).2 hb.2⟩, ob.pack ⟨lb, hlen, hlb, hptr, hv, hd⟩, fun c hc => ?_⟩
  exact (ow c ((pack_owns c).1 hc)).imp (pack_owns c).2 id
end Go.Proofs.YtmbkoigeekofdaaDoor

namespace Go.Proofs.YtmbkoigeekofdaaDoor
set_option linter.all false
open Go.RowKit
/-! the rows from a size on -/
def sinceL (l : Fo) (t : Int) (o : Option PT) (sz : Int) : List Rw := (srtI (ordsO l (fun i => decide (sz ≤ i)) o t)).map (rowOf l)
theorem treeAt_isT {l : Fo} {t : Int} {o : Option PT} (h : treeAt l t o) : isT l t := by
  cases o with
  | none => exact ⟨by rw [show t = -1 from h]; omega, by rw [show t = -1 from h]; omega⟩
  | some T => have := den_in (show den l t T from h); exact ⟨by have := this.1; omega, by have := this.2; omega⟩
def since_c : Ctr where
  D := Fo × Int × Option PT × Int
  pre := fun (l, t, o, sz) => treeAt l t o ∧ (listO o).length ≤ 100000 ∧ 0 ≤ sz
  args := fun (_, t, _, sz) => [.ptr 0 0, .int .i64 t, .int .i64 sz]
  objs := fun (l, _) => fo l
  nn := 2
  res := fun _ _ => .tup [.own 2, .int .i64 0]
  out := fun (l, t, o, sz) _ => fo l ++ [(2, .row 38 162 eRw (sinceL l t o sz))]
  mm := 1
def since_H : Cfg := ⟨[(9, root_c), (9, rootX_c), (21, numsV_c), (23, srt_c), (24, drow_c)], [], [], [], 46, 2, [], [], []⟩
theorem since_ok : since_c.Ok Tryd.prog 8 := by
  refine fn_ok since_H 2 rfl _ Tryd.func8 rfl rfl ⟨root_ok, rootX_ok, numsV_ok, srt_ok, drow_ok, trivial⟩ rfl rfl (by kernel_rfl) (fun _ => Nat.le_of_ble_eq_true rfl) ?_
  rintro ⟨l, t, o, sz⟩ hp hr
  try dsimp only [since_c] at hp
  try simp only [since_c, Rng, RngL, inR, and_true, true_and] at hr
  obtain ⟨ht, hlen, hsz⟩ := hp
  have hpr := treeAt_isT ht
  repeat' (first | (with_reducible refine Unf.h ?_) | fail); all_goals try (conv => whnf); all_goals try (exfalso; omega)
  refine Or2.l (CallS.mk (c := root_c) ((l, t)) ?_)
  repeat' (first | (with_reducible refine Unf.h ?_) | ((conv => whnf); first | refine Fork.mkn (fun h => ?_) (fun h => ?_) | refine Fork.mk (fun h => ?_) (fun h => ?_) | (refine Side.mk ?_ ?_; focus (first | with_reducible rfl | assumption)) | refine Got.mk (fun _ _ => ?_)) | fail); all_goals try (conv => whnf); all_goals try (exfalso; omega)
  refine ValS.mk (OpsK.mkFn1 rfl rfl (by decide) rfl rfl rfl rfl ?_)
  intro v τ
  have hby := sin1_by sz τ v
  generalize hJ : packAO τ [(0, SO.box 3 [.int .i64 sz])] (cloQ 22 1 τ v) = J at hby
  repeat' (first | (with_reducible refine Unf.h ?_) | fail); all_goals try (conv => whnf); all_goals try (exfalso; omega)
  clear hJ
  have hpn : numsV_c.pre (l, t, o, (fun i => decide (sz ≤ i)), J, v) := ⟨ht, hlen, hby⟩
  have hol : (ordsO l (fun i => decide (sz ≤ i)) o t).length ≤ 200000 := by
    cases o with
    | none => exact Nat.zero_le _
    | some T =>
      have h1 := ords_len (l := l) (wn := fun i => decide (sz ≤ i)) T t
      have h2 : szT T = 2 * T.list.length - 1 := rfl
      have h3 : T.list.length ≤ 100000 := hlen
      show (ords l (fun i => decide (sz ≤ i)) T t).length ≤ 200000
      omega
  refine CallS.mk (c := numsV_c) ((l, t, o, (fun i => decide (sz ≤ i)), J, v)) ?_
  repeat' (first | (with_reducible refine Unf.h ?_) | ((conv => whnf); first | (refine Side.mk ?_ ?_; focus (first | with_reducible rfl | assumption)) | refine Got.mk (fun _ _ => ?_)) | fail); all_goals try (conv => whnf); all_goals try (exfalso; omega)
  have hps : srt_c.pre (ordsO l (fun i => decide (sz ≤ i)) o t) := show _ ≤ 1000000 by omega
  refine CallS.mk (c := srt_c) ((ordsO l (fun i => decide (sz ≤ i)) o t)) ?_
  repeat' (first | (with_reducible refine Unf.h ?_) | ((conv => whnf); first | (refine Side.mk ?_ ?_; focus (first | with_reducible rfl | assumption)) | refine Got.mk (fun _ _ => ?_)) | fail); all_goals try (conv => whnf); all_goals try (exfalso; omega)
  have hsl := srtI_len (ordsO l (fun i => decide (sz ≤ i)) o t)
  have hS : sinceL l t o sz = (srtI (ordsO l (fun i => decide (sz ≤ i)) o t)).map (rowOf l) := rfl
  generalize hq : srtI (ordsO l (fun i => decide (sz ≤ i)) o t) = s at *
  refine LoopS.mk (I := List Rw) (fun rs => rs.length ≤ s.length ∧ (s.map (rowOf l)).take rs.length = rs) (fun rs => [(34, .int .i64 (rs.length : Int)), (11, .own 3), (32, .own 2), (33, .int .i64 (s.length : Int)), (0, .ptr 0 0)]) (fun rs => fo l ++ [(2, .row 3 1 eI s), (3, .row 38 162 eRw rs)]) 4 (fun rs => s.length - rs.length) [] ⟨Nat.zero_le _, rfl⟩ ?_ ?_
  · repeat' (first | (with_reducible refine Unf.h ?_) | ((conv => whnf); first | (refine Side.mk ?_ ?_; focus (first | with_reducible rfl | (refine congrArg (SV.int _) ?_; omega))) | (with_reducible refine Unf.h ?_) | exact True.intro) | fail); all_goals try (conv => whnf); all_goals try (exfalso; omega)
  · rintro rs ⟨hi, he⟩
    repeat' (first | (with_reducible refine Unf.h ?_) | ((conv => whnf); first | refine Fork.mk (fun h => ?_) (fun h => ?_) | (refine Side.mk ?_ ?_; focus (first | with_reducible rfl | omega)) | (refine Idx.mk ?_ ?_; focus (omega)) | refine RetE.mk () trivial ?_ | refine retK_r ?_) | fail); all_goals try (conv => whnf); all_goals try (exfalso; omega)
    · have h0 : rs.length < s.length := by omega
      refine CallS.mk (c := drow_c) ((l, s[((rs.length : Nat) : Int).toNat]'h0)) ?_
      repeat' (first | (with_reducible first | refine Unf.h ?_ | refine loopK_n ?_) | ((conv => whnf); first | (refine Side.mk ?_ ?_; focus (first | with_reducible rfl | exact True.intro | (intros; (try simp only [lenS, inR, cutS, loI, hiI] at *); omega))) | refine Got.mk (fun _ _ => ?_) | refine Ex.mk [_] rfl ?_) | fail); all_goals try (conv => whnf); all_goals try (exfalso; omega)
      refine ⟨rs ++ [rowOf l (s[rs.length]'h0)], ⟨by rw [List.length_append]; simp; omega, by rw [List.length_append]; simp; omega, ?_⟩, ?_⟩
      · rw [List.length_append, List.length_singleton, List.take_succ_eq_append_getElem (by rw [List.length_map]; exact h0), List.getElem_map, he]
      · have e : ((rs.length : Nat) : Int) + 1 = (((rs ++ [rowOf l (s[rs.length]'h0)]).length : Nat) : Int) := by simp
        repeat' (first | (with_reducible refine Unf.h ?_) | ((conv => whnf); first | (refine Side.mk ?_ ?_; focus (first | with_reducible rfl | (refine congrArg (SV.int _) ?_; omega) | (simp [*, e]; done))) | (with_reducible refine Unf.h ?_) | exact True.intro) | fail); all_goals try (conv => whnf); all_goals try (exfalso; omega)
    · have e : rs = sinceL l t o sz := by
        rw [hS, ← he, List.take_of_length_le (by rw [List.length_map]; omega)]
      repeat' (first | (with_reducible refine Unf.h ?_) | ((conv => whnf); first | (refine Side.mk ?_ ?_; focus ((simp only [*, e]; done))) | exact rfl) | fail); all_goals try (conv => whnf); all_goals try (exfalso; omega)
end Go.Proofs.YtmbkoigeekofdaaDoor

namespace Go.Proofs.YtmbkoigeekofdaaDoor
set_option linter.all false
open Go.RowKit
/-! no rows where there is no tree -/
def sinceX_c : Ctr where
  D := Fo × Int × Int
  pre := fun (l, t, sz) => isT l t → sz < 0
  args := fun (_, t, sz) => [.ptr 0 0, .int .i64 t, .int .i64 sz]
  objs := fun (l, _) => fo l
  nn := 2
  res := fun _ _ => .tup [.nils, .int .i64 1]
  out := fun (l, _) _ => fo l
def sinceX_H : Cfg := ⟨[(9, root_c), (9, rootX_c), (21, numsV_c), (23, srt_c), (24, drow_c)], [], [], [], 46, 2, [], [], []⟩
theorem sinceX_ok : sinceX_c.Ok Tryd.prog 8 := by
  refine fn_ok sinceX_H 2 rfl _ Tryd.func8 rfl rfl ⟨root_ok, rootX_ok, numsV_ok, srt_ok, drow_ok, trivial⟩ rfl rfl (by kernel_rfl) (fun _ => Nat.le_of_ble_eq_true rfl) ?_
  rintro ⟨l, t, sz⟩ hp hr
  try dsimp only [sinceX_c] at hp
  try simp only [sinceX_c, Rng, RngL, inR, and_true, true_and] at hr
  by_cases ht : isT l t
  · have hsz := hp ht
    repeat' (first | (with_reducible refine Unf.h ?_) | fail); all_goals try (conv => whnf); all_goals try (exfalso; omega)
    refine Or2.l (CallS.mk (c := root_c) ((l, t)) ?_)
    repeat' (first | (with_reducible refine Unf.h ?_) | ((conv => whnf); first | refine Fork.mkn (fun h => ?_) (fun h => ?_) | refine Fork.mk (fun h => ?_) (fun h => ?_) | (refine Side.mk ?_ ?_; focus (first | with_reducible rfl | assumption)) | refine RetE.mk () trivial ?_ | refine Got.mk (fun _ _ => ?_) | refine retK_r ?_ | exact rfl) | fail); all_goals try (conv => whnf); all_goals try (exfalso; omega)
  · repeat' (first | (with_reducible refine Unf.h ?_) | fail); all_goals try (conv => whnf); all_goals try (exfalso; omega)
    refine Or2.r (CallS.mk (c := rootX_c) ((l, t)) ?_)
    repeat' (first | (with_reducible refine Unf.h ?_) | ((conv => whnf); first | refine Fork.mkn (fun h => ?_) (fun h => ?_) | (refine Side.mk ?_ ?_; focus (first | with_reducible rfl | assumption)) | refine RetE.mk () trivial ?_ | refine Got.mk (fun _ _ => ?_) | refine retK_r ?_ | exact rfl) | fail); all_goals try (conv => whnf); all_goals try (exfalso; omega)
def sinceN_c : Ctr where
  D := Int × Int
  args := fun (t, sz) => [.nilp, .int .i64 t, .int .i64 sz]
  res := fun _ _ => .tup [.nils, .int .i64 1]
def sinceN_H : Cfg := ⟨[(9, rootN_c), (21, numsV_c), (23, srt_c), (24, drow_c)], [], [], [], 46, 0, [], [], []⟩
theorem sinceN_ok : sinceN_c.Ok Tryd.prog 8 := by
  refine fn_ok sinceN_H 0 rfl _ Tryd.func8 rfl rfl ⟨rootN_ok, numsV_ok, srt_ok, drow_ok, trivial⟩ rfl rfl (by kernel_rfl) (fun _ => Nat.le_of_ble_eq_true rfl) ?_
  rintro ⟨t, sz⟩ hp hr
  try dsimp only [sinceN_c] at hp
  try simp only [sinceN_c, Rng, RngL, inR, and_true, true_and] at hr
  repeat' (first | (with_reducible refine Unf.h ?_) | fail); all_goals try (conv => whnf); all_goals try (exfalso; omega)
  refine CallS.mk (c := rootN_c) (t) ?_
  repeat' (first | (with_reducible refine Unf.h ?_) | ((conv => whnf); first | refine Fork.mkn (fun h => ?_) (fun h => ?_) | (refine Side.mk ?_ ?_; focus (first | with_reducible rfl | exact True.intro)) | refine RetE.mk () trivial ?_ | refine Got.mk (fun _ _ => ?_) | refine retK_r ?_ | exact rfl) | fail); all_goals try (conv => whnf); all_goals try (exfalso; omega)
def ap1_H : Cfg := ⟨[], [], [], [], 3, 0, [], [], []⟩
theorem ap1_ok : (wantF_c fun _ => true).Ok Tryd.prog 31 := by
  refine fn_ok ap1_H 0 rfl _ Tryd.func31 rfl rfl trivial rfl rfl (by kernel_rfl) (fun _ => Nat.le_of_ble_eq_true rfl) ?_
  intro (i : Int) hp hr
  try dsimp only [wantF_c] at hp
  try simp only [wantF_c, Rng, RngL, inR, and_true, true_and] at hr
  repeat' (first | (with_reducible refine Unf.h ?_) | ((conv => whnf); first | (refine Side.mk ?_ ?_; focus (with_reducible rfl)) | refine RetE.mk () trivial ?_ | refine retK_r ?_ | exact rfl) | fail); all_goals try (conv => whnf); all_goals try (exfalso; omega)
theorem okBy_fn {c : Ctr} {g : Nat} (h : c.Ok Tryd.prog g) (hc : nth (TabC.cl Tryd.prog) g = some true) : c.OkBy Tryd.prog (CallsF Tryd.prog (.func (.func g) #[] #[])) := fun d hp A0 w σ vs h1 h2 h3 h4 h5 => by
  refine ⟨g, #[], rfl, hc, ?_⟩
  rw [show vs.toArray ++ (#[] : Array Value) = vs.toArray by simp]
  exact h d hp A0 w σ vs h1 h2 h3 h4 h5
theorem ap1_by : (wantF_c fun _ => true).OkBy Tryd.prog (CallsF Tryd.prog (.func (.func 31) #[] #[])) := okBy_fn ap1_ok (by kernel_rfl)
end Go.Proofs.YtmbkoigeekofdaaDoor

namespace Go.Proofs.YtmbkoigeekofdaaDoor
set_option linter.all false
open Go.RowKit
/-! awake; a tree and what came later -/
def awake13_c : Ctr where
  D := Unit
  args := fun _ => []
  res := fun _ _ => .bool true
theorem since_all {l : Fo} {t : Int} {k v : H256} (h : den l t (.leaf k v)) : sinceL l t (some (.leaf k v)) 0 = [⟨true, k, v, 0, zeroH, zeroH, zeroH⟩] := by
  have h0 : (0 : Int) ≤ t := (den_in h).1
  have e1 : ords l (fun i => decide ((0 : Int) ≤ i)) (.leaf k v) t = [t] := ords_leaf (wn := fun i => decide ((0 : Int) ≤ i)) (decide_eq_true h0)
  unfold sinceL
  rw [show ordsO l (fun i => decide ((0 : Int) ≤ i)) (some (.leaf k v)) t = [t] from e1, show srtI [t] = [t] from List.mergeSort_singleton _, List.map_singleton]
  unfold rowOf
  rw [h.2]; rfl
def awake13_H : Cfg := ⟨[(14, built_c), (8, since_c)], [], [], [], 31, 0, [], [], []⟩
theorem awake13_ok : awake13_c.Ok Tryd.prog 6 := by
  refine fn_ok awake13_H 0 rfl _ Tryd.func6 rfl rfl ⟨built_ok, since_ok, trivial⟩ rfl rfl (by kernel_rfl) (fun _ => Nat.le_of_ble_eq_true rfl) ?_
  intro (_ : Unit) hp hr
  try dsimp only [awake13_c] at hp
  try simp only [awake13_c, Rng, RngL, inR, and_true, true_and] at hr
  have hpb : built_c.pre [(key1, zeroH)] := show 1 ≤ 25 by decide
  have ht := (builtOk [(key1, zeroH)]).tree
  repeat' (first | (with_reducible refine Unf.h ?_) | fail); all_goals try (conv => whnf); all_goals try (exfalso; omega)
  refine CallS.mk (c := built_c) ([(key1, zeroH)]) ?_
  repeat' (first | (with_reducible refine Unf.h ?_) | fail); all_goals try (conv => whnf); all_goals try (exfalso; omega)
  refine Side.mk rfl ?_
  repeat' (first | (with_reducible refine Unf.h ?_) | ((conv => whnf); first | (refine Side.mk ?_ ?_; focus (assumption)) | refine Got.mk (fun _ _ => ?_) | (with_reducible refine Unf.h ?_)) | fail); all_goals try (conv => whnf); all_goals try (exfalso; omega)
  generalize (builtF [(key1, zeroH)]).1 = l at *
  generalize (builtF [(key1, zeroH)]).2 = t at *
  have e0 : treesF [(key1, zeroH)] = some (.leaf key1 zeroH) := rfl
  rw [e0] at ht
  have hps : since_c.pre (l, t, some (.leaf key1 zeroH), 0) := ⟨ht, by decide, by decide⟩
  have e1 := since_all (show den l t (.leaf key1 zeroH) from ht)
  refine CallS.mk (c := since_c) ((l, t, some (.leaf key1 zeroH), 0)) ?_
  repeat' (first | (with_reducible refine Unf.h ?_) | ((conv => whnf); first | refine Fork.mk (fun h => ?_) (fun h => ?_) | (refine Side.mk ?_ ?_; focus (first | with_reducible rfl | assumption | omega | (intros; (try simp only [lenS, inR, cutS, loI, hiI, e1] at *); omega) | (simp [*, e1]; done))) | (refine Idx.mk ?_ ?_; focus (omega)) | refine RetE.mk () trivial ?_ | refine Got.mk (fun _ _ => ?_) | refine retK_r ?_ | exact rfl) | fail); all_goals try (conv => whnf); all_goals try (exfalso; omega)
/-- a tree; the forest's size then; the tree after what came later -/
def later_c : Ctr where
  D := List KV × List KV
  pre := fun (ps, qs) => ps.length + qs.length ≤ 25
  args := fun (ps, qs) => [.fs 64 eKV ps, .fs 64 eKV qs]
  res := fun (ps, qs) _ => .tup [.ptr 0 0, .int .i64 (builtF ps).2, .int .i64 ((builtF ps).1.length : Int), .int .i64 (builtF (ps ++ qs)).2]
  out := fun (ps, qs) _ => fo (builtF (ps ++ qs)).1
  mm := 2
def later_H : Cfg := ⟨[(14, built_c), (12, size_c), (20, put_c)], [(7, [6, 11], [12], (.one 0 0 false (.one 1 0 false (.one 2 0 false (.one 3 0 false (.one 4 0 false (.one 5 0 false (.one 6 1 false (.one 7 0 false (.one 8 0 false (.one 9 0 false (.one 10 0 false (.one 11 1 false (.one 12 2 false (.one 13 0 false (.one 14 0 false (.one 15 0 false (.one 16 0 false (.one 17 0 false .nil)))))))))))))))))), [])], [], [], 50, 0, [], [], []⟩
theorem later_ok : later_c.Ok Tryd.prog 7 := by
  refine fn_ok later_H 0 rfl _ Tryd.func7 rfl rfl ⟨built_ok, size_ok, put_ok, trivial⟩ rfl rfl (by kernel_rfl) (fun _ => Nat.le_of_ble_eq_true rfl) ?_
  rintro ⟨ps, qs⟩ hp hr
  try dsimp only [later_c] at hp
  try simp only [later_c, Rng, RngL, inR, and_true, true_and] at hr
  have hp : ps.length + qs.length ≤ 25 := hp
  have hpb : built_c.pre ps := show ps.length ≤ 25 by omega
  have hsz := built_size (ps := ps) (by omega)
  repeat' (first | (with_reducible refine Unf.h ?_) | fail); all_goals try (conv => whnf); all_goals try (exfalso; omega)
  refine CallS.mk (c := built_c) (ps) ?_
  repeat' (first | (with_reducible refine Unf.h ?_) | ((conv => whnf); first | (refine Side.mk ?_ ?_; focus (first | with_reducible rfl | assumption)) | refine Got.mk (fun _ _ => ?_)) | fail); all_goals try (conv => whnf); all_goals try (exfalso; omega)
  refine CallS.mk (c := size_c) ((builtF ps).1) ?_
  repeat' (first | (with_reducible refine Unf.h ?_) | ((conv => whnf); first | (refine Side.mk ?_ ?_; focus (first | with_reducible rfl | exact True.intro)) | refine Got.mk (fun _ _ => ?_)) | fail); all_goals try (conv => whnf); all_goals try (exfalso; omega)
  refine LoopS.autoN (fun i : Nat => i ≤ qs.length) (fun i => [(12, .int .i64 i), (11, .int .i64 (builtF (ps ++ qs.take i)).2), (8, .ptr 0 0)]) (fun i => [(0, .box 71 [.own 1]), (1, .row 40 132 eNd (builtF (ps ++ qs.take i)).1)]) 2 (fun i => qs.length - i) 0 (by omega) ?_ ?_
  · have hb0 : ps ++ qs.take 0 = ps := by simp
    repeat' (first | (with_reducible refine Unf.h ?_) | ((conv => whnf); first | (refine Side.mk ?_ ?_; focus (first | with_reducible rfl | (refine congrArg (SV.int _) ?_; omega) | (simp only [*, hb0]; done))) | (with_reducible refine Unf.h ?_) | exact True.intro) | fail); all_goals try (conv => whnf); all_goals try (exfalso; omega)
  · intro i hi
    have hsz2 : (builtF (ps ++ qs.take i)).1.length ≤ 675 := built_size (by rw [List.length_append, List.length_take]; omega)
    have hb := builtOk (ps ++ qs.take i)
    have ht := treeAt_is hb.tree
    have ht1 := ht.1
    have ht2 := ht.2
    repeat' (first | (with_reducible refine Unf.h ?_) | ((conv => whnf); first | refine Fork.mk (fun h => ?_) (fun h => ?_) | (refine Side.mk ?_ ?_; focus (with_reducible rfl)) | (refine Idx.mk ?_ ?_; focus (omega)) | refine RetE.mk () trivial ?_ | refine retK_r ?_) | fail); all_goals try (conv => whnf); all_goals try (exfalso; omega)
    · have h0 : i < qs.length := by omega
      have hpre : put_c.pre ((builtF (ps ++ qs.take i)).1, (builtF (ps ++ qs.take i)).2, (qs[((i : Nat) : Int).toNat]'h0).1, (qs[((i : Nat) : Int).toNat]'h0).2) := ⟨by omega, hb.closed, ht⟩
      have hu : builtF (ps ++ qs.take (i + 1)) = putF (builtF (ps ++ qs.take i)).1 (builtF (ps ++ qs.take i)).2 (qs[((i : Nat) : Int).toNat]'h0).1 (qs[((i : Nat) : Int).toNat]'h0).2 := by
        rw [List.take_succ_eq_append_getElem h0, ← List.append_assoc, builtF_snoc]; rfl
      refine CallS.mk (c := put_c) (((builtF (ps ++ qs.take i)).1, (builtF (ps ++ qs.take i)).2, (qs[((i : Nat) : Int).toNat]'h0).1, (qs[((i : Nat) : Int).toNat]'h0).2)) ?_
      repeat' (first | (with_reducible first | refine Unf.h ?_ | refine loopK_n ?_) | ((conv => whnf); first | (refine Side.mk ?_ ?_; focus (first | with_reducible rfl | assumption | (intros; (try simp only [lenS, inR, cutS, loI, hiI] at *); omega))) | refine Got.mk (fun _ _ => ?_)) | fail); all_goals try (conv => whnf); all_goals try (exfalso; omega)
      refine ⟨i + 1, ⟨by omega, by omega⟩, ?_⟩
      repeat' (first | (with_reducible refine Unf.h ?_) | ((conv => whnf); first | (refine Side.mk ?_ ?_; focus (first | with_reducible rfl | (refine congrArg (SV.int _) ?_; omega) | (simp only [*, hu]; done))) | (with_reducible refine Unf.h ?_) | exact True.intro) | fail); all_goals try (conv => whnf); all_goals try (exfalso; omega)
    · have e : qs.take i = qs := List.take_of_length_le (by omega)
      repeat' (first | (with_reducible refine Unf.h ?_) | ((conv => whnf); first | (refine Side.mk ?_ ?_; focus ((simp only [*, e]; done))) | exact rfl) | fail); all_goals try (conv => whnf); all_goals try (exfalso; omega)
end Go.Proofs.YtmbkoigeekofdaaDoor

namespace Go.Proofs.YtmbkoigeekofdaaDoor
set_option linter.all false
open Go.RowKit
/-! rows are applied -/
abbrev allI : Int → Bool := fun _ => true
/-- what is known of some nodes -/
def knA (l : Fo) (ns : List Int) : Kn := ns.foldl (fun kn i => mput kn (nd l i).hash i) []
theorem knA_snoc (l : Fo) (ns : List Int) (i : Int) : knA l (ns ++ [i]) = mput (knA l ns) (nd l i).hash i := by unfold knA; rw [List.foldl_append]; rfl
theorem knA_len (l : Fo) : ∀ (n : Nat) (ns : List Int), ns.length = n → (knA l ns).length ≤ n
  | 0, ns, h => by obtain rfl := List.eq_nil_of_length_eq_zero h; exact Nat.le_refl _
  | n + 1, ns, h => by
    have hne : ns ≠ [] := fun e => by subst e; cases h
    obtain ⟨qs, p, rfl⟩ : ∃ qs p, ns = qs ++ [p] := ⟨ns.dropLast, ns.getLast hne, (List.dropLast_concat_getLast hne).symm⟩
    have := knA_len l n qs (by simpa using h)
    rw [knA_snoc]
    exact Nat.le_trans mput_len (by omega)
/-- rows added one by one: the forest, what is known, the last number; has each been added? -/
def addAll : Fo → Kn → Int → List Rw → (Fo × Int) × Bool
  | l, _, t, [] => ((l, t), true)
  | l, kn, t, r :: rs => match addR l kn r with
    | some p => addAll p.1 p.2 (l.length : Int) rs
    | none => ((l, t), false)
theorem addR_some {l : Fo} {kn : Kn} {r : Rw} {p : Fo × Kn} (h : addR l kn r = some p) : rowMay l kn r ∧ p.1 = l ++ [mk l (rowN kn r)] ∧ p.2 = mput kn (mk l (rowN kn r)).hash (l.length : Int) := by
  unfold addR at h
  split at h
  · rename_i hm; cases h; exact ⟨hm, rfl, rfl⟩
  · cases h
theorem addAll_cons {l : Fo} {kn : Kn} {t : Int} {r : Rw} {rs : List Rw} {p : Fo × Kn} (h : addR l kn r = some p) : addAll l kn t (r :: rs) = addAll p.1 p.2 (l.length : Int) rs := by
  show (match addR l kn r with | some p => _ | none => _) = _
  rw [h]
theorem addAll_none {l : Fo} {kn : Kn} {t : Int} {r : Rw} {rs : List Rw} (h : addR l kn r = none) : addAll l kn t (r :: rs) = ((l, t), false) := by
  show (match addR l kn r with | some p => _ | none => _) = _
  rw [h]
/-- the whole: the forest, the number, the error -/
def applyF (l : Fo) (t : Int) (o : Option PT) (rs : List Rw) (root : H256) : Fo × Int × Int :=
  let s := addAll l (knA l (ordsO l allI o t)) t rs
  if s.2 = true then (if rootF s.1.1 s.1.2 = root then (s.1.1, s.1.2, 0) else (s.1.1, 0, 9)) else (s.1.1, 0, 9)
def apply_c : Ctr where
  D := Fo × Int × Option PT × List Rw × H256
  pre := fun (l, t, o, rs, _) => treeAt l t o ∧ (listO o).length ≤ 100000 ∧ l.length ≤ 100000 ∧ rs.length ≤ 100000
  args := fun (_, t, _, _, root) => [.ptr 0 0, .int .i64 t, .own 2, .agg [.arr8 root]]
  objs := fun (l, _, _, rs, _) => fo l ++ [(2, .row 38 162 eRw rs)]
  nn := 3
  res := fun (l, t, o, rs, root) _ => .tup [.int .i64 (applyF l t o rs root).2.1, .int .i64 (applyF l t o rs root).2.2]
  out := fun (l, t, o, rs, root) _ => [(0, .box 71 [.own 3]), (3, .row 40 132 eNd (applyF l t o rs root).1)]
  mm := 1
/-- the numbers stay numbers while rows are added -/
theorem isT_snoc {l : Fo} {m : Nd} {t : Int} (h : isT l t) : isT (l ++ [m]) t := ⟨h.1, by have := h.2; simp; omega⟩
def apply_H : Cfg := ⟨[(9, root_c), (9, rootX_c), (21, numsF_c), (32, hof_c), (33, madd_c)], [(8, [3], [6, 8], (.one 0 0 false (.one 1 0 false (.one 2 0 false (.one 3 1 false (.one 4 0 false (.one 5 0 false (.one 7 0 false (.one 6 2 true (.one 8 2 false .nil))))))))), [1000000])], [], [], 77, 3, [], [], []⟩
theorem apply_ok : apply_c.Ok Tryd.prog 15 := by
  refine fn_ok apply_H 3 rfl _ Tryd.func15 rfl rfl ⟨root_ok, rootX_ok, numsF_ok, hof_ok, madd_ok, trivial⟩ rfl rfl (by kernel_rfl) (fun _ => Nat.le_of_ble_eq_true rfl) ?_
  rintro ⟨l, t, o, rs, rt⟩ hp hr
  try dsimp only [apply_c] at hp
  try simp only [apply_c, Rng, RngL, inR, and_true, true_and] at hr
  obtain ⟨ht, hlen, hll, hrs⟩ := hp
  have hpr := treeAt_isT ht
  have hk := mkeyH
  have hby := ap1_by
  repeat' (first | (with_reducible refine Unf.h ?_) | fail); all_goals try (conv => whnf); all_goals try (exfalso; omega)
  refine Or2.l (CallS.mk (c := root_c) ((l, t)) ?_)
  repeat' (first | (with_reducible refine Unf.h ?_) | ((conv => whnf); first | refine Fork.mkn (fun h => ?_) (fun h => ?_) | (refine Side.mk ?_ ?_; focus (first | with_reducible rfl | assumption)) | refine Got.mk (fun _ _ => ?_)) | fail); all_goals try (conv => whnf); all_goals try (exfalso; omega)
  refine MkS.mk inferInstance eK eZ ?_
  repeat' (first | (with_reducible refine Unf.h ?_) | fail); all_goals try (conv => whnf); all_goals try (exfalso; omega)
  have hpn : numsF_c.pre (l, t, o, allI, 31) := ⟨ht, hlen, hby⟩
  refine CallS.mk (c := numsF_c) ((l, t, o, allI, 31)) ?_
  repeat' (first | (with_reducible refine Unf.h ?_) | ((conv => whnf); first | (refine Side.mk ?_ ?_; focus (first | with_reducible rfl | assumption)) | refine Got.mk (fun _ _ => ?_)) | fail); all_goals try (conv => whnf); all_goals try (exfalso; omega)
  have hol : (ordsO l allI o t).length ≤ 200000 := by
    cases o with
    | none => exact Nat.zero_le _
    | some T =>
      have h1 := ords_len (l := l) (wn := allI) T t
      have h2 : szT T = 2 * T.list.length - 1 := rfl
      have h3 : T.list.length ≤ 100000 := hlen
      show (ords l allI T t).length ≤ 200000
      omega
  have hF : applyF l t o rs rt = (let s := addAll l (knA l (ordsO l allI o t)) t rs; if s.2 = true then (if rootF s.1.1 s.1.2 = rt then (s.1.1, s.1.2, 0) else (s.1.1, 0, 9)) else (s.1.1, 0, 9)) := rfl
  generalize ordsO l allI o t = ns at *
  refine LoopS.mk (I := Nat) (fun i => i ≤ ns.length) (fun i => [(37, .int .i64 (i : Int)), (35, .own 6), (36, .int .i64 (ns.length : Int)), (0, .ptr 0 0), (1, .int .i64 t), (2, .own 2), (7, .ptr 3 0), (12, .ptr 4 0)]) (fun i => fo l ++ [(2, .row 38 162 eRw rs), (3, .box 32 [.arr8 rt]), (4, .box 82 [.ptr 0 0, .own 5]), (5, mpO (knA l (ns.take i))), (6, .row 3 1 eI ns)]) 7 (fun i => ns.length - i) 0 (Nat.zero_le _) ?_ ?_
  · have e0 : knA l (ns.take 0) = [] := rfl
    repeat' (first | (with_reducible refine Unf.h ?_) | ((conv => whnf); first | (refine Side.mk ?_ ?_; focus (first | with_reducible rfl | (refine congrArg (SV.int _) ?_; omega) | (simp only [*, e0]; done))) | (with_reducible refine Unf.h ?_) | exact True.intro) | fail); all_goals try (conv => whnf); all_goals try (exfalso; omega)
  · intro i hi
    have hkl := knA_len l _ (ns.take i) rfl
    have htl : (ns.take i).length ≤ 200000 := by rw [List.length_take]; omega
    repeat' (first | (with_reducible refine Unf.h ?_) | ((conv => whnf); first | refine Fork.mk (fun h => ?_) (fun h => ?_) | (refine Side.mk ?_ ?_; focus (omega)) | (refine Idx.mk ?_ ?_; focus (omega))) | fail); all_goals try (conv => whnf); all_goals try (exfalso; omega)
    · have h0 : i < ns.length := by omega
      have e1 : knA l (ns.take (i + 1)) = mput (knA l (ns.take i)) (nd l (ns[((i : Nat) : Int).toNat]'h0)).hash (ns[((i : Nat) : Int).toNat]'h0) := by
        rw [List.take_succ_eq_append_getElem h0, knA_snoc]; rfl
      refine CallS.mk (c := hof_c) ((l, ns[((i : Nat) : Int).toNat]'h0)) ?_
      repeat' (first | (with_reducible refine Unf.h ?_) | ((conv => whnf); first | (refine Side.mk ?_ ?_; focus (first | with_reducible rfl | exact True.intro)) | refine Got.mk (fun _ _ => ?_)) | fail); all_goals try (conv => whnf); all_goals try (exfalso; omega)
      refine UpdS.mk _ rfl _ rfl hk (by omega) ?_
      repeat' (first | (with_reducible first | refine Unf.h ?_ | refine loopK_n ?_) | ((conv => whnf); first | (refine Side.mk ?_ ?_; focus ((intros; (try simp only [lenS, inR, cutS, loI, hiI] at *); omega))) | (with_reducible refine Unf.h ?_)) | fail); all_goals try (conv => whnf); all_goals try (exfalso; omega)
      refine ⟨i + 1, ⟨by omega, by omega⟩, ?_⟩
      repeat' (first | (with_reducible refine Unf.h ?_) | ((conv => whnf); first | (refine Side.mk ?_ ?_; focus (first | with_reducible rfl | (refine congrArg (SV.int _) ?_; omega) | (simp only [*, e1]; done))) | (with_reducible refine Unf.h ?_) | exact True.intro) | fail); all_goals try (conv => whnf); all_goals try (exfalso; omega)
    · have e : ns.take i = ns := List.take_of_length_le (by omega)
      rw [e] at hkl htl ⊢
      clear e
      refine LoopS.mk (I := Nat × Fo × Kn × Int) (fun (j, m, kn, u) => j ≤ rs.length ∧ m.length ≤ l.length + j ∧ kn.length ≤ 200000 + j ∧ isT m u ∧ addAll m kn u (rs.drop j) = addAll l (knA l ns) t rs) (fun (j, _, _, u) => [(52, .int .i64 (j : Int)), (50, .own 2), (51, .int .i64 (rs.length : Int)), (0, .ptr 0 0), (1, .int .i64 u), (7, .ptr 3 0), (12, .ptr 4 0)]) (fun (_, m, kn, _) => [(0, .box 71 [.own 6]), (6, .row 40 132 eNd m), (2, .row 38 162 eRw rs), (3, .box 32 [.arr8 rt]), (4, .box 82 [.ptr 0 0, .own 5]), (5, mpO kn)]) 7 (fun (j, _, _, _) => rs.length - j) (0, l, knA l ns, t) ⟨Nat.zero_le _, Nat.le_refl _, by omega, hpr, by rw [List.drop_zero]⟩ ?_ ?_
      · repeat' (first | (with_reducible refine Unf.h ?_) | ((conv => whnf); first | (refine Side.mk ?_ ?_; focus (first | with_reducible rfl | (refine congrArg (SV.int _) ?_; omega))) | (with_reducible refine Unf.h ?_) | exact True.intro) | fail); all_goals try (conv => whnf); all_goals try (exfalso; omega)
      · rintro ⟨j, m, kn, u⟩ ⟨g1, g2, g3, g4, g5⟩
        have g1 : j ≤ rs.length := g1
        have g2 : m.length ≤ l.length + j := g2
        have g3 : kn.length ≤ 200000 + j := g3
        have g4 : isT m u := g4
        have g5 : addAll m kn u (rs.drop j) = addAll l (knA l ns) t rs := g5
        repeat' (first | (with_reducible refine Unf.h ?_) | ((conv => whnf); first | refine Fork.mk (fun h => ?_) (fun h => ?_) | (refine Side.mk ?_ ?_; focus (omega)) | (refine Idx.mk ?_ ?_; focus (omega))) | fail); all_goals try (conv => whnf); all_goals try (exfalso; omega)
        · have h0 : j < rs.length := by omega
          have ed : rs.drop j = rs[j]'h0 :: rs.drop (j + 1) := List.drop_eq_getElem_cons h0
          generalize hrj : rs[((j : Nat) : Int).toNat]'h0 = r
          have hrj2 : rs[j]'h0 = r := hrj
          rw [hrj2] at ed
          rw [ed] at g5
          have hpm : madd_c.pre (m, kn, r) := ⟨by omega, by omega⟩
          first | refine CallS.mk (c := madd_c) ((m, kn, r)) ?_ | refine Or2.l (CallS.mk (c := madd_c) ((m, kn, r)) ?_) | refine Or2.r (CallS.mk (c := madd_c) ((m, kn, r)) ?_)
          repeat (first | (with_reducible refine Unf.h ?_) | ((conv => whnf); first | (refine Side.mk ?_ ?_; focus (first | with_reducible rfl | assumption | exact True.intro | rfl)) | (with_reducible refine Unf.h ?_)))
          conv => whnf
          refine Got.mk (fun e he => ?_)
          have he : e = addR m kn r := he
          cases e with
          | none =>
            rw [addAll_none he.symm] at g5
            have ef : applyF l t o rs rt = (m, 0, 9) := by rw [hF, ← g5]; rfl
            repeat' (first | (with_reducible refine Unf.h ?_) | ((conv => whnf); first | refine Fork.mkn (fun h => ?_) (fun h => ?_) | (refine Side.mk ?_ ?_; focus ((simp only [*, ef]; done))) | refine RetE.mk () trivial ?_ | (with_reducible refine Unf.h ?_) | refine retK_r ?_ | exact rfl) | fail); all_goals try (conv => whnf); all_goals try (exfalso; omega)
          | some p =>
            rw [addAll_cons he.symm] at g5
            obtain ⟨_, p1, p2⟩ := addR_some he.symm
            have hl1 : p.1.length = m.length + 1 := by rw [p1]; simp
            have hl2 : p.2.length ≤ kn.length + 1 := by rw [p2]; exact mput_len
            repeat' (first | (with_reducible first | refine Unf.h ?_ | refine loopK_n ?_) | ((conv => whnf); first | refine Fork.mkn (fun h => ?_) (fun h => ?_) | (refine Side.mk ?_ ?_; focus ((intros; (try simp only [lenS, inR, cutS, loI, hiI] at *); omega))) | (with_reducible refine Unf.h ?_)) | fail); all_goals try (conv => whnf); all_goals try (exfalso; omega)
            refine ⟨(j + 1, p.1, p.2, (m.length : Int)), ⟨by show rs.length - (j + 1) < rs.length - j; omega, by omega, by omega, by omega, ⟨by omega, by omega⟩, g5⟩, ?_⟩
            repeat' (first | (with_reducible refine Unf.h ?_) | ((conv => whnf); first | (refine Side.mk ?_ ?_; focus (first | with_reducible rfl | (refine congrArg (SV.int _) ?_; omega))) | (with_reducible refine Unf.h ?_) | exact True.intro) | fail); all_goals try (conv => whnf); all_goals try (exfalso; omega)
        · have e : rs.drop j = [] := List.drop_eq_nil_of_le (by omega)
          rw [e] at g5
          have g6 : addAll l (knA l ns) t rs = ((m, u), true) := g5.symm
          have hpr2 : root_c.pre (m, u) := g4
          refine Or2.l (CallS.mk (c := root_c) ((m, u)) ?_)
          by_cases hq : rootF m u = rt
          · have ef : applyF l t o rs rt = (m, u, 0) := by rw [hF, g6]; exact if_pos hq
            repeat' (first | (with_reducible refine Unf.h ?_) | ((conv => whnf); first | refine Fork.mkn (fun h => ?_) (fun h => ?_) | (refine Side.mk ?_ ?_; focus (first | with_reducible rfl | assumption | (simp only [*, ef]; done))) | refine RetE.mk () trivial ?_ | refine Got.mk (fun _ _ => ?_) | refine retK_r ?_ | exact rfl) | fail); all_goals try (conv => whnf); all_goals try (exfalso; omega)
            all_goals exact absurd (congrArg Vector.toList hq) (by assumption)
          · have ef : applyF l t o rs rt = (m, 0, 9) := by rw [hF, g6]; exact if_neg hq
            repeat' (first | (with_reducible refine Unf.h ?_) | ((conv => whnf); first | refine Fork.mkn (fun h => ?_) (fun h => ?_) | (refine Side.mk ?_ ?_; focus (first | with_reducible rfl | assumption | (simp only [*, ef]; done))) | refine RetE.mk () trivial ?_ | refine Got.mk (fun _ _ => ?_) | refine retK_r ?_ | exact rfl) | fail); all_goals try (conv => whnf); all_goals try (exfalso; omega)
            all_goals exact absurd (Vector.toList_inj.1 (by assumption)) hq
end Go.Proofs.YtmbkoigeekofdaaDoor

namespace Go.Proofs.YtmbkoigeekofdaaDoor
set_option linter.all false
open Go.RowKit
/-! what is applied is a tree -/
structure OkF (l : Fo) (kn : Kn) : Prop where
  all : allDen l
  cl : closed l
  kn : ∀ h i, mget kn h = some i → inF l i
theorem okF_add {l : Fo} {kn : Kn} {r : Rw} {p : Fo × Kn} (h : OkF l kn) (e : addR l kn r = some p) : OkF p.1 p.2 ∧ p.1.length = l.length + 1 ∧ ∃ T : PT, T.wf ∧ den p.1 (l.length : Int) T := by
  obtain ⟨⟨hk, hm⟩, e1, e2⟩ := addR_some e
  have key : ∃ T : PT, T.wf ∧ den (l ++ [mk l (rowN kn r)]) (l.length : Int) T := by
    cases hl : (rowN kn r).leaf with
    | true =>
      refine ⟨.leaf (rowN kn r).key (rowN kn r).value, trivial, inF_last _ _, ?_⟩
      rw [nd_last]; unfold mk; rw [if_pos hl]
    | false =>
      have hmm : mayP l (rowN kn r) := by
        rcases hm with hm | hm
        · rw [hl] at hm; cases hm
        · exact hm
      obtain ⟨⟨i1, c1, w1⟩, i2, c2, w2⟩ := hmm
      obtain ⟨A, hA, dA⟩ := h.all _ i1
      obtain ⟨B, hB, dB⟩ := h.all _ i2
      refine ⟨.node (rowN kn r).pfx A B, ⟨⟨c1.1, c1.2.1⟩, ?_, ?_, hA, hB⟩, den_node hl dA dB⟩
      · rw [← den_cover dA]; exact w1
      · rw [← den_cover dB]; exact w2
  obtain ⟨T, hw, hd⟩ := key
  rw [e1, e2]
  refine ⟨⟨allDen_snoc h.all hd hw, ?_, ?_⟩, by simp, T, hw, hd⟩
  · intro i hi
    by_cases hlt : i < l.length
    · have hin : inF l i := ⟨hi.1, hlt⟩
      rw [nd_app _ _ _ hlt]
      exact h.cl i hin
    · have ei : i = (l.length : Int) := by have := hi.2; simp at this; omega
      subst ei
      rw [nd_last]
      cases hl : (rowN kn r).leaf with
      | true => left; unfold mk; rw [if_pos hl]
      | false =>
        right
        have hmm : mayP l (rowN kn r) := by
          rcases hm with hm | hm
          · rw [hl] at hm; cases hm
          · exact hm
        have e3 : (mk l (rowN kn r)).left = (rowN kn r).left ∧ (mk l (rowN kn r)).right = (rowN kn r).right := by unfold mk; rw [if_neg (by rw [hl]; decide)]; exact ⟨rfl, rfl⟩
        rw [e3.1, e3.2]
        exact ⟨hmm.1.1, hmm.2.1⟩
  · intro g i hg
    rw [mget_put] at hg
    split at hg
    · cases hg; exact inF_last _ _
    · exact inF_app (h.kn g i hg)
theorem knA_in (l : Fo) {h : H256} {i : Int} : ∀ (n : Nat) (ns : List Int), ns.length = n → mget (knA l ns) h = some i → i ∈ ns
  | 0, ns, hn, e => by obtain rfl := List.eq_nil_of_length_eq_zero hn; cases e
  | n + 1, ns, hn, e => by
    have hne : ns ≠ [] := fun e => by subst e; cases hn
    obtain ⟨qs, p, rfl⟩ : ∃ qs p, ns = qs ++ [p] := ⟨ns.dropLast, ns.getLast hne, (List.dropLast_concat_getLast hne).symm⟩
    rw [knA_snoc, mget_put] at e
    split at e
    · cases e; simp
    · have := knA_in l n qs (by simpa using hn) e
      simp [this]
theorem okF_start {l : Fo} {t : Int} {o : Option PT} (ha : allDen l) (hc : closed l) (ht : treeAt l t o) : OkF l (knA l (ordsO l allI o t)) :=
  ⟨ha, hc, fun h i e => by
    have := knA_in l _ _ rfl e
    cases o with
    | none => exact absurd this (by simp [ordsO])
    | some T => exact (ords_in (show den l t T from ht) _ this).1⟩
/-- behind some rows there is a tree -/
theorem addAll_tree : ∀ {rs : List Rw} {l : Fo} {kn : Kn} {t : Int}, OkF l kn → (∃ o, wfO o ∧ treeAt l t o) → (addAll l kn t rs).1.1.length ≤ l.length + rs.length ∧ closed (addAll l kn t rs).1.1 ∧ allDen (addAll l kn t rs).1.1 ∧ ((addAll l kn t rs).2 = true → ∃ o, wfO o ∧ treeAt (addAll l kn t rs).1.1 (addAll l kn t rs).1.2 o)
  | [], l, kn, t, h, ht => ⟨by simp [addAll], h.cl, h.all, fun _ => ht⟩
  | r :: rs, l, kn, t, h, ht => by
    cases e : addR l kn r with
    | none =>
      rw [addAll_none e]
      exact ⟨by show l.length ≤ _; omega, h.cl, h.all, fun hh => by cases hh⟩
    | some p =>
      rw [addAll_cons e]
      obtain ⟨h1, h2, T, h3, h4⟩ := okF_add h e
      obtain ⟨g1, g2, g3, g4⟩ := addAll_tree (rs := rs) (t := (l.length : Int)) h1 ⟨some T, h3, h4⟩
      exact ⟨by rw [List.length_cons]; omega, g2, g3, g4⟩
theorem den_depth {l : Fo} (hc : closed l) : ∀ {T : PT} {t : Int}, den l t T → (T.depth : Int) ≤ t
  | .leaf k v, t, h => h.1.1
  | .node p a b, t, h => by
    obtain ⟨h0, x, y, e, ha, hb⟩ := h
    rcases hc t h0 with hl | ⟨h1, h2⟩
    · rw [e] at hl; cases hl
    · rw [e] at h1 h2
      have i1 := den_depth hc ha
      have i2 := den_depth hc hb
      dsimp only at h1 h2
      simp only [PT.depth]
      omega
/-- a tree has no more leaves than the forest has nodes -/
theorem den_leaves {l : Fo} : ∀ {T : PT} {t : Int}, den l t T → ∀ x ∈ T.list, x ∈ l.map fun n => (n.key, n.value)
  | .leaf k v, t, h, x, hx => by
    obtain rfl := List.mem_singleton.1 hx
    obtain ⟨h0, h1⟩ := h
    have hlt : t.toNat < l.length := by have := h0.1; have := h0.2; omega
    have e := nd_get l t h0.1 hlt
    refine List.mem_map.2 ⟨_, List.getElem_mem hlt, ?_⟩
    rw [e, h1]
  | .node p a b, t, h, x, hx => by
    obtain ⟨h0, y, z, e, ha, hb⟩ := h
    rcases List.mem_append.1 hx with hx | hx
    · exact den_leaves ha x hx
    · exact den_leaves hb x hx
theorem den_count {l : Fo} {T : PT} {t : Int} (hw : T.wf) (h : den l t T) : T.list.length ≤ l.length := by
  have hn : T.list.Nodup := (wf_sorted hw).imp fun {x y} hxy e => by subst e; exact less_irrefl _ hxy
  have := List.Nodup.length_le_of_subset hn (den_leaves h)
  rwa [List.length_map] at this
end Go.Proofs.YtmbkoigeekofdaaDoor

namespace Go.Proofs.YtmbkoigeekofdaaDoor
set_option linter.all false
open Go.RowKit
/-! no rows applied; rows copied; pairs copied -/
def applyX_c : Ctr where
  D := Fo × Int × H256
  pre := fun (l, t, _) => ¬ isT l t
  args := fun (_, t, root) => [.ptr 0 0, .int .i64 t, .nils, .agg [.arr8 root]]
  objs := fun (l, _) => fo l
  nn := 2
  res := fun _ _ => .tup [.int .i64 0, .int .i64 1]
  out := fun (l, _) _ => fo l
def applyX_H : Cfg := ⟨[(9, root_c), (9, rootX_c), (21, numsF_c), (32, hof_c), (33, madd_c)], [(8, [3], [6, 8], (.one 0 0 false (.one 1 0 false (.one 2 0 false (.one 3 1 false (.one 4 0 false (.one 5 0 false (.one 7 0 false (.one 6 2 true (.one 8 2 false .nil))))))))), [1000000])], [], [], 77, 2, [], [], []⟩
theorem applyX_ok : applyX_c.Ok Tryd.prog 15 := by
  refine fn_ok applyX_H 2 rfl _ Tryd.func15 rfl rfl ⟨root_ok, rootX_ok, numsF_ok, hof_ok, madd_ok, trivial⟩ rfl rfl (by kernel_rfl) (fun _ => Nat.le_of_ble_eq_true rfl) ?_
  rintro ⟨l, t, root⟩ hp hr
  try dsimp only [applyX_c] at hp
  try simp only [applyX_c, Rng, RngL, inR, and_true, true_and] at hr
  have hp : ¬ isT l t := hp
  repeat' (first | (with_reducible refine Unf.h ?_) | fail); all_goals try (conv => whnf); all_goals try (exfalso; omega)
  refine Or2.r (CallS.mk (c := rootX_c) ((l, t)) ?_)
  repeat' (first | (with_reducible refine Unf.h ?_) | ((conv => whnf); first | refine Fork.mkn (fun h => ?_) (fun h => ?_) | (refine Side.mk ?_ ?_; focus (first | with_reducible rfl | assumption)) | refine RetE.mk () trivial ?_ | refine Got.mk (fun _ _ => ?_) | refine retK_r ?_ | exact rfl) | fail); all_goals try (conv => whnf); all_goals try (exfalso; omega)
def rows13_c : Ctr where
  D := List Rw
  pre := fun l => l.length ≤ 100000
  args := fun l => [.fs 162 eRw l]
  res := fun _ _ => .own 0
  out := fun l _ => [(0, .row 38 162 eRw l)]
  mm := 1
def rows13_H : Cfg := ⟨[], [], [], [], 19, 0, [], [], []⟩
theorem rows13_ok : rows13_c.Ok Tryd.prog 16 := by
  refine fn_ok rows13_H 0 rfl _ Tryd.func16 rfl rfl trivial rfl rfl (by kernel_rfl) (fun _ => Nat.le_of_ble_eq_true rfl) ?_
  intro (l : List Rw) hp hr
  try dsimp only [rows13_c] at hp
  try simp only [rows13_c, Rng, RngL, inR, and_true, true_and] at hr
  have hp : l.length ≤ 100000 := hp
  repeat' (first | (with_reducible refine Unf.h ?_) | fail); all_goals try (conv => whnf); all_goals try (exfalso; omega)
  refine LoopS.autoN (fun i : Nat => i ≤ l.length) (fun i => [(4, .int .i64 i), (3, .own 0)]) (fun i => [(0, .row 38 162 eRw (l.take i))]) 1 (fun i => l.length - i) 0 (by omega) ?_ ?_
  · repeat' (first | (with_reducible refine Unf.h ?_) | ((conv => whnf); first | (refine Side.mk ?_ ?_; focus (first | with_reducible rfl | (refine congrArg (SV.int _) ?_; omega) | (simp [*]; done))) | (with_reducible refine Unf.h ?_) | exact True.intro) | fail); all_goals try (conv => whnf); all_goals try (exfalso; omega)
  · intro i hi
    repeat' (first | (with_reducible first | refine Unf.h ?_ | refine loopK_n ?_) | ((conv => whnf); first | refine Fork.mk (fun h => ?_) (fun h => ?_) | (refine Side.mk ?_ ?_; focus ((intros; (try simp only [lenS, inR, cutS, loI, hiI] at *); omega))) | (refine Idx.mk ?_ ?_; focus (omega)) | refine RetE.mk () trivial ?_ | refine Ex.mk [_] rfl ?_ | refine retK_r ?_) | fail); all_goals try (conv => whnf); all_goals try (exfalso; omega)
    · refine ⟨i + 1, ⟨by omega, by omega⟩, ?_⟩
      have e : List.take i l ++ [l[(i : Int).toNat]] = List.take (i + 1) l := (List.take_succ_eq_append_getElem (by omega)).symm
      repeat' (first | (with_reducible refine Unf.h ?_) | ((conv => whnf); first | (refine Side.mk ?_ ?_; focus (first | with_reducible rfl | (refine congrArg (SV.int _) ?_; omega) | (simp only [*, e]; done))) | (with_reducible refine Unf.h ?_) | exact True.intro) | fail); all_goals try (conv => whnf); all_goals try (exfalso; omega)
    · have e : List.take i l = l := List.take_of_length_le (by omega)
      repeat' (first | (with_reducible refine Unf.h ?_) | ((conv => whnf); first | (refine Side.mk ?_ ?_; focus ((simp only [*, e]; done))) | exact rfl) | fail); all_goals try (conv => whnf); all_goals try (exfalso; omega)
def pairs13_c : Ctr where
  D := List KV
  pre := fun l => l.length ≤ 100000
  args := fun l => [.fs 64 eKV l]
  res := fun l _ => .fs 64 eKV l
def pairs13_H : Cfg := ⟨[], [], [], [], 19, 0, [], [], []⟩
theorem pairs13_ok : pairs13_c.Ok Tryd.prog 18 := by
  refine fn_ok pairs13_H 0 rfl _ Tryd.func18 rfl rfl trivial rfl rfl (by kernel_rfl) (fun _ => Nat.le_of_ble_eq_true rfl) ?_
  intro (l : List KV) hp hr
  try dsimp only [pairs13_c] at hp
  try simp only [pairs13_c, Rng, RngL, inR, and_true, true_and] at hr
  have hp : l.length ≤ 100000 := hp
  repeat' (first | (with_reducible refine Unf.h ?_) | fail); all_goals try (conv => whnf); all_goals try (exfalso; omega)
  refine LoopS.autoN (fun i : Nat => i ≤ l.length) (fun i => [(4, .int .i64 i), (3, .own 0)]) (fun i => [(0, .row 61 64 eKV (l.take i))]) 1 (fun i => l.length - i) 0 (by omega) ?_ ?_
  · repeat' (first | (with_reducible refine Unf.h ?_) | ((conv => whnf); first | (refine Side.mk ?_ ?_; focus (first | with_reducible rfl | (refine congrArg (SV.int _) ?_; omega) | (simp [*]; done))) | (with_reducible refine Unf.h ?_) | exact True.intro) | fail); all_goals try (conv => whnf); all_goals try (exfalso; omega)
  · intro i hi
    repeat' (first | (with_reducible first | refine Unf.h ?_ | refine loopK_n ?_) | ((conv => whnf); first | refine Fork.mk (fun h => ?_) (fun h => ?_) | (refine Side.mk ?_ ?_; focus ((intros; (try simp only [lenS, inR, cutS, loI, hiI] at *); omega))) | (refine Idx.mk ?_ ?_; focus (omega)) | refine RetE.mk () trivial ?_ | refine Ex.mk [_] rfl ?_ | refine retK_r ?_) | fail); all_goals try (conv => whnf); all_goals try (exfalso; omega)
    · refine ⟨i + 1, ⟨by omega, by omega⟩, ?_⟩
      have e : List.take i l ++ [l[(i : Int).toNat]] = List.take (i + 1) l := (List.take_succ_eq_append_getElem (by omega)).symm
      repeat' (first | (with_reducible refine Unf.h ?_) | ((conv => whnf); first | (refine Side.mk ?_ ?_; focus (first | with_reducible rfl | (refine congrArg (SV.int _) ?_; omega) | (simp only [*, e]; done))) | (with_reducible refine Unf.h ?_) | exact True.intro) | fail); all_goals try (conv => whnf); all_goals try (exfalso; omega)
    · have e : List.take i l = l := List.take_of_length_le (by omega)
      repeat' (first | (with_reducible refine Unf.h ?_) | ((conv => whnf); first | (refine Side.mk ?_ ?_; focus ((simp only [*, e]; done))) | exact rfl) | fail); all_goals try (conv => whnf); all_goals try (exfalso; omega)
/-! DeltaSound -/
def dsound_c : Ctr where
  D := List KV × List Rw × H256
  args := fun (ps, rs, root) => [.fs 64 eKV ps, .fs 162 eRw rs, .agg [.arr8 root]]
  res := fun _ _ => .bool true
theorem applyF_cases (l : Fo) (t : Int) (o : Option PT) (rs : List Rw) (root : H256) : ((applyF l t o rs root).2.1 = 0 ∧ (applyF l t o rs root).2.2 = 9) ∨ ((applyF l t o rs root).2.2 = 0 ∧ (addAll l (knA l (ordsO l allI o t)) t rs).2 = true ∧ applyF l t o rs root = ((addAll l (knA l (ordsO l allI o t)) t rs).1.1, (addAll l (knA l (ordsO l allI o t)) t rs).1.2, 0) ∧ rootF (applyF l t o rs root).1 (applyF l t o rs root).2.1 = root) := by
  unfold applyF
  dsimp only
  split
  · rename_i h
    split
    · rename_i hr; exact .inr ⟨rfl, h, rfl, hr⟩
    · exact .inl ⟨rfl, rfl⟩
  · exact .inl ⟨rfl, rfl⟩
def dsound_H : Cfg := ⟨[(6, awake13_c), (14, built_c), (16, rows13_c), (15, apply_c), (9, root_c), (19, list_c), (18, pairs13_c), (17, (rroot_c 1000))], [(4, [4], [3, 5], (.one 0 0 false (.one 1 0 false (.one 2 0 false (.one 4 1 false (.one 3 2 true (.one 5 2 false (.one 6 0 false (.one 7 0 false (.one 8 0 false (.one 9 0 false (.one 10 0 false .nil))))))))))), []), (8, [0, 1, 9], [6, 7, 8], (.one 0 1 false (.one 1 1 false (.one 2 0 false (.one 3 0 false (.one 4 0 false (.one 5 0 false (.one 9 1 false (.one 6 2 true (.one 7 2 true (.one 8 2 true (.one 10 0 false (.one 11 0 false (.one 12 0 false .nil))))))))))))), [])], [], [], 62, 0, [], [], []⟩
theorem dsound_ok : dsound_c.Ok Tryd.prog 5 := by
  refine fn_ok dsound_H 0 rfl _ Tryd.func5 rfl rfl ⟨awake13_ok, built_ok, rows13_ok, apply_ok, root_ok, list_ok, pairs13_ok, rroot1000_ok, trivial⟩ rfl rfl (by kernel_rfl) (fun _ => Nat.le_of_ble_eq_true rfl) ?_
  rintro ⟨ps, rs, root⟩ hp hr
  try dsimp only [dsound_c] at hp
  try simp only [dsound_c, Rng, RngL, inR, and_true, true_and] at hr
  repeat' (first | (with_reducible refine Unf.h ?_) | ((conv => whnf); first | refine Fork.mk (fun h => ?_) (fun h => ?_) | (refine Side.mk ?_ ?_; focus (first | with_reducible rfl | exact True.intro)) | refine RetE.mk () trivial ?_ | refine Got.mk (fun _ _ => ?_) | refine retK_r ?_ | exact rfl | refine CallS.mk (c := awake13_c) (()) ?_) | fail); all_goals try (conv => whnf); all_goals try (exfalso; omega)
  have hpb : built_c.pre ps := show ps.length ≤ 25 by omega
  have hb := builtOk ps
  have hs := built_size (ps := ps) (by omega)
  have hall := built_all _ ps rfl
  have hol : (listO (treesF ps)).length ≤ 25 := by rw [← all_trees]; exact Nat.le_trans (allL_len _ _ rfl) (by omega)
  have hw := built_wf ps
  have ht := hb.tree
  have hcl := hb.closed
  refine CallS.mk (c := built_c) (ps) ?_
  repeat' (first | (with_reducible refine Unf.h ?_) | ((conv => whnf); first | (refine Side.mk ?_ ?_; focus (first | with_reducible rfl | assumption)) | refine Got.mk (fun _ _ => ?_)) | fail); all_goals try (conv => whnf); all_goals try (exfalso; omega)
  generalize (builtF ps).1 = l at *
  generalize (builtF ps).2 = t at *
  generalize treesF ps = o at *
  have hpw : rows13_c.pre rs := show rs.length ≤ 100000 by omega
  have hpa : apply_c.pre (l, t, o, rs, root) := ⟨ht, by omega, by omega, by omega⟩
  have hat := addAll_tree (rs := rs) (okF_start hall hcl ht) ⟨o, hw, ht⟩
  have hac := applyF_cases l t o rs root
  refine CallS.mk (c := rows13_c) (rs) ?_
  repeat' (first | (with_reducible refine Unf.h ?_) | ((conv => whnf); first | (refine Side.mk ?_ ?_; focus (first | with_reducible rfl | assumption)) | refine Got.mk (fun _ _ => ?_)) | fail); all_goals try (conv => whnf); all_goals try (exfalso; omega)
  rcases hac with ⟨ef1, ef2⟩ | ⟨ef1, ef2, ef3, ef4⟩
  · refine CallS.mk (c := apply_c) ((l, t, o, rs, root)) ?_
    repeat' (first | (with_reducible refine Unf.h ?_) | ((conv => whnf); first | refine Fork.mkn (fun h => ?_) (fun h => ?_) | (refine Side.mk ?_ ?_; focus (first | with_reducible rfl | assumption | (simp [*, ef1, ef2]; done))) | refine RetE.mk () trivial ?_ | refine Got.mk (fun _ _ => ?_) | refine retK_r ?_ | exact rfl) | fail); all_goals try (conv => whnf); all_goals try (exfalso; omega)
  · rw [ef3] at ef4
    clear ef1
    obtain ⟨hat1, hat2, _, hat3⟩ := hat
    obtain ⟨o', hw', ht'⟩ := hat3 ef2
    clear hat3 ef2
    generalize addAll l (knA l (ordsO l allI o t)) t rs = a at *
    obtain ⟨⟨l', t'⟩, b⟩ := a
    have ef3 : applyF l t o rs root = (l', t', 0) := ef3
    have ef4 : rootF l' t' = root := ef4
    have f1 : (applyF l t o rs root).1 = l' := by rw [ef3]
    have f2 : (applyF l t o rs root).2.1 = t' := by rw [ef3]
    have f3 : (applyF l t o rs root).2.2 = 0 := by rw [ef3]
    clear ef3
    have hat1 : l'.length ≤ l.length + rs.length := hat1
    have hat2 : closed l' := hat2
    have ht' : treeAt l' t' o' := ht'
    have hol' : (listO o').length ≤ 1000 := by
      cases o' with
      | none => exact Nat.zero_le _
      | some T => have := den_count (show T.wf from hw') (show den l' t' T from ht'); show T.list.length ≤ 1000; omega
    have hdo : depthO o' < 1000 := by
      cases o' with
      | none => exact Nat.lt_of_le_of_lt (Nat.le_refl 0) (by decide)
      | some T =>
        have h1 := den_depth hat2 (show den l' t' T from ht')
        have h2 := (den_in (show den l' t' T from ht')).2
        show T.depth < 1000
        omega
    have hrh := root_hash ht'
    have hho : hashO o' = root := by rw [← hrh, ef4]
    have hpr := treeAt_isT ht'
    have hpl : list_c.pre (l', t', o') := ⟨ht', by omega⟩
    have hpp : pairs13_c.pre (listO o') := show (listO o').length ≤ 100000 by omega
    have hprr : (rroot_c 1000).pre o' := ⟨hw', hdo⟩
    refine CallS.mk (c := apply_c) ((l, t, o, rs, root)) ?_
    repeat' (first | (with_reducible refine Unf.h ?_) | ((conv => whnf); first | refine Fork.mkn (fun h => ?_) (fun h => ?_) | (refine Side.mk ?_ ?_; focus (first | with_reducible rfl | assumption)) | refine Got.mk (fun _ _ => ?_)) | fail); all_goals try (conv => whnf); all_goals try (exfalso; omega)
    generalize applyF l t o rs root = A at *
    obtain ⟨l2, t2, e2⟩ := A
    obtain rfl : l2 = l' := f1
    obtain rfl : t2 = t' := f2
    refine CallS.mk (c := root_c) ((l2, t2)) ?_
    repeat' (first | (with_reducible refine Unf.h ?_) | ((conv => whnf); first | refine Fork.mk (fun h => ?_) (fun h => ?_) | (refine Side.mk ?_ ?_; focus (first | with_reducible rfl | assumption)) | refine RetE.mk () trivial ?_ | refine Got.mk (fun _ _ => ?_) | refine retK_r ?_) | fail); all_goals try (conv => whnf); all_goals try (exfalso; omega)
    · refine CallS.mk (c := list_c) ((l2, t2, o')) ?_
      repeat' (first | (with_reducible refine Unf.h ?_) | ((conv => whnf); first | (refine Side.mk ?_ ?_; focus (first | with_reducible rfl | assumption)) | refine Got.mk (fun _ _ => ?_)) | fail); all_goals try (conv => whnf); all_goals try (exfalso; omega)
      refine CallS.mk (c := pairs13_c) ((listO o')) ?_
      repeat' (first | (with_reducible refine Unf.h ?_) | ((conv => whnf); first | (refine Side.mk ?_ ?_; focus (first | with_reducible rfl | assumption)) | refine Got.mk (fun _ _ => ?_)) | fail); all_goals try (conv => whnf); all_goals try (exfalso; omega)
      refine CallS.mk (c := rroot_c 1000) o' ?_
      repeat' (first | (with_reducible refine Unf.h ?_) | ((conv => whnf); first | (refine Side.mk ?_ ?_; focus (first | with_reducible rfl | assumption | (simp [*, hho]; done))) | refine RetE.mk () trivial ?_ | refine Got.mk (fun _ _ => ?_) | refine retK_r ?_ | exact rfl) | fail); all_goals try (conv => whnf); all_goals try (exfalso; omega)
    · exact absurd (congrArg Vector.toList ef4) (by assumption)
end Go.Proofs.YtmbkoigeekofdaaDoor

namespace Go.Proofs.YtmbkoigeekofdaaDoor
set_option linter.all false
open Go.RowKit
/-! DeltaNone -/
def dnone_c : Ctr where
  D := List KV × Int × Int
  args := fun (ps, t, sz) => [.fs 64 eKV ps, .int .i64 t, .int .i64 sz]
  res := fun _ _ => .bool true
theorem apply_no {l : Fo} {t : Int} {o : Option PT} {root : H256} : applyF l t o [] root = if rootF l t = root then (l, t, 0) else (l, 0, 9) := rfl
theorem tree_of {l : Fo} {t : Int} (ha : allDen l) (h : isT l t) : ∃ o, wfO o ∧ treeAt l t o := by
  by_cases ht : t = -1
  · exact ⟨none, trivial, ht⟩
  · obtain ⟨T, h1, h2⟩ := ha t ⟨by have := h.1; omega, h.2⟩
    exact ⟨some T, h1, h2⟩
theorem tree_list {l : Fo} {t : Int} {o : Option PT} (hw : wfO o) (h : treeAt l t o) : (listO o).length ≤ l.length := by
  cases o with
  | none => exact Nat.zero_le _
  | some T => exact den_count hw h
def dnone_H : Cfg := ⟨[(6, awake13_c), (14, built_c), (12, size_c), (8, since_c), (8, sinceX_c), (8, sinceN_c), (15, apply_c), (15, applyX_c), (9, root_c), (9, rootX_c)], [], [], [], 140, 0, [], [], []⟩
theorem dnone_ok : dnone_c.Ok Tryd.prog 4 := by
  refine fn_ok dnone_H 0 rfl _ Tryd.func4 rfl rfl ⟨awake13_ok, built_ok, size_ok, since_ok, sinceX_ok, sinceN_ok, apply_ok, applyX_ok, root_ok, rootX_ok, trivial⟩ rfl rfl (by kernel_rfl) (fun _ => Nat.le_of_ble_eq_true rfl) ?_
  rintro ⟨ps, t, sz⟩ hp hr
  try dsimp only [dnone_c] at hp
  try simp only [dnone_c, Rng, RngL, inR, and_true, true_and] at hr
  repeat' (first | (with_reducible refine Unf.h ?_) | ((conv => whnf); first | refine Fork.mk (fun h => ?_) (fun h => ?_) | (refine Side.mk ?_ ?_; focus (first | with_reducible rfl | exact True.intro)) | refine RetE.mk () trivial ?_ | refine Got.mk (fun _ _ => ?_) | refine retK_r ?_ | exact rfl | refine CallS.mk (c := awake13_c) (()) ?_) | fail); all_goals try (conv => whnf); all_goals try (exfalso; omega)
  have hpb : built_c.pre ps := show ps.length ≤ 25 by omega
  have hb := builtOk ps
  have hs := built_size (ps := ps) (by omega)
  have hall := built_all _ ps rfl
  have hw := built_wf ps
  have ht := hb.tree
  have hcl := hb.closed
  have hol := tree_list hw ht
  have hpu := treeAt_isT ht
  have hpau : apply_c.pre ((builtF ps).1, (builtF ps).2, (treesF ps), [], rootF (builtF ps).1 (builtF ps).2) := ⟨ht, by omega, by omega, by show 0 ≤ 100000; omega⟩
  have eb : applyF (builtF ps).1 (builtF ps).2 (treesF ps) [] (rootF (builtF ps).1 (builtF ps).2) = ((builtF ps).1, (builtF ps).2, 0) := apply_no.trans (if_pos rfl)
  have eb1 : (applyF (builtF ps).1 (builtF ps).2 (treesF ps) [] (rootF (builtF ps).1 (builtF ps).2)).1 = (builtF ps).1 := by rw [eb]
  have eb2 : (applyF (builtF ps).1 (builtF ps).2 (treesF ps) [] (rootF (builtF ps).1 (builtF ps).2)).2.1 = (builtF ps).2 := by rw [eb]
  have eb3 : (applyF (builtF ps).1 (builtF ps).2 (treesF ps) [] (rootF (builtF ps).1 (builtF ps).2)).2.2 = 0 := by rw [eb]
  clear eb
  by_cases hT : isT (builtF ps).1 t
  · obtain ⟨o1, hw1, ht1⟩ := tree_of hall hT
    have hol1 := tree_list hw1 ht1
    have hT1 := hT.1
    have hT2 := hT.2
    have hpat : apply_c.pre ((builtF ps).1, t, o1, [], zeroH) := ⟨ht1, by omega, by omega, by show 0 ≤ 100000; omega⟩
    have hno := @apply_no (builtF ps).1 t o1 zeroH
    by_cases hsz : 0 ≤ sz
    · have hps : since_c.pre ((builtF ps).1, t, o1, sz) := ⟨ht1, by omega, hsz⟩
      refine CallS.mk (c := built_c) (ps) ?_
      repeat' (first | (with_reducible refine Unf.h ?_) | ((conv => whnf); first | refine Fork.mk (fun h => ?_) (fun h => ?_) | (refine Side.mk ?_ ?_; focus (first | with_reducible rfl | assumption)) | refine Got.mk (fun _ _ => ?_)) | fail); all_goals try (conv => whnf); all_goals try (exfalso; omega)
      refine CallS.mk (c := size_c) ((builtF ps).1) ?_
      repeat' (first | (with_reducible refine Unf.h ?_) | ((conv => whnf); first | (refine Side.mk ?_ ?_; focus (first | with_reducible rfl | exact True.intro)) | refine Got.mk (fun _ _ => ?_)) | fail); all_goals try (conv => whnf); all_goals try (exfalso; omega)
      refine Or2.l (CallS.mk (c := since_c) (((builtF ps).1, t, o1, sz)) ?_)
      repeat' (first | (with_reducible refine Unf.h ?_) | ((conv => whnf); first | (refine Side.mk ?_ ?_; focus (first | with_reducible rfl | assumption)) | refine Got.mk (fun _ _ => ?_)) | fail); all_goals try (conv => whnf); all_goals try (exfalso; omega)
      by_cases hz : rootF (builtF ps).1 t = zeroH
      · have ea : applyF (builtF ps).1 t o1 [] zeroH = ((builtF ps).1, t, 0) := hno.trans (if_pos hz)
        have hzl : (rootF (builtF ps).1 t).toList = (Vector.replicate 32 0#8).toList := congrArg Vector.toList hz
        have ea1 : (applyF (builtF ps).1 t o1 [] zeroH).1 = (builtF ps).1 := by rw [ea]
        have ea2 : (applyF (builtF ps).1 t o1 [] zeroH).2.1 = t := by rw [ea]
        have ea3 : (applyF (builtF ps).1 t o1 [] zeroH).2.2 = 0 := by rw [ea]
        clear ea
        refine Or2.l (CallS.mk (c := apply_c) (((builtF ps).1, t, o1, [], zeroH)) ?_)
        repeat' (first | (with_reducible refine Unf.h ?_) | ((conv => whnf); first | (refine Side.mk ?_ ?_; focus (first | with_reducible rfl | assumption)) | refine Got.mk (fun _ _ => ?_)) | fail); all_goals try (conv => whnf); all_goals try (exfalso; omega)
        rw [ea1]
        refine Or2.r (Or2.r (CallS.mk (c := sinceN_c) ((t, sz)) ?_))
        repeat' (first | (with_reducible refine Unf.h ?_) | ((conv => whnf); first | (refine Side.mk ?_ ?_; focus (first | with_reducible rfl | exact True.intro)) | refine Got.mk (fun _ _ => ?_)) | fail); all_goals try (conv => whnf); all_goals try (exfalso; omega)
        refine Or2.l (CallS.mk (c := root_c) (((builtF ps).1, (builtF ps).2)) ?_)
        repeat' (first | (with_reducible refine Unf.h ?_) | ((conv => whnf); first | (refine Side.mk ?_ ?_; focus (first | with_reducible rfl | assumption)) | refine Got.mk (fun _ _ => ?_)) | fail); all_goals try (conv => whnf); all_goals try (exfalso; omega)
        refine Or2.l (CallS.mk (c := apply_c) (((builtF ps).1, (builtF ps).2, (treesF ps), [], rootF (builtF ps).1 (builtF ps).2)) ?_)
        repeat' (first | (with_reducible refine Unf.h ?_) | ((conv => whnf); first | (refine Side.mk ?_ ?_; focus (first | with_reducible rfl | assumption)) | refine Got.mk (fun _ _ => ?_)) | fail); all_goals try (conv => whnf); all_goals try (exfalso; omega)
        rw [eb1]
        refine Or2.l (CallS.mk (c := root_c) (((builtF ps).1, t)) ?_)
        repeat' (first | (with_reducible refine Unf.h ?_) | ((conv => whnf); first | refine Fork.mk (fun h => ?_) (fun h => ?_) | (refine Side.mk ?_ ?_; focus (first | with_reducible rfl | assumption | (simp [*, ea2, ea3, eb2, eb3, hz]; done))) | refine RetE.mk () trivial ?_ | refine Got.mk (fun _ _ => ?_) | refine retK_r ?_ | exact rfl) | fail); all_goals try (conv => whnf); all_goals try (exfalso; omega)
        all_goals
          exfalso
          rename_i h
          first
            | (simp [ea3, hT2, hsz] at h; done)
            | (simp only [ea3, hzl] at h; simp at h; done)
            | (simp [ea3, hzl] at h; done)
      · have ea : applyF (builtF ps).1 t o1 [] zeroH = ((builtF ps).1, 0, 9) := hno.trans (if_neg hz)
        have hzl : ¬ (rootF (builtF ps).1 t).toList = (Vector.replicate 32 0#8).toList := fun e => hz (Vector.toList_inj.1 e)
        have ea1 : (applyF (builtF ps).1 t o1 [] zeroH).1 = (builtF ps).1 := by rw [ea]
        have ea2 : (applyF (builtF ps).1 t o1 [] zeroH).2.1 = 0 := by rw [ea]
        have ea3 : (applyF (builtF ps).1 t o1 [] zeroH).2.2 = 9 := by rw [ea]
        clear ea
        refine Or2.l (CallS.mk (c := apply_c) (((builtF ps).1, t, o1, [], zeroH)) ?_)
        repeat' (first | (with_reducible refine Unf.h ?_) | ((conv => whnf); first | (refine Side.mk ?_ ?_; focus (first | with_reducible rfl | assumption)) | refine Got.mk (fun _ _ => ?_)) | fail); all_goals try (conv => whnf); all_goals try (exfalso; omega)
        rw [ea1]
        refine Or2.r (Or2.r (CallS.mk (c := sinceN_c) ((t, sz)) ?_))
        repeat' (first | (with_reducible refine Unf.h ?_) | ((conv => whnf); first | (refine Side.mk ?_ ?_; focus (first | with_reducible rfl | exact True.intro)) | refine Got.mk (fun _ _ => ?_)) | fail); all_goals try (conv => whnf); all_goals try (exfalso; omega)
        refine Or2.l (CallS.mk (c := root_c) (((builtF ps).1, (builtF ps).2)) ?_)
        repeat' (first | (with_reducible refine Unf.h ?_) | ((conv => whnf); first | (refine Side.mk ?_ ?_; focus (first | with_reducible rfl | assumption)) | refine Got.mk (fun _ _ => ?_)) | fail); all_goals try (conv => whnf); all_goals try (exfalso; omega)
        refine Or2.l (CallS.mk (c := apply_c) (((builtF ps).1, (builtF ps).2, (treesF ps), [], rootF (builtF ps).1 (builtF ps).2)) ?_)
        repeat' (first | (with_reducible refine Unf.h ?_) | ((conv => whnf); first | (refine Side.mk ?_ ?_; focus (first | with_reducible rfl | assumption)) | refine Got.mk (fun _ _ => ?_)) | fail); all_goals try (conv => whnf); all_goals try (exfalso; omega)
        rw [eb1]
        refine Or2.l (CallS.mk (c := root_c) (((builtF ps).1, t)) ?_)
        repeat' (first | (with_reducible refine Unf.h ?_) | ((conv => whnf); first | refine Fork.mk (fun h => ?_) (fun h => ?_) | (refine Side.mk ?_ ?_; focus (first | with_reducible rfl | assumption | (simp [*, ea2, ea3, eb2, eb3, hz]; done))) | refine RetE.mk () trivial ?_ | refine Got.mk (fun _ _ => ?_) | refine retK_r ?_ | exact rfl) | fail); all_goals try (conv => whnf); all_goals try (exfalso; omega)
        all_goals
          exfalso
          rename_i h
          first
            | (simp [ea3, hT2, hsz] at h; done)
            | (simp only [ea3, hzl] at h; simp at h; done)
            | (simp [ea3, hzl] at h; done)
    · have hps : sinceX_c.pre ((builtF ps).1, t, sz) := fun _ => by omega
      refine CallS.mk (c := built_c) (ps) ?_
      repeat' (first | (with_reducible refine Unf.h ?_) | ((conv => whnf); first | refine Fork.mk (fun h => ?_) (fun h => ?_) | (refine Side.mk ?_ ?_; focus (first | with_reducible rfl | assumption)) | refine Got.mk (fun _ _ => ?_)) | fail); all_goals try (conv => whnf); all_goals try (exfalso; omega)
      refine CallS.mk (c := size_c) ((builtF ps).1) ?_
      repeat' (first | (with_reducible refine Unf.h ?_) | ((conv => whnf); first | (refine Side.mk ?_ ?_; focus (first | with_reducible rfl | exact True.intro)) | refine Got.mk (fun _ _ => ?_)) | fail); all_goals try (conv => whnf); all_goals try (exfalso; omega)
      refine Or2.r (Or2.l (CallS.mk (c := sinceX_c) (((builtF ps).1, t, sz)) ?_))
      repeat' (first | (with_reducible refine Unf.h ?_) | ((conv => whnf); first | (refine Side.mk ?_ ?_; focus (first | with_reducible rfl | assumption)) | refine Got.mk (fun _ _ => ?_)) | fail); all_goals try (conv => whnf); all_goals try (exfalso; omega)
      by_cases hz : rootF (builtF ps).1 t = zeroH
      · have ea : applyF (builtF ps).1 t o1 [] zeroH = ((builtF ps).1, t, 0) := hno.trans (if_pos hz)
        have hzl : (rootF (builtF ps).1 t).toList = (Vector.replicate 32 0#8).toList := congrArg Vector.toList hz
        have ea1 : (applyF (builtF ps).1 t o1 [] zeroH).1 = (builtF ps).1 := by rw [ea]
        have ea2 : (applyF (builtF ps).1 t o1 [] zeroH).2.1 = t := by rw [ea]
        have ea3 : (applyF (builtF ps).1 t o1 [] zeroH).2.2 = 0 := by rw [ea]
        clear ea
        refine Or2.l (CallS.mk (c := apply_c) (((builtF ps).1, t, o1, [], zeroH)) ?_)
        repeat' (first | (with_reducible refine Unf.h ?_) | ((conv => whnf); first | (refine Side.mk ?_ ?_; focus (first | with_reducible rfl | assumption)) | refine Got.mk (fun _ _ => ?_)) | fail); all_goals try (conv => whnf); all_goals try (exfalso; omega)
        rw [ea1]
        refine Or2.r (Or2.r (CallS.mk (c := sinceN_c) ((t, sz)) ?_))
        repeat' (first | (with_reducible refine Unf.h ?_) | ((conv => whnf); first | (refine Side.mk ?_ ?_; focus (first | with_reducible rfl | exact True.intro)) | refine Got.mk (fun _ _ => ?_)) | fail); all_goals try (conv => whnf); all_goals try (exfalso; omega)
        refine Or2.l (CallS.mk (c := root_c) (((builtF ps).1, (builtF ps).2)) ?_)
        repeat' (first | (with_reducible refine Unf.h ?_) | ((conv => whnf); first | (refine Side.mk ?_ ?_; focus (first | with_reducible rfl | assumption)) | refine Got.mk (fun _ _ => ?_)) | fail); all_goals try (conv => whnf); all_goals try (exfalso; omega)
        refine Or2.l (CallS.mk (c := apply_c) (((builtF ps).1, (builtF ps).2, (treesF ps), [], rootF (builtF ps).1 (builtF ps).2)) ?_)
        repeat' (first | (with_reducible refine Unf.h ?_) | ((conv => whnf); first | (refine Side.mk ?_ ?_; focus (first | with_reducible rfl | assumption)) | refine Got.mk (fun _ _ => ?_)) | fail); all_goals try (conv => whnf); all_goals try (exfalso; omega)
        rw [eb1]
        refine Or2.l (CallS.mk (c := root_c) (((builtF ps).1, t)) ?_)
        repeat' (first | (with_reducible refine Unf.h ?_) | ((conv => whnf); first | refine Fork.mk (fun h => ?_) (fun h => ?_) | (refine Side.mk ?_ ?_; focus (first | with_reducible rfl | assumption | (simp [*, ea2, ea3, eb2, eb3, hz]; done))) | refine RetE.mk () trivial ?_ | refine Got.mk (fun _ _ => ?_) | refine retK_r ?_ | exact rfl) | fail); all_goals try (conv => whnf); all_goals try (exfalso; omega)
        all_goals
          exfalso
          rename_i h
          first
            | (simp [ea3, hT2, hsz] at h; done)
            | (simp only [ea3, hzl] at h; simp at h; done)
            | (simp [ea3, hzl] at h; done)
      · have ea : applyF (builtF ps).1 t o1 [] zeroH = ((builtF ps).1, 0, 9) := hno.trans (if_neg hz)
        have hzl : ¬ (rootF (builtF ps).1 t).toList = (Vector.replicate 32 0#8).toList := fun e => hz (Vector.toList_inj.1 e)
        have ea1 : (applyF (builtF ps).1 t o1 [] zeroH).1 = (builtF ps).1 := by rw [ea]
        have ea2 : (applyF (builtF ps).1 t o1 [] zeroH).2.1 = 0 := by rw [ea]
        have ea3 : (applyF (builtF ps).1 t o1 [] zeroH).2.2 = 9 := by rw [ea]
        clear ea
        refine Or2.l (CallS.mk (c := apply_c) (((builtF ps).1, t, o1, [], zeroH)) ?_)
        repeat' (first | (with_reducible refine Unf.h ?_) | ((conv => whnf); first | (refine Side.mk ?_ ?_; focus (first | with_reducible rfl | assumption)) | refine Got.mk (fun _ _ => ?_)) | fail); all_goals try (conv => whnf); all_goals try (exfalso; omega)
        rw [ea1]
        refine Or2.r (Or2.r (CallS.mk (c := sinceN_c) ((t, sz)) ?_))
        repeat' (first | (with_reducible refine Unf.h ?_) | ((conv => whnf); first | (refine Side.mk ?_ ?_; focus (first | with_reducible rfl | exact True.intro)) | refine Got.mk (fun _ _ => ?_)) | fail); all_goals try (conv => whnf); all_goals try (exfalso; omega)
        refine Or2.l (CallS.mk (c := root_c) (((builtF ps).1, (builtF ps).2)) ?_)
        repeat' (first | (with_reducible refine Unf.h ?_) | ((conv => whnf); first | (refine Side.mk ?_ ?_; focus (first | with_reducible rfl | assumption)) | refine Got.mk (fun _ _ => ?_)) | fail); all_goals try (conv => whnf); all_goals try (exfalso; omega)
        refine Or2.l (CallS.mk (c := apply_c) (((builtF ps).1, (builtF ps).2, (treesF ps), [], rootF (builtF ps).1 (builtF ps).2)) ?_)
        repeat' (first | (with_reducible refine Unf.h ?_) | ((conv => whnf); first | (refine Side.mk ?_ ?_; focus (first | with_reducible rfl | assumption)) | refine Got.mk (fun _ _ => ?_)) | fail); all_goals try (conv => whnf); all_goals try (exfalso; omega)
        rw [eb1]
        refine Or2.l (CallS.mk (c := root_c) (((builtF ps).1, t)) ?_)
        repeat' (first | (with_reducible refine Unf.h ?_) | ((conv => whnf); first | refine Fork.mk (fun h => ?_) (fun h => ?_) | (refine Side.mk ?_ ?_; focus (first | with_reducible rfl | assumption | (simp [*, ea2, ea3, eb2, eb3, hz]; done))) | refine RetE.mk () trivial ?_ | refine Got.mk (fun _ _ => ?_) | refine retK_r ?_ | exact rfl) | fail); all_goals try (conv => whnf); all_goals try (exfalso; omega)
        all_goals
          exfalso
          rename_i h
          first
            | (simp [ea3, hT2, hsz] at h; done)
            | (simp only [ea3, hzl] at h; simp at h; done)
            | (simp [ea3, hzl] at h; done)
  · have hps : sinceX_c.pre ((builtF ps).1, t, sz) := fun h => absurd h hT
    have hno : ¬ (-1 ≤ t ∧ t < (((builtF ps).1.length : Nat) : Int)) := hT
    refine CallS.mk (c := built_c) (ps) ?_
    repeat' (first | (with_reducible refine Unf.h ?_) | ((conv => whnf); first | refine Fork.mk (fun h => ?_) (fun h => ?_) | (refine Side.mk ?_ ?_; focus (first | with_reducible rfl | assumption)) | refine Got.mk (fun _ _ => ?_)) | fail); all_goals try (conv => whnf); all_goals try (exfalso; omega)
    · refine CallS.mk (c := size_c) ((builtF ps).1) ?_
      repeat' (first | (with_reducible refine Unf.h ?_) | ((conv => whnf); first | (refine Side.mk ?_ ?_; focus (first | with_reducible rfl | exact True.intro)) | refine Got.mk (fun _ _ => ?_)) | fail); all_goals try (conv => whnf); all_goals try (exfalso; omega)
      refine Or2.r (Or2.l (CallS.mk (c := sinceX_c) (((builtF ps).1, t, sz)) ?_))
      repeat' (first | (with_reducible refine Unf.h ?_) | ((conv => whnf); first | (refine Side.mk ?_ ?_; focus (first | with_reducible rfl | assumption)) | refine Got.mk (fun _ _ => ?_)) | fail); all_goals try (conv => whnf); all_goals try (exfalso; omega)
      refine Or2.r (CallS.mk (c := applyX_c) (((builtF ps).1, t, zeroH)) ?_)
      repeat' (first | (with_reducible refine Unf.h ?_) | ((conv => whnf); first | (refine Side.mk ?_ ?_; focus (first | with_reducible rfl | assumption)) | refine Got.mk (fun _ _ => ?_)) | fail); all_goals try (conv => whnf); all_goals try (exfalso; omega)
      refine Or2.r (Or2.r (CallS.mk (c := sinceN_c) ((t, sz)) ?_))
      repeat' (first | (with_reducible refine Unf.h ?_) | ((conv => whnf); first | (refine Side.mk ?_ ?_; focus (first | with_reducible rfl | exact True.intro)) | refine Got.mk (fun _ _ => ?_)) | fail); all_goals try (conv => whnf); all_goals try (exfalso; omega)
      refine Or2.l (CallS.mk (c := root_c) (((builtF ps).1, (builtF ps).2)) ?_)
      repeat' (first | (with_reducible refine Unf.h ?_) | ((conv => whnf); first | (refine Side.mk ?_ ?_; focus (first | with_reducible rfl | assumption)) | refine Got.mk (fun _ _ => ?_)) | fail); all_goals try (conv => whnf); all_goals try (exfalso; omega)
      refine Or2.l (CallS.mk (c := apply_c) (((builtF ps).1, (builtF ps).2, (treesF ps), [], rootF (builtF ps).1 (builtF ps).2)) ?_)
      repeat' (first | (with_reducible refine Unf.h ?_) | ((conv => whnf); first | (refine Side.mk ?_ ?_; focus (first | with_reducible rfl | assumption)) | refine Got.mk (fun _ _ => ?_)) | fail); all_goals try (conv => whnf); all_goals try (exfalso; omega)
      rw [eb1]
      refine Or2.r (CallS.mk (c := rootX_c) (((builtF ps).1, t)) ?_)
      repeat' (first | (with_reducible refine Unf.h ?_) | ((conv => whnf); first | refine Fork.mk (fun h => ?_) (fun h => ?_) | (refine Side.mk ?_ ?_; focus (first | with_reducible rfl | assumption | exact dF (by omega) | (simp [*, eb2, eb3]; done))) | refine RetE.mk () trivial ?_ | refine Got.mk (fun _ _ => ?_) | refine retK_r ?_ | exact rfl) | fail); all_goals try (conv => whnf); all_goals try (exfalso; omega)
      all_goals
        exfalso
        rename_i h
        apply h
        exact decide_eq_decide.2 (by constructor <;> intro _ <;> omega)
    · refine Or2.r (Or2.l (CallS.mk (c := sinceX_c) (((builtF ps).1, t, sz)) ?_))
      repeat' (first | (with_reducible refine Unf.h ?_) | ((conv => whnf); first | (refine Side.mk ?_ ?_; focus (first | with_reducible rfl | assumption)) | refine Got.mk (fun _ _ => ?_)) | fail); all_goals try (conv => whnf); all_goals try (exfalso; omega)
      refine Or2.r (CallS.mk (c := applyX_c) (((builtF ps).1, t, zeroH)) ?_)
      repeat' (first | (with_reducible refine Unf.h ?_) | ((conv => whnf); first | (refine Side.mk ?_ ?_; focus (first | with_reducible rfl | assumption)) | refine Got.mk (fun _ _ => ?_)) | fail); all_goals try (conv => whnf); all_goals try (exfalso; omega)
      refine Or2.r (Or2.r (CallS.mk (c := sinceN_c) ((t, sz)) ?_))
      repeat' (first | (with_reducible refine Unf.h ?_) | ((conv => whnf); first | (refine Side.mk ?_ ?_; focus (first | with_reducible rfl | exact True.intro)) | refine Got.mk (fun _ _ => ?_)) | fail); all_goals try (conv => whnf); all_goals try (exfalso; omega)
      refine Or2.l (CallS.mk (c := root_c) (((builtF ps).1, (builtF ps).2)) ?_)
      repeat' (first | (with_reducible refine Unf.h ?_) | ((conv => whnf); first | (refine Side.mk ?_ ?_; focus (first | with_reducible rfl | assumption)) | refine Got.mk (fun _ _ => ?_)) | fail); all_goals try (conv => whnf); all_goals try (exfalso; omega)
      refine Or2.l (CallS.mk (c := apply_c) (((builtF ps).1, (builtF ps).2, (treesF ps), [], rootF (builtF ps).1 (builtF ps).2)) ?_)
      repeat' (first | (with_reducible refine Unf.h ?_) | ((conv => whnf); first | (refine Side.mk ?_ ?_; focus (first | with_reducible rfl | assumption)) | refine Got.mk (fun _ _ => ?_)) | fail); all_goals try (conv => whnf); all_goals try (exfalso; omega)
      rw [eb1]
      refine Or2.r (CallS.mk (c := rootX_c) (((builtF ps).1, t)) ?_)
      repeat' (first | (with_reducible refine Unf.h ?_) | ((conv => whnf); first | refine Fork.mk (fun h => ?_) (fun h => ?_) | (refine Side.mk ?_ ?_; focus (first | with_reducible rfl | assumption | exact dF (by omega) | (simp [*, eb2, eb3]; done))) | refine RetE.mk () trivial ?_ | refine Got.mk (fun _ _ => ?_) | refine retK_r ?_ | exact rfl) | fail); all_goals try (conv => whnf); all_goals try (exfalso; omega)
      all_goals
        exfalso
        rename_i h
        apply h
        exact decide_eq_decide.2 (by constructor <;> intro _ <;> omega)
end Go.Proofs.YtmbkoigeekofdaaDoor

/- MY OWN ENGINE: the variables that the delta rows list; what their arguments are. -/
namespace Go.Proofs.YtmbkoigeekofdaaDoor
set_option linter.all false
open Go.RowKit Go.ChangeShapes Go.WideShapes Go.ChangeAt
theorem Tryd.own : ownKnob Tryd.prog.godebug = none := by kernel_rfl
theorem Tryd.laidOut : laidOutB Tryd.prog = true := by kernel_rfl
def laidL {H : Type} : List (String × DataW H) := [("rolodex/hash.begin", Rows.laid_rolodex_hash_begin), ("rolodex/hash.rounds", Rows.laid_rolodex_hash_rounds)]
theorem gBegin : Tryd.prog.globalNamed "rolodex/hash.begin" = some 0 := by kernel_rfl
theorem gRounds : Tryd.prog.globalNamed "rolodex/hash.rounds" = some 1 := by kernel_rfl
theorem tBegin : (Tryd.prog.globals[0]?).map (·.type) = some 134 := by kernel_rfl
theorem tRounds : (Tryd.prog.globals[1]?).map (·.type) = some 101 := by kernel_rfl
theorem dBegin : (Rows.laid_rolodex_hash_begin : DataW Unit) = .agg (gv0.toList.map fun b => .lit (.int .u32 (b.toNat : Int))) := by kernel_rfl
theorem dRounds : (Rows.laid_rolodex_hash_rounds : DataW Unit) = .agg (gv1.toList.map fun b => .lit (.int .u32 (b.toNat : Int))) := by kernel_rfl
theorem glob_arr32s {P : Program} [TabC P] {H : Type} {enc : TypeId × Value → H} {W : World} {spare : Nat → Bool} {held : Bool} {n : String} {g t e m f : Nat} {i j : TI} {cs : Array Value} {p : List MemPlace} {v : Vector (BitVec 32) m} (hg : P.globalNamed n = some g) (hv : W.var? P n = some cs) (ht : ty P t = some i) (hk : i.k = .ar m e) (hj : ty P e = some j) (hjk : j.k = .int .u32) (hj1 : j.size = 1) (hi : i.size = m)
    (hd : DataW.trod enc P W 0 spare held f t cs.toList = some (.agg (v.toList.map fun b => .lit (.int .u32 (b.toNat : Int))), p)) : (SV.fpt [.arr32 v]).hc W none0 sg0 [.pointer (some ⟨g, 0, none⟩)] ∧ ∃ C T fr, W.heap[g]? = some (.cells C T fr) ∧ C.size = szL [SV.arr32 v] := by
  refine ⟨glob_arr32 hg hv ht hk hj hjk hj1 hi hd, ?_⟩
  obtain ⟨u, hcs, hx⟩ := arr_cells (w := 32) ht hk hj hjk hj1 hi rfl rfl hd
  simp only [World.var?, hg, Option.bind_some] at hv
  split at hv
  · rename_i C T fr hh
    have e := Option.some.inj hv
    refine ⟨C, T, fr, hh, ?_⟩
    have hl := congrArg List.length hcs
    rw [e]
    simpa [szL, SV.sz] using hl
  · cases hv
theorem glob_of_laid {W : World} (h : laidMetH Tryd.prog laidL W) : Glob Tryd.prog W none0 := by
  rw [MakeChecks.laidMetH_plain _ _ _ (by kernel_rfl)] at h
  obtain ⟨ps, ⟨g0, t0, cs0, f0, p0, q0, hg0, ht0, hv0, hd0, ⟨g1, t1, cs1, f1, p1, q1, hg1, ht1, hv1, hd1, _, _⟩, _⟩, _, _⟩ := h
  obtain rfl := Option.some.inj (gBegin.symm.trans hg0)
  obtain rfl := Option.some.inj (gRounds.symm.trans hg1)
  obtain rfl := Option.some.inj (tBegin.symm.trans ht0)
  obtain rfl := Option.some.inj (tRounds.symm.trans ht1)
  rw [dBegin] at hd0
  rw [dRounds] at hd1
  intro g ps hm
  have hm' : (g, ps) = (0, [SV.arr32 gv0]) ∨ (g, ps) = (1, [SV.arr32 gv1]) := by
    have e : TabC.gl Tryd.prog = [(0, [SV.arr32 gv0]), (1, [SV.arr32 gv1])] := rfl
    rw [e] at hm
    simpa using hm
  rcases hm' with e | e
  · cases e
    exact glob_arr32s (i := ⟨.ar 8 72, 8, 32⟩) (j := ⟨.int .u32, 1, 4⟩) hg0 hv0 rfl rfl rfl rfl rfl rfl hd0
  · cases e
    exact glob_arr32s (i := ⟨.ar 64 72, 64, 256⟩) (j := ⟨.int .u32, 1, 4⟩) hg1 hv1 rfl rfl rfl rfl rfl rfl hd1
theorem door_met (os : Os) (args : Array Value) : laidMetH Tryd.prog laidL ((World.doorLaid Tryd.prog 400 os).forCall (fun _ _ => 0) ⟨#[], args, []⟩).memory :=
  laidMetH_of_parts3 (fuel := 8) (laidMet_of_run' 8 (by kernel_rfl) (by kernel_rfl)) (by kernel_rfl) (by kernel_rfl)
/-! what the arguments are -/
section
variable {H : Type} {enc : TypeId × Value → H} {W : World} {spare : Nat → Bool} {held : Bool}
theorem o_hash : Opens Tryd.prog enc W spare held 32 (fun v : H256 => [.arr8 v]) := o_arr8 (i := ⟨.ar 32 5, 32, 32⟩) (j := ⟨.int .u8, 1, 1⟩) rfl rfl rfl rfl rfl rfl
theorem o_int : Opens Tryd.prog enc W spare held 3 (fun n : Int => [.int .i64 n]) := o_i64 (i := ⟨.int .i64, 1, 8⟩) rfl rfl
theorem o_boolT : Opens Tryd.prog enc W spare held 4 (fun b : Bool => [.bool b]) := o_bool (i := ⟨.bool, 1, 1⟩) rfl rfl
theorem o_pfx : Opens Tryd.prog enc W spare held 36 ePfx :=
  (o_struct (i := ⟨.st [(0, 3), (1, 32)], 33, 40⟩) rfl rfl (o_field (off := 0) (off2 := 1) (j := ⟨.int .i64, 1, 8⟩) rfl o_int (fun _ => rfl) rfl (o_last (j := ⟨.ar 32 5, 32, 32⟩) rfl o_hash (fun _ => rfl))) (fun _ => rfl) (by kernel_rfl)).map (fun p => (⟨p.1, p.2⟩ : Pfx)) (fun _ => rfl)
theorem o_pair : Opens Tryd.prog enc W spare held 61 eKV :=
  (o_struct (i := ⟨.st [(0, 32), (32, 32)], 64, 64⟩) rfl rfl
    (o_field (off := 0) (off2 := 32) (j := ⟨.ar 32 5, 32, 32⟩) rfl o_hash (fun _ => rfl) rfl
    (o_last (j := ⟨.ar 32 5, 32, 32⟩) rfl o_hash (fun _ => rfl))) (fun _ => rfl) (by kernel_rfl)).map (fun p => ((p.1, p.2) : KV)) (fun _ => rfl)
theorem o_pairs : Opens Tryd.prog enc W spare held 22 (fun l : List KV => [.fs 64 eKV l]) :=
  o_slice (i := ⟨.sl 61, 1, 24⟩) (j := ⟨.st [(0, 32), (32, 32)], 64, 64⟩) rfl rfl rfl rfl rfl o_pair (fun _ => rfl)
theorem o_row : Opens Tryd.prog enc W spare held 85 eRw :=
  (o_struct (i := ⟨.st [(0, 4), (1, 32), (33, 32), (65, 36), (98, 32), (130, 32)], 162, 176⟩) rfl rfl
    (o_field (off := 0) (off2 := 1) (j := ⟨.bool, 1, 1⟩) rfl o_boolT (fun _ => rfl) rfl
    (o_field (off := 1) (off2 := 33) (j := ⟨.ar 32 5, 32, 32⟩) rfl o_hash (fun _ => rfl) rfl
    (o_field (off := 33) (off2 := 65) (j := ⟨.ar 32 5, 32, 32⟩) rfl o_hash (fun _ => rfl) rfl
    (o_field (off := 65) (off2 := 98) (j := ⟨.st [(0, 3), (1, 32)], 33, 40⟩) rfl o_pfx (fun _ => rfl) rfl
    (o_field (off := 98) (off2 := 130) (j := ⟨.ar 32 5, 32, 32⟩) rfl o_hash (fun _ => rfl) rfl
    (o_last (j := ⟨.ar 32 5, 32, 32⟩) rfl o_hash (fun _ => rfl))))))) (fun _ => rfl) (by kernel_rfl)).map (fun p => (⟨p.1, p.2.1, p.2.2.1, p.2.2.2.1.len, p.2.2.2.1.bits, p.2.2.2.2.1, p.2.2.2.2.2⟩ : Rw)) (fun _ => rfl)
theorem o_rows : Opens Tryd.prog enc W spare held 53 (fun l : List Rw => [.fs 162 eRw l]) :=
  o_slice (i := ⟨.sl 85, 1, 24⟩) (j := ⟨.st [(0, 4), (1, 32), (33, 32), (65, 36), (98, 32), (130, 32)], 162, 176⟩) rfl rfl rfl rfl rfl o_row (fun _ => rfl)
end
section
variable {P : Program} [TabC P] {H : Type} {enc : TypeId × Value → H} {W : World} {spare : Nat → Bool} {held : Bool}
theorem arg_u8 {t base : Nat} {i : TI} (ht : ty P t = some i) (hk : i.k = .int .u8) {v : Value} {d : DataW H} {p : List MemPlace} (hv : Value.okWide P W .any base t v) (h : DataW.Trod enc P W 0 spare held t v d p) : ∃ x : BitVec 8, (SV.u8 x).h1 W none0 sg0 v := by
  obtain ⟨fuel, hT⟩ := h
  obtain ⟨x, hx⟩ := (o_uns (k := .u8) (w := 8) (mk := .u8) ht hk rfl rfl (fun _ _ => hc8)) _ _ _ hT
  obtain ⟨m, rfl⟩ := okWide_int (ty_int ht hk) hv
  refine ⟨x, ?_⟩
  simp only [hL, List.append_nil] at hx
  obtain ⟨a, b, h1, h2, rfl⟩ := hx
  rw [List.append_nil] at h1
  have : a = [Value.int .u8 m] := by rw [← h1]; rfl
  rw [this] at h2; exact h2
end
end Go.Proofs.YtmbkoigeekofdaaDoor

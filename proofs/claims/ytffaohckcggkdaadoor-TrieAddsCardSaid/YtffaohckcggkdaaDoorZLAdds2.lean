import Derived.Test.YtffaohckcggkdaaDoorZLAdds1
import Derived.Test.YtffaohckcggkdaaDoorLaw
namespace Go.Proofs.YtffaohckcggkdaaDoor
set_option linter.all false
open Go.RowKit
/-! a node that is added from without -/
def mayP (l : Fo) (n : Nd) : Prop := underP l n.pfx 0 n.left ∧ underP l n.pfx 1 n.right
instance (l : Fo) (n : Nd) : Decidable (mayP l n) := inferInstanceAs (Decidable (_ ∧ _))
theorem may_add {l : Fo} {n : Nd} (h : n.leaf = true ∨ mayP l n) : addable l n := h.imp id fun h => ⟨h.1.1, h.2.1⟩
def addA_c : Ctr where
  D := Fo × Nd
  pre := fun (l, n) => l.length ≤ 1000000 ∧ (n.leaf = true ∨ mayP l n)
  args := fun (_, n) => [.ptr 0 0, .agg (eNd n)]
  objs := fun (l, _) => fo l
  nn := 2
  res := fun (l, _) _ => .tup [.int .i64 l.length, .int .i64 0]
  out := fun (l, n) _ => [(0, .box 85 [.own 2]), (2, .row 51 132 eNd (l ++ [mk l n]))]
  mm := 1
def addA_H : Cfg := ⟨[(68, under_c), (69, add_c)], [], [], [], 40, 2, [], []⟩
theorem addA_ok : addA_c.Ok Tryd.prog 35 := by
  refine fn_ok addA_H 2 rfl _ Tryd.func35 rfl rfl ⟨under_ok, add_ok, trivial⟩ rfl rfl (by kernel_rfl) (fun _ => Nat.le_of_ble_eq_true rfl) ?_
  rintro ⟨l, n⟩ hp hr
  try dsimp only [addA_c] at hp
  try simp only [addA_c, Rng, RngL, inR, and_true, true_and] at hr
  obtain ⟨hlen, ha⟩ := hp
  have hadd : add_c.pre (l, n) := ⟨by omega, may_add ha⟩
  obtain ⟨leaf, key, value, plen, bits, left, right, hash⟩ := n
  cases leaf
  · have hm : mayP l ⟨false, key, value, plen, bits, left, right, hash⟩ := ha.resolve_left (by simp)
    repeat' (first | (with_reducible refine Unf.h ?_) | fail); all_goals try (conv => whnf)
    refine CallS.mk (c := under_c) ((l, ⟨plen, bits⟩, 0, left)) ?_
    repeat' (first | (with_reducible refine Unf.h ?_) | ((conv => whnf); first | refine Fork.mkn (fun h => ?_) (fun h => ?_) | (refine Side.mk ?_ ?_; focus (first | with_reducible rfl | exact True.intro)) | refine RetE.mk () trivial ?_ | refine Got.mk (fun _ _ => ?_) | refine retK_r ?_) | fail); all_goals try (conv => whnf)
    · exact absurd hm.1 h
    · refine CallS.mk (c := under_c) ((l, ⟨plen, bits⟩, 1, right)) ?_
      repeat' (first | (with_reducible refine Unf.h ?_) | ((conv => whnf); first | refine Fork.mkn (fun h => ?_) (fun h => ?_) | refine Fork.mk (fun h => ?_) (fun h => ?_) | (refine Side.mk ?_ ?_; focus (first | with_reducible rfl | exact True.intro | assumption | omega)) | refine RetE.mk () trivial ?_ | refine Got.mk (fun _ _ => ?_) | refine retK_r ?_ | exact rfl | refine CallS.mk (c := add_c) ((l, ⟨false, key, value, plen, bits, left, right, hash⟩)) ?_) | fail); all_goals try (conv => whnf)
      exact absurd hm.2 h
  · repeat' (first | (with_reducible refine Unf.h ?_) | ((conv => whnf); first | refine Fork.mk (fun h => ?_) (fun h => ?_) | (refine Side.mk ?_ ?_; focus (first | with_reducible rfl | assumption | omega)) | refine RetE.mk () trivial ?_ | refine Got.mk (fun _ _ => ?_) | refine retK_r ?_ | exact rfl | refine CallS.mk (c := add_c) ((l, ⟨true, key, value, plen, bits, left, right, hash⟩)) ?_) | fail); all_goals try (conv => whnf)
def addX_c : Ctr where
  D := Fo × Nd
  pre := fun (l, n) => n.leaf = false ∧ ¬ mayP l n
  args := fun (_, n) => [.ptr 0 0, .agg (eNd n)]
  objs := fun (l, _) => fo l
  nn := 2
  res := fun (l, _) _ => .tup [.int .i64 0, .int .i64 1]
  out := fun (l, n) _ => fo l
def addX_H : Cfg := ⟨[(68, under_c), (69, add_c)], [], [], [], 40, 2, [], []⟩
theorem addX_ok : addX_c.Ok Tryd.prog 35 := by
  refine fn_ok addX_H 2 rfl _ Tryd.func35 rfl rfl ⟨under_ok, add_ok, trivial⟩ rfl rfl (by kernel_rfl) (fun _ => Nat.le_of_ble_eq_true rfl) ?_
  rintro ⟨l, n⟩ hp hr
  try dsimp only [addX_c] at hp
  try simp only [addX_c, Rng, RngL, inR, and_true, true_and] at hr
  obtain ⟨leaf, key, value, plen, bits, left, right, hash⟩ := n
  obtain ⟨hl, hm⟩ := hp
  cases hl
  repeat' (first | (with_reducible refine Unf.h ?_) | fail); all_goals try (conv => whnf)
  refine CallS.mk (c := under_c) ((l, ⟨plen, bits⟩, 0, left)) ?_
  repeat' (first | (with_reducible refine Unf.h ?_) | ((conv => whnf); first | refine Fork.mkn (fun h => ?_) (fun h => ?_) | (refine Side.mk ?_ ?_; focus (first | with_reducible rfl | exact True.intro)) | refine RetE.mk () trivial ?_ | refine Got.mk (fun _ _ => ?_) | refine retK_r ?_ | exact rfl) | fail); all_goals try (conv => whnf)
  refine CallS.mk (c := under_c) ((l, ⟨plen, bits⟩, 1, right)) ?_
  repeat' (first | (with_reducible refine Unf.h ?_) | ((conv => whnf); first | refine Fork.mkn (fun h => ?_) (fun h => ?_) | refine Fork.mk (fun h => ?_) (fun h => ?_) | (refine Side.mk ?_ ?_; focus (first | with_reducible rfl | exact True.intro)) | refine RetE.mk () trivial ?_ | refine Got.mk (fun _ _ => ?_) | refine retK_r ?_ | exact rfl) | fail); all_goals try (conv => whnf)
  all_goals exact absurd (show mayP l ⟨false, key, value, plen, bits, left, right, hash⟩ from ⟨by assumption, by assumption⟩) hm
def preP (l : Fo) (n : Nd) : Prop := (inF l n.left ∧ inF l n.right) ∧ formedP n.pfx ∧ n.plen < 256
instance (l : Fo) (n : Nd) : Decidable (preP l n) := inferInstanceAs (Decidable (_ ∧ _ ∧ _))
theorem pre_ok {l : Fo} {n : Nd} (h : preP l n) (b : Int) (hb : b = 0 ∨ b = 1) : childOk n.pfx b := ⟨h.2.1, h.2.2, by omega, by omega⟩
theorem may_of {l : Fo} {n : Nd} (h : preP l n) : mayP l n ↔ withinP (childP n.pfx 0) (nd l n.left).cover ∧ withinP (childP n.pfx 1) (nd l n.right).cover :=
  ⟨fun h' => ⟨h'.1.2.2, h'.2.2.2⟩, fun h' => ⟨⟨h.1.1, pre_ok h 0 (.inl rfl), h'.1⟩, h.1.2, pre_ok h 1 (.inr rfl), h'.2⟩⟩
theorem may_pre {l : Fo} {n : Nd} (h : mayP l n) : preP l n := ⟨⟨h.1.1, h.2.1⟩, h.1.2.1.1, h.1.2.1.2.1⟩
theorem cover_leaf {n : Nd} (h : n.leaf = true) : n.cover = cutP n.key 256 := by unfold Nd.cover; rw [if_pos h]
theorem cover_inner {n : Nd} (h : n.leaf = false) : n.cover = ⟨n.plen, n.bits⟩ := by unfold Nd.cover; rw [if_neg (by rw [h]; decide)]; rfl
def adds_c : Ctr where
  D := List KV × Nd
  args := fun (ps, n) => [.fs 64 eKV ps, .agg (eNd n)]
  res := fun _ _ => .bool true
def adds_H : Cfg := ⟨[(25, awake11_c), (32, built_c), (33, size_c), (34, node_c), (36, rformed_c), (37, rchild_c), (38, rcut_c), (39, rwithin_c), (35, addA_c), (35, addX_c)], [(11, [1, 3], [4, 5, 6, 7], (.one 0 0 false (.one 1 1 false (.one 2 0 false (.one 3 1 false (.alt 4 true (.one 5 2 true (.one 6 2 true (.one 7 2 false .nil))) (.one 5 2 true (.one 4 2 true (.one 6 2 true (.one 7 2 false .nil))))))))), [])], [65], [], 139, 0, [], [7]⟩
set_option maxHeartbeats 1000000 in
theorem adds_ok : adds_c.Ok Tryd.prog 7 := by
  refine fn_ok adds_H 0 rfl _ Tryd.func7 rfl rfl ⟨awake11_ok, built_ok, size_ok, node_ok, rformed_ok, rchild_ok, rcut_ok, rwithin_ok, addA_ok, addX_ok, trivial⟩ rfl rfl (by kernel_rfl) (fun _ => Nat.le_of_ble_eq_true rfl) ?_
  rintro ⟨ps, n⟩ hp hr
  try dsimp only [adds_c] at hp
  try simp only [adds_c, Rng, RngL, inR, and_true, true_and] at hr
  repeat' (first | (with_reducible refine Unf.h ?_) | ((conv => whnf); first | refine Fork.mk (fun h => ?_) (fun h => ?_) | (refine Side.mk ?_ ?_; focus (first | with_reducible rfl | exact True.intro)) | refine RetE.mk () trivial ?_ | refine Got.mk (fun _ _ => ?_) | refine retK_r ?_ | exact rfl | refine CallS.mk (c := awake11_c) (()) ?_) | fail); all_goals try (conv => whnf)
  have hs : (builtF ps).1.length ≤ 675 := built_size (by omega)
  have hpre : built_c.pre ps := by show ps.length ≤ 25; omega
  refine CallS.mk (c := built_c) (ps) ?_
  repeat' (first | (with_reducible refine Unf.h ?_) | ((conv => whnf); first | (refine Side.mk ?_ ?_; focus (first | with_reducible rfl | exact True.intro | assumption)) | refine Got.mk (fun _ _ => ?_) | refine CallS.mk (c := size_c) ((builtF ps).1) ?_) | fail); all_goals try (conv => whnf)
  generalize (builtF ps).1 = l at *
  refine CallS.mk (c := node_c) ((l, n.left)) ?_
  repeat' (first | (with_reducible refine Unf.h ?_) | ((conv => whnf); first | (refine Side.mk ?_ ?_; focus (first | with_reducible rfl | exact True.intro)) | refine Got.mk (fun _ _ => ?_)) | fail); all_goals try (conv => whnf)
  refine CallS.mk (c := node_c) ((l, n.right)) ?_
  repeat' (first | (with_reducible refine Unf.h ?_) | ((conv => whnf); first | (refine Side.mk ?_ ?_; focus (first | with_reducible rfl | exact True.intro)) | refine Got.mk (fun _ _ => ?_)) | fail); all_goals try (conv => whnf)
  refine CutS.auto (I := Unit) (fun _ => True) (fun _ => [(12, .dec (preP l n) inferInstance)]) (fun _ => [(1, .box 85 [.own 2]), (2, .row 51 132 eNd l), (0, .box 51 (eNd n)), (3, .box 51 (eNd (nd l n.left))), (4, .box 51 (eNd (nd l n.right)))]) 5 ?_ ?_
  · repeat' (first | (with_reducible first | refine Unf.h ?_ | refine cutK_n ?_) | ((conv => whnf); first | refine Fork.mk (fun h => ?_) (fun h => ?_) | (refine Side.mk ?_ ?_; focus (first | with_reducible rfl | exact True.intro)) | refine Got.mk (fun _ _ => ?_) | refine CallS.mk (c := rformed_c) (⟨n.plen, n.bits⟩) ?_) | fail); all_goals try (conv => whnf)
    all_goals refine ⟨(), trivial, ?_⟩
    all_goals repeat' (first | (with_reducible refine Unf.h ?_) | ((conv => whnf); first | (refine Side.mk ?_ ?_; focus (first | with_reducible rfl | (simp [*, preP, Nd.pfx]; done))) | (with_reducible refine Unf.h ?_) | exact True.intro) | fail); all_goals try (conv => whnf)
  intro _ _
  repeat' (first | (with_reducible refine Unf.h ?_) | fail); all_goals try (conv => whnf)
  refine CutS.auto (I := Unit) (fun _ => True) (fun _ => [(12, .dec (mayP l n) inferInstance)]) (fun _ => [(1, .box 85 [.own 2]), (2, .row 51 132 eNd l), (0, .box 51 (eNd n)), (3, .box 51 (eNd (nd l n.left))), (4, .box 51 (eNd (nd l n.right)))]) 5 ?_ ?_
  · repeat' (first | (with_reducible first | refine Unf.h ?_ | refine cutK_n ?_) | ((conv => whnf); refine Fork.mk (fun h => ?_) (fun h => ?_)) | fail); all_goals try (conv => whnf)
    · refine CallS.mk (c := rchild_c) ((⟨n.plen, n.bits⟩, 0)) ?_
      repeat' (first | (with_reducible refine Unf.h ?_) | ((conv => whnf); first | (refine Side.mk ?_ ?_; focus (first | with_reducible rfl | exact True.intro)) | refine Got.mk (fun _ _ => ?_)) | fail); all_goals try (conv => whnf)
      refine CallS.mk (c := rchild_c) ((⟨n.plen, n.bits⟩, 1)) ?_
      repeat' (first | (with_reducible refine Unf.h ?_) | ((conv => whnf); first | refine Both.mk ?_ ?_ | (refine Side.mk ?_ ?_; focus (first | with_reducible rfl | exact True.intro)) | refine Got.mk (fun _ _ => ?_)) | fail); all_goals try (conv => whnf)
      all_goals
        have hm : mayP l n ↔ withinP (childP ⟨n.plen, n.bits⟩ 0) (nd l n.left).cover ∧ withinP (childP ⟨n.plen, n.bits⟩ 1) (nd l n.right).cover := may_of h
        cases hla : (nd l n.left).leaf
        · have ca := cover_inner hla
          cases hlb : (nd l n.right).leaf
          · have cb := cover_inner hlb
            repeat' (first | (with_reducible refine Unf.h ?_) | fail); all_goals try (conv => whnf)
            rw [hlb]
            repeat' (first | (with_reducible refine Unf.h ?_) | fail); all_goals try (conv => whnf)
            refine CallS.mk (c := rwithin_c) ((childP ⟨n.plen, n.bits⟩ 0, (nd l n.left).cover)) ?_
            repeat' (first | (with_reducible first | refine Unf.h ?_ | refine cutK_n ?_) | ((conv => whnf); first | refine Fork.mk (fun h => ?_) (fun h => ?_) | (refine Side.mk ?_ ?_; focus (first | with_reducible rfl | exact True.intro | (simp only [*, ca]; done))) | refine Got.mk (fun _ _ => ?_)) | fail); all_goals try (conv => whnf)
            · refine CallS.mk (c := rwithin_c) ((childP ⟨n.plen, n.bits⟩ 1, (nd l n.right).cover)) ?_
              repeat' (first | (with_reducible first | refine Unf.h ?_ | refine cutK_n ?_) | ((conv => whnf); first | (refine Side.mk ?_ ?_; focus (first | with_reducible rfl | exact True.intro | (simp only [*, cb]; done))) | refine Got.mk (fun _ _ => ?_)) | fail); all_goals try (conv => whnf)
              refine ⟨(), trivial, ?_⟩
              repeat' (first | ((conv => whnf); (with_reducible refine Unf.h ?_)) | fail); all_goals try (conv => whnf)
              refine Side.mk ⟨fun h' => hm.2 ⟨h, h'⟩, fun h' => (hm.1 h').2⟩ ?_
              repeat' (first | (with_reducible refine Unf.h ?_) | ((conv => whnf); first | (refine Side.mk ?_ ?_; focus (with_reducible rfl)) | exact True.intro) | fail); all_goals try (conv => whnf)
            · refine ⟨(), trivial, ?_⟩
              repeat' (first | ((conv => whnf); (with_reducible refine Unf.h ?_)) | fail); all_goals try (conv => whnf)
              refine Side.mk (iffF fun h' => h (hm.1 h').1) ?_
              repeat' (first | (with_reducible refine Unf.h ?_) | ((conv => whnf); first | (refine Side.mk ?_ ?_; focus (with_reducible rfl)) | exact True.intro) | fail); all_goals try (conv => whnf)
          · have cb := cover_leaf hlb
            repeat' (first | (with_reducible refine Unf.h ?_) | fail); all_goals try (conv => whnf)
            rw [hlb]
            repeat' (first | (with_reducible refine Unf.h ?_) | fail); all_goals try (conv => whnf)
            refine CallS.mk (c := rcut_c) (((nd l n.right).key, 256)) ?_
            repeat' (first | (with_reducible refine Unf.h ?_) | ((conv => whnf); first | (refine Side.mk ?_ ?_; focus (first | with_reducible rfl | exact True.intro)) | refine Got.mk (fun _ _ => ?_)) | fail); all_goals try (conv => whnf)
            refine CallS.mk (c := rwithin_c) ((childP ⟨n.plen, n.bits⟩ 0, (nd l n.left).cover)) ?_
            repeat' (first | (with_reducible first | refine Unf.h ?_ | refine cutK_n ?_) | ((conv => whnf); first | refine Fork.mk (fun h => ?_) (fun h => ?_) | (refine Side.mk ?_ ?_; focus (first | with_reducible rfl | exact True.intro | (simp only [*, ca]; done))) | refine Got.mk (fun _ _ => ?_)) | fail); all_goals try (conv => whnf)
            · refine CallS.mk (c := rwithin_c) ((childP ⟨n.plen, n.bits⟩ 1, (nd l n.right).cover)) ?_
              repeat' (first | (with_reducible first | refine Unf.h ?_ | refine cutK_n ?_) | ((conv => whnf); first | (refine Side.mk ?_ ?_; focus (first | with_reducible rfl | exact True.intro | (simp only [*, cb]; done))) | refine Got.mk (fun _ _ => ?_)) | fail); all_goals try (conv => whnf)
              refine ⟨(), trivial, ?_⟩
              repeat' (first | ((conv => whnf); (with_reducible refine Unf.h ?_)) | fail); all_goals try (conv => whnf)
              refine Side.mk ⟨fun h' => hm.2 ⟨h, h'⟩, fun h' => (hm.1 h').2⟩ ?_
              repeat' (first | (with_reducible refine Unf.h ?_) | ((conv => whnf); first | (refine Side.mk ?_ ?_; focus (with_reducible rfl)) | exact True.intro) | fail); all_goals try (conv => whnf)
            · refine ⟨(), trivial, ?_⟩
              repeat' (first | ((conv => whnf); (with_reducible refine Unf.h ?_)) | fail); all_goals try (conv => whnf)
              refine Side.mk (iffF fun h' => h (hm.1 h').1) ?_
              repeat' (first | (with_reducible refine Unf.h ?_) | ((conv => whnf); first | (refine Side.mk ?_ ?_; focus (with_reducible rfl)) | exact True.intro) | fail); all_goals try (conv => whnf)
        · have ca := cover_leaf hla
          cases hlb : (nd l n.right).leaf
          · have cb := cover_inner hlb
            repeat' (first | (with_reducible refine Unf.h ?_) | fail); all_goals try (conv => whnf)
            refine CallS.mk (c := rcut_c) (((nd l n.left).key, 256)) ?_
            repeat' (first | (with_reducible refine Unf.h ?_) | ((conv => whnf); first | (refine Side.mk ?_ ?_; focus (first | with_reducible rfl | exact True.intro)) | refine Got.mk (fun _ _ => ?_)) | fail); all_goals try (conv => whnf)
            rw [hlb]
            repeat' (first | (with_reducible refine Unf.h ?_) | fail); all_goals try (conv => whnf)
            refine CallS.mk (c := rwithin_c) ((childP ⟨n.plen, n.bits⟩ 0, (nd l n.left).cover)) ?_
            repeat' (first | (with_reducible first | refine Unf.h ?_ | refine cutK_n ?_) | ((conv => whnf); first | refine Fork.mk (fun h => ?_) (fun h => ?_) | (refine Side.mk ?_ ?_; focus (first | with_reducible rfl | exact True.intro | (simp only [*, ca]; done))) | refine Got.mk (fun _ _ => ?_)) | fail); all_goals try (conv => whnf)
            · refine CallS.mk (c := rwithin_c) ((childP ⟨n.plen, n.bits⟩ 1, (nd l n.right).cover)) ?_
              repeat' (first | (with_reducible first | refine Unf.h ?_ | refine cutK_n ?_) | ((conv => whnf); first | (refine Side.mk ?_ ?_; focus (first | with_reducible rfl | exact True.intro | (simp only [*, cb]; done))) | refine Got.mk (fun _ _ => ?_)) | fail); all_goals try (conv => whnf)
              refine ⟨(), trivial, ?_⟩
              repeat' (first | ((conv => whnf); (with_reducible refine Unf.h ?_)) | fail); all_goals try (conv => whnf)
              refine Side.mk ⟨fun h' => hm.2 ⟨h, h'⟩, fun h' => (hm.1 h').2⟩ ?_
              repeat' (first | (with_reducible refine Unf.h ?_) | ((conv => whnf); first | (refine Side.mk ?_ ?_; focus (with_reducible rfl)) | exact True.intro) | fail); all_goals try (conv => whnf)
            · refine ⟨(), trivial, ?_⟩
              repeat' (first | ((conv => whnf); (with_reducible refine Unf.h ?_)) | fail); all_goals try (conv => whnf)
              refine Side.mk (iffF fun h' => h (hm.1 h').1) ?_
              repeat' (first | (with_reducible refine Unf.h ?_) | ((conv => whnf); first | (refine Side.mk ?_ ?_; focus (with_reducible rfl)) | exact True.intro) | fail); all_goals try (conv => whnf)
          · have cb := cover_leaf hlb
            repeat' (first | (with_reducible refine Unf.h ?_) | fail); all_goals try (conv => whnf)
            refine CallS.mk (c := rcut_c) (((nd l n.left).key, 256)) ?_
            repeat' (first | (with_reducible refine Unf.h ?_) | ((conv => whnf); first | (refine Side.mk ?_ ?_; focus (first | with_reducible rfl | exact True.intro)) | refine Got.mk (fun _ _ => ?_)) | fail); all_goals try (conv => whnf)
            rw [hlb]
            repeat' (first | (with_reducible refine Unf.h ?_) | fail); all_goals try (conv => whnf)
            refine CallS.mk (c := rcut_c) (((nd l n.right).key, 256)) ?_
            repeat' (first | (with_reducible refine Unf.h ?_) | ((conv => whnf); first | (refine Side.mk ?_ ?_; focus (first | with_reducible rfl | exact True.intro)) | refine Got.mk (fun _ _ => ?_)) | fail); all_goals try (conv => whnf)
            refine CallS.mk (c := rwithin_c) ((childP ⟨n.plen, n.bits⟩ 0, (nd l n.left).cover)) ?_
            repeat' (first | (with_reducible first | refine Unf.h ?_ | refine cutK_n ?_) | ((conv => whnf); first | refine Fork.mk (fun h => ?_) (fun h => ?_) | (refine Side.mk ?_ ?_; focus (first | with_reducible rfl | exact True.intro | (simp only [*, ca]; done))) | refine Got.mk (fun _ _ => ?_)) | fail); all_goals try (conv => whnf)
            · refine CallS.mk (c := rwithin_c) ((childP ⟨n.plen, n.bits⟩ 1, (nd l n.right).cover)) ?_
              repeat' (first | (with_reducible first | refine Unf.h ?_ | refine cutK_n ?_) | ((conv => whnf); first | (refine Side.mk ?_ ?_; focus (first | with_reducible rfl | exact True.intro | (simp only [*, cb]; done))) | refine Got.mk (fun _ _ => ?_)) | fail); all_goals try (conv => whnf)
              refine ⟨(), trivial, ?_⟩
              repeat' (first | ((conv => whnf); (with_reducible refine Unf.h ?_)) | fail); all_goals try (conv => whnf)
              refine Side.mk ⟨fun h' => hm.2 ⟨h, h'⟩, fun h' => (hm.1 h').2⟩ ?_
              repeat' (first | (with_reducible refine Unf.h ?_) | ((conv => whnf); first | (refine Side.mk ?_ ?_; focus (with_reducible rfl)) | exact True.intro) | fail); all_goals try (conv => whnf)
            · refine ⟨(), trivial, ?_⟩
              repeat' (first | ((conv => whnf); (with_reducible refine Unf.h ?_)) | fail); all_goals try (conv => whnf)
              refine Side.mk (iffF fun h' => h (hm.1 h').1) ?_
              repeat' (first | (with_reducible refine Unf.h ?_) | ((conv => whnf); first | (refine Side.mk ?_ ?_; focus (with_reducible rfl)) | exact True.intro) | fail); all_goals try (conv => whnf)
    · refine ⟨(), trivial, ?_⟩
      have hm : ¬ mayP l n := fun h' => h (may_pre h')
      repeat' (first | (with_reducible refine Unf.h ?_) | ((conv => whnf); first | (refine Side.mk ?_ ?_; focus (first | with_reducible rfl | (simp only [*]; done))) | (with_reducible refine Unf.h ?_) | exact True.intro) | fail); all_goals try (conv => whnf)
  intro _ _
  by_cases hl : n.leaf = true
  · have hpre : addA_c.pre (l, n) := ⟨by omega, .inl hl⟩
    repeat' (first | (with_reducible refine Unf.h ?_) | fail); all_goals try (conv => whnf)
    refine Or2.l (CallS.mk (c := addA_c) ((l, n)) ?_)
    repeat' (first | (with_reducible refine Unf.h ?_) | ((conv => whnf); first | (refine Side.mk ?_ ?_; focus (first | with_reducible rfl | assumption)) | refine Got.mk (fun _ _ => ?_)) | fail); all_goals try (conv => whnf)
    rw [hl]
    repeat' (first | (with_reducible refine Unf.h ?_) | ((conv => whnf); first | refine Fork.mk (fun h => ?_) (fun h => ?_) | (refine Side.mk ?_ ?_; focus (first | with_reducible rfl | exact True.intro | omega | (intros; (try simp only [lenS, inR, cutS, loI, hiI, hl] at *); omega) | (simp [*, hl]; done))) | refine RetE.mk () trivial ?_ | refine Got.mk (fun _ _ => ?_) | (with_reducible refine Unf.h ?_) | refine retK_r ?_ | exact rfl | refine CallS.mk (c := size_c) (l ++ [mk l n]) ?_) | fail); all_goals try (conv => whnf)
  · by_cases hm : mayP l n
    · have hpre : addA_c.pre (l, n) := ⟨by omega, .inr hm⟩
      have hl : n.leaf = false := by simpa using hl
      repeat' (first | (with_reducible refine Unf.h ?_) | fail); all_goals try (conv => whnf)
      refine Or2.l (CallS.mk (c := addA_c) ((l, n)) ?_)
      repeat' (first | (with_reducible refine Unf.h ?_) | ((conv => whnf); first | (refine Side.mk ?_ ?_; focus (first | with_reducible rfl | assumption)) | refine Got.mk (fun _ _ => ?_)) | fail); all_goals try (conv => whnf)
      rw [hl]
      repeat' (first | (with_reducible refine Unf.h ?_) | ((conv => whnf); first | refine Fork.mkn (fun h => ?_) (fun h => ?_) | refine Fork.mk (fun h => ?_) (fun h => ?_) | (refine Side.mk ?_ ?_; focus (first | with_reducible rfl | exact True.intro | omega | (intros; (try simp only [lenS, inR, cutS, loI, hiI, hl] at *); omega) | (simp [*, hl]; done))) | refine RetE.mk () trivial ?_ | refine Got.mk (fun _ _ => ?_) | (with_reducible refine Unf.h ?_) | refine retK_r ?_ | exact rfl | refine CallS.mk (c := size_c) (l ++ [mk l n]) ?_) | fail); all_goals try (conv => whnf)
      all_goals exact absurd hm (by assumption)
    · have hl : n.leaf = false := by simpa using hl
      have hpre : addX_c.pre (l, n) := ⟨hl, hm⟩
      repeat' (first | (with_reducible refine Unf.h ?_) | fail); all_goals try (conv => whnf)
      refine Or2.r (CallS.mk (c := addX_c) ((l, n)) ?_)
      repeat' (first | (with_reducible refine Unf.h ?_) | ((conv => whnf); first | (refine Side.mk ?_ ?_; focus (first | with_reducible rfl | assumption)) | refine Got.mk (fun _ _ => ?_)) | fail); all_goals try (conv => whnf)
      rw [hl]
      repeat' (first | (with_reducible refine Unf.h ?_) | ((conv => whnf); first | refine Fork.mkn (fun h => ?_) (fun h => ?_) | refine Fork.mk (fun h => ?_) (fun h => ?_) | (refine Side.mk ?_ ?_; focus (first | with_reducible rfl | exact True.intro | omega | (simp [*, hl]; done))) | refine RetE.mk () trivial ?_ | refine Got.mk (fun _ _ => ?_) | (with_reducible refine Unf.h ?_) | refine retK_r ?_ | exact rfl | refine CallS.mk (c := size_c) (l) ?_) | fail); all_goals try (conv => whnf)
      all_goals exact absurd (show mayP l n by assumption) hm
end Go.Proofs.YtffaohckcggkdaaDoor

/- MY OWN ENGINE: the variables that the rows of this seat list. -/
namespace Go.Proofs.YtffaohckcggkdaaDoor
set_option linter.all false
open Go.RowKit Go.ChangeShapes Go.WideShapes Go.ChangeAt
theorem Tryd.own : ownKnob Tryd.prog.godebug = none := by kernel_rfl
theorem Tryd.laidOut : laidOutB Tryd.prog = true := by kernel_rfl
def laidL {H : Type} : List (String × DataW H) := [("rolodex/hash.begin", Rows.laid_rolodex_hash_begin), ("rolodex/hash.rounds", Rows.laid_rolodex_hash_rounds)]
theorem gBegin : Tryd.prog.globalNamed "rolodex/hash.begin" = some 0 := by kernel_rfl
theorem gRounds : Tryd.prog.globalNamed "rolodex/hash.rounds" = some 1 := by kernel_rfl
theorem tBegin : (Tryd.prog.globals[0]?).map (·.type) = some 135 := by kernel_rfl
theorem tRounds : (Tryd.prog.globals[1]?).map (·.type) = some 138 := by kernel_rfl
theorem dBegin : (Rows.laid_rolodex_hash_begin : DataW Unit) = .agg (gv0.toList.map fun b => .lit (.int .u32 (b.toNat : Int))) := by kernel_rfl
theorem dRounds : (Rows.laid_rolodex_hash_rounds : DataW Unit) = .agg (gv1.toList.map fun b => .lit (.int .u32 (b.toNat : Int))) := by kernel_rfl
theorem glob_of_laid {W : World} (h : laidMetH Tryd.prog laidL W) : Glob Tryd.prog W none0 := by
  rw [MakeChecks.laidMetH_plain _ _ _ (by kernel_rfl)] at h
  obtain ⟨ps, ⟨g0, t0, cs0, f0, p0, q0, hg0, ht0, hv0, hd0, ⟨g1, t1, cs1, f1, p1, q1, hg1, ht1, hv1, hd1, _, _⟩, _⟩, _, _⟩ := h
  obtain rfl := Option.some.inj (gBegin.symm.trans hg0)
  obtain rfl := Option.some.inj (gRounds.symm.trans hg1)
  obtain rfl := Option.some.inj (tBegin.symm.trans ht0)
  obtain rfl := Option.some.inj (tRounds.symm.trans ht1)
  rw [dBegin] at hd0
  rw [dRounds] at hd1
  intro g ps hm
  have hm' : (g, ps) = (0, [SV.arr32 gv0]) ∨ (g, ps) = (1, [SV.arr32 gv1]) := by
    have e : TabC.gl Tryd.prog = [(0, [SV.arr32 gv0]), (1, [SV.arr32 gv1])] := rfl
    rw [e] at hm
    simpa using hm
  rcases hm' with e | e
  · cases e
    exact glob_arr32 (i := ⟨.ar 8 110, 8, 32⟩) (j := ⟨.int .u32, 1, 4⟩) hg0 hv0 rfl rfl rfl rfl rfl rfl hd0
  · cases e
    exact glob_arr32 (i := ⟨.ar 64 110, 64, 256⟩) (j := ⟨.int .u32, 1, 4⟩) hg1 hv1 rfl rfl rfl rfl rfl rfl hd1
theorem door_met (os : Os) (args : Array Value) : laidMetH Tryd.prog laidL ((World.doorLaid Tryd.prog 400 os).forCall (fun _ _ => 0) ⟨#[], args, []⟩).memory :=
  laidMetH_of_parts3 (fuel := 8) (laidMet_of_run' 8 (by kernel_rfl) (by kernel_rfl)) (by kernel_rfl) (by kernel_rfl)
/-! what the arguments are -/
section
variable {H : Type} {enc : TypeId × Value → H} {W : World} {spare : Nat → Bool} {held : Bool}
theorem o_hash : Opens Tryd.prog enc W spare held 25 (fun v : H256 => [.arr8 v]) := o_arr8 (i := ⟨.ar 32 5, 32, 32⟩) (j := ⟨.int .u8, 1, 1⟩) rfl rfl rfl rfl rfl rfl
theorem o_int : Opens Tryd.prog enc W spare held 3 (fun n : Int => [.int .i64 n]) := o_i64 (i := ⟨.int .i64, 1, 8⟩) rfl rfl
theorem o_boolT : Opens Tryd.prog enc W spare held 4 (fun b : Bool => [.bool b]) := o_bool (i := ⟨.bool, 1, 1⟩) rfl rfl
theorem o_pfx : Opens Tryd.prog enc W spare held 27 ePfx :=
  (o_struct (i := ⟨.st [(0, 3), (1, 25)], 33, 40⟩) rfl rfl (o_field (off := 0) (off2 := 1) (j := ⟨.int .i64, 1, 8⟩) rfl o_int (fun _ => rfl) rfl (o_last (j := ⟨.ar 32 5, 32, 32⟩) rfl o_hash (fun _ => rfl))) (fun _ => rfl) (by kernel_rfl)).map (fun p => (⟨p.1, p.2⟩ : Pfx)) (fun _ => rfl)
theorem o_node : Opens Tryd.prog enc W spare held 51 eNd :=
  (o_struct (i := ⟨.st [(0, 4), (1, 25), (33, 25), (65, 27), (98, 3), (99, 3), (100, 25)], 132, 160⟩) rfl rfl
    (o_field (off := 0) (off2 := 1) (j := ⟨.bool, 1, 1⟩) rfl o_boolT (fun _ => rfl) rfl
    (o_field (off := 1) (off2 := 33) (j := ⟨.ar 32 5, 32, 32⟩) rfl o_hash (fun _ => rfl) rfl
    (o_field (off := 33) (off2 := 65) (j := ⟨.ar 32 5, 32, 32⟩) rfl o_hash (fun _ => rfl) rfl
    (o_field (off := 65) (off2 := 98) (j := ⟨.st [(0, 3), (1, 25)], 33, 40⟩) rfl o_pfx (fun _ => rfl) rfl
    (o_field (off := 98) (off2 := 99) (j := ⟨.int .i64, 1, 8⟩) rfl o_int (fun _ => rfl) rfl
    (o_field (off := 99) (off2 := 100) (j := ⟨.int .i64, 1, 8⟩) rfl o_int (fun _ => rfl) rfl
    (o_last (j := ⟨.ar 32 5, 32, 32⟩) rfl o_hash (fun _ => rfl)))))))) (fun _ => rfl) (by kernel_rfl)).map (fun p => (⟨p.1, p.2.1, p.2.2.1, p.2.2.2.1.len, p.2.2.2.1.bits, p.2.2.2.2.1, p.2.2.2.2.2.1, p.2.2.2.2.2.2⟩ : Nd)) (fun _ => rfl)
end
end Go.Proofs.YtffaohckcggkdaaDoor

namespace Go.Proofs.YtffaohckcggkdaaDoor
set_option linter.all false
open Go.RowKit Go.ChangeShapes Go.WideShapes Go.ChangeAt
section
variable {H : Type} {enc : TypeId × Value → H} {W : World} {spare : Nat → Bool} {held : Bool}
theorem o_pair : Opens Tryd.prog enc W spare held 56 eKV :=
  (o_struct (i := ⟨.st [(0, 25), (32, 25)], 64, 64⟩) rfl rfl
    (o_field (off := 0) (off2 := 32) (j := ⟨.ar 32 5, 32, 32⟩) rfl o_hash (fun _ => rfl) rfl
    (o_last (j := ⟨.ar 32 5, 32, 32⟩) rfl o_hash (fun _ => rfl))) (fun _ => rfl) (by kernel_rfl)).map (fun p => ((p.1, p.2) : KV)) (fun _ => rfl)
theorem o_pairs : Opens Tryd.prog enc W spare held 22 (fun l : List KV => [.fs 64 eKV l]) :=
  o_slice (i := ⟨.sl 56, 1, 24⟩) (j := ⟨.st [(0, 25), (32, 25)], 64, 64⟩) rfl rfl rfl rfl rfl o_pair (fun _ => rfl)
end
end Go.Proofs.YtffaohckcggkdaaDoor

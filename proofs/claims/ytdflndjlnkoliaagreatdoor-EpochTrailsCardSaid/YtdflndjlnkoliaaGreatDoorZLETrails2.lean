import Derived.Test.YtdflndjlnkoliaaGreatDoorZLETrails1
import Derived.Test.YtdflndjlnkoliaaGreatDoorMp
import Derived.Test.YtdflndjlnkoliaaGreatDoorFn
namespace Go.Proofs.YtdflndjlnkoliaaGreatDoor
set_option linter.all false
open Go.RowKit
/-! the people of a directory and their numbers; what is sealed, epoch by epoch -/
section
variable {C : Type}
/-- labels' places -/
def numsL : Nat → List (Bs × C) → List (Bs × Int)
  | _, [] => []
  | i, p :: r => (p.1, (i : Int)) :: numsL (i + 1) r
theorem numsL_fst : ∀ (i : Nat) (ps : List (Bs × C)), (numsL i ps).map Prod.fst = ps.map Prod.fst
  | _, [] => rfl
  | i, p :: r => by
    show p.1 :: (numsL (i + 1) r).map Prod.fst = p.1 :: r.map Prod.fst
    rw [numsL_fst (i + 1) r]
theorem numsL_len (i : Nat) (ps : List (Bs × C)) : (numsL i ps).length = ps.length := by
  have := congrArg List.length (numsL_fst i ps)
  simpa using this
/-- a label that has no place is given one -/
theorem numsL_miss {x : Bs} (c : C) : ∀ (i : Nat) (ps : List (Bs × C)), mget (numsL i ps) x = none → getLb ps x = none ∧ setLb ps x c = ps ++ [(x, c)] ∧ mput (numsL i ps) x ((i + ps.length : Nat) : Int) = numsL i (ps ++ [(x, c)])
  | _, [], _ => ⟨rfl, rfl, rfl⟩
  | i, p :: r, h => by
    have hp : ¬ p.1 = x := fun e => by
      have h : (if p.1 = x then some (i : Int) else mget (numsL (i + 1) r) x) = none := h
      rw [if_pos e] at h; cases h
    have h2 : mget (numsL (i + 1) r) x = none := by
      have h : (if p.1 = x then some (i : Int) else mget (numsL (i + 1) r) x) = none := h
      rwa [if_neg hp] at h
    obtain ⟨g1, g2, g3⟩ := numsL_miss c (i + 1) r h2
    refine ⟨?_, ?_, ?_⟩
    · unfold getLb at g1 ⊢
      simp only [List.find?_cons, hp, decide_false]
      exact g1
    · show (if p.1 = x then (x, c) :: r else p :: setLb r x c) = _
      rw [if_neg hp, g2]; rfl
    · show (if p.1 = x then _ else (p.1, (i : Int)) :: mput (numsL (i + 1) r) x ((i + (r.length + 1) : Nat) : Int)) = (p.1, (i : Int)) :: numsL (i + 1) (r ++ [(x, c)])
      rw [if_neg hp, ← g3, show i + (r.length + 1) = i + 1 + r.length by omega]
/-- a label that has a place -/
theorem numsL_hit {x : Bs} {k : Int} : ∀ (i : Nat) (ps : List (Bs × C)), mget (numsL i ps) x = some k → ∃ j, ∃ h : j < ps.length, k = ((i + j : Nat) : Int) ∧ (ps[j]'h).1 = x ∧ getLb ps x = some (ps[j]'h).2 ∧ ∀ c, setLb ps x c = ps.set j (x, c) ∧ numsL i (ps.set j (x, c)) = numsL i ps
  | _, [], h => by cases h
  | i, p :: r, h => by
    have h : (if p.1 = x then some (i : Int) else mget (numsL (i + 1) r) x) = some k := h
    by_cases hp : p.1 = x
    · rw [if_pos hp] at h
      cases h
      refine ⟨0, by simp, rfl, hp, ?_, fun c => ⟨?_, ?_⟩⟩
      · unfold getLb; simp [hp]
      · show (if p.1 = x then (x, c) :: r else p :: setLb r x c) = _
        rw [if_pos hp]; rfl
      · show (x, (i : Int)) :: numsL (i + 1) r = (p.1, (i : Int)) :: numsL (i + 1) r
        rw [hp]
    · rw [if_neg hp] at h
      obtain ⟨j, hj, g1, g2, g3, g4⟩ := numsL_hit (i + 1) r h
      refine ⟨j + 1, by simpa using hj, ?_, g2, ?_, fun c => ⟨?_, ?_⟩⟩
      · rw [g1]; congr 1; omega
      · unfold getLb at g3 ⊢
        simp only [List.find?_cons, hp, decide_false]
        exact g3
      · show (if p.1 = x then (x, c) :: r else p :: setLb r x c) = _
        rw [if_neg hp, (g4 c).1]; rfl
      · show (p.1, (i : Int)) :: numsL (i + 1) (r.set j (x, c)) = (p.1, (i : Int)) :: numsL (i + 1) r
        rw [(g4 c).2]
end
/-- all given, with chains that were made ahead -/
def setAll (ps : List (Bs × List Ver)) (gs : List (Bs × List Ver)) : List (Bs × List Ver) := gs.foldl (fun ps g => setLb ps g.1 g.2) ps
theorem setAll_snoc (ps gs : List (Bs × List Ver)) (g : Bs × List Ver) : setAll ps (gs ++ [g]) = setLb (setAll ps gs) g.1 g.2 := by unfold setAll; rw [List.foldl_append]; rfl
def chainP (ps : List (Bs × List Ver)) (x : Bs) : List Ver := (getLb ps x).getD []
/-- a label with its longer chain -/
def grownL (ps : List (Bs × List Ver)) (n : Nws) : Bs × List Ver := (n.1, chainP ps n.1 ++ [n.2])
theorem giveLb_all : ∀ (n : List Nws) (ps : List (Bs × List Ver)), (n.map Prod.fst).Nodup → giveLb ps n = setAll ps (n.map (grownL ps))
  | [], ps, _ => rfl
  | p :: r, ps, h => by
    obtain ⟨h1, h2⟩ := List.nodup_cons.1 (show (p.1 :: r.map Prod.fst).Nodup from h)
    have e : r.map (grownL (setLb ps p.1 (chainP ps p.1 ++ [p.2]))) = r.map (grownL ps) := List.map_congr_left fun q hq => by
      unfold grownL chainP
      rw [getLb_set, if_neg fun e => h1 (List.mem_map.2 ⟨q, hq, e.symm⟩)]
    show giveLb (setLb ps p.1 (chainP ps p.1 ++ [p.2])) r = setAll (setLb ps p.1 (chainP ps p.1 ++ [p.2])) (r.map (grownL ps))
    rw [giveLb_all r _ h2, e]
theorem setAll_len : ∀ (k : Nat) (ps gs : List (Bs × List Ver)), gs.length = k → (setAll ps gs).length ≤ ps.length + k
  | 0, ps, gs, h => by obtain rfl := List.eq_nil_of_length_eq_zero h; exact Nat.le_refl _
  | k + 1, ps, gs, h => by
    have hne : gs ≠ [] := fun e => by subst e; cases h
    obtain ⟨qs, p, rfl⟩ : ∃ qs p, gs = qs ++ [p] := ⟨gs.dropLast, gs.getLast hne, (List.dropLast_concat_getLast hne).symm⟩
    have := setAll_len k ps qs (by simpa using h)
    have h2 := congrArg List.length (setLb_fst p.1 p.2 (setAll ps qs))
    rw [setAll_snoc]
    simp only [List.length_map] at h2
    rw [h2]
    split <;> simp <;> omega
/-! what is sealed -/
structure Sld where
  tree : Int
  root : H256
  size : Int
  entry : H256
  news : List Nws
abbrev eVr (v : Ver) : List SV := [.int .i64 v.num, .int .i64 v.ep, .arr8 v.salt, .arr8 v.before, .fs 1 eB v.val]
abbrev eNw (p : Nws) : List SV := [.fs 1 eB p.1, .int .i64 p.2.num, .int .i64 p.2.ep, .arr8 p.2.salt, .arr8 p.2.before, .fs 1 eB p.2.val]
abbrev eSl (s : Sld) : List SV := [.int .i64 s.tree, .arr8 s.root, .int .i64 s.size, .arr8 s.entry, .fs 68 eNw s.news]
abbrev ePn (p : Bs × List Ver) : List SV := [.fs 1 eB p.1, .fs 67 eVr p.2]
abbrev eCh (l : List Ver) : List SV := [.fs 67 eVr l]
abbrev eUp (u : Bs × Bs) : List SV := [.fs 1 eB u.1, .fs 1 eB u.2]
def rootB (es : List (List Nws)) : H256 := rootF (builtF (kvs es)).1 (builtF (kvs es)).2
def entH (e : Int) (r : H256) : H256 := sha (0#8 :: (fourB e ++ r.toList))
def sldAt (es : List (List Nws)) (i : Nat) : Sld := ⟨(builtF (kvs (es.take (i + 1)))).2, rootB (es.take (i + 1)), (builtF (kvs (es.take i))).1.length, entH ((i : Int) + 1) (rootB (es.take (i + 1))), es.getD i []⟩
def slds (es : List (List Nws)) : List Sld := (List.range es.length).map (sldAt es)
theorem slds_len (es : List (List Nws)) : (slds es).length = es.length := by simp [slds]
theorem slds_get (es : List (List Nws)) (i : Nat) (h : i < (slds es).length) : (slds es)[i] = sldAt es i := by simp [slds]
theorem slds_snoc (es : List (List Nws)) (n : List Nws) : slds (es ++ [n]) = slds es ++ [⟨(builtF (kvs (es ++ [n]))).2, rootB (es ++ [n]), (builtF (kvs es)).1.length, entH ((es.length : Int) + 1) (rootB (es ++ [n])), n⟩] := by
  unfold slds
  rw [List.length_append, show [n].length = 1 from rfl, List.range_succ, List.map_append]
  congr 1
  · refine List.map_congr_left fun i hi => ?_
    have hi := List.mem_range.1 hi
    unfold sldAt
    rw [List.take_append_of_le_length (by omega), List.take_append_of_le_length (by omega), List.getD_eq_getElem?_getD, List.getD_eq_getElem?_getD, List.getElem?_append_left hi]
  · have e1 : (es ++ [n]).take (es.length + 1) = es ++ [n] := List.take_of_length_le (by simp)
    have e2 : (es ++ [n]).take es.length = es := by simp
    have e3 : (es ++ [n]).getD es.length [] = n := by simp [List.getD_eq_getElem?_getD]
    rw [List.map_singleton]
    unfold sldAt
    rw [e1, e2, e3]
/-- what is known of a directory's epochs -/
structure StOk (es : List (List Nws)) : Prop where
  apart : apartE es
  len : es.length ≤ 20
  few : ∀ n ∈ es, n.length ≤ 16
  lab : ∀ n ∈ es, ∀ p ∈ n, p.1.length ≤ 32 ∧ p.2.val.length ≤ 64
  ep : ∀ i, ∀ h : i < es.length, ∀ p ∈ es[i], p.2.ep = (i : Int) + 1
theorem StOk.nil : StOk [] := ⟨fun n h => (by cases h), Nat.zero_le _, fun n h => (by cases h), fun n h => (by cases h), fun i h => (by cases h)⟩
theorem flat_few : ∀ (es : List (List Nws)) (m : Nat), (∀ n ∈ es, n.length ≤ m) → es.flatten.length ≤ m * es.length
  | [], m, _ => by simp
  | n :: r, m, h => by
    have h1 := h n (by simp)
    have := flat_few r m fun k hk => h k (by simp [hk])
    rw [List.flatten_cons, List.length_append, List.length_cons, Nat.mul_succ]; omega
theorem StOk.kvs {es : List (List Nws)} (h : StOk es) : (kvs es).length ≤ 320 := by
  have := flat_few es 16 h.few
  have := h.len
  show (es.flatten.map kvN).length ≤ 320
  rw [List.length_map]; omega
theorem StOk.forest {es : List (List Nws)} (h : StOk es) {m : Nat} {qs : List KV} (hq : qs.length ≤ 16) : (builtF (_root_.Go.Proofs.YtdflndjlnkoliaaGreatDoor.kvs es ++ qs)).1.length ≤ 200000 := by
  refine Nat.le_trans (builtOk _).size ?_
  have h1 := h.kvs
  rw [List.length_append]
  exact Nat.le_trans (Nat.mul_le_mul (show _ ≤ 336 by omega) (show _ ≤ 338 by omega)) (by decide)
theorem peo_len : ∀ (k : Nat) (es : List (List Nws)), es.length = k → (peo es).length ≤ es.flatten.length
  | 0, es, h => by obtain rfl := List.eq_nil_of_length_eq_zero h; exact Nat.le_refl _
  | k + 1, es, h => by
    have hne : es ≠ [] := fun e => by subst e; cases h
    obtain ⟨qs, p, rfl⟩ : ∃ qs p, es = qs ++ [p] := ⟨es.dropLast, es.getLast hne, (List.dropLast_concat_getLast hne).symm⟩
    have ih := peo_len k qs (by simpa using h)
    have key : ∀ (n : List Nws) (ps : List (Bs × List Ver)), (giveLb ps n).length ≤ ps.length + n.length := by
      intro n
      induction n with
      | nil => intro ps; exact Nat.le_refl _
      | cons q r ih =>
        intro ps
        have h1 := ih (setLb ps q.1 (((getLb ps q.1).getD []) ++ [q.2]))
        have h2 := congrArg List.length (setLb_fst q.1 (((getLb ps q.1).getD []) ++ [q.2]) ps)
        simp only [List.length_map] at h2
        show (giveLb (setLb ps q.1 _) r).length ≤ _
        refine Nat.le_trans h1 ?_
        rw [h2, List.length_cons]
        split <;> simp <;> omega
    rw [peo_snoc]
    have := key p (peo qs)
    simp only [List.flatten_append, List.length_append, List.flatten_cons, List.flatten_nil, List.append_nil]
    omega
theorem StOk.people {es : List (List Nws)} (h : StOk es) : (peo es).length ≤ 320 := by
  have := flat_few es 16 h.few
  have := h.len
  have := peo_len _ es rfl
  omega
theorem StOk.chain {es : List (List Nws)} (h : StOk es) (x : Bs) : chainP (peo es) x = chR es x := peo_chR _ es rfl h.apart x
theorem chR_len (es : List (List Nws)) (x : Bs) : (chR es x).length ≤ es.flatten.length := List.length_filterMap_le ..
theorem StOk.chainLen {es : List (List Nws)} (h : StOk es) (x : Bs) : (chR es x).length ≤ 320 := by
  have := flat_few es 16 h.few
  have := h.len
  have := chR_len es x
  omega
end Go.Proofs.YtdflndjlnkoliaaGreatDoor

namespace Go.Proofs.YtdflndjlnkoliaaGreatDoor
set_option linter.all false
open Go.RowKit
/-! chains of a label: what the code hashes -/
def cis_c : Ctr where
  D := Bs
  args := fun x => [.fs 1 eB x]
  res := fun x _ => .dec (1 ≤ x.length ∧ x.length ≤ 32) inferInstance
def cis_H : Cfg := ⟨[], [], [], [], 11, 0, [], [], []⟩
theorem cis_ok : cis_c.Ok Tryz.prog 83 := by
  refine fn_ok cis_H 0 rfl _ Tryz.func83 rfl rfl trivial rfl rfl (by kernel_rfl) (fun _ => Nat.le_of_ble_eq_true rfl) ?_
  intro (x : Bs) hp hr
  try dsimp only [cis_c] at hp
  try simp only [cis_c, Rng, RngL, inR, and_true, true_and] at hr
  repeat' (first | (with_reducible refine Unf.h ?_) | ((conv => whnf); first | refine Fork.mk (fun h => ?_) (fun h => ?_) | (refine Side.mk ?_ ?_; focus (first | omega | (refine ⟨fun h => ?_, fun h => ?_⟩ <;> first | rfl | (cases h; done) | omega | (exfalso; omega) | (simp only [Bool.false_eq_true] at h; done)))) | refine RetE.mk () trivial ?_ | refine retK_r ?_ | exact rfl) | fail); all_goals try (conv => whnf); all_goals try (exfalso; omega)
def four_c : Ctr where
  D := Int
  args := fun n => [.int .i64 n]
  res := fun n _ => .fs 1 eB (fourB n)
theorem fourB_len (n : Int) : (fourB n).length = 4 := rfl
def four_H : Cfg := ⟨[], [], [], [], 15, 0, [], [], []⟩
theorem four_ok : four_c.Ok Tryz.prog 124 := by
  refine fn_ok four_H 0 rfl _ Tryz.func124 rfl rfl trivial rfl rfl (by kernel_rfl) (fun _ => Nat.le_of_ble_eq_true rfl) ?_
  intro (n : Int) hp hr
  try dsimp only [four_c] at hp
  try simp only [four_c, Rng, RngL, inR, and_true, true_and] at hr
  repeat' (first | (with_reducible refine Unf.h ?_) | ((conv => whnf); first | (refine Side.mk ?_ ?_; focus (first | exact nnS (by decide) | (simp [*, fourB]; done))) | refine RetE.mk () trivial ?_ | refine retK_r ?_ | exact rfl) | fail); all_goals try (conv => whnf); all_goals try (exfalso; omega)
def ckey_c : Ctr where
  D := Bs
  pre := fun x => x.length ≤ 1000000
  args := fun x => [.fs 1 eB x]
  res := fun x _ => .agg [.arr8 (keyL x)]
def ckey_H : Cfg := ⟨[(102, htagged_c)], [], [], [], 6, 0, [], [], []⟩
theorem ckey_ok : ckey_c.Ok Tryz.prog 61 := by
  refine fn_ok ckey_H 0 rfl _ Tryz.func61 rfl rfl ⟨htagged_ok, trivial⟩ rfl rfl (by kernel_rfl) (fun _ => Nat.le_of_ble_eq_true rfl) ?_
  intro (x : Bs) hp hr
  try dsimp only [ckey_c] at hp
  try simp only [ckey_c, Rng, RngL, inR, and_true, true_and] at hr
  have hp : x.length ≤ 1000000 := hp
  have hpt : htagged_c.pre (107#8, [x]) := ⟨by simp, by simpa using hp⟩
  repeat' (first | (with_reducible refine Unf.h ?_) | ((conv => whnf); first | (refine Side.mk ?_ ?_; focus (with_reducible rfl)) | refine CallS.mk (c := htagged_c) ((107#8, [x])) ?_) | fail); all_goals try (conv => whnf); all_goals try (exfalso; omega)
  refine Side.mk rfl ?_
  repeat' (first | (with_reducible refine Unf.h ?_) | ((conv => whnf); first | (refine Side.mk ?_ ?_; focus (first | assumption | (simp only [*, keyL]; done))) | refine RetE.mk () trivial ?_ | refine Got.mk (fun _ _ => ?_) | (with_reducible refine Unf.h ?_) | refine retK_r ?_ | exact rfl) | fail); all_goals try (conv => whnf); all_goals try (exfalso; omega)
def csalt_c : Ctr where
  D := H256 × Bs × Int
  pre := fun (_, x, _) => x.length ≤ 1000000
  args := fun (s, x, n) => [.agg [.arr8 s], .fs 1 eB x, .int .i64 n]
  res := fun (s, x, n) _ => .agg [.arr8 (saltL s x n)]
def csalt_H : Cfg := ⟨[(102, htagged_c), (124, four_c)], [(1, [], [3, 4, 5, 6], (.one 0 0 false (.one 1 0 false (.one 2 0 false (.one 3 2 false (.one 4 2 false (.one 5 2 false (.one 6 2 false .nil))))))), [])], [], [], 13, 0, [], [], []⟩
theorem csalt_ok : csalt_c.Ok Tryz.prog 87 := by
  refine fn_ok csalt_H 0 rfl _ Tryz.func87 rfl rfl ⟨htagged_ok, four_ok, trivial⟩ rfl rfl (by kernel_rfl) (fun _ => Nat.le_of_ble_eq_true rfl) ?_
  rintro ⟨s, x, n⟩ hp hr
  try dsimp only [csalt_c] at hp
  try simp only [csalt_c, Rng, RngL, inR, and_true, true_and] at hr
  have hp : x.length ≤ 1000000 := hp
  have hpt : htagged_c.pre (122#8, [s.toList, x, fourB n]) := ⟨by simp, by simp [fourB_len, hp]⟩
  repeat' (first | (with_reducible refine Unf.h ?_) | ((conv => whnf); first | (refine Side.mk ?_ ?_; focus (first | with_reducible rfl | exact True.intro | (intros; (try simp only [lenS, inR, cutS, loI, hiI, saltL, cutv2] at *); omega))) | refine Got.mk (fun _ _ => ?_) | refine CallS.mk (c := four_c) (n) ?_ | refine CallS.mk (c := htagged_c) ((122#8, [s.toList, x, fourB n])) ?_) | fail); all_goals try (conv => whnf); all_goals try (exfalso; omega)
  refine Side.mk (by simp only [cutv2]; rfl) ?_
  repeat' (first | (with_reducible refine Unf.h ?_) | ((conv => whnf); first | (refine Side.mk ?_ ?_; focus (first | assumption | (simp only [*, saltL]; done))) | refine RetE.mk () trivial ?_ | refine Got.mk (fun _ _ => ?_) | (with_reducible refine Unf.h ?_) | refine retK_r ?_ | exact rfl) | fail); all_goals try (conv => whnf); all_goals try (exfalso; omega)
def ctext_c : Ctr where
  D := Bs × Ver
  pre := fun (x, v) => x.length ≤ 1000000 ∧ v.val.length ≤ 1000000
  args := fun (x, v) => [.fs 1 eB x, .agg (eVr v)]
  res := fun _ _ => .own 0
  out := fun (x, v) _ => [(0, .row 5 1 eB (verT x v))]
  mm := 1
def ctext_H : Cfg := ⟨[(141, htext_c), (124, four_c)], [(1, [2, 5, 12], [3, 6, 13, 14], (.one 0 0 false (.one 1 0 false (.one 2 1 false (.one 4 0 false (.one 5 1 false (.one 7 0 false (.one 8 0 false (.one 9 0 false (.one 10 0 false (.one 11 0 false (.one 12 1 false (.one 3 2 true (.one 6 2 true (.one 13 2 false (.one 14 2 false (.one 15 0 false .nil)))))))))))))))), [])], [], [], 20, 0, [], [], []⟩
theorem ctext_ok : ctext_c.Ok Tryz.prog 123 := by
  refine fn_ok ctext_H 0 rfl _ Tryz.func123 rfl rfl ⟨htext_ok, four_ok, trivial⟩ rfl rfl (by kernel_rfl) (fun _ => Nat.le_of_ble_eq_true rfl) ?_
  rintro ⟨x, v⟩ hp hr
  try dsimp only [ctext_c] at hp
  try simp only [ctext_c, Rng, RngL, inR, and_true, true_and] at hr
  obtain ⟨hp1, hp2⟩ := hp
  have hpt : htext_c.pre (99#8, [x, fourB v.num, fourB v.ep, v.salt.toList, v.before.toList, v.val]) := ⟨by simp, by simp [fourB_len, hp1, hp2]⟩
  repeat' (first | (with_reducible refine Unf.h ?_) | ((conv => whnf); (refine Side.mk ?_ ?_; focus (exact True.intro))) | fail); all_goals try (conv => whnf); all_goals try (exfalso; omega)
  refine CallS.mk (c := four_c) (v.num) ?_
  repeat' (first | (with_reducible refine Unf.h ?_) | ((conv => whnf); first | (refine Side.mk ?_ ?_; focus (first | with_reducible rfl | exact True.intro)) | refine Got.mk (fun _ _ => ?_)) | fail); all_goals try (conv => whnf); all_goals try (exfalso; omega)
  refine CallS.mk (c := four_c) (v.ep) ?_
  repeat' (first | (with_reducible refine Unf.h ?_) | ((conv => whnf); first | (refine Side.mk ?_ ?_; focus (first | with_reducible rfl | exact True.intro | (intros; (try simp only [lenS, inR, cutS, loI, hiI] at *); omega))) | refine Got.mk (fun _ _ => ?_)) | fail); all_goals try (conv => whnf); all_goals try (exfalso; omega)
  refine CallS.mk (c := htext_c) ((99#8, [x, fourB v.num, fourB v.ep, v.salt.toList, v.before.toList, v.val])) ?_
  repeat' (first | (with_reducible refine Unf.h ?_) | ((conv => whnf); (refine Side.mk ?_ ?_; focus (with_reducible rfl))) | fail); all_goals try (conv => whnf); all_goals try (exfalso; omega)
  refine Side.mk (by simp only [cutv2]; rfl) ?_
  repeat' (first | (with_reducible refine Unf.h ?_) | ((conv => whnf); first | (refine Side.mk ?_ ?_; focus (first | assumption | (simp only [*, verT]; done))) | refine RetE.mk () trivial ?_ | refine Got.mk (fun _ _ => ?_) | (with_reducible refine Unf.h ?_) | refine retK_r ?_ | exact rfl) | fail); all_goals try (conv => whnf); all_goals try (exfalso; omega)
theorem verT_small {x : Bs} {v : Ver} (h1 : x.length ≤ 1000000) (h2 : v.val.length ≤ 1000000) : (verT x v).length ≤ 1000000000 :=
  txt_small _ _ (by simp) (by simp [fourB_len, h1, h2])
def ccommit_c : Ctr where
  D := Bs × Ver
  pre := fun (x, v) => x.length ≤ 1000000 ∧ v.val.length ≤ 1000000
  args := fun (x, v) => [.fs 1 eB x, .agg (eVr v)]
  res := fun (x, v) _ => .agg [.arr8 (cmL x v)]
def ccommit_H : Cfg := ⟨[(123, ctext_c), (114, sum_c)], [], [], [], 9, 0, [], [], []⟩
theorem ccommit_ok : ccommit_c.Ok Tryz.prog 86 := by
  refine fn_ok ccommit_H 0 rfl _ Tryz.func86 rfl rfl ⟨ctext_ok, sum_ok, trivial⟩ rfl rfl (by kernel_rfl) (fun _ => Nat.le_of_ble_eq_true rfl) ?_
  rintro ⟨x, v⟩ hp hr
  try dsimp only [ccommit_c] at hp
  try simp only [ccommit_c, Rng, RngL, inR, and_true, true_and] at hr
  obtain ⟨hp1, hp2⟩ := hp
  have hpt : ctext_c.pre (x, v) := ⟨hp1, hp2⟩
  have hps := verT_small hp1 hp2
  repeat' (first | (with_reducible refine Unf.h ?_) | ((conv => whnf); first | (refine Side.mk ?_ ?_; focus (first | with_reducible rfl | exact True.intro | assumption | (simp only [*, cmL]; done))) | refine RetE.mk () trivial ?_ | refine Got.mk (fun _ _ => ?_) | refine retK_r ?_ | exact rfl | refine CallS.mk (c := ctext_c) ((x, v)) ?_ | refine CallS.mk (c := sum_c) (verT x v) ?_) | fail); all_goals try (conv => whnf); all_goals try (exfalso; omega)
end Go.Proofs.YtdflndjlnkoliaaGreatDoor

namespace Go.Proofs.YtdflndjlnkoliaaGreatDoor
set_option linter.all false
open Go.RowKit
/-! chains of a label: which are formed -/
theorem formed_at {x : Bs} {l : List Ver} (h : formedC cmL zeroH x l) (i : Nat) (hi : i < l.length) : l[i].num = (i : Int) + 1 ∧ lastE 0 (l.take i) < l[i].ep ∧ l[i].ep < 2147483648 ∧ l[i].before = lastB (cmL x) zeroH (l.take i) ∧ l[i].val.length ≤ 64 := by
  have h2 : fmV (cmL x) 0 zeroH 0 (l.take (i + 1)) := by
    have h3 := h.2.2
    rw [← List.take_append_drop (i + 1) l] at h3
    exact fmV_take _ h3
  rw [List.take_succ_eq_append_getElem hi, fmV_app] at h2
  have h4 := h2.2
  rw [List.length_take, Nat.min_eq_left (by omega), Nat.zero_add] at h4
  exact h4
theorem fm_step {x : Bs} {l : List Ver} {i : Nat} (hi : i < l.length) (hf : fmV (cmL x) 0 zeroH 0 (l.take i)) (h1 : l[i].num = (i : Int) + 1) (h2 : lastE 0 (l.take i) < l[i].ep) (h3 : l[i].ep < 2147483648) (h4 : l[i].before = lastB (cmL x) zeroH (l.take i)) (h5 : l[i].val.length ≤ 64) :
    fmV (cmL x) 0 zeroH 0 (l.take (i + 1)) ∧ lastB (cmL x) zeroH (l.take (i + 1)) = cmL x l[i] ∧ lastE 0 (l.take (i + 1)) = l[i].ep := by
  rw [List.take_succ_eq_append_getElem hi]
  refine ⟨(fmV_app _ _ _ _ _ _).2 ⟨hf, ?_⟩, lastB_snoc _ _ _ _, lastE_snoc _ _ _⟩
  rw [List.length_take, Nat.min_eq_left (by omega), Nat.zero_add]
  exact ⟨h1, h2, h3, h4, h5⟩
def cformed_c : Ctr where
  D := Bs × List Ver
  pre := fun (x, l) => x.length ≤ 1000000 ∧ l.length ≤ 100000
  args := fun (x, l) => [.fs 1 eB x, .fs 67 eVr l]
  res := fun (x, l) _ => .dec (formedC cmL zeroH x l) inferInstance
def cformed_H : Cfg := ⟨[(83, cis_c), (86, ccommit_c)], [(10, [4], [1, 2, 5], (.one 0 0 false (.one 3 0 false (.one 4 1 false (.one 1 2 true (.one 2 2 true (.one 5 2 true (.one 6 0 false .nil))))))), [5])], [], [], 58, 0, [], [], []⟩
theorem cformed_ok : cformed_c.Ok Tryz.prog 85 := by
  refine fn_ok cformed_H 0 rfl _ Tryz.func85 rfl rfl ⟨cis_ok, ccommit_ok, trivial⟩ rfl rfl (by kernel_rfl) (fun _ => Nat.le_of_ble_eq_true rfl) ?_
  rintro ⟨x, l⟩ hp hr
  try dsimp only [cformed_c] at hp
  try simp only [cformed_c, Rng, RngL, inR, and_true, true_and] at hr
  obtain ⟨hp1, hp2⟩ := hp
  have hp1 : x.length ≤ 1000000 := hp1
  have hp2 : l.length ≤ 100000 := hp2
  by_cases hx : 1 ≤ x.length ∧ x.length ≤ 32
  · rcases Nat.eq_zero_or_pos l.length with hl | hl
    · have hn : ¬ formedC cmL zeroH x l := fun h => h.2.1 (List.eq_nil_of_length_eq_zero hl)
      repeat' (first | (with_reducible refine Unf.h ?_) | ((conv => whnf); first | refine Fork.mkn (fun h => ?_) (fun h => ?_) | refine Fork.mk (fun h => ?_) (fun h => ?_) | (refine Side.mk ?_ ?_; focus (first | with_reducible rfl | exact True.intro | (simp [*, hn]; done))) | refine RetE.mk () trivial ?_ | refine Got.mk (fun _ _ => ?_) | refine retK_r ?_ | exact rfl | refine CallS.mk (c := cis_c) (x) ?_) | fail); all_goals try (conv => whnf); all_goals try (exfalso; omega)
    · repeat' (first | (with_reducible refine Unf.h ?_) | ((conv => whnf); first | refine Fork.mkn (fun h => ?_) (fun h => ?_) | refine Fork.mk (fun h => ?_) (fun h => ?_) | (refine Side.mk ?_ ?_; focus (first | with_reducible rfl | exact True.intro)) | refine Got.mk (fun _ _ => ?_) | refine CallS.mk (c := cis_c) (x) ?_) | fail); all_goals try (conv => whnf); all_goals try (exfalso; omega)
      refine LoopS.autoN (I := Nat) (fun i => i ≤ l.length ∧ fmV (cmL x) 0 zeroH 0 (l.take i)) (fun i => [(19, .int .i64 (i : Int)), (6, .int .i64 (lastE 0 (l.take i)))]) (fun i => [(0, .box 30 [.arr8 (lastB (cmL x) zeroH (l.take i))])]) 1 (fun i => l.length - i) 0 ⟨Nat.zero_le _, trivial⟩ ?_ ?_
      · have e0 : lastE 0 (l.take 0) = 0 := rfl
        have e1 : lastB (cmL x) zeroH (l.take 0) = zeroH := rfl
        repeat' (first | (with_reducible refine Unf.h ?_) | ((conv => whnf); first | (refine Side.mk ?_ ?_; focus (first | with_reducible rfl | (refine congrArg (SV.int _) ?_; omega) | (simp only [*, e0, e1]; done))) | (with_reducible refine Unf.h ?_) | exact True.intro) | fail); all_goals try (conv => whnf); all_goals try (exfalso; omega)
      · rintro i ⟨hi, hf⟩
        by_cases hil : i < l.length
        · have hA : formedC cmL zeroH x l → (l[((i : Nat) : Int).toNat]'hil).num = (i : Int) + 1 ∧ lastE 0 (l.take i) < (l[((i : Nat) : Int).toNat]'hil).ep ∧ (l[((i : Nat) : Int).toNat]'hil).ep < 2147483648 ∧ (l[((i : Nat) : Int).toNat]'hil).before = lastB (cmL x) zeroH (l.take i) ∧ (l[((i : Nat) : Int).toNat]'hil).val.length ≤ 64 := fun hF => formed_at hF i hil
          repeat' (first | (with_reducible refine Unf.h ?_) | ((conv => whnf); first | refine Fork.mkn (fun h => ?_) (fun h => ?_) | refine Fork.mk (fun h => ?_) (fun h => ?_) | (refine Side.mk ?_ ?_; focus ((intros; (try simp only [lenS, inR, cutS, loI, hiI] at *); omega))) | (refine Idx.mk ?_ ?_; focus (omega)) | refine RetE.mk () trivial ?_ | refine retK_r ?_) | fail); all_goals try (conv => whnf); all_goals try (exfalso; omega)
          all_goals first
            | (refine Side.mk (iffF fun hF => ?_) ?_
               · obtain ⟨a1, a2, a3, a4, a5⟩ := hA hF
                 first
                   | omega
                   | exact absurd (congrArg Vector.toList a4) (by assumption)
               · repeat' (first | (with_reducible refine Unf.h ?_) | ((conv => whnf); exact rfl) | fail); all_goals try (conv => whnf); all_goals try (exfalso; omega))
            | skip
          obtain ⟨q1, q2, q3⟩ := fm_step hil hf (by assumption) (by show _ < (l[((i : Nat) : Int).toNat]'hil).ep; omega) (by show (l[((i : Nat) : Int).toNat]'hil).ep < _; omega) (Vector.toList_inj.1 (by assumption)) (by show (l[((i : Nat) : Int).toNat]'hil).val.length ≤ _; omega)
          have q2 : lastB (cmL x) zeroH (l.take (i + 1)) = cmL x (l[((i : Nat) : Int).toNat]'hil) := q2
          have q3 : lastE 0 (l.take (i + 1)) = (l[((i : Nat) : Int).toNat]'hil).ep := q3
          have hpc : ccommit_c.pre (x, l[((i : Nat) : Int).toNat]'hil) := ⟨hp1, by omega⟩
          refine CallS.mk (c := ccommit_c) ((x, l[((i : Nat) : Int).toNat]'hil)) ?_
          repeat' (first | (with_reducible first | refine Unf.h ?_ | refine loopK_n ?_) | ((conv => whnf); first | (refine Side.mk ?_ ?_; focus (first | with_reducible rfl | assumption | (intros; (try simp only [lenS, inR, cutS, loI, hiI] at *); omega))) | refine Got.mk (fun _ _ => ?_)) | fail); all_goals try (conv => whnf); all_goals try (exfalso; omega)
          refine ⟨i + 1, ⟨by omega, by omega, q1⟩, ?_⟩
          repeat' (first | (with_reducible refine Unf.h ?_) | ((conv => whnf); first | (refine Side.mk ?_ ?_; focus (first | with_reducible rfl | (refine congrArg (SV.int _) ?_; omega) | (simp only [*, q2, q3]; done))) | (with_reducible refine Unf.h ?_) | exact True.intro) | fail); all_goals try (conv => whnf); all_goals try (exfalso; omega)
        · have e : l.take i = l := List.take_of_length_le (by omega)
          rw [e] at hf
          have hF : formedC cmL zeroH x l := ⟨hx, fun h => by rw [h] at hl; exact absurd hl (by simp), hf⟩
          repeat' (first | (with_reducible refine Unf.h ?_) | ((conv => whnf); first | refine Fork.mk (fun h => ?_) (fun h => ?_) | (refine Side.mk ?_ ?_; focus ((refine ⟨fun h => ?_, fun h => ?_⟩ <;> first | rfl | (cases h; done) | omega | (exfalso; omega) | (simp only [Bool.false_eq_true] at h; done)))) | refine RetE.mk () trivial ?_ | refine retK_r ?_ | exact rfl) | fail); all_goals try (conv => whnf); all_goals try (exfalso; omega)
  · have hn : ¬ formedC cmL zeroH x l := fun h => hx h.1
    repeat' (first | (with_reducible refine Unf.h ?_) | ((conv => whnf); first | refine Fork.mkn (fun h => ?_) (fun h => ?_) | (refine Side.mk ?_ ?_; focus (first | with_reducible rfl | exact True.intro | (simp [*, hn]; done))) | refine RetE.mk () trivial ?_ | refine Got.mk (fun _ _ => ?_) | refine retK_r ?_ | exact rfl | refine CallS.mk (c := cis_c) (x) ?_) | fail); all_goals try (conv => whnf); all_goals try (exfalso; omega)
end Go.Proofs.YtdflndjlnkoliaaGreatDoor

namespace Go.Proofs.YtdflndjlnkoliaaGreatDoor
set_option linter.all false
open Go.RowKit
/-! a chain is made longer -/
def cloneB_c : Ctr where
  D := Bs
  pre := fun l => l.length ≤ 1000000
  args := fun l => [.fs 1 eB l]
  res := fun l _ => .fs 1 eB l
def cloneB_H : Cfg := ⟨[], [], [], [], 8, 0, [], [], []⟩
theorem cloneB_ok : cloneB_c.Ok Tryz.prog 84 := by
  refine fn_ok cloneB_H 0 rfl _ Tryz.func84 rfl rfl trivial rfl rfl (by kernel_rfl) (fun _ => Nat.le_of_ble_eq_true rfl) ?_
  intro (l : Bs) hp hr
  try dsimp only [cloneB_c] at hp
  try simp only [cloneB_c, Rng, RngL, inR, and_true, true_and] at hr
  repeat' (first | (with_reducible refine Unf.h ?_) | ((conv => whnf); first | (refine Side.mk ?_ ?_; focus (first | with_reducible rfl | (intros; (try simp only [lenS, inR, cutS, loI, hiI] at *); omega) | exact List.eq_nil_of_length_eq_zero (by assumption))) | refine RetE.mk () trivial ?_ | refine boolK (fun h => ?_) ?_ | refine retK_r ?_ | exact rfl) | fail); all_goals try (conv => whnf)
def cloneV_c : Ctr where
  D := List Ver
  pre := fun l => l.length ≤ 100000
  args := fun l => [.fs 67 eVr l]
  res := fun _ _ => .own 0
  out := fun l _ => [(0, .row 115 67 eVr l)]
  mm := 1
def cloneV_H : Cfg := ⟨[], [], [], [], 8, 0, [], [], []⟩
theorem cloneV_ok : cloneV_c.Ok Tryz.prog 72 := by
  refine fn_ok cloneV_H 0 rfl _ Tryz.func72 rfl rfl trivial rfl rfl (by kernel_rfl) (fun _ => Nat.le_of_ble_eq_true rfl) ?_
  intro (l : List Ver) hp hr
  try dsimp only [cloneV_c] at hp
  try simp only [cloneV_c, Rng, RngL, inR, and_true, true_and] at hr
  repeat' (first | (with_reducible refine Unf.h ?_) | ((conv => whnf); first | (refine Side.mk ?_ ?_; focus (first | with_reducible rfl | (intros; (try simp only [lenS, inR, cutS, loI, hiI] at *); omega) | exact List.eq_nil_of_length_eq_zero (by assumption))) | refine RetE.mk () trivial ?_ | refine boolK (fun h => ?_) ?_ | refine retK_r ?_ | exact rfl) | fail); all_goals try (conv => whnf)
def growF (seed : H256) (x : Bs) (l : List Ver) (e : Int) (val : Bs) : List Ver × Int :=
  if okG cmL zeroH x l e val then (l ++ [newV cmL zeroH (saltL seed x (l.length + 1)) x l e val], 0) else ([], 1)
def cgrow_c : Ctr where
  D := H256 × Bs × List Ver × Int × Bs
  pre := fun (_, x, l, _, val) => x.length ≤ 100000 ∧ l.length ≤ 10000 ∧ val.length ≤ 100000
  args := fun (s, x, l, e, val) => [.agg [.arr8 s], .fs 1 eB x, .fs 67 eVr l, .int .i64 e, .fs 1 eB val]
  res := fun (s, x, l, e, val) _ => .tup [.fs 67 eVr (growF s x l e val).1, .int .i64 (growF s x l e val).2]
def cgrow_H : Cfg := ⟨[(83, cis_c), (84, cloneB_c), (85, cformed_c), (86, ccommit_c), (87, csalt_c), (72, cloneV_c)], [(10, [], [1, 2, 3, 4], (.one 0 0 false (.alt 1 false (.one 2 2 false (.one 3 2 false (.one 4 2 false (.one 5 0 false (.one 6 0 false .nil))))) (.one 2 2 false (.alt 1 false (.one 3 2 false (.one 4 2 false (.one 5 0 false (.one 6 0 false .nil)))) (.one 3 2 false (.one 1 2 false (.one 4 2 false (.one 5 0 false (.one 6 0 false .nil))))))))), [])], [39], [], 71, 0, [], [], []⟩
theorem cgrow_ok : cgrow_c.Ok Tryz.prog 41 := by
  refine fn_ok cgrow_H 0 rfl _ Tryz.func41 rfl rfl ⟨cis_ok, cloneB_ok, cformed_ok, ccommit_ok, csalt_ok, cloneV_ok, trivial⟩ rfl rfl (by kernel_rfl) (fun _ => Nat.le_of_ble_eq_true rfl) ?_
  rintro ⟨s, x, l, e, val⟩ hp hr
  try dsimp only [cgrow_c] at hp
  try simp only [cgrow_c, Rng, RngL, inR, and_true, true_and] at hr
  obtain ⟨hp1, hp2, hp3⟩ := hp
  have hp1 : x.length ≤ 100000 := hp1
  have hp2 : l.length ≤ 10000 := hp2
  have hp3 : val.length ≤ 100000 := hp3
  have hcb : cloneB_c.pre val := show val.length ≤ 1000000 by omega
  have hcv : cloneV_c.pre l := show l.length ≤ 100000 by omega
  have hcf : cformed_c.pre (x, l) := ⟨show x.length ≤ 1000000 by omega, show l.length ≤ 100000 by omega⟩
  have hcs : csalt_c.pre (s, x, (l.length : Int) + 1) := show x.length ≤ 1000000 by omega
  by_cases hb : (1 ≤ x.length ∧ x.length ≤ 32) ∧ val.length ≤ 64 ∧ 1 ≤ e ∧ e < 2147483648
  · obtain ⟨⟨b1, b2⟩, b3, b4, b5⟩ := hb
    by_cases hok : okG cmL zeroH x l e val
    · have hf : growF s x l e val = (l ++ [⟨(l.length : Int) + 1, e, saltL s x ((l.length : Int) + 1), lastB (cmL x) zeroH l, val⟩], 0) := if_pos hok
      have hpo := ((okG_prog cmL zeroH).1 hok).2
      repeat' (first | (with_reducible refine Unf.h ?_) | ((conv => whnf); first | refine Fork.mkn (fun h => ?_) (fun h => ?_) | refine Fork.mk (fun h => ?_) (fun h => ?_) | (refine Side.mk ?_ ?_; focus (first | with_reducible rfl | exact True.intro | assumption | (intros; (try simp only [lenS, inR, cutS, loI, hiI] at *); omega))) | refine Got.mk (fun _ _ => ?_) | refine CallS.mk (c := cis_c) (x) ?_ | refine CallS.mk (c := cloneB_c) (val) ?_) | fail); all_goals try (conv => whnf); all_goals try (exfalso; omega)
      refine CutS.auto (I := Unit) (fun _ => True) (fun _ => [(12, .ptr 1 0)]) (fun _ => [(0, .box 30 [.arr8 s]), (1, .box 115 [.int .i64 ((l.length : Int) + 1), .int .i64 e, .arr8 zeroH, .arr8 (lastB (cmL x) zeroH l), .fs 1 eB val])]) 2 ?_ ?_
      · repeat' (first | (with_reducible first | refine Unf.h ?_ | refine cutK_n ?_) | ((conv => whnf); first | refine Fork.mk (fun h => ?_) (fun h => ?_) | (refine Side.mk ?_ ?_; focus ((intros; (try simp only [lenS, inR, cutS, loI, hiI] at *); omega))) | (refine Idx.mk ?_ ?_; focus (omega))) | fail); all_goals try (conv => whnf); all_goals try (exfalso; omega)
        · have hne : l ≠ [] := fun h' => by rw [h'] at h; exact absurd h (by simp)
          have hF : formedC cmL zeroH x l := (hpo.resolve_left hne).1
          have hlast : (l.getLast hne) = l[((l.length : Int) - 1).toNat]'(by have := List.length_pos_iff.2 hne; omega) := by
            rw [List.getLast_eq_getElem]; congr 1; omega
          have hE := (hpo.resolve_left hne).2 hne
          have hB := lastB_at (cmL x) zeroH hne
          rw [hlast] at hE hB
          have hpc : ccommit_c.pre (x, l[((l.length : Int) - 1).toNat]'(by have := List.length_pos_iff.2 hne; omega)) := ⟨show x.length ≤ 1000000 by omega, by
            have h64 := (formed_at hF ((l.length : Int) - 1).toNat (by have := List.length_pos_iff.2 hne; omega)).2.2.2.2
            show (l[((l.length : Int) - 1).toNat]'(by have := List.length_pos_iff.2 hne; omega)).val.length ≤ 1000000
            omega⟩
          refine CallS.mk (c := cformed_c) ((x, l)) ?_
          repeat' (first | (with_reducible refine Unf.h ?_) | ((conv => whnf); first | refine Fork.mkn (fun h => ?_) (fun h => ?_) | refine Fork.mk (fun h => ?_) (fun h => ?_) | (refine Side.mk ?_ ?_; focus (first | with_reducible rfl | assumption)) | refine RetE.mk () trivial ?_ | refine Got.mk (fun _ _ => ?_) | refine retK_r ?_) | fail); all_goals try (conv => whnf); all_goals try (exfalso; omega)
          · exact absurd hF (by assumption)
          refine CallS.mk (c := ccommit_c) ((x, l[((l.length : Int) - 1).toNat]'(by have := List.length_pos_iff.2 hne; omega))) ?_
          repeat' (first | (with_reducible first | refine Unf.h ?_ | refine cutK_n ?_) | ((conv => whnf); first | (refine Side.mk ?_ ?_; focus (first | with_reducible rfl | assumption)) | refine Got.mk (fun _ _ => ?_)) | fail); all_goals try (conv => whnf); all_goals try (exfalso; omega)
          refine ⟨(), trivial, ?_⟩
          repeat' (first | (with_reducible refine Unf.h ?_) | ((conv => whnf); first | (refine Side.mk ?_ ?_; focus (first | with_reducible rfl | (simp only [*, hB]; done))) | (with_reducible refine Unf.h ?_) | exact True.intro) | fail); all_goals try (conv => whnf); all_goals try (exfalso; omega)
        · have hne : l = [] := List.eq_nil_of_length_eq_zero (by omega)
          subst hne
          all_goals try (conv => whnf); all_goals try (exfalso; omega)
          refine ⟨(), trivial, ?_⟩
          have e0 : lastB (cmL x) zeroH [] = zeroH := rfl
          repeat' (first | (with_reducible refine Unf.h ?_) | ((conv => whnf); first | (refine Side.mk ?_ ?_; focus (first | with_reducible rfl | (simp only [*, e0]; done))) | (with_reducible refine Unf.h ?_) | exact True.intro) | fail); all_goals try (conv => whnf); all_goals try (exfalso; omega)
      · intro _ _
        repeat' (first | (with_reducible refine Unf.h ?_) | ((conv => whnf); first | refine Both.mk ?_ ?_ | refine Both.mk ?_ ?_ | (refine Side.mk ?_ ?_; focus (first | with_reducible rfl | assumption)) | refine Got.mk (fun _ _ => ?_) | refine CallS.mk (c := csalt_c) ((s, x, (l.length : Int) + 1)) ?_ | refine CallS.mk (c := cloneV_c) (l) ?_) | fail); all_goals try (conv => whnf); all_goals try (exfalso; omega)
        all_goals
          refine Ex.mk [⟨(l.length : Int) + 1, e, saltL s x ((l.length : Int) + 1), lastB (cmL x) zeroH l, val⟩] rfl ?_
          repeat' (first | (with_reducible refine Unf.h ?_) | ((conv => whnf); first | (refine Side.mk ?_ ?_; focus (first | (intros; (try simp only [lenS, inR, cutS, loI, hiI, hf] at *); omega) | (simp only [*, hf]; done))) | refine RetE.mk () trivial ?_ | refine retK_r ?_ | exact rfl) | fail); all_goals try (conv => whnf); all_goals try (exfalso; omega)
    · have hf : growF s x l e val = ([], 1) := if_neg hok
      have hno : ¬ (l = [] ∨ formedC cmL zeroH x l ∧ ∀ h : l ≠ [], (l.getLast h).ep < e) := fun h => hok ((okG_prog cmL zeroH).2 ⟨⟨⟨b1, b2⟩, b3, b4, b5⟩, h⟩)
      have hne : l ≠ [] := fun h => hno (.inl h)
      have hlp := List.length_pos_iff.2 hne
      have hlast : (l.getLast hne) = l[((l.length : Int) - 1).toNat]'(by omega) := by
        rw [List.getLast_eq_getElem]; congr 1; omega
      have hno2 : ¬ (formedC cmL zeroH x l ∧ (l[((l.length : Int) - 1).toNat]'(by omega)).ep < e) := fun h => hno (.inr ⟨h.1, fun h' => by rw [hlast]; exact h.2⟩)
      repeat' (first | (with_reducible refine Unf.h ?_) | ((conv => whnf); first | refine Fork.mkn (fun h => ?_) (fun h => ?_) | refine Fork.mk (fun h => ?_) (fun h => ?_) | (refine Side.mk ?_ ?_; focus (first | with_reducible rfl | exact True.intro | assumption | (intros; (try simp only [lenS, inR, cutS, loI, hiI] at *); omega))) | refine Got.mk (fun _ _ => ?_) | refine CallS.mk (c := cis_c) (x) ?_ | refine CallS.mk (c := cloneB_c) (val) ?_) | fail); all_goals try (conv => whnf); all_goals try (exfalso; omega)
      refine CutS.auto (I := Empty) (fun _ => True) (fun _ => []) (fun _ => []) 0 ?_ (fun i => i.elim)
      repeat' (first | (with_reducible refine Unf.h ?_) | ((conv => whnf); first | refine Fork.mk (fun h => ?_) (fun h => ?_) | (refine Side.mk ?_ ?_; focus ((intros; (try simp only [lenS, inR, cutS, loI, hiI] at *); omega))) | (refine Idx.mk ?_ ?_; focus (omega))) | fail); all_goals try (conv => whnf); all_goals try (exfalso; omega)
      refine CallS.mk (c := cformed_c) ((x, l)) ?_
      repeat' (first | (with_reducible refine Unf.h ?_) | ((conv => whnf); first | refine Fork.mkn (fun h => ?_) (fun h => ?_) | refine Fork.mk (fun h => ?_) (fun h => ?_) | (refine Side.mk ?_ ?_; focus (first | with_reducible rfl | assumption | (simp only [*, hf]; done))) | refine RetE.mk () trivial ?_ | refine Got.mk (fun _ _ => ?_) | refine retK_r ?_ | exact rfl) | fail); all_goals try (conv => whnf); all_goals try (exfalso; omega)
      exact absurd ⟨by assumption, by omega⟩ hno2
  · have hn : ¬ okG cmL zeroH x l e val := fun h => hb ((okG_prog cmL zeroH).1 h).1
    have hf : growF s x l e val = ([], 1) := if_neg hn
    repeat' (first | (with_reducible refine Unf.h ?_) | ((conv => whnf); first | refine Fork.mkn (fun h => ?_) (fun h => ?_) | refine Fork.mk (fun h => ?_) (fun h => ?_) | (refine Side.mk ?_ ?_; focus (first | with_reducible rfl | exact True.intro | (simp only [*, hf]; done))) | refine RetE.mk () trivial ?_ | refine Got.mk (fun _ _ => ?_) | refine retK_r ?_ | exact rfl | refine CallS.mk (c := cis_c) (x) ?_) | fail); all_goals try (conv => whnf); all_goals try (exfalso; omega)
def uptoL (l : List Ver) (e : Int) : List Ver := l.takeWhile fun v => decide (v.ep ≤ e)
theorem upto_all {l : List Ver} {e : Int} {n : Nat} (h1 : n ≤ l.length) (h : ∀ i, ∀ hi : i < n, (l[i]'(by omega)).ep ≤ e) (hl : n = l.length ∨ ∃ hn : n < l.length, ¬ (l[n]'hn).ep ≤ e) : uptoL l e = l.take n := by
  induction l generalizing n with
  | nil => simp [uptoL]
  | cons v r ih =>
    cases n with
    | zero =>
      rcases hl with hl | ⟨hn, hl⟩
      · cases hl
      · have hl : ¬ v.ep ≤ e := hl
        simp [uptoL, List.takeWhile_cons, hl]
    | succ n =>
      have h0 : v.ep ≤ e := h 0 (by omega)
      have := ih (n := n) (by simpa using h1) (fun i hi => h (i + 1) (by omega)) (by
        rcases hl with hl | ⟨hn, hl⟩
        · exact .inl (by simpa using hl)
        · exact .inr ⟨by simpa using hn, hl⟩)
      unfold uptoL at this ⊢
      rw [List.takeWhile_cons, if_pos (by simpa using h0), this]; rfl
def cupto_c : Ctr where
  D := List Ver × Int
  pre := fun (l, _) => l.length ≤ 100000
  args := fun (l, e) => [.fs 67 eVr l, .int .i64 e]
  res := fun (l, e) _ => .fs 67 eVr (uptoL l e)
def cupto_H : Cfg := ⟨[(72, cloneV_c)], [], [], [], 25, 0, [], [], []⟩
theorem cupto_ok : cupto_c.Ok Tryz.prog 62 := by
  refine fn_ok cupto_H 0 rfl _ Tryz.func62 rfl rfl ⟨cloneV_ok, trivial⟩ rfl rfl (by kernel_rfl) (fun _ => Nat.le_of_ble_eq_true rfl) ?_
  rintro ⟨l, e⟩ hp hr
  try dsimp only [cupto_c] at hp
  try simp only [cupto_c, Rng, RngL, inR, and_true, true_and] at hr
  have hp : l.length ≤ 100000 := hp
  repeat' (first | (with_reducible refine Unf.h ?_) | fail); all_goals try (conv => whnf); all_goals try (exfalso; omega)
  refine LoopS.autoN (I := Nat) (fun n => n ≤ l.length ∧ ∀ i, ∀ hi : i < n, ∀ hl : i < l.length, (l[i]'hl).ep ≤ e) (fun n => [(5, .int .i64 (n : Int))]) (fun _ => []) 0 (fun n => l.length - n) 0 ⟨Nat.zero_le _, fun i hi => absurd hi (by omega)⟩ ?_ ?_
  · repeat' (first | (with_reducible refine Unf.h ?_) | ((conv => whnf); first | (refine Side.mk ?_ ?_; focus (first | with_reducible rfl | (refine congrArg (SV.int _) ?_; omega))) | (with_reducible refine Unf.h ?_) | exact True.intro) | fail); all_goals try (conv => whnf); all_goals try (exfalso; omega)
  · rintro n ⟨hn, hf⟩
    have hcv : cloneV_c.pre (l.take n) := by show (l.take n).length ≤ 100000; rw [List.length_take]; omega
    have e1 : cutL l none (some (n : Int)) = l.take n := by simp [cutL]
    repeat' (first | (with_reducible first | refine Unf.h ?_ | refine loopK_n ?_) | ((conv => whnf); first | refine Fork.mk (fun h => ?_) (fun h => ?_) | (refine Side.mk ?_ ?_; focus ((intros; (try simp only [lenS, inR, cutS, loI, hiI] at *); omega))) | (refine Idx.mk ?_ ?_; focus (omega))) | fail); all_goals try (conv => whnf); all_goals try (exfalso; omega)
    · refine ⟨n + 1, ⟨by omega, by omega, fun i hi hl => ?_⟩, ?_⟩
      · rcases Nat.lt_or_ge i n with h' | h'
        · exact hf i h' hl
        · obtain rfl : i = n := by omega
          exact h
      · repeat' (first | (with_reducible refine Unf.h ?_) | ((conv => whnf); first | (refine Side.mk ?_ ?_; focus (first | with_reducible rfl | (refine congrArg (SV.int _) ?_; omega))) | (with_reducible refine Unf.h ?_) | exact True.intro) | fail); all_goals try (conv => whnf); all_goals try (exfalso; omega)
    · have e2 : uptoL l e = l.take n := upto_all hn (fun i hi => hf i hi (by omega)) (.inr ⟨by omega, h⟩)
      rw [e1]
      refine CallS.mk (c := cloneV_c) ((l.take n)) ?_
      repeat' (first | (with_reducible refine Unf.h ?_) | ((conv => whnf); first | (refine Side.mk ?_ ?_; focus (first | with_reducible rfl | assumption | (simp only [*, e2]; done))) | refine RetE.mk () trivial ?_ | refine Got.mk (fun _ _ => ?_) | refine retK_r ?_ | exact rfl) | fail); all_goals try (conv => whnf); all_goals try (exfalso; omega)
    · have e2 : uptoL l e = l.take n := upto_all hn (fun i hi => hf i hi (by omega)) (.inl (by omega))
      rw [e1]
      refine CallS.mk (c := cloneV_c) ((l.take n)) ?_
      repeat' (first | (with_reducible refine Unf.h ?_) | ((conv => whnf); first | (refine Side.mk ?_ ?_; focus (first | with_reducible rfl | assumption | (simp only [*, e2]; done))) | refine RetE.mk () trivial ?_ | refine Got.mk (fun _ _ => ?_) | refine retK_r ?_ | exact rfl) | fail); all_goals try (conv => whnf); all_goals try (exfalso; omega)
end Go.Proofs.YtdflndjlnkoliaaGreatDoor

namespace Go.Proofs.YtdflndjlnkoliaaGreatDoor
set_option linter.all false
open Go.RowKit
/-! bytes put together; a writer; a leaf of the log -/
theorem flatB {α : Type} : ∀ (l : List (List α)) (m : Nat), (∀ n ∈ l, n.length ≤ m) → l.flatten.length ≤ m * l.length
  | [], m, _ => by simp
  | n :: r, m, h => by
    have h1 := h n (by simp)
    have := flatB r m fun k hk => h k (by simp [hk])
    rw [List.flatten_cons, List.length_append, List.length_cons, Nat.mul_succ]; omega
theorem flat_step {α : Type} (l : List (List α)) (i : Nat) (h : i < l.length) : (l.take (i + 1)).flatten = (l.take i).flatten ++ l[i] := by
  rw [List.take_succ_eq_append_getElem h, List.flatten_append, List.flatten_cons, List.flatten_nil, List.append_nil]
def concat_c : Ctr where
  D := List Bs
  pre := fun l => 1 ≤ l.flatten.length ∧ l.length ≤ 100 ∧ ∀ p ∈ l, p.length ≤ 1000000
  args := fun l => [.fs 1 eP l]
  res := fun _ _ => .own 0
  out := fun l _ => [(0, .row 5 1 eB l.flatten)]
  mm := 1
def concat_H : Cfg := ⟨[(187, sgrow_c)], [], [], [], 36, 0, [], [], []⟩
theorem concat_ok : concat_c.Ok Tryz.prog 165 := by
  refine fn_ok concat_H 0 rfl _ Tryz.func165 rfl rfl ⟨sgrow_ok, trivial⟩ rfl rfl (by kernel_rfl) (fun _ => Nat.le_of_ble_eq_true rfl) ?_
  intro (l : List Bs) hp hr
  try dsimp only [concat_c] at hp
  try simp only [concat_c, Rng, RngL, inR, and_true, true_and] at hr
  obtain ⟨hp1, hp2, hp3⟩ := hp
  have hp1 : 1 ≤ l.flatten.length := hp1
  have hp2 : l.length ≤ 100 := hp2
  have hbd : ∀ i, (l.take i).flatten.length ≤ 100000000 := fun i => by
    have h1 := flatB (l.take i) 1000000 fun p hp => hp3 p (List.mem_of_mem_take hp)
    have h2 : (l.take i).length ≤ l.length := by simp; omega
    omega
  have hbl := hbd l.length
  rw [List.take_length] at hbl
  repeat' (first | (with_reducible refine Unf.h ?_) | fail); all_goals try (conv => whnf); all_goals try (exfalso; omega)
  refine LoopS.autoN (I := Nat) (fun i => i ≤ l.length) (fun i => [(11, .int .i64 (i : Int)), (3, .int .i64 (((l.take i).flatten.length : Nat) : Int))]) (fun _ => []) 0 (fun i => l.length - i) 0 (Nat.zero_le _) ?_ ?_
  · have e0 : (l.take 0).flatten.length = 0 := rfl
    repeat' (first | (with_reducible refine Unf.h ?_) | ((conv => whnf); first | (refine Side.mk ?_ ?_; focus (first | with_reducible rfl | (refine congrArg (SV.int _) ?_; omega))) | (with_reducible refine Unf.h ?_) | exact True.intro) | fail); all_goals try (conv => whnf); all_goals try (exfalso; omega)
  · intro i hi
    have hbi := hbd i
    by_cases hil : i < l.length
    · have hb : (l[((i : Nat) : Int).toNat]'hil).length ≤ 1000000 := hp3 _ (List.getElem_mem _)
      have es : (((l.take (i + 1)).flatten.length : Nat) : Int) = ((l.take i).flatten.length : Nat) + ((l[((i : Nat) : Int).toNat]'hil).length : Int) := by
        rw [flat_step l i hil, List.length_append]; rfl
      repeat' (first | (with_reducible first | refine Unf.h ?_ | refine loopK_n ?_) | ((conv => whnf); first | refine Fork.mk (fun h => ?_) (fun h => ?_) | (refine Side.mk ?_ ?_; focus ((intros; (try simp only [lenS, inR, cutS, loI, hiI, eP] at *); omega))) | (refine Idx.mk ?_ ?_; focus (omega))) | fail); all_goals try (conv => whnf); all_goals try (exfalso; omega)
      refine ⟨i + 1, ⟨by omega, by omega⟩, ?_⟩
      repeat' (first | (with_reducible refine Unf.h ?_) | ((conv => whnf); first | (refine Side.mk ?_ ?_; focus (first | with_reducible rfl | (refine congrArg (SV.int _) ?_; omega))) | (with_reducible refine Unf.h ?_) | exact True.intro) | fail); all_goals try (conv => whnf); all_goals try (exfalso; omega)
    · have e : l.take i = l := List.take_of_length_le (by omega)
      have hpg : sgrow_c.pre l.flatten.length := ⟨by omega, by omega⟩
      rw [e] at hbi ⊢
      repeat' (first | (with_reducible refine Unf.h ?_) | ((conv => whnf); refine Fork.mk (fun h => ?_) (fun h => ?_)) | fail); all_goals try (conv => whnf); all_goals try (exfalso; omega)
      refine CallS.mk (c := sgrow_c) (l.flatten.length) ?_
      repeat' (first | (with_reducible refine Unf.h ?_) | ((conv => whnf); first | (refine Side.mk ?_ ?_; focus (first | with_reducible rfl | assumption)) | refine Got.mk (fun _ _ => ?_)) | fail); all_goals try (conv => whnf); all_goals try (exfalso; omega)
      refine LoopS.autoN (I := Nat) (fun i => i ≤ l.length) (fun i => [(27, .int .i64 (i : Int)), (6, .own 0)]) (fun i => [(0, .row 5 1 eB (l.take i).flatten)]) 1 (fun i => l.length - i) 0 (Nat.zero_le _) ?_ ?_
      · have e0 : (l.take 0).flatten = [] := rfl
        repeat' (first | (with_reducible refine Unf.h ?_) | ((conv => whnf); first | (refine Side.mk ?_ ?_; focus (first | with_reducible rfl | (refine congrArg (SV.int _) ?_; omega) | (simp only [*, e0]; done))) | (with_reducible refine Unf.h ?_) | exact True.intro) | fail); all_goals try (conv => whnf); all_goals try (exfalso; omega)
      · intro i hi
        have hbi := hbd i
        by_cases hil : i < l.length
        · have hb : (l[((i : Nat) : Int).toNat]'hil).length ≤ 1000000 := hp3 _ (List.getElem_mem _)
          have es : (l.take (i + 1)).flatten = (l.take i).flatten ++ l[((i : Nat) : Int).toNat]'hil := flat_step l i hil
          repeat' (first | (with_reducible first | refine Unf.h ?_ | refine loopK_n ?_) | ((conv => whnf); first | refine Fork.mk (fun h => ?_) (fun h => ?_) | (refine Side.mk ?_ ?_; focus ((intros; (try simp only [lenS, inR, cutS, loI, hiI, eP] at *); omega))) | (refine Idx.mk ?_ ?_; focus (omega)) | refine Ex.mk _ rfl ?_) | fail); all_goals try (conv => whnf); all_goals try (exfalso; omega)
          refine ⟨i + 1, ⟨by omega, by omega⟩, ?_⟩
          repeat' (first | (with_reducible refine Unf.h ?_) | ((conv => whnf); first | (refine Side.mk ?_ ?_; focus (first | with_reducible rfl | (refine congrArg (SV.int _) ?_; omega) | (simp only [*, es]; done))) | (with_reducible refine Unf.h ?_) | exact True.intro) | fail); all_goals try (conv => whnf); all_goals try (exfalso; omega)
        · have e : l.take i = l := List.take_of_length_le (by omega)
          repeat' (first | (with_reducible refine Unf.h ?_) | ((conv => whnf); first | refine Fork.mk (fun h => ?_) (fun h => ?_) | (refine Side.mk ?_ ?_; focus ((simp only [*, e]; done))) | refine RetE.mk () trivial ?_ | refine retK_r ?_ | exact rfl) | fail); all_goals try (conv => whnf); all_goals try (exfalso; omega)
def wnum_c : Ctr where
  D := Bs × BitVec 64 × Nat
  pre := fun (b, _, n) => n ≤ 8 ∧ b.length ≤ 1000000
  args := fun (_, x, n) => [.ptr 0 0, .u64 x, .int .i64 (n : Int)]
  objs := fun (b, _, _) => [(0, .box 226 [.own 1, .bool false]), (1, .row 5 1 eB b)]
  nn := 2
  res := fun _ _ => .tup []
  out := fun (b, x, n) _ => [(0, .box 226 [.own 2, .bool false]), (2, .row 5 1 eB (b ++ beN n x))]
  mm := 1
def wnum_H : Cfg := ⟨[], [(4, [4], [10, 11, 14], (.one 0 0 false (.one 1 0 false (.one 2 0 false (.one 3 0 false (.one 4 1 false (.one 5 0 false (.one 6 0 false (.one 7 0 false (.one 8 0 false (.one 9 0 false (.one 10 2 true (.one 11 2 false (.one 12 0 false (.one 13 0 false (.one 14 2 false .nil))))))))))))))), [])], [], [], 35, 2, [], [], []⟩
theorem wnum_ok : wnum_c.Ok Tryz.prog 164 := by
  refine fn_ok wnum_H 2 rfl _ Tryz.func164 rfl rfl trivial rfl rfl (by kernel_rfl) (fun _ => Nat.le_of_ble_eq_true rfl) ?_
  rintro ⟨b, x, n⟩ hp hr
  try dsimp only [wnum_c] at hp
  try simp only [wnum_c, Rng, RngL, inR, and_true, true_and] at hr
  obtain ⟨hp1, hp2⟩ := hp
  have hp1 : n ≤ 8 := hp1
  have hp2 : b.length ≤ 1000000 := hp2
  repeat' (first | (with_reducible refine Unf.h ?_) | ((conv => whnf); (refine Side.mk ?_ ?_; focus ((intros; (try simp only [lenS, inR, cutS, loI, hiI] at *); omega)))) | fail); all_goals try (conv => whnf); all_goals try (exfalso; omega)
  refine LoopS.autoN (I := Nat) (fun k => k ≤ n) (fun k => [(6, .int .i64 ((n : Int) - 1 - k))]) (fun k => [(0, .box 226 [.own 2, .bool false]), (2, .row 5 1 eB (b ++ beUp x n k))]) 3 (fun k => n - k) 0 (Nat.zero_le _) ?_ ?_
  · have e0 : b ++ beUp x n 0 = b := by rw [beUp_zero, List.append_nil]
    repeat' (first | (with_reducible refine Unf.h ?_) | ((conv => whnf); first | (refine Side.mk ?_ ?_; focus (first | with_reducible rfl | (refine congrArg (SV.int _) ?_; omega) | (simp only [*, e0]; done))) | (with_reducible refine Unf.h ?_) | exact True.intro) | fail); all_goals try (conv => whnf); all_goals try (exfalso; omega)
  · intro k hk
    have hbl := beUp_len x n k
    rcases Nat.lt_or_ge k n with hkn | hkn
    · have es : b ++ beUp x n k ++ [(x >>> (8 * ((n : Int) - 1 - k)).toNat).setWidth 8] = b ++ beUp x n (k + 1) := by
        rw [show (8 * ((n : Int) - 1 - k)).toNat = 8 * (n - 1 - k) by omega, List.append_assoc, beUp_succ]
      repeat' (first | (with_reducible first | refine Unf.h ?_ | refine loopK_n ?_) | ((conv => whnf); first | refine Fork.mk (fun h => ?_) (fun h => ?_) | (refine Side.mk ?_ ?_; focus (first | omega | (intros; (try simp only [lenS, inR, cutS, loI, hiI] at *); omega))) | refine Ex.mk [_] rfl ?_) | fail); all_goals try (conv => whnf); all_goals try (exfalso; omega)
      all_goals
        refine ⟨k + 1, ⟨by omega, by omega⟩, ?_⟩
        repeat' (first | (with_reducible refine Unf.h ?_) | ((conv => whnf); first | (refine Side.mk ?_ ?_; focus (first | with_reducible rfl | (refine congrArg (SV.int _) ?_; omega) | (simp only [*, es]; done))) | (with_reducible refine Unf.h ?_) | exact True.intro) | fail); all_goals try (conv => whnf); all_goals try (exfalso; omega)
    · obtain rfl : k = n := by omega
      repeat' (first | (with_reducible refine Unf.h ?_) | ((conv => whnf); first | refine Fork.mk (fun h => ?_) (fun h => ?_) | (refine Side.mk ?_ ?_; focus (first | with_reducible rfl | (simp only [*, beUp_all]; done))) | refine RetE.mk () trivial ?_ | refine retK_n ?_ | exact rfl) | fail); all_goals try (conv => whnf); all_goals try (exfalso; omega)
def wu32_c : Ctr where
  D := Bs × BitVec 32
  pre := fun (b, _) => b.length ≤ 1000000
  args := fun (_, x) => [.ptr 0 0, .u32 x]
  objs := fun (b, _) => [(0, .box 226 [.own 1, .bool false]), (1, .row 5 1 eB b)]
  nn := 2
  res := fun _ _ => .tup []
  out := fun (b, x) _ => [(0, .box 226 [.own 2, .bool false]), (2, .row 5 1 eB (b ++ beN 4 (x.setWidth 64)))]
  mm := 1
def wu32_H : Cfg := ⟨[(164, wnum_c)], [], [], [], 8, 2, [], [], []⟩
theorem wu32_ok : wu32_c.Ok Tryz.prog 130 := by
  refine fn_ok wu32_H 2 rfl _ Tryz.func130 rfl rfl ⟨wnum_ok, trivial⟩ rfl rfl (by kernel_rfl) (fun _ => Nat.le_of_ble_eq_true rfl) ?_
  rintro ⟨b, x⟩ hp hr
  try dsimp only [wu32_c] at hp
  try simp only [wu32_c, Rng, RngL, inR, and_true, true_and] at hr
  have hp : b.length ≤ 1000000 := hp
  have hpn : wnum_c.pre (b, x.setWidth 64, 4) := ⟨by omega, hp⟩
  repeat' (first | (with_reducible refine Unf.h ?_) | fail); all_goals try (conv => whnf); all_goals try (exfalso; omega)
  refine CallS.mk (c := wnum_c) ((b, x.setWidth 64, 4)) ?_
  repeat' (first | (with_reducible refine Unf.h ?_) | ((conv => whnf); first | (refine Side.mk ?_ ?_; focus (first | with_reducible rfl | assumption | (refine congrArg (SV.int _) ?_; omega))) | refine RetE.mk () trivial ?_ | refine Got.mk (fun _ _ => ?_) | refine retK_n ?_ | exact rfl) | fail); all_goals try (conv => whnf); all_goals try (exfalso; omega)
def wplain_c : Ctr where
  D := Bs × Bs
  pre := fun (b, p) => b.length ≤ 1000000 ∧ p.length ≤ 1000000
  args := fun (_, p) => [.ptr 0 0, .fs 1 eB p]
  objs := fun (b, _) => [(0, .box 226 [.own 1, .bool false]), (1, .row 5 1 eB b)]
  nn := 2
  res := fun _ _ => .tup []
  out := fun (b, p) _ => [(0, .box 226 [.own 2, .bool false]), (2, .row 5 1 eB (b ++ p))]
  mm := 1
def wplain_H : Cfg := ⟨[], [], [], [], 22, 2, [], [], []⟩
theorem wplain_ok : wplain_c.Ok Tryz.prog 131 := by
  refine fn_ok wplain_H 2 rfl _ Tryz.func131 rfl rfl trivial rfl rfl (by kernel_rfl) (fun _ => Nat.le_of_ble_eq_true rfl) ?_
  rintro ⟨b, p⟩ hp hr
  try dsimp only [wplain_c] at hp
  try simp only [wplain_c, Rng, RngL, inR, and_true, true_and] at hr
  obtain ⟨hp1, hp2⟩ := hp
  have hp1 : b.length ≤ 1000000 := hp1
  have hp2 : p.length ≤ 1000000 := hp2
  repeat' (first | (with_reducible refine Unf.h ?_) | ((conv => whnf); first | (refine Side.mk ?_ ?_; focus (first | with_reducible rfl | (intros; (try simp only [lenS, inR, cutS, loI, hiI] at *); omega))) | refine RetE.mk () trivial ?_ | refine Ex.mk _ rfl ?_ | refine retK_n ?_ | exact rfl) | fail); all_goals try (conv => whnf); all_goals try (exfalso; omega)
def wout_c : Ctr where
  D := Bs
  pre := fun b => b.length ≤ 1000000
  args := fun _ => [.ptr 0 0]
  objs := fun b => [(0, .box 226 [.own 1, .bool false]), (1, .row 5 1 eB b)]
  nn := 2
  res := fun b _ => .tup [.fs 1 eB b, .int .i64 0]
def wout_H : Cfg := ⟨[(84, cloneB_c)], [], [], [], 17, 2, [], [], []⟩
theorem wout_ok : wout_c.Ok Tryz.prog 132 := by
  refine fn_ok wout_H 2 rfl _ Tryz.func132 rfl rfl ⟨cloneB_ok, trivial⟩ rfl rfl (by kernel_rfl) (fun _ => Nat.le_of_ble_eq_true rfl) ?_
  intro (b : Bs) hp hr
  try dsimp only [wout_c] at hp
  try simp only [wout_c, Rng, RngL, inR, and_true, true_and] at hr
  have hp : b.length ≤ 1000000 := hp
  have hpc : cloneB_c.pre b := hp
  repeat' (first | (with_reducible refine Unf.h ?_) | fail); all_goals try (conv => whnf); all_goals try (exfalso; omega)
  refine CallS.mk (c := cloneB_c) (b) ?_
  repeat' (first | (with_reducible refine Unf.h ?_) | ((conv => whnf); first | (refine Side.mk ?_ ?_; focus (first | with_reducible rfl | assumption)) | refine RetE.mk () trivial ?_ | refine Got.mk (fun _ _ => ?_) | refine retK_r ?_ | exact rfl) | fail); all_goals try (conv => whnf); all_goals try (exfalso; omega)
def fleaf_c : Ctr where
  D := Bs
  pre := fun b => b.length ≤ 1000000
  args := fun b => [.fs 1 eB b]
  res := fun b _ => .agg [.arr8 (sha (0#8 :: b))]
def fleaf_H : Cfg := ⟨[(165, concat_c), (114, sum_c)], [], [], [], 8, 0, [], [], []⟩
theorem fleaf_ok : fleaf_c.Ok Tryz.prog 133 := by
  refine fn_ok fleaf_H 0 rfl _ Tryz.func133 rfl rfl ⟨concat_ok, sum_ok, trivial⟩ rfl rfl (by kernel_rfl) (fun _ => Nat.le_of_ble_eq_true rfl) ?_
  intro (b : Bs) hp hr
  try dsimp only [fleaf_c] at hp
  try simp only [fleaf_c, Rng, RngL, inR, and_true, true_and] at hr
  have hp : b.length ≤ 1000000 := hp
  have hpc : concat_c.pre [[0#8], b] := ⟨by simp, by simp, by simp; omega⟩
  repeat' (first | (with_reducible refine Unf.h ?_) | ((conv => whnf); refine Ex.mk [_] rfl ?_) | fail); all_goals try (conv => whnf); all_goals try (exfalso; omega)
  refine CallS.mk (c := concat_c) ([[0#8], b]) ?_
  repeat' (first | (with_reducible refine Unf.h ?_) | fail); all_goals try (conv => whnf); all_goals try (exfalso; omega)
  refine Side.mk rfl ?_
  repeat' (first | (with_reducible refine Unf.h ?_) | ((conv => whnf); first | (refine Side.mk ?_ ?_; focus (assumption)) | refine Got.mk (fun _ _ => ?_) | (with_reducible refine Unf.h ?_)) | fail); all_goals try (conv => whnf); all_goals try (exfalso; omega)
  refine CallS.mk (c := sum_c) ((0#8 :: b)) ?_
  repeat' (first | (with_reducible refine Unf.h ?_) | ((conv => whnf); first | (refine Side.mk ?_ ?_; focus (first | with_reducible rfl | exact True.intro | (simp [*]; done))) | refine RetE.mk () trivial ?_ | refine Got.mk (fun _ _ => ?_) | refine retK_r ?_ | exact rfl) | fail); all_goals try (conv => whnf); all_goals try (exfalso; omega)
def hentry_c : Ctr where
  D := Int × H256
  pre := fun (e, _) => 0 ≤ e ∧ e < 2147483648
  args := fun (e, r) => [.int .i64 e, .agg [.arr8 r]]
  res := fun (e, r) _ => .agg [.arr8 (entH e r)]
theorem beN_four {e : Int} (h0 : 0 ≤ e) (h1 : e < 2147483648) : beN 4 ((BitVec.ofInt 32 e).setWidth 64) = fourB e := by
  obtain ⟨n, rfl⟩ : ∃ n : Nat, e = n := ⟨e.toNat, by omega⟩
  have e0 : (BitVec.ofInt 32 (n : Int)).setWidth 64 = BitVec.ofNat 64 n := by
    apply BitVec.eq_of_toNat_eq
    simp only [BitVec.ofInt_natCast, BitVec.toNat_setWidth, BitVec.toNat_ofNat]
    omega
  rw [e0]
  have key : ∀ k : Nat, k ≤ 24 → ((BitVec.ofNat 64 n) >>> k).setWidth 8 = BitVec.ofInt 8 ((n : Int) / 2 ^ k) := fun k _ => by
    apply BitVec.eq_of_toNat_eq
    rw [show ((n : Int) / 2 ^ k) = ((n / 2 ^ k : Nat) : Int) by push_cast; rfl, BitVec.ofInt_natCast]
    simp only [BitVec.toNat_setWidth, BitVec.toNat_ushiftRight, BitVec.toNat_ofNat, Nat.shiftRight_eq_div_pow]
    rw [Nat.mod_eq_of_lt (show n < 2 ^ 64 by omega)]
  have k0 := key 0 (by omega)
  have k1 := key 8 (by omega)
  have k2 := key 16 (by omega)
  have k3 := key 24 (by omega)
  rw [show ((n : Int) / 2 ^ 0) = (n : Int) by simp] at k0
  show [_, _, _, _] = [_, _, _, _]
  rw [← k0, ← k1, ← k2, ← k3]
def hentry_H : Cfg := ⟨[(130, wu32_c), (131, wplain_c), (132, wout_c), (133, fleaf_c)], [], [], [], 24, 0, [], [], []⟩
theorem hentry_ok : hentry_c.Ok Tryz.prog 90 := by
  refine fn_ok hentry_H 0 rfl _ Tryz.func90 rfl rfl ⟨wu32_ok, wplain_ok, wout_ok, fleaf_ok, trivial⟩ rfl rfl (by kernel_rfl) (fun _ => Nat.le_of_ble_eq_true rfl) ?_
  rintro ⟨e, r⟩ hp hr
  try dsimp only [hentry_c] at hp
  try simp only [hentry_c, Rng, RngL, inR, and_true, true_and] at hr
  obtain ⟨hp1, hp2⟩ := hp
  have hp1 : 0 ≤ e := hp1
  have hp2 : e < 2147483648 := hp2
  have e4 := beN_four hp1 hp2
  have e4' : [] ++ beN 4 ((BitVec.ofInt 32 e).setWidth 64) = fourB e := e4
  have hpu : wu32_c.pre ([], BitVec.ofInt 32 e) := show 0 ≤ 1000000 by omega
  have hpp : wplain_c.pre (fourB e, r.toList) := ⟨by rw [fourB_len]; omega, by simp⟩
  have hl36 : (fourB e ++ r.toList).length ≤ 1000000 := by simp [fourB_len]
  have hpo : wout_c.pre (fourB e ++ r.toList) := hl36
  have hpf : fleaf_c.pre (fourB e ++ r.toList) := hl36
  repeat' (first | (with_reducible refine Unf.h ?_) | fail); all_goals try (conv => whnf); all_goals try (exfalso; omega)
  refine CallS.mk (c := wu32_c) (([], BitVec.ofInt 32 e)) ?_
  repeat' (first | (with_reducible refine Unf.h ?_) | ((conv => whnf); first | (refine Side.mk ?_ ?_; focus (first | with_reducible rfl | exact True.intro | assumption)) | refine Got.mk (fun _ _ => ?_)) | fail); all_goals try (conv => whnf); all_goals try (exfalso; omega)
  refine CallS.mk (c := wplain_c) ((fourB e, r.toList)) ?_
  repeat' (first | (with_reducible refine Unf.h ?_) | ((conv => whnf); (refine Side.mk ?_ ?_; focus ((intros; (try simp only [lenS, inR, cutS, loI, hiI] at *); omega)))) | fail); all_goals try (conv => whnf); all_goals try (exfalso; omega)
  refine Side.mk (by simp only [cutv2]) ?_
  repeat' (first | (with_reducible refine Unf.h ?_) | ((conv => whnf); first | (refine Side.mk ?_ ?_; focus (first | with_reducible rfl | assumption | (simp [*]; done))) | refine Got.mk (fun _ _ => ?_)) | fail); all_goals try (conv => whnf); all_goals try (exfalso; omega)
  refine CallS.mk (c := wout_c) ((fourB e ++ r.toList)) ?_
  repeat' (first | (with_reducible refine Unf.h ?_) | ((conv => whnf); first | (refine Side.mk ?_ ?_; focus (first | with_reducible rfl | assumption)) | refine Got.mk (fun _ _ => ?_)) | fail); all_goals try (conv => whnf); all_goals try (exfalso; omega)
  refine CallS.mk (c := fleaf_c) ((fourB e ++ r.toList)) ?_
  repeat' (first | (with_reducible refine Unf.h ?_) | ((conv => whnf); first | (refine Side.mk ?_ ?_; focus (first | with_reducible rfl | assumption | (simp only [*, entH]; done))) | refine RetE.mk () trivial ?_ | refine Got.mk (fun _ _ => ?_) | refine retK_r ?_ | exact rfl) | fail); all_goals try (conv => whnf); all_goals try (exfalso; omega)
end Go.Proofs.YtdflndjlnkoliaaGreatDoor

namespace Go.Proofs.YtdflndjlnkoliaaGreatDoor
set_option linter.all false
open Go.RowKit
/-! a directory: what is read of it -/
abbrev Ppl := List (Bs × List Ver)
abbrev eS : Bs → SV := fun s => .str s
abbrev eZ : Int → SV := fun n => .int .i64 n
abbrev nmO (ps : Ppl) : SO := .mp 9 3 inferInstance eS eZ (numsL 0 ps)
/-- 0: itself; 1: the forest; 2: its nodes; 3: what is sealed; 4: the people; 5: their numbers -/
abbrev stG (seed : H256) (l : Fo) (ss : List Sld) (ps : Ppl) : List Ob := [(0, .box 89 [.arr8 seed, .ptr 1 0, .own 3, .own 4, .own 5]), (1, .box 100 [.own 2]), (2, .row 192 132 eNd l), (3, .row 143 67 eSl ss), (4, .row 175 2 ePn ps), (5, nmO ps)]
abbrev Dir := H256 × Fo × List Sld × Ppl
theorem mkeyS : MKey Tryz.prog 9 eS := mkey_str Tryz.underlying9
theorem zeroI : ZeroIs Tryz.prog 3 (.int .i64 0) := ⟨_, Tryz.zeroValue3, fun w A σ => by simp [SV.hv, SV.h1, SV.hc, inR]⟩
def enew_c : Ctr where
  D := H256
  args := fun s => [.agg [.arr8 s]]
  res := fun _ _ => .ptr 0 0
  out := fun s _ => stG s [] [] []
  mm := 6
def enew_H : Cfg := ⟨[], [], [], [], 9, 0, [], [], []⟩
theorem enew_ok : enew_c.Ok Tryz.prog 15 := by
  refine fn_ok enew_H 0 rfl _ Tryz.func15 rfl rfl trivial rfl rfl (by kernel_rfl) (fun _ => Nat.le_of_ble_eq_true rfl) ?_
  intro (s : H256) hp hr
  try dsimp only [enew_c] at hp
  try simp only [enew_c, Rng, RngL, inR, and_true, true_and] at hr
  repeat' (first | (with_reducible refine Unf.h ?_) | fail); all_goals try (conv => whnf); all_goals try (exfalso; omega)
  refine MkS.mk inferInstance eS eZ ?_
  repeat' (first | (with_reducible refine Unf.h ?_) | ((conv => whnf); first | (refine Side.mk ?_ ?_; focus (with_reducible rfl)) | refine RetE.mk () trivial ?_ | refine retK_r ?_) | fail); all_goals try (conv => whnf); all_goals try (exfalso; omega)
  refine Side.mk rfl ?_
  repeat' (first | (with_reducible refine Unf.h ?_) | ((conv => whnf); exact rfl) | fail); all_goals try (conv => whnf); all_goals try (exfalso; omega)
def eps_c : Ctr where
  D := Dir
  args := fun _ => [.ptr 0 0]
  objs := fun (s, l, ss, ps) => stG s l ss ps
  nn := 6
  res := fun (_, _, ss, _) _ => .int .i64 (ss.length : Int)
  out := fun (s, l, ss, ps) _ => stG s l ss ps
def eps_H : Cfg := ⟨[], [], [], [], 10, 6, [], [], []⟩
theorem eps_ok : eps_c.Ok Tryz.prog 21 := by
  refine fn_ok eps_H 6 rfl _ Tryz.func21 rfl rfl trivial rfl rfl (by kernel_rfl) (fun _ => Nat.le_of_ble_eq_true rfl) ?_
  rintro ⟨s, l, ss, ps⟩ hp hr
  try dsimp only [eps_c] at hp
  try simp only [eps_c, Rng, RngL, inR, and_true, true_and] at hr
  repeat' (first | (with_reducible refine Unf.h ?_) | ((conv => whnf); first | (refine Side.mk ?_ ?_; focus (first | with_reducible rfl | (refine congrArg (SV.int _) ?_; omega))) | refine RetE.mk () trivial ?_ | refine retK_r ?_ | exact rfl) | fail); all_goals try (conv => whnf); all_goals try (exfalso; omega)
def epsN_c : Ctr where
  D := Unit
  args := fun _ => [.nilp]
  res := fun _ _ => .int .i64 0
def epsN_H : Cfg := ⟨[], [], [], [], 10, 0, [], [], []⟩
theorem epsN_ok : epsN_c.Ok Tryz.prog 21 := by
  refine fn_ok epsN_H 0 rfl _ Tryz.func21 rfl rfl trivial rfl rfl (by kernel_rfl) (fun _ => Nat.le_of_ble_eq_true rfl) ?_
  intro (_ : Unit) hp hr
  try dsimp only [epsN_c] at hp
  try simp only [epsN_c, Rng, RngL, inR, and_true, true_and] at hr
  repeat' (first | (with_reducible refine Unf.h ?_) | ((conv => whnf); first | (refine Side.mk ?_ ?_; focus ((refine congrArg (SV.int _) ?_; omega))) | refine RetE.mk () trivial ?_ | refine retK_r ?_ | exact rfl) | fail); all_goals try (conv => whnf); all_goals try (exfalso; omega)
def lastT (ss : List Sld) : Int := if h : ss ≠ [] then (ss.getLast h).tree else -1
def etree_c : Ctr where
  D := Dir
  args := fun _ => [.ptr 0 0]
  objs := fun (s, l, ss, ps) => stG s l ss ps
  nn := 6
  res := fun (_, _, ss, _) _ => .int .i64 (lastT ss)
  out := fun (s, l, ss, ps) _ => stG s l ss ps
def etree_H : Cfg := ⟨[], [(3, [3, 7, 12], [], (.one 0 0 false (.one 1 0 false (.one 2 0 false (.one 3 1 false (.one 4 0 false (.one 5 0 false (.one 6 0 false (.one 7 1 false (.one 8 0 false (.one 9 0 false (.one 10 0 false (.one 11 0 false (.one 12 1 false (.one 13 0 false .nil)))))))))))))), [])], [], [], 22, 6, [], [], []⟩
theorem etree_ok : etree_c.Ok Tryz.prog 66 := by
  refine fn_ok etree_H 6 rfl _ Tryz.func66 rfl rfl trivial rfl rfl (by kernel_rfl) (fun _ => Nat.le_of_ble_eq_true rfl) ?_
  rintro ⟨s, l, ss, ps⟩ hp hr
  try dsimp only [etree_c] at hp
  try simp only [etree_c, Rng, RngL, inR, and_true, true_and] at hr
  rcases Nat.eq_zero_or_pos ss.length with h0 | h0
  · have e : lastT ss = -1 := by rw [List.eq_nil_of_length_eq_zero h0]; rfl
    repeat' (first | (with_reducible refine Unf.h ?_) | ((conv => whnf); first | refine Fork.mk (fun h => ?_) (fun h => ?_) | (refine Side.mk ?_ ?_; focus (first | with_reducible rfl | (refine congrArg (SV.int _) ?_; omega))) | refine RetE.mk () trivial ?_ | refine retK_r ?_ | exact rfl) | fail); all_goals try (conv => whnf); all_goals try (exfalso; omega)
  · have e : lastT ss = (ss[((ss.length : Int) - 1).toNat]'(by omega)).tree := by
      unfold lastT
      rw [dif_pos (List.length_pos_iff.1 h0), List.getLast_eq_getElem]
      congr 2; omega
    repeat' (first | (with_reducible refine Unf.h ?_) | ((conv => whnf); first | refine Fork.mk (fun h => ?_) (fun h => ?_) | (refine Side.mk ?_ ?_; focus (first | with_reducible rfl | omega | (refine congrArg (SV.int _) ?_; omega) | (intros; (try simp only [lenS, inR, cutS, loI, hiI, e] at *); omega))) | (refine Idx.mk ?_ ?_; focus (omega)) | refine RetE.mk () trivial ?_ | refine retK_r ?_ | exact rfl) | fail); all_goals try (conv => whnf); all_goals try (exfalso; omega)
def chOf_c : Ctr where
  D := H256 × Ppl × Bs
  pre := fun (_, _, x) => x.length ≤ 1000000
  args := fun (_, _, x) => [.ptr 0 0, .fs 1 eB x]
  objs := fun (s, ps, _) => [(0, .box 89 [.arr8 s, .ptr 1 0, .own 2, .own 3, .own 4]), (3, .row 175 2 ePn ps), (4, nmO ps)]
  nn := 5
  res := fun (_, ps, x) _ => .fs 67 eVr (chainP ps x)
  out := fun (s, ps, _) _ => [(0, .box 89 [.arr8 s, .ptr 1 0, .own 2, .own 3, .own 4]), (3, .row 175 2 ePn ps), (4, nmO ps)]
def chOf_H : Cfg := ⟨[], [(1, [3], [5, 6], (.one 0 0 false (.one 1 0 false (.one 2 0 false (.one 3 1 false (.one 4 0 false (.one 5 2 true (.one 6 2 false (.one 7 0 false (.one 8 0 false (.one 9 0 false (.one 10 0 false (.one 11 0 false .nil)))))))))))), [])], [], [], 26, 5, [], [], []⟩
theorem chOf_ok : chOf_c.Ok Tryz.prog 42 := by
  refine fn_ok chOf_H 5 rfl _ Tryz.func42 rfl rfl trivial rfl rfl (by kernel_rfl) (fun _ => Nat.le_of_ble_eq_true rfl) ?_
  rintro ⟨s, ps, x⟩ hp hr
  try dsimp only [chOf_c] at hp
  try simp only [chOf_c, Rng, RngL, inR, and_true, true_and] at hr
  have hp : x.length ≤ 1000000 := hp
  have hk := mkeyS
  have hz := zeroI
  repeat' (first | (with_reducible refine Unf.h ?_) | ((conv => whnf); refine Ex.mk _ rfl ?_) | fail); all_goals try (conv => whnf); all_goals try (exfalso; omega)
  refine LookS.mk x rfl hk _ hz ⟨rfl, fun _ => rfl⟩ (fun b hb => ?_) (fun hm => ?_)
  · obtain ⟨j, hj, hkj, e1, e2, e3⟩ := numsL_hit 0 ps hb
    obtain rfl : b = (j : Int) := by simpa using hkj
    have e : chainP ps x = (ps[((j : Nat) : Int).toNat]'hj).2 := by unfold chainP; rw [e2]; rfl
    repeat' (first | (with_reducible refine Unf.h ?_) | ((conv => whnf); first | (refine Side.mk ?_ ?_; focus (first | with_reducible rfl | omega | (simp only [*, e]; done))) | (refine Idx.mk ?_ ?_; focus (omega)) | refine RetE.mk () trivial ?_ | (with_reducible refine Unf.h ?_) | refine retK_r ?_ | exact rfl) | fail); all_goals try (conv => whnf); all_goals try (exfalso; omega)
  · have e : chainP ps x = [] := by unfold chainP; rw [(numsL_miss [] 0 ps hm).1]; rfl
    repeat' (first | (with_reducible refine Unf.h ?_) | ((conv => whnf); first | (refine Side.mk ?_ ?_; focus (first | with_reducible rfl | assumption)) | refine RetE.mk () trivial ?_ | (with_reducible refine Unf.h ?_) | refine retK_r ?_ | exact rfl) | fail); all_goals try (conv => whnf); all_goals try (exfalso; omega)
end Go.Proofs.YtdflndjlnkoliaaGreatDoor

namespace Go.Proofs.YtdflndjlnkoliaaGreatDoor
set_option linter.all false
open Go.RowKit
/-! a directory: what its people's chains grow to -/
def growOk (ps : Ppl) (e : Int) (n : List Nws) : Prop := (n.map Prod.fst).Nodup ∧ ∀ p ∈ n, p.2.ep = e ∧ formedC cmL zeroH p.1 (chainP ps p.1 ++ [p.2])
instance (ps : Ppl) (e : Int) (n : List Nws) : Decidable (growOk ps e n) := inferInstanceAs (Decidable (_ ∧ _))
def chainsN (ps : Ppl) (n : List Nws) : List (List Ver) := n.map fun p => chainP ps p.1 ++ [p.2]
def grownR (ps : Ppl) (e : Int) (n : List Nws) : List Nws × List (List Ver) := if growOk ps e n then (n, chainsN ps n) else ([], [])
/-- how often each label was met -/
def seenL (n : List Nws) : List (Bs × Int) := n.foldl (fun m p => mput m p.1 ((mget m p.1).getD 0 + 1)) []
theorem seenL_snoc (n : List Nws) (p : Nws) : seenL (n ++ [p]) = mput (seenL n) p.1 ((mget (seenL n) p.1).getD 0 + 1) := by unfold seenL; rw [List.foldl_append]; rfl
theorem seenL_count (x : Bs) : ∀ (k : Nat) (n : List Nws), n.length = k → (mget (seenL n) x).getD 0 = ((n.map Prod.fst).count x : Nat)
  | 0, n, h => by obtain rfl := List.eq_nil_of_length_eq_zero h; rfl
  | k + 1, n, h => by
    have hne : n ≠ [] := fun e => by subst e; cases h
    obtain ⟨qs, p, rfl⟩ : ∃ qs p, n = qs ++ [p] := ⟨n.dropLast, n.getLast hne, (List.dropLast_concat_getLast hne).symm⟩
    have ih := fun y => seenL_count y k qs (by simpa using h)
    rw [seenL_snoc, mget_put, List.map_append, List.count_append]
    by_cases hx : p.1 = x
    · subst hx
      rw [if_pos rfl]
      simp only [Option.getD_some, ih, List.map_cons, List.map_nil, List.count_singleton_self]
      omega
    · rw [if_neg hx, ih x]
      simp [hx]
theorem seenL_len (n : List Nws) : (seenL n).length ≤ n.length := by
  have key : ∀ (k : Nat) (n : List Nws), n.length = k → (seenL n).length ≤ k := by
    intro k
    induction k with
    | zero => intro n h; obtain rfl := List.eq_nil_of_length_eq_zero h; exact Nat.le_refl _
    | succ k ih =>
      intro n h
      have hne : n ≠ [] := fun e => by subst e; cases h
      obtain ⟨qs, p, rfl⟩ : ∃ qs p, n = qs ++ [p] := ⟨n.dropLast, n.getLast hne, (List.dropLast_concat_getLast hne).symm⟩
      rw [seenL_snoc]
      have := ih qs (by simpa using h)
      have := mput_len (l := seenL qs) (a := p.1) (b := (mget (seenL qs) p.1).getD 0 + 1)
      omega
  exact key _ n rfl
theorem growOk_snoc {ps : Ppl} {e : Int} {n : List Nws} {p : Nws} : growOk ps e (n ++ [p]) ↔ growOk ps e n ∧ ((n ++ [p]).map Prod.fst).count p.1 ≤ 1 ∧ p.2.ep = e ∧ formedC cmL zeroH p.1 (chainP ps p.1 ++ [p.2]) := by
  unfold growOk
  rw [List.map_append, List.nodup_append, List.count_append]
  have e1 : ([p].map Prod.fst).count p.1 = 1 := by simp
  rw [e1]
  constructor
  · rintro ⟨⟨h1, h2, h3⟩, h4⟩
    refine ⟨⟨h1, fun q hq => h4 q (by simp [hq])⟩, ?_, h4 p (by simp)⟩
    have : (n.map Prod.fst).count p.1 = 0 := List.count_eq_zero.2 fun hm => h3 _ hm _ (by simp) rfl
    omega
  · rintro ⟨⟨h1, h2⟩, h3, h4⟩
    refine ⟨⟨h1, by simp, fun a ha b hb e => ?_⟩, fun q hq => ?_⟩
    · have hb : b = p.1 := by simpa using hb
      subst hb; subst e
      have := List.count_pos_iff.2 ha
      omega
    · rcases List.mem_append.1 hq with hq | hq
      · exact h2 q hq
      · obtain rfl := List.mem_singleton.1 hq; exact h4
theorem growOk_take {ps : Ppl} {e : Int} {n : List Nws} (h : growOk ps e n) (i : Nat) : growOk ps e (n.take i) :=
  ⟨(List.map_take (f := Prod.fst) (l := n) ▸ (List.take_sublist i _).nodup h.1 : ((n.take i).map Prod.fst).Nodup), fun p hp => h.2 p (List.mem_of_mem_take hp)⟩
def egrow_c : Ctr where
  D := Dir × Int × List Nws
  pre := fun ((_, _, _, ps), _, n) => n.length ≤ 1000 ∧ (∀ p ∈ n, p.1.length ≤ 100000) ∧ ∀ x, (chainP ps x).length ≤ 1000
  args := fun (_, e, n) => [.ptr 0 0, .int .i64 e, .fs 68 eNw n]
  objs := fun ((s, l, ss, ps), _) => stG s l ss ps
  nn := 6
  res := fun ((_, _, _, ps), e, n) _ => .tup [.agg [.fs 68 eNw (grownR ps e n).1, .fs 1 eCh (grownR ps e n).2], .dec (growOk ps e n) inferInstance]
  out := fun ((s, l, ss, ps), _) _ => stG s l ss ps
def egrow_H : Cfg := ⟨[(42, chOf_c), (72, cloneV_c), (85, cformed_c)], [(7, [], [2, 3, 4, 6, 7, 8], (.one 0 0 false (.one 1 0 false (.one 5 0 false (.alt 2 false (.alt 3 false (.alt 4 false (.one 6 2 false (.one 7 2 false (.one 8 2 false (.one 9 0 false .nil)))) (.one 6 2 false (.alt 4 false (.one 7 2 false (.one 8 2 false (.one 9 0 false .nil))) (.one 7 2 false (.one 4 2 false (.one 8 2 false (.one 9 0 false .nil))))))) (.one 6 2 false (.alt 3 false (.alt 4 false (.one 7 2 false (.one 8 2 false (.one 9 0 false .nil))) (.one 7 2 false (.one 4 2 false (.one 8 2 false (.one 9 0 false .nil))))) (.one 7 2 false (.one 3 2 false (.one 4 2 false (.one 8 2 false (.one 9 0 false .nil)))))))) (.one 6 2 false (.alt 2 false (.alt 3 false (.alt 4 false (.one 7 2 false (.one 8 2 false (.one 9 0 false .nil))) (.one 7 2 false (.one 4 2 false (.one 8 2 false (.one 9 0 false .nil))))) (.one 7 2 false (.one 3 2 false (.one 4 2 false (.one 8 2 false (.one 9 0 false .nil)))))) (.one 7 2 false (.one 2 2 false (.one 3 2 false (.one 4 2 false (.one 8 2 false (.one 9 0 false .nil)))))))))))), [1000000])], [], [], 66, 6, [], [6, 7], []⟩
set_option maxHeartbeats 2000000 in
theorem egrow_ok : egrow_c.Ok Tryz.prog 43 := by
  refine fn_ok egrow_H 6 rfl _ Tryz.func43 rfl rfl ⟨chOf_ok, cloneV_ok, cformed_ok, trivial⟩ rfl rfl (by kernel_rfl) (fun _ => Nat.le_of_ble_eq_true rfl) ?_
  rintro ⟨⟨s, l, ss, ps⟩, e, n⟩ hp hr
  try dsimp only [egrow_c] at hp
  try simp only [egrow_c, Rng, RngL, inR, and_true, true_and] at hr
  obtain ⟨hp1, hp2, hp3⟩ := hp
  have hp1 : n.length ≤ 1000 := hp1
  have hk := mkeyS
  have hz := zeroI
  repeat' (first | (with_reducible refine Unf.h ?_) | fail); all_goals try (conv => whnf); all_goals try (exfalso; omega)
  refine MkS.mk inferInstance eS eZ ?_
  repeat' (first | (with_reducible refine Unf.h ?_) | fail); all_goals try (conv => whnf); all_goals try (exfalso; omega)
  refine LoopS.mk (I := Nat) (fun i => i ≤ n.length ∧ growOk ps e (n.take i)) (fun i => [(18, .int .i64 (i : Int)), (17, .int .i64 (n.length : Int)), (16, .fs 68 eNw n), (9, .own 8), (8, .ptr 7 0), (6, .ptr 6 0), (0, .ptr 0 0), (1, .int .i64 e), (2, .fs 68 eNw n)]) (fun i => stG s l ss ps ++ [(6, .box 120 [.nils, .nils]), (7, .box 120 [.fs 68 eNw n, .own 9]), (8, .mp 9 3 inferInstance eS eZ (seenL (n.take i))), (9, .row 61 1 eCh (chainsN ps (n.take i)))]) 10 (fun i => n.length - i) 0 ⟨Nat.zero_le _, by constructor <;> simp⟩ ?_ ?_
  · have e0 : seenL (n.take 0) = [] := rfl
    have e1 : chainsN ps (n.take 0) = [] := rfl
    repeat' (first | (with_reducible refine Unf.h ?_) | ((conv => whnf); first | (refine Side.mk ?_ ?_; focus (first | with_reducible rfl | assumption | (refine congrArg (SV.int _) ?_; omega) | (simp only [*, e0, e1]; done))) | (with_reducible refine Unf.h ?_) | exact True.intro) | fail); all_goals try (conv => whnf); all_goals try (exfalso; omega)
  · rintro i ⟨hi, hg⟩
    by_cases hil : i < n.length
    · obtain ⟨p, hpi⟩ : ∃ p, n[((i : Nat) : Int).toNat]'hil = p := ⟨_, rfl⟩
      have hpi2 : n[i]'hil = p := hpi
      have ets : n.take (i + 1) = n.take i ++ [p] := by rw [List.take_succ_eq_append_getElem hil, hpi2]
      have hsl := seenL_len (n.take i)
      have hsl2 : (n.take i).length ≤ n.length := by simp; omega
      have hct := seenL_count p.1 _ (n.take i) rfl
      have hct2 := List.count_le_length (a := p.1) (l := (n.take i).map Prod.fst)
      rw [List.length_map] at hct2
      obtain ⟨c, hc⟩ : ∃ c, c = (mget (seenL (n.take i)) p.1).getD 0 := ⟨_, rfl⟩
      rw [← hc] at hct
      have es : mput (seenL (n.take i)) p.1 (c + 1) = seenL (n.take (i + 1)) := by rw [ets, seenL_snoc, ← hc]
      repeat' (first | (with_reducible refine Unf.h ?_) | ((conv => whnf); first | refine Fork.mk (fun h => ?_) (fun h => ?_) | (refine Idx.mk ?_ ?_; focus (omega))) | fail); all_goals try (conv => whnf); all_goals try (exfalso; omega)
      refine CutS.mk (I := Unit) (fun _ => True) (fun _ => [(11, .ptr 10 0), (18, .int .i64 (i : Int)), (17, .int .i64 (n.length : Int)), (16, .fs 68 eNw n), (9, .own 8), (8, .ptr 7 0), (6, .ptr 6 0), (0, .ptr 0 0), (1, .int .i64 e), (2, .fs 68 eNw n)]) (fun _ => stG s l ss ps ++ [(6, .box 120 [.nils, .nils]), (7, .box 120 [.fs 68 eNw n, .own 9]), (8, .mp 9 3 inferInstance eS eZ (seenL (n.take (i + 1)))), (9, .row 61 1 eCh (chainsN ps (n.take i))), (10, .box 117 (eNw p))]) 11 ?_ ?_
      · repeat' (first | (with_reducible refine Unf.h ?_) | ((conv => whnf); refine Ex.mk _ rfl ?_) | fail); all_goals try (conv => whnf); all_goals try (exfalso; omega)
        rw [hpi]
        refine LookS.mk p.1 rfl hk _ hz ⟨rfl, fun _ => rfl⟩ (fun b hb => ?_) (fun hb => ?_)
        · obtain rfl : b = c := by rw [hc, hb]; rfl
          repeat' (first | (with_reducible refine Unf.h ?_) | ((conv => whnf); first | (refine Side.mk ?_ ?_; focus ((intros; (try simp only [lenS, inR, cutS, loI, hiI] at *); omega))) | (with_reducible refine Unf.h ?_)) | fail); all_goals try (conv => whnf); all_goals try (exfalso; omega)
          refine UpdS.mk p.1 rfl (b + 1) rfl hk (by omega) ?_
          rw [es]
          repeat' (first | (with_reducible refine cutK_n ?_) | ((conv => whnf); (with_reducible refine Unf.h ?_)) | fail); all_goals try (conv => whnf); all_goals try (exfalso; omega)
          refine ⟨(), trivial, ?_⟩
          repeat' (first | (with_reducible refine Unf.h ?_) | ((conv => whnf); first | (refine Side.mk ?_ ?_; focus (with_reducible rfl)) | (with_reducible refine Unf.h ?_) | exact True.intro) | fail); all_goals try (conv => whnf); all_goals try (exfalso; omega)
        · obtain rfl : c = 0 := by rw [hc, hb]; rfl
          repeat' (first | (with_reducible refine Unf.h ?_) | ((conv => whnf); first | (refine Side.mk ?_ ?_; focus ((intros; (try simp only [lenS, inR, cutS, loI, hiI] at *); omega))) | (with_reducible refine Unf.h ?_)) | fail); all_goals try (conv => whnf); all_goals try (exfalso; omega)
          refine UpdS.mk p.1 rfl (0 + 1) rfl hk (by omega) ?_
          rw [es]
          repeat' (first | (with_reducible refine cutK_n ?_) | ((conv => whnf); (with_reducible refine Unf.h ?_)) | fail); all_goals try (conv => whnf); all_goals try (exfalso; omega)
          refine ⟨(), trivial, ?_⟩
          repeat' (first | (with_reducible refine Unf.h ?_) | ((conv => whnf); first | (refine Side.mk ?_ ?_; focus (with_reducible rfl)) | (with_reducible refine Unf.h ?_) | exact True.intro) | fail); all_goals try (conv => whnf); all_goals try (exfalso; omega)
      · intro _ _
        have hcho : chOf_c.pre (s, ps, p.1) := by
          have := hp2 p (hpi ▸ List.getElem_mem _)
          show p.1.length ≤ 1000000; omega
        have hchl := hp3 p.1
        have hclv : cloneV_c.pre (chainP ps p.1) := by show (chainP ps p.1).length ≤ 100000; omega
        repeat' (first | (with_reducible refine Unf.h ?_) | fail); all_goals try (conv => whnf); all_goals try (exfalso; omega)
        refine CutS.mk (I := Unit) (fun _ => True) (fun _ => [(12, .own 11), (11, .ptr 10 0), (18, .int .i64 (i : Int)), (17, .int .i64 (n.length : Int)), (16, .fs 68 eNw n), (9, .own 8), (8, .ptr 7 0), (6, .ptr 6 0), (0, .ptr 0 0), (1, .int .i64 e), (2, .fs 68 eNw n)]) (fun _ => stG s l ss ps ++ [(6, .box 120 [.nils, .nils]), (7, .box 120 [.fs 68 eNw n, .own 9]), (8, .mp 9 3 inferInstance eS eZ (seenL (n.take (i + 1)))), (9, .row 61 1 eCh (chainsN ps (n.take i))), (10, .box 117 (eNw p)), (11, .row 115 67 eVr (chainP ps p.1 ++ [p.2]))]) 12 ?_ ?_
        · repeat' (first | (with_reducible refine Unf.h ?_) | ((conv => whnf); first | refine Both.mk ?_ ?_ | refine Both.mk ?_ ?_) | fail); all_goals try (conv => whnf); all_goals try (exfalso; omega)
          all_goals
            refine CallS.mk (c := chOf_c) ((s, ps, p.1)) ?_
            repeat' (first | (with_reducible first | refine Unf.h ?_ | refine cutK_n ?_) | ((conv => whnf); first | refine Both.mk ?_ ?_ | refine Both.mk ?_ ?_ | (refine Side.mk ?_ ?_; focus (first | with_reducible rfl | assumption | (intros; (try simp only [lenS, inR, cutS, loI, hiI] at *); omega))) | refine Got.mk (fun _ _ => ?_) | refine Ex.mk [_] rfl ?_ | refine CallS.mk (c := cloneV_c) (chainP ps p.1) ?_) | fail); all_goals try (conv => whnf); all_goals try (exfalso; omega)
          all_goals
            refine ⟨(), trivial, ?_⟩
            repeat' (first | (with_reducible refine Unf.h ?_) | ((conv => whnf); first | (refine Side.mk ?_ ?_; focus (with_reducible rfl)) | (with_reducible refine Unf.h ?_) | exact True.intro) | fail); all_goals try (conv => whnf); all_goals try (exfalso; omega)
        · intro _ _
          have em : mget (seenL (n.take (i + 1))) p.1 = some (c + 1) := by rw [← es, mget_put, if_pos rfl]
          have hcnt : (((n.take i ++ [p]).map Prod.fst).count p.1 : Int) = c + 1 := by
            rw [List.map_append, List.count_append, hct]; simp
          have hcf : cformed_c.pre (p.1, chainP ps p.1 ++ [p.2]) := ⟨hcho, by show (chainP ps p.1 ++ [p.2]).length ≤ 100000; simp; omega⟩
          have hgs := growOk_snoc (ps := ps) (e := e) (n := n.take i) (p := p)
          rw [← ets] at hgs
          have hcl : (chainsN ps (n.take i)).length = (n.take i).length := by simp [chainsN]
          repeat' (first | (with_reducible refine Unf.h ?_) | ((conv => whnf); refine Ex.mk _ rfl ?_) | fail); all_goals try (conv => whnf); all_goals try (exfalso; omega)
          refine LookS.mk p.1 rfl hk _ hz ⟨rfl, fun _ => rfl⟩ (fun b hb => ?_) (fun hm => by rw [em] at hm; cases hm)
          obtain rfl : b = c + 1 := by rw [em] at hb; exact (Option.some.inj hb).symm
          by_cases hgp : growOk ps e (n.take (i + 1))
          · obtain ⟨_, k1, k2, k3⟩ := hgs.1 hgp
            rw [ets] at k1
            have ec : chainsN ps (n.take (i + 1)) = chainsN ps (n.take i) ++ [chainP ps p.1 ++ [p.2]] := by rw [ets]; simp [chainsN]
            repeat' (first | (with_reducible refine Unf.h ?_) | ((conv => whnf); first | refine Fork.mkn (fun h => ?_) (fun h => ?_) | refine Fork.mk (fun h => ?_) (fun h => ?_) | (with_reducible refine Unf.h ?_)) | fail); all_goals try (conv => whnf); all_goals try (exfalso; omega)
            refine CallS.mk (c := cformed_c) ((p.1, chainP ps p.1 ++ [p.2])) ?_
            repeat' (first | (with_reducible first | refine Unf.h ?_ | refine loopK_n ?_) | ((conv => whnf); first | refine Fork.mkn (fun h => ?_) (fun h => ?_) | (refine Side.mk ?_ ?_; focus (first | with_reducible rfl | assumption | (intros; (try simp only [lenS, inR, cutS, loI, hiI] at *); omega))) | refine RetE.mk () trivial ?_ | refine Got.mk (fun _ _ => ?_) | refine Ex.mk [_] rfl ?_ | refine retK_r ?_) | fail); all_goals try (conv => whnf); all_goals try (exfalso; omega)
            · exact absurd k3 (by assumption)
            refine ⟨i + 1, ⟨by omega, by omega, hgp⟩, ?_⟩
            repeat' (first | (with_reducible refine Unf.h ?_) | ((conv => whnf); first | (refine Side.mk ?_ ?_; focus (first | with_reducible rfl | (refine congrArg (SV.int _) ?_; omega))) | (with_reducible refine Unf.h ?_)) | fail); all_goals try (conv => whnf); all_goals try (exfalso; omega)
            refine Side.mk (congrArg (SO.row _ _ _) ec.symm) ?_
            repeat' (first | (with_reducible refine Unf.h ?_) | ((conv => whnf); exact True.intro) | fail); all_goals try (conv => whnf); all_goals try (exfalso; omega)
          · have hng : ¬ growOk ps e n := fun hF => hgp (growOk_take hF _)
            have hgr : grownR ps e n = ([], []) := if_neg hng
            repeat' (first | (with_reducible refine Unf.h ?_) | ((conv => whnf); first | refine Fork.mkn (fun h => ?_) (fun h => ?_) | refine Fork.mk (fun h => ?_) (fun h => ?_) | (refine Side.mk ?_ ?_; focus (first | with_reducible rfl | (simp only [*, hgr]; done) | (simp [*, hgr]; done))) | refine RetE.mk () trivial ?_ | (with_reducible refine Unf.h ?_) | refine retK_r ?_ | exact rfl) | fail); all_goals try (conv => whnf); all_goals try (exfalso; omega)
            all_goals try (exact absurd (by assumption) hng)
            refine CallS.mk (c := cformed_c) ((p.1, chainP ps p.1 ++ [p.2])) ?_
            repeat' (first | (with_reducible first | refine Unf.h ?_ | refine loopK_n ?_) | ((conv => whnf); first | refine Fork.mkn (fun h => ?_) (fun h => ?_) | (refine Side.mk ?_ ?_; focus (first | with_reducible rfl | assumption | (intros; (try simp only [lenS, inR, cutS, loI, hiI, hgr] at *); omega) | (simp only [*, hgr]; done) | (simp [*, hgr]; done))) | refine RetE.mk () trivial ?_ | refine Got.mk (fun _ _ => ?_) | refine Ex.mk [_] rfl ?_ | refine retK_r ?_ | exact rfl) | fail); all_goals try (conv => whnf); all_goals try (exfalso; omega)
            exact absurd (hgs.2 ⟨hg, by rw [ets]; omega, by assumption, by assumption⟩) hgp
    · have e0 : n.take i = n := List.take_of_length_le (by omega)
      rw [e0] at hg ⊢
      have e1 : grownR ps e n = (n, chainsN ps n) := if_pos hg
      repeat' (first | (with_reducible refine Unf.h ?_) | ((conv => whnf); first | refine Fork.mk (fun h => ?_) (fun h => ?_) | (refine Side.mk ?_ ?_; focus (first | with_reducible rfl | (refine ⟨fun h => ?_, fun h => ?_⟩ <;> first | rfl | (cases h; done) | omega | (exfalso; omega) | (simp only [Bool.false_eq_true] at h; done)) | (simp only [*, e1]; done))) | refine RetE.mk () trivial ?_ | refine retK_r ?_ | exact rfl) | fail); all_goals try (conv => whnf); all_goals try (exfalso; omega)
end Go.Proofs.YtdflndjlnkoliaaGreatDoor

namespace Go.Proofs.YtdflndjlnkoliaaGreatDoor
set_option linter.all false
open Go.RowKit
/-! a directory: news planted, copied -/
theorem lastT_slds (es : List (List Nws)) : lastT (slds es) = (builtF (kvs es)).2 := by
  rcases Nat.eq_zero_or_pos es.length with h | h
  · obtain rfl := List.eq_nil_of_length_eq_zero h; rfl
  · have hne : es ≠ [] := List.length_pos_iff.1 h
    obtain ⟨qs, p, rfl⟩ : ∃ qs p, es = qs ++ [p] := ⟨es.dropLast, es.getLast hne, (List.dropLast_concat_getLast hne).symm⟩
    unfold lastT
    rw [slds_snoc, dif_pos (by simp), List.getLast_concat]
def eplant_c : Ctr where
  D := H256 × List (List Nws) × List Nws
  pre := fun (_, es, n) => StOk es ∧ n.length ≤ 16 ∧ ∀ p ∈ n, p.1.length ≤ 1000000 ∧ p.2.val.length ≤ 1000000
  args := fun (_, _, n) => [.ptr 0 0, .fs 68 eNw n]
  objs := fun (s, es, _) => stG s (builtF (kvs es)).1 (slds es) (peo es)
  nn := 6
  res := fun (_, es, n) _ => .tup [.int .i64 (builtF (kvs (es ++ [n]))).2, .int .i64 0]
  out := fun (s, es, n) _ => [(0, .box 89 [.arr8 s, .ptr 1 0, .own 3, .own 4, .own 5]), (1, .box 100 [.own 6]), (6, .row 192 132 eNd (builtF (kvs (es ++ [n]))).1), (3, .row 143 67 eSl (slds es)), (4, .row 175 2 ePn (peo es)), (5, nmO (peo es))]
  mm := 1
def eplant_H : Cfg := ⟨[(66, etree_c), (61, ckey_c), (86, ccommit_c), (88, put_c)], [(5, [3, 6, 9, 11], [7, 12, 13], (.one 0 0 false (.one 1 0 false (.one 2 0 false (.one 3 1 false (.one 4 0 false (.one 5 0 false (.one 6 1 false (.one 8 0 false (.one 9 1 false (.one 10 0 false (.one 11 1 false (.one 7 2 true (.one 12 2 true (.one 13 2 false (.one 14 0 false (.one 15 0 false (.one 16 0 false (.one 17 0 false (.one 18 0 false .nil))))))))))))))))))), [])], [], [], 42, 6, [], [], []⟩
theorem eplant_ok : eplant_c.Ok Tryz.prog 45 := by
  refine fn_ok eplant_H 6 rfl _ Tryz.func45 rfl rfl ⟨etree_ok, ckey_ok, ccommit_ok, put_ok, trivial⟩ rfl rfl (by kernel_rfl) (fun _ => Nat.le_of_ble_eq_true rfl) ?_
  rintro ⟨s, es, n⟩ hp hr
  try dsimp only [eplant_c] at hp
  try simp only [eplant_c, Rng, RngL, inR, and_true, true_and] at hr
  obtain ⟨hst, hp1, hp2⟩ := hp
  have hp1 : n.length ≤ 16 := hp1
  have elt := lastT_slds es
  repeat' (first | (with_reducible refine Unf.h ?_) | fail); all_goals try (conv => whnf); all_goals try (exfalso; omega)
  refine CallS.mk (c := etree_c) ((s, (builtF (kvs es)).1, slds es, peo es)) ?_
  repeat' (first | (with_reducible refine Unf.h ?_) | ((conv => whnf); first | (refine Side.mk ?_ ?_; focus (first | with_reducible rfl | exact True.intro)) | refine Got.mk (fun _ _ => ?_)) | fail); all_goals try (conv => whnf); all_goals try (exfalso; omega)
  refine LoopS.mk (I := Nat) (fun i => i ≤ n.length) (fun i => [(15, .int .i64 (i : Int)), (14, .int .i64 (n.length : Int)), (13, .fs 68 eNw n), (6, .int .i64 (builtF (kvs es ++ (n.take i).map kvN)).2), (0, .ptr 0 0), (1, .fs 68 eNw n)]) (fun i => [(0, .box 89 [.arr8 s, .ptr 1 0, .own 3, .own 4, .own 5]), (1, .box 100 [.own 6]), (6, .row 192 132 eNd (builtF (kvs es ++ (n.take i).map kvN)).1), (3, .row 143 67 eSl (slds es)), (4, .row 175 2 ePn (peo es)), (5, nmO (peo es))]) 7 (fun i => n.length - i) 0 (Nat.zero_le _) ?_ ?_
  · have e0 : kvs es ++ (n.take 0).map kvN = kvs es := by simp
    repeat' (first | (with_reducible refine Unf.h ?_) | ((conv => whnf); first | (refine Side.mk ?_ ?_; focus (first | with_reducible rfl | (refine congrArg (SV.int _) ?_; omega) | (simp only [*, e0]; done))) | (with_reducible refine Unf.h ?_) | exact True.intro) | fail); all_goals try (conv => whnf); all_goals try (exfalso; omega)
  · intro i hi
    by_cases hil : i < n.length
    · obtain ⟨p, hpi⟩ : ∃ p, n[((i : Nat) : Int).toNat]'hil = p := ⟨_, rfl⟩
      have hpi2 : n[i]'hil = p := hpi
      have hpm : p ∈ n := hpi ▸ List.getElem_mem _
      obtain ⟨hpl, hpv⟩ := hp2 p hpm
      have ets : kvs es ++ (n.take (i + 1)).map kvN = (kvs es ++ (n.take i).map kvN) ++ [(keyL p.1, cmL p.1 p.2)] := by
        rw [List.take_succ_eq_append_getElem hil, hpi2, List.map_append, ← List.append_assoc]; rfl
      have eb := builtF_snoc (kvs es ++ (n.take i).map kvN) (keyL p.1, cmL p.1 p.2)
      rw [← ets] at eb
      have eb : builtF (kvs es ++ (n.take (i + 1)).map kvN) = putF (builtF (kvs es ++ (n.take i).map kvN)).1 (builtF (kvs es ++ (n.take i).map kvN)).2 (keyL p.1) (cmL p.1 p.2) := eb
      have hsz := hst.forest (m := 0) (qs := (n.take i).map kvN) (by simp; omega)
      have hbo := builtOk (kvs es ++ (n.take i).map kvN)
      have hit := treeAt_is hbo.tree
      have hpp : put_c.pre ((builtF (kvs es ++ (n.take i).map kvN)).1, (builtF (kvs es ++ (n.take i).map kvN)).2, keyL p.1, cmL p.1 p.2) := ⟨by omega, hbo.closed, hit⟩
      have hck : ckey_c.pre p.1 := hpl
      have hcm : ccommit_c.pre (p.1, p.2) := ⟨hpl, hpv⟩
      repeat' (first | (with_reducible refine Unf.h ?_) | ((conv => whnf); first | refine Fork.mk (fun h => ?_) (fun h => ?_) | (refine Idx.mk ?_ ?_; focus (omega))) | fail); all_goals try (conv => whnf); all_goals try (exfalso; omega)
      rw [hpi]
      refine CallS.mk (c := ckey_c) (p.1) ?_
      repeat' (first | (with_reducible refine Unf.h ?_) | ((conv => whnf); first | (refine Side.mk ?_ ?_; focus (first | with_reducible rfl | assumption)) | refine Got.mk (fun _ _ => ?_)) | fail); all_goals try (conv => whnf); all_goals try (exfalso; omega)
      refine CallS.mk (c := ccommit_c) ((p.1, p.2)) ?_
      repeat' (first | (with_reducible refine Unf.h ?_) | ((conv => whnf); first | (refine Side.mk ?_ ?_; focus (first | with_reducible rfl | assumption)) | refine Got.mk (fun _ _ => ?_)) | fail); all_goals try (conv => whnf); all_goals try (exfalso; omega)
      refine CallS.mk (c := put_c) (((builtF (kvs es ++ (n.take i).map kvN)).1, (builtF (kvs es ++ (n.take i).map kvN)).2, keyL p.1, cmL p.1 p.2)) ?_
      repeat' (first | (with_reducible first | refine Unf.h ?_ | refine loopK_n ?_) | ((conv => whnf); first | refine Fork.mkn (fun h => ?_) (fun h => ?_) | (refine Side.mk ?_ ?_; focus (first | with_reducible rfl | assumption | (intros; (try simp only [lenS, inR, cutS, loI, hiI] at *); omega))) | refine Got.mk (fun _ _ => ?_)) | fail); all_goals try (conv => whnf); all_goals try (exfalso; omega)
      refine ⟨i + 1, ⟨by omega, by omega⟩, ?_⟩
      rw [eb]
      repeat' (first | (with_reducible refine Unf.h ?_) | ((conv => whnf); first | (refine Side.mk ?_ ?_; focus (first | with_reducible rfl | (refine congrArg (SV.int _) ?_; omega))) | (with_reducible refine Unf.h ?_) | exact True.intro) | fail); all_goals try (conv => whnf); all_goals try (exfalso; omega)
    · have e0 : n.take i = n := List.take_of_length_le (by omega)
      rw [e0, ← kvs_snoc]
      repeat' (first | (with_reducible refine Unf.h ?_) | ((conv => whnf); first | refine Fork.mk (fun h => ?_) (fun h => ?_) | (refine Side.mk ?_ ?_; focus (with_reducible rfl)) | refine RetE.mk () trivial ?_ | refine retK_r ?_ | exact rfl) | fail); all_goals try (conv => whnf); all_goals try (exfalso; omega)
def ecopy_c : Ctr where
  D := List Nws
  pre := fun n => n.length ≤ 10000 ∧ ∀ p ∈ n, p.1.length ≤ 1000000 ∧ p.2.val.length ≤ 1000000
  args := fun n => [.fs 68 eNw n]
  res := fun n _ => .fs 68 eNw n
def ecopy_H : Cfg := ⟨[(84, cloneB_c)], [(5, [1, 5], [2, 6, 8, 11], (.one 0 0 false (.one 1 1 false (.one 3 0 false (.one 4 0 false (.one 5 1 false (.one 2 2 true (.one 7 0 false (.one 6 2 false (.one 8 2 false (.one 9 0 false (.one 10 0 false (.one 11 2 false .nil)))))))))))), [])], [], [], 28, 0, [], [], []⟩
theorem ecopy_ok : ecopy_c.Ok Tryz.prog 68 := by
  refine fn_ok ecopy_H 0 rfl _ Tryz.func68 rfl rfl ⟨cloneB_ok, trivial⟩ rfl rfl (by kernel_rfl) (fun _ => Nat.le_of_ble_eq_true rfl) ?_
  intro (n : List Nws) hp hr
  try dsimp only [ecopy_c] at hp
  try simp only [ecopy_c, Rng, RngL, inR, and_true, true_and] at hr
  obtain ⟨hp1, hp2⟩ := hp
  have hp1 : n.length ≤ 10000 := hp1
  repeat' (first | (with_reducible refine Unf.h ?_) | fail); all_goals try (conv => whnf); all_goals try (exfalso; omega)
  refine LoopS.autoN (I := Nat) (fun i => i ≤ n.length) (fun i => [(8, .int .i64 (i : Int)), (3, .own 0)]) (fun i => [(0, .row 117 68 eNw (n.take i))]) 1 (fun i => n.length - i) 0 (Nat.zero_le _) ?_ ?_
  · have e0 : n.take 0 = [] := rfl
    repeat' (first | (with_reducible refine Unf.h ?_) | ((conv => whnf); first | (refine Side.mk ?_ ?_; focus (first | with_reducible rfl | assumption | (refine congrArg (SV.int _) ?_; omega))) | (with_reducible refine Unf.h ?_) | exact True.intro) | fail); all_goals try (conv => whnf); all_goals try (exfalso; omega)
  · intro i hi
    by_cases hil : i < n.length
    · obtain ⟨p, hpi⟩ : ∃ p, n[((i : Nat) : Int).toNat]'hil = p := ⟨_, rfl⟩
      have hpi2 : n[i]'hil = p := hpi
      have hpm : p ∈ n := hpi ▸ List.getElem_mem _
      obtain ⟨hpl, hpv⟩ := hp2 p hpm
      have hc1 : cloneB_c.pre p.1 := hpl
      have hc2 : cloneB_c.pre p.2.val := hpv
      have ets : n.take (i + 1) = n.take i ++ [p] := by rw [List.take_succ_eq_append_getElem hil, hpi2]
      repeat' (first | (with_reducible refine Unf.h ?_) | ((conv => whnf); first | refine Fork.mk (fun h => ?_) (fun h => ?_) | (refine Idx.mk ?_ ?_; focus (omega))) | fail); all_goals try (conv => whnf); all_goals try (exfalso; omega)
      rw [hpi]
      refine CallS.mk (c := cloneB_c) (p.1) ?_
      repeat' (first | (with_reducible refine Unf.h ?_) | ((conv => whnf); first | (refine Side.mk ?_ ?_; focus (first | with_reducible rfl | assumption)) | refine Got.mk (fun _ _ => ?_)) | fail); all_goals try (conv => whnf); all_goals try (exfalso; omega)
      refine CallS.mk (c := cloneB_c) (p.2.val) ?_
      repeat' (first | (with_reducible first | refine Unf.h ?_ | refine loopK_n ?_) | ((conv => whnf); first | (refine Side.mk ?_ ?_; focus (first | with_reducible rfl | assumption | (intros; (try simp only [lenS, inR, cutS, loI, hiI] at *); omega))) | refine Got.mk (fun _ _ => ?_) | refine Ex.mk [_] rfl ?_) | fail); all_goals try (conv => whnf); all_goals try (exfalso; omega)
      refine ⟨i + 1, ⟨by omega, by omega⟩, ?_⟩
      repeat' (first | (with_reducible refine Unf.h ?_) | ((conv => whnf); first | (refine Side.mk ?_ ?_; focus (first | with_reducible rfl | (refine congrArg (SV.int _) ?_; omega) | (simp only [*, ets]; done))) | (with_reducible refine Unf.h ?_) | exact True.intro) | fail); all_goals try (conv => whnf); all_goals try (exfalso; omega)
    · have e0 : n.take i = n := List.take_of_length_le (by omega)
      repeat' (first | (with_reducible refine Unf.h ?_) | ((conv => whnf); first | refine Fork.mk (fun h => ?_) (fun h => ?_) | (refine Side.mk ?_ ?_; focus ((simp only [*, e0]; done))) | refine RetE.mk () trivial ?_ | refine retK_r ?_ | exact rfl) | fail); all_goals try (conv => whnf); all_goals try (exfalso; omega)
end Go.Proofs.YtdflndjlnkoliaaGreatDoor

/- MY OWN ENGINE: rows of bytes that are held by their values. -/
namespace Go.Proofs.YtdflndjlnkoliaaGreatDoor
set_option linter.all false
open Go.RowKit
abbrev Bs0 := List (BitVec 8)
def rowB' (e : Nat) (w : World) (v : Value) (b : Bs0) : Prop := b.length ≤ 140737488355328 ∧ w.ownsRow 0 e 1 v b.length (b.map (bV .u8))
theorem hE_b {w : World} {A : Own} {σ : Sg} : ∀ {b : Bs0} {cs : List Value}, hE w A σ (b.map eB) cs ↔ cs = b.map (bV .u8)
  | [], cs => by simp [hE]
  | x :: r, cs => by
    simp only [List.map_cons, hE]
    constructor
    · rintro ⟨c, rest, rfl, h1, h2⟩
      have h1' := hL.single.1 h1
      simp only [SV.hc] at h1'
      rw [h1', hE_b.1 h2]; rfl
    · rintro rfl
      exact ⟨[bV .u8 x], r.map (bV .u8), rfl, hL.single.2 (by simp only [SV.hc]), hE_b.2 rfl⟩
theorem rowH_b {w : World} {A : Own} {σ : Sg} {k e : Nat} {b : Bs0} : rowH w A σ k e 1 (b.map eB) ↔ ∃ v, σ k = some v ∧ rowB' e w v b := by
  constructor
  · rintro ⟨v, cs, h0, h1, h2, h3, h4⟩
    have := hE_b.1 h3; subst this
    rw [List.length_map] at h2 h4
    exact ⟨v, h0, h2, h4⟩
  · rintro ⟨v, h0, h1, h2⟩
    refine ⟨v, b.map (bV .u8), h0, fun e he => ?_, by rw [List.length_map]; exact h1, hE_b.2 rfl, by rw [List.length_map]; exact h2⟩
    obtain ⟨x, _, rfl⟩ := List.mem_map.1 he
    rfl
theorem rowB'.lt {e : Nat} {w : World} {v : Value} {b : Bs0} (h : rowB' e w v b) {k : Nat} (hk : blkO v = some k) : k < w.heap.size := by
  rw [(own_blk h.2).1] at hk
  exact (h.2.lt k hk).2
theorem rowB'.later {e : Nat} {w w' : World} {v : Value} {b : Bs0} (h : rowB' e w v b) (hb : ∀ k, blkO v = some k → w'.heap[k]? = w.heap[k]?) : rowB' e w' v b := by
  refine ⟨h.1, h.2.1, ?_⟩
  rcases h.2.2 with hn | ⟨g, cap, cur, rfl, hb0, hg, rest⟩
  · exact .inl hn
  · exact .inr ⟨g, cap, cur, rfl, hb0, (hb g rfl).trans hg, rest⟩
abbrev VB := Value × Bs0
def apartL (l : List VB) : Prop := l.Pairwise fun p q => ∀ k, blkO p.1 = some k → blkO q.1 ≠ some k
def subsAO (e : Nat) (l : List VB) : AO where
  own := fun k => ∃ p ∈ l, blkO p.1 = some k
  holds := fun w _ => (∀ p ∈ l, rowB' e w p.1 p.2) ∧ apartL l
  plain := True
  lt := fun h ⟨p, hp, hk⟩ => (h.1 p hp).lt hk
  later := fun h _ hb => ⟨fun p hp => (h.1 p hp).later fun k hk => hb k ⟨p, hp, hk⟩, h.2⟩
  any := fun _ h => h
section
variable {P : Program} [TabC P] {S : Sig} {σ : Sg} {env : Env} {objs : List Ob} {nx : Nat} {a : Act} {w : World} {A : Own}
/-- a state whose objects are taken apart otherwise: the same blocks are own -/
theorem St.re {S' : Sig} {σ' : Sg} {env' : Env} {objs' : List Ob} {nx' : Nat} (h : St P S σ env objs nx a w) (hA0 : S'.A0 = S.A0) (hn : S'.n = S.n) (hs : Sg.le σ σ') (hown : ∀ b, owns σ' objs' b ↔ owns σ objs b)
    (hslots : ∀ t s, lk env' t = some s → s.hv w (S.A σ objs) σ' (a.tmps.getD t undef)) (hdom : ∀ k, nx' ≤ k → σ' k = none)
    (hholds : ∀ o ∈ objs', o.2.holds w (S.A σ objs) σ' o.1) (hdisj : Disj σ' objs') (hist : Mod S'.M0 S'.w0 w) (own0 : ∀ b, owns σ objs b → S'.M0 b ∨ S'.w0.heap.size ≤ b) (a0 : ∀ b, S.A0 b → b < w.heap.size)
    (base : ∀ k, k < S'.nn → ∀ v, σ' k = some v → S'.s0 k = some v) (nnx : S'.nn ≤ nx') (hds : S'.ds = S.ds := by rfl) : St P S' σ' env' objs' nx' a w := by
  have hA : ∀ b, S'.A σ' objs' b ↔ S.A σ objs b := fun b => by simp only [Sig.A, hA0, hown b]
  have hl : Later w (S.A σ objs) w (S'.A σ' objs') := Later.own fun b hb => (hA b).1 hb
  exact { slots := fun t s ht => (hslots t s ht).later hl, dom := hdom, size := by rw [hn]; exact h.size, defers := by rw [hds]; exact h.defers
          obs := ⟨fun o ho => (hholds o ho).later hl (fun _ _ => rfl), hdisj, fun b hb => by rw [hA0]; exact h.obs.lt b ((hown b).1 hb)⟩
          hist := hist, own0 := fun b hb => own0 b ((hown b).1 hb), a0 := by rw [hA0]; exact a0, mks := by rw [hds, hA0]; exact h.mks, glob := h.glob.later hl, base := base, nnx := nnx }
theorem own_row {e : Nat} {b : Bs0} {k : Nat} (x : Nat) : (SO.row e 1 eB b).own σ k x ↔ ∃ v, σ k = some v ∧ blkO v = some x := Iff.rfl
/-- what is owed where the opened row goes back -/
inductive CloseS (j e : Nat) (l1 l2 : List VB) (v : Value) (m : Nat) (K : KS) (env : Env) (objs : List Ob) (nx : Nat) : Prop
  | mk (b : Bs0) (o3 o4 : List Ob) (so : SO) (h3 : rmO objs m = some (.row e 1 eB b, o3)) (hj : lk o3 j = some (.ab (subsAO e (l1 ++ l2)))) (h4 : setO o3 j j (.ab (subsAO e (l1 ++ (v, b) :: l2))) = some o4) (k : K env o4 nx)
theorem apart_mid {l1 l2 : List VB} {p : VB} : apartL (l1 ++ p :: l2) ↔ apartL (l1 ++ l2) ∧ ∀ q ∈ l1 ++ l2, ∀ k, blkO p.1 = some k → blkO q.1 ≠ some k := by
  unfold apartL
  simp only [List.pairwise_append, List.pairwise_cons, List.mem_append, List.mem_cons]
  constructor
  · rintro ⟨h1, ⟨h2, h3⟩, h4⟩
    refine ⟨⟨h1, h3, fun a ha b hb => h4 a ha b (.inr hb)⟩, fun q hq k hk => ?_⟩
    rcases hq with hq | hq
    · exact fun hq' => h4 q hq p (.inl rfl) k hq' hk
    · exact h2 q hq k hk
  · rintro ⟨⟨h1, h3, h4⟩, h5⟩
    refine ⟨h1, ⟨fun q hq => h5 q (.inr hq), h3⟩, fun q hq r hr => ?_⟩
    rcases hr with rfl | hr
    · exact fun k hk hk' => h5 q (.inl hq) k hk' hk
    · exact h4 q hq r hr
theorem subs_own_mid {e : Nat} {l1 l2 : List VB} {p : VB} (k : Nat) : (subsAO e (l1 ++ p :: l2)).own k ↔ (subsAO e (l1 ++ l2)).own k ∨ blkO p.1 = some k := by
  show (∃ q ∈ l1 ++ p :: l2, blkO q.1 = some k) ↔ (∃ q ∈ l1 ++ l2, blkO q.1 = some k) ∨ _
  constructor
  · rintro ⟨q, hq, hk⟩
    simp only [List.mem_append, List.mem_cons] at hq
    rcases hq with hq | rfl | hq
    · exact .inl ⟨q, by simp [hq], hk⟩
    · exact .inr hk
    · exact .inl ⟨q, by simp [hq], hk⟩
  · rintro (⟨q, hq, hk⟩ | hk)
    · refine ⟨q, ?_, hk⟩
      simp only [List.mem_append, List.mem_cons] at hq ⊢
      exact hq.imp id .inr
    · exact ⟨p, by simp, hk⟩
/-- a raw value's row, opened -/
theorem OpsK.openS {H : Cfg} {all r : List Oper} {K : KS} {objs1 : List Ob} (j e : Nat) (l1 : List VB) (v : Value) (b : Bs0) (l2 : List VB) (t : Nat) {l : List VB} (hj : lk objs j = some (.ab (subsAO e l))) (hl : l = l1 ++ (v, b) :: l2) (ht : lk env t = some (.val v)) (h1 : setO objs j j (.ab (subsAO e (l1 ++ l2))) = some objs1)
    (h : OpsK P H all r (CloseS j e l1 l2 v nx K) ((t, .own nx) :: env) ((nx, .row e 1 eB b) :: objs1) (nx + 1)) : OpsK P H all r K env objs nx := ⟨fun {S Q ops} hcs hn ha hK => by
  subst hl
  intro σ a w hst
  let σ1 : Sg := σ.set nx v
  let S1 : Sig := { S with s0 := σ1, nn := nx + 1, w0 := w, M0 := fun b => owns σ objs b }
  have hle : Sg.le σ σ1 := Sg.le_set (hst.dom nx (Nat.le_refl _))
  have hs := setO_spec hj h1
  obtain ⟨R, hR1, hR2, hR3⟩ := hs.owns_iff (σ := σ)
  obtain ⟨hrow, hap⟩ := (show (∀ p ∈ l1 ++ (v, b) :: l2, rowB' e w p.1 p.2) ∧ apartL (l1 ++ (v, b) :: l2) from lk_holds hst hj)
  obtain ⟨hap1, hap2⟩ := apart_mid.1 hap
  have hq : (SO.ab (subsAO e (l1 ++ l2))).holds w (S.A σ objs1) σ j := ⟨fun p hp => hrow p (by simp only [List.mem_append, List.mem_cons] at hp ⊢; exact hp.imp id .inr), hap1⟩
  have hst1 := hst.ghost hs hq fun k hk => (subs_own_mid k).2 (.inl hk)
  have hnames : ∀ k, owns σ1 objs1 k ↔ owns σ objs1 k := owns_names hle hst1.obs.holds
  have hnx : σ1 nx = some v := Sg.set_self _ _ _
  have hslot : a.tmps.getD t undef = v ∧ v.oneCell' = true := by
    have := hst.slots t _ ht
    simp only [SV.hv, SV.h1, SV.hc, List.cons.injEq, and_true] at this
    exact this
  have hst2 : St P S1 σ1 ((t, .own nx) :: env) ((nx, .row e 1 eB b) :: objs1) (nx + 1) a w := by
    refine hst.re (S' := S1) rfl rfl hle (fun k => ?_) (fun t' s hs' => ?_) (fun k hk => ?_) (fun o ho => ?_) ⟨fun k hk hx => ?_, Disj_names hle hst1.obs.holds hst1.obs.disj⟩ (Mod.refl _ _) (fun k hk => .inl hk) hst.a0lt (fun k _ u hu => hu) (Nat.le_refl _)
    · show (SO.own σ1 nx (.row e 1 eB b) k ∨ owns σ1 objs1 k) ↔ _
      rw [hnames k, hR1 k, hR2 k, own_row]
      show (∃ u, σ1 nx = some u ∧ blkO u = some k) ∨ (R k ∨ (subsAO e (l1 ++ l2)).own k) ↔ R k ∨ (subsAO e (l1 ++ (v, b) :: l2)).own k
      rw [subs_own_mid, hnx]
      constructor
      · rintro (⟨u, hu, hk⟩ | hk | hk)
        · cases hu; exact .inr (.inr hk)
        · exact .inl hk
        · exact .inr (.inl hk)
      · rintro (hk | hk | hk)
        · exact .inr (.inl hk)
        · exact .inr (.inr hk)
        · exact .inl ⟨v, rfl, hk⟩
    · unfold lk at hs'
      split at hs'
      · rename_i hb
        obtain rfl := Nat.eq_of_beq_eq_true hb
        cases hs'
        simp only [SV.hv, SV.h1, SV.hc]
        exact ⟨v, hnx, hslot.2, by rw [hslot.1]⟩
      · exact (hst.slots t' s hs').names hle
    · show (if k = nx then some v else σ k) = none
      rw [if_neg (by omega)]; exact hst.dom k (by omega)
    · rcases List.mem_cons.1 ho with rfl | ho
      · exact rowH_b.2 ⟨v, hnx, hrow (v, b) (by simp)⟩
      · obtain ⟨c, d, rfl, rfl⟩ := hs.split
        rcases List.mem_append.1 ho with ho | ho
        · exact (hst.obs.holds o (List.mem_append_left _ ho)).names hle
        · rcases List.mem_cons.1 ho with rfl | ho
          · exact hq
          · exact (hst.obs.holds o (List.mem_append_right _ (List.mem_cons_of_mem _ ho))).names hle
    · obtain ⟨u, hu, hk⟩ := hk
      rw [hnx] at hu; cases hu
      rcases (hR2 k).1 ((hnames k).1 hx) with hx | ⟨q, hq, hqk⟩
      · exact hR3 hst.obs.disj k hx ((subs_own_mid k).2 (.inr hk))
      · exact hap2 q hq k hk hqk
  refine h.h (S := S1) (Q := Q) (ops := ops) hcs hn ha (fun env2 objs2 nx2 hk => ?_) σ1 a w hst2
  intro σ2 a2 w2 hs2
  obtain ⟨b', o3, o4, so, h3, hj3, h4, hK'⟩ := hk
  have hp := rmO_perm h3
  have hs3 := hs2.perm hp
  have hs4 := setO_spec hj3 h4
  obtain ⟨T, hT1, hT2, hT3⟩ := hs4.owns_iff (σ := σ2)
  obtain ⟨u, hu, hub⟩ := rowH_b.1 (show rowH w2 _ σ2 nx e 1 (b'.map eB) from hs3.obs.holds (nx, .row e 1 eB b') (by simp))
  have huv : u = v := by
    have := hs2.base nx (Nat.lt_succ_self nx) u hu
    have h' : σ1 nx = some u := this
    rw [hnx] at h'; cases h'; rfl
  subst huv
  obtain ⟨hrow2, hap3⟩ := (show (∀ p ∈ l1 ++ l2, rowB' e w2 p.1 p.2) ∧ apartL (l1 ++ l2) from hs3.obs.holds (j, _) (List.mem_cons_of_mem _ (lk_mem hj3)))
  have hd3 : (∀ k, SO.own σ2 nx (.row e 1 eB b') k → ¬ owns σ2 o3 k) ∧ Disj σ2 o3 := hs3.obs.disj
  have hown4 : ∀ k, owns σ2 o4 k ↔ owns σ2 ((nx, .row e 1 eB b') :: o3) k := fun k => by
    rw [hT2 k]
    show T k ∨ (subsAO e (l1 ++ (u, b') :: l2)).own k ↔ (∃ x, σ2 nx = some x ∧ blkO x = some k) ∨ owns σ2 o3 k
    rw [subs_own_mid, hT1 k, hu]
    constructor
    · rintro (hk | hk | hk)
      · exact .inr (.inl hk)
      · exact .inr (.inr hk)
      · exact .inl ⟨u, rfl, hk⟩
    · rintro (⟨x, hx, hk⟩ | hk | hk)
      · cases hx; exact .inr (.inr hk)
      · exact .inl hk
      · exact .inr (.inl hk)
  have hap4 : apartL (l1 ++ (u, b') :: l2) := apart_mid.2 ⟨hap3, fun q hq k hk hqk => hd3.1 k ⟨u, hu, hk⟩ ((hT1 k).2 (.inr ⟨q, hq, hqk⟩))⟩
  have hst4 : St P S σ2 env2 o4 nx2 a2 w2 := by
    have hm := hs2.hist
    refine hs3.re (S' := S) rfl rfl (Sg.le.refl _) (fun k => hown4 k) (fun t' s' hx => hs3.slots t' s' hx) hs2.dom (fun o ho => ?_) ?_ (hst.hist.step hm hst.own0) (fun k hk => ?_) hs3.a0lt (fun k hk x hx => ?_) (Nat.le_trans hst.nnx (Nat.le_trans (Nat.le_succ _) hs2.nnx))
    · obtain ⟨c, d, rfl, rfl⟩ := hs4.split
      rcases List.mem_append.1 ho with ho | ho
      · exact hs3.obs.holds o (List.mem_cons_of_mem _ (List.mem_append_left _ ho))
      · rcases List.mem_cons.1 ho with rfl | ho
        · refine ⟨fun p hp => ?_, hap4⟩
          simp only [List.mem_append, List.mem_cons] at hp
          rcases hp with hp | rfl | hp
          · exact hrow2 p (by simp [hp])
          · exact hub
          · exact hrow2 p (by simp [hp])
        · exact hs3.obs.holds o (List.mem_cons_of_mem _ (List.mem_append_right _ (List.mem_cons_of_mem _ ho)))
    · obtain ⟨c, d, rfl, rfl⟩ := hs4.split
      have hD := Disj_append.1 hd3.2
      have hown : ∀ k, (subsAO e (l1 ++ (u, b') :: l2)).own k → ¬ owns σ2 c k ∧ ¬ owns σ2 d k := fun k hk => by
        rcases (subs_own_mid k).1 hk with hk | hk
        · exact ⟨fun hc => hD.2.2 k hc (.inl hk), hD.2.1.1 k hk⟩
        · have := hd3.1 k ⟨u, hu, hk⟩
          rw [owns_append] at this
          exact ⟨fun hc => this (.inl hc), fun hc => this (.inr (.inr hc))⟩
      refine Disj_append.2 ⟨hD.1, ⟨fun k hk hx => (hown k hk).2 hx, hD.2.1.2⟩, fun k hk hx => ?_⟩
      rcases hx with hx | hx
      · exact (hown k hx).1 hk
      · exact hD.2.2 k hk (.inr hx)
    · rcases hs3.own0 k hk with hk | hk
      · exact hst.own0 k hk
      · exact .inr (Nat.le_trans hst.hist.size hk)
    · have hkn : k < nx := Nat.lt_of_lt_of_le hk hst.nnx
      have h' : σ1 k = some x := hs2.base k (Nat.lt_succ_of_lt hkn) x hx
      have h'' : (if k = nx then some u else σ k) = some x := h'
      rw [if_neg (by omega)] at h''
      exact hst.base k hk x h''
  exact hK _ _ _ hK' σ2 a2 w2 hst4⟩
def sealO (objs : List Ob) (j e : Nat) (l : List VB) (v : Value) (b : Bs0) : List Ob := match setO objs j j (.ab (subsAO e (l ++ [(v, b)]))) with
  | some o => o
  | none => objs
/-- a row of one's own goes to those that are held by their values -/
theorem St.seal {objs1 : List Ob} {j e m t : Nat} {l : List VB} {b : Bs0} (hst : St P S σ env objs nx a w) (ht : lk env t = some (.own m)) (hm : rmO objs m = some (.row e 1 eB b, objs1)) (hj : lk objs1 j = some (.ab (subsAO e l))) :
    ∃ v, St P S σ ((t, .val v) :: env) (sealO objs1 j e l v b) nx a w := by
  have hp := rmO_perm hm
  have hs3 := hst.perm hp
  obtain ⟨v, hv, hvb⟩ := rowH_b.1 (show rowH w _ σ m e 1 (b.map eB) from hs3.obs.holds (m, .row e 1 eB b) (by simp))
  have hset : ∃ o, setO objs1 j j (.ab (subsAO e (l ++ [(v, b)]))) = some o := by
    clear hs3 hp hm hst
    induction objs1 with
    | nil => simp [lk] at hj
    | cons x r ih =>
      obtain ⟨k, so⟩ := x
      unfold lk at hj
      unfold setO
      split at hj
      · rename_i hb; rw [hb]; exact ⟨_, rfl⟩
      · rename_i hb
        obtain ⟨o, ho⟩ := ih hj
        rw [hb, ho]; exact ⟨_, rfl⟩
  obtain ⟨o4, h4⟩ := hset
  have e4 : sealO objs1 j e l v b = o4 := by unfold sealO; rw [h4]
  refine ⟨v, ?_⟩
  rw [e4]
  have hs4 := setO_spec hj h4
  obtain ⟨T, hT1, hT2, hT3⟩ := hs4.owns_iff (σ := σ)
  obtain ⟨hrow2, hap3⟩ := (show (∀ p ∈ l, rowB' e w p.1 p.2) ∧ apartL l from hs3.obs.holds (j, .ab (subsAO e l)) (List.mem_cons_of_mem _ (lk_mem hj)))
  have hd3 : (∀ k, SO.own σ m (.row e 1 eB b) k → ¬ owns σ objs1 k) ∧ Disj σ objs1 := hs3.obs.disj
  have mid : ∀ k, (subsAO e (l ++ [(v, b)])).own k ↔ (subsAO e l).own k ∨ blkO v = some k := fun k => by
    have := subs_own_mid (e := e) (l1 := l) (l2 := []) (p := (v, b)) k
    rw [List.append_nil] at this; exact this
  have hown4 : ∀ k, owns σ o4 k ↔ owns σ ((m, .row e 1 eB b) :: objs1) k := fun k => by
    rw [hT2 k]
    show T k ∨ (subsAO e (l ++ [(v, b)])).own k ↔ (∃ x, σ m = some x ∧ blkO x = some k) ∨ owns σ objs1 k
    rw [mid, hT1 k, hv]
    constructor
    · rintro (hk | hk | hk)
      · exact .inr (.inl hk)
      · exact .inr (.inr hk)
      · exact .inl ⟨v, rfl, hk⟩
    · rintro (⟨x, hx, hk⟩ | hk | hk)
      · cases hx; exact .inr (.inr hk)
      · exact .inl hk
      · exact .inr (.inl hk)
  have hap4 : apartL (l ++ [(v, b)]) := (apart_mid (l1 := l) (l2 := [])).2 ⟨by rw [List.append_nil]; exact hap3, fun q hq k hk hqk => hd3.1 k ⟨v, hv, hk⟩ ((hT1 k).2 (.inr ⟨q, by simpa using hq, hqk⟩))⟩
  refine hs3.re (S' := S) rfl rfl (Sg.le.refl _) (fun k => hown4 k) (fun t' s' hx => ?_) hst.dom (fun o ho => ?_) ?_ hst.hist (fun k hk => hs3.own0 k hk) hst.a0 hst.base hst.nnx
  · unfold lk at hx
    split at hx
    · rename_i hb
      obtain rfl := Nat.eq_of_beq_eq_true hb
      cases hx
      have := hs3.slots t _ ht
      simp only [SV.hv, SV.h1, SV.hc, List.cons.injEq, and_true] at this ⊢
      obtain ⟨u, hu, h1, h2⟩ := this
      rw [hv] at hu; cases hu
      exact ⟨h2, h1⟩
    · exact hs3.slots t' s' hx
  · obtain ⟨c, d, rfl, rfl⟩ := hs4.split
    rcases List.mem_append.1 ho with ho | ho
    · exact hs3.obs.holds o (List.mem_cons_of_mem _ (List.mem_append_left _ ho))
    · rcases List.mem_cons.1 ho with rfl | ho
      · refine ⟨fun p hp => ?_, hap4⟩
        rcases List.mem_append.1 hp with hp | hp
        · exact hrow2 p hp
        · obtain rfl : p = (v, b) := by simpa using hp
          exact hvb
      · exact hs3.obs.holds o (List.mem_cons_of_mem _ (List.mem_append_right _ (List.mem_cons_of_mem _ ho)))
  · obtain ⟨c, d, rfl, rfl⟩ := hs4.split
    have hD := Disj_append.1 hd3.2
    have hown : ∀ k, (subsAO e (l ++ [(v, b)])).own k → ¬ owns σ c k ∧ ¬ owns σ d k := fun k hk => by
      rcases (mid k).1 hk with hk | hk
      · exact ⟨fun hc => hD.2.2 k hc (.inl hk), hD.2.1.1 k hk⟩
      · have := hd3.1 k ⟨v, hv, hk⟩
        rw [owns_append] at this
        exact ⟨fun hc => this (.inl hc), fun hc => this (.inr (.inr hc))⟩
    refine Disj_append.2 ⟨hD.1, ⟨fun k hk hx => (hown k hk).2 hx, hD.2.1.2⟩, fun k hk hx => ?_⟩
    rcases hx with hx | hx
    · exact (hown k hx).1 hk
    · exact hD.2.2 k hk (.inr hx)
theorem OpsK.sealS {H : Cfg} {all r : List Oper} {K : KS} {objs1 : List Ob} (j e m t : Nat) (l : List VB) (b : Bs0) (ht : lk env t = some (.own m)) (hm : rmO objs m = some (.row e 1 eB b, objs1)) (hj : lk objs1 j = some (.ab (subsAO e l)))
    (h : ∀ v, OpsK P H all r K ((t, .val v) :: env) (sealO objs1 j e l v b) nx) : OpsK P H all r K env objs nx := ⟨fun {S Q ops} hcs hn ha hK => by
  intro σ a w hst
  obtain ⟨v, hst'⟩ := hst.seal ht hm hj
  exact (h v).h hcs hn ha hK σ a w hst'⟩
theorem OrdK.sealS {H : Cfg} {all : List Oper} {o0 : List Ob} {N : List Nat} {r : Ord} {ph k : Bool} {K : KS} {objs1 : List Ob} (j e m t : Nat) (l : List VB) (b : Bs0) (ht : lk env t = some (.own m)) (hm : rmO objs m = some (.row e 1 eB b, objs1)) (hj : lk objs1 j = some (.ab (subsAO e l)))
    (h : ∀ v, OrdK P H all o0 N r ph k K ((t, .val v) :: env) (sealO objs1 j e l v b) nx) : OrdK P H all o0 N r ph k K env objs nx := ⟨fun {S Q ops} hcs hn ha hN hK => by
  intro σ a w w0 e0 a0 hst0 hS hst hph hk
  obtain ⟨v, hst'⟩ := hst.seal ht hm hj
  exact (h v).h hcs hn ha hN hK σ a w w0 e0 a0 hst0 hS hst' hph hk⟩
/-- no rows yet -/
theorem Vc.newS {H : Cfg} {c : Code} {K : KW} (e : Nat) (h : Vc P H c env ((nx, .ab (subsAO e [])) :: objs) (nx + 1) K) : Vc P H c env objs nx K := ⟨fun {S Q} rd hcs hn hnn hd hrd hp hK => by
  intro σ a w hst
  have hno : ∀ k, ¬ (subsAO e []).own k := fun k hk => by obtain ⟨p, hp, _⟩ := hk; cases hp
  refine h.h rd hcs hn hnn hd hrd hp hK σ a w (hst.re rfl rfl (Sg.le.refl _) (fun k => ⟨fun hk => hk.elim (fun x => (hno k x).elim) id, .inr⟩) (fun t s ht => hst.slots t s ht) (fun k hk => hst.dom k (by omega)) (fun o ho => ?_) ⟨fun k hk => (hno k hk).elim, hst.obs.disj⟩ hst.hist (fun k hk => hst.own0 k hk) hst.a0 hst.base (Nat.le_succ_of_le hst.nnx))
  rcases List.mem_cons.1 ho with rfl | ho
  · exact ⟨fun p hp => (by cases hp), List.Pairwise.nil⟩
  · exact hst.obs.holds o ho⟩
end
/-! ## contracts over such rows -/
theorem h1_fs {w : World} {A A' : Own} {σ σ' : Sg} {z : Nat} {α : Type} {enc : α → List SV} {xs : List α} {v : Value} (hl : ∀ k, A' k → A k) (h : (SV.fs z enc xs).h1 w A σ v) : (SV.fs z enc xs).h1 w A' σ' v := by
  have := SV.hc.later (w := w) (w' := w) (Later.own hl) (SV.fs z enc xs) σ [v] h
  simp only [SV.h1, SV.hc] at this ⊢
  exact this
/-- a function that hands back a new row of bytes -/
def rowC (D : Type) (pre : D → Prop) (arg f : D → Bs0) (e : Nat) : Ctr where
  D := D
  pre := pre
  args := fun d => [.fs 1 eB (arg d)]
  res := fun _ _ => .own 0
  out := fun d _ => [(0, .row e 1 eB (f d))]
  mm := 1
/-- the same, where the new row goes to those that are held by their values -/
def rowS (D : Type) (pre : D → Prop) (arg f : D → Bs0) (e : Nat) : Ctr where
  D := D × List VB
  pre := fun d => pre d.1
  args := fun d => [.fs 1 eB (arg d.1)]
  objs := fun d => [(0, .ab (subsAO e d.2))]
  nn := 1
  E := Value
  res := fun _ v => .val v
  out := fun d v => [(0, .ab (subsAO e (d.2 ++ [(v, f d.1)])))]
  kp := true
/-- the same, where the argument is one of them -/
def rowL (D : Type) (pre : D → Prop) (arg f : D → Bs0) (e : Nat) : Ctr where
  D := D × Value × List VB
  pre := fun d => pre d.1 ∧ (d.2.1, arg d.1) ∈ d.2.2
  args := fun d => [.val d.2.1]
  objs := fun d => [(0, .ab (subsAO e d.2.2))]
  nn := 1
  res := fun _ _ => .own 1
  out := fun d _ => [(0, .ab (subsAO e d.2.2)), (1, .row e 1 eB (f d.1))]
  mm := 1
  kp := true
/-- the same, where the argument is a row of one's own, which stays -/
def rowO (D : Type) (pre : D → Prop) (arg f : D → Bs0) (e : Nat) : Ctr where
  D := D
  pre := pre
  args := fun _ => [.own 0]
  objs := fun d => [(0, .row e 1 eB (arg d))]
  nn := 1
  res := fun _ _ => .own 1
  out := fun d _ => [(0, .row e 1 eB (arg d)), (1, .row e 1 eB (f d))]
  mm := 1
  kp := true
section
variable {P : Program} [TabC P] {fn : Nat} {D : Type} {pre : D → Prop} {arg f : D → Bs0} {e : Nat}
theorem rowS_ok (h : (rowC D pre arg f e).Ok P fn) : (rowS D pre arg f e).Ok P fn := by
  rintro ⟨d, s⟩ hpre A0 w σ vs hA hobs hargs hdom hgl
  have hown : ∀ k, owns σ [(0, SO.ab (subsAO e s))] k ↔ (subsAO e s).own k := fun k => ⟨fun h => h.resolve_right (fun x => x), .inl⟩
  obtain ⟨hrow, hap⟩ := (show (∀ p ∈ s, rowB' e w p.1 p.2) ∧ apartL s from hobs.holds (0, .ab (subsAO e s)) (List.mem_cons_self))
  obtain ⟨v0, m, rfl, hv0, rfl⟩ := hargs
  refine (h d hpre (fun k => A0 k ∨ (subsAO e s).own k) w sg0 [v0] (fun k hk => hk.elim (hA k) fun hk => (hobs.lt k ((hown k).2 hk)).1) ⟨fun o ho => (by cases ho), trivial, fun k hk => hk.elim⟩ ⟨v0, [], rfl, h1_fs (fun k hk => ?_) hv0, rfl⟩ (fun _ _ => rfl) (hgl.later (Later.own fun k hk => ?_))).mono ?_
  · exact hk.elim (fun hk => hk.imp id .inl) (fun x => x.elim)
  · exact hk.elim (fun hk => hk.imp id .inl) (fun x => x.elim)
  · rintro en w' ⟨e', v, σ', rfl, _, hsame, hdom', hres, hm, hobs', hnew⟩
    simp only [rowC, SV.hv, SV.h1, SV.hc, List.cons.injEq, and_true] at hres
    obtain ⟨u, hu, h1u, rfl⟩ := hres
    obtain ⟨u', hu', hub⟩ := rowH_b.1 (show rowH w' _ σ' 0 e 1 ((f d).map eB) from hobs'.holds (0, .row e 1 eB (f d)) (List.mem_cons_self))
    rw [hu] at hu'; cases hu'
    have hlt : ∀ k, blkO v = some k → k < w'.heap.size ∧ ¬ (A0 k ∨ (subsAO e s).own k) := fun k hk => hobs'.lt k (.inl ⟨v, hu, hk⟩)
    have hkeep : Mod (fun _ => False) w w' := hm.mono fun k hk => hk.2.elim
    refine ⟨v, v, σ, rfl, trivial, fun k _ x hx => hx, fun k hk => hdom k hk, ⟨rfl, h1u⟩, hkeep.mono fun _ x => x.elim, ⟨fun o ho => ?_, ⟨fun _ _ x => x, trivial⟩, fun k hk => ?_⟩, fun k hk => ?_⟩
    · rcases List.mem_cons.1 ho with rfl | ho
      · refine ⟨fun p hp => ?_, ?_⟩
        · rcases List.mem_append.1 hp with hp | hp
          · exact (hrow p hp).later fun k hk => hkeep.block k ((hrow p hp).lt hk) (fun x => x)
          · obtain rfl : p = (v, f d) := by simpa using hp
            exact hub
        · have := (apart_mid (l1 := s) (l2 := []) (p := (v, f d))).2 ⟨by simpa using hap, fun q hq k hk hqk => (hlt k hk).2 (.inr ⟨q, by simpa using hq, hqk⟩)⟩
          exact this
      · cases ho
    · have hk' := hk.resolve_right (fun x => x)
      rcases (subs_own_mid (l1 := s) (l2 := []) (p := (v, f d)) k).1 hk' with hk' | hk'
      · rw [List.append_nil] at hk'
        have := hobs.lt k ((hown k).2 hk')
        exact ⟨Nat.lt_of_lt_of_le this.1 hkeep.size, this.2⟩
      · exact ⟨(hlt k hk').1, fun x => (hlt k hk').2 (.inl x)⟩
    · have hk' := hk.resolve_right (fun x => x)
      rcases (subs_own_mid (l1 := s) (l2 := []) (p := (v, f d)) k).1 hk' with hk' | hk'
      · rw [List.append_nil] at hk'
        exact .inl ((hown k).2 hk')
      · exact .inr ((hnew k (.inl ⟨v, hu, hk'⟩)).resolve_left (fun x => x.elim))
theorem rowL_ok (h : (rowC D pre arg f e).Ok P fn) : (rowL D pre arg f e).Ok P fn := by
  rintro ⟨d, v, s⟩ ⟨hpre, hmem⟩ A0 w σ vs hA hobs hargs hdom hgl
  have hown : ∀ k, owns σ [(0, SO.ab (subsAO e s))] k ↔ (subsAO e s).own k := fun k => ⟨fun h => h.resolve_right (fun x => x), .inl⟩
  obtain ⟨hrow, hap⟩ := (show (∀ p ∈ s, rowB' e w p.1 p.2) ∧ apartL s from hobs.holds (0, .ab (subsAO e s)) (List.mem_cons_self))
  obtain ⟨v0, m, rfl, hv0, rfl⟩ := hargs
  simp only [SV.h1, SV.hc, List.cons.injEq, and_true] at hv0
  obtain ⟨rfl, hone⟩ := hv0
  have hr0 : rowH w (fun k => A0 k ∨ (subsAO e s).own k) (sg0.set 0 v0) 0 e 1 ((arg d).map eB) := rowH_b.2 ⟨v0, Sg.set_self _ _ _, hrow _ hmem⟩
  have harg : (SV.fs 1 eB (arg d)).hc w (fun k => (A0 k ∨ ((subsAO e s).own k ∧ blkO v0 ≠ some k)) ∨ False) sg0 [v0] := by
    obtain ⟨u, hu, hc⟩ := hr0.fs (A' := fun k => (A0 k ∨ ((subsAO e s).own k ∧ blkO v0 ≠ some k)) ∨ False) (fun k hk => hk.elim (fun hk => hk.imp id And.left) (fun x => x.elim)) (fun k u hu hk => by
      rw [Sg.set_self] at hu; cases hu
      rintro (hx | x)
      · rcases hx with hx | hx
        · exact (hobs.lt k ((hown k).2 ⟨_, hmem, hk⟩)).2 hx
        · exact hx.2 hk
      · exact x)
    rw [Sg.set_self] at hu; cases hu
    exact hc
  refine (h d hpre (fun k => A0 k ∨ ((subsAO e s).own k ∧ blkO v0 ≠ some k)) w sg0 [v0] (fun k hk => hk.elim (hA k) fun hk => (hobs.lt k ((hown k).2 hk.1)).1) ⟨fun o ho => (by cases ho), trivial, fun k hk => hk.elim⟩ ⟨v0, [], rfl, harg, rfl⟩ (fun _ _ => rfl) (hgl.later (Later.own fun k hk => ?_))).mono ?_
  · exact hk.elim (fun hk => hk.imp id fun hk => .inl hk.1) (fun x => x.elim)
  · rintro en w' ⟨e', v, σ', rfl, _, hsame, hdom', hres, hm, hobs', hnew⟩
    simp only [rowC, SV.hv, SV.h1, SV.hc, List.cons.injEq, and_true] at hres
    obtain ⟨u, hu, h1u, rfl⟩ := hres
    obtain ⟨u', hu', hub⟩ := rowH_b.1 (show rowH w' _ σ' 0 e 1 ((f d).map eB) from hobs'.holds (0, .row e 1 eB (f d)) (List.mem_cons_self))
    rw [hu] at hu'; cases hu'
    have hfresh : ∀ k, blkO v = some k → w.heap.size ≤ k := fun k hk => (hnew k (.inl ⟨v, hu, hk⟩)).resolve_left (fun x => x.elim)
    have hlt : ∀ k, blkO v = some k → k < w'.heap.size := fun k hk => (hobs'.lt k (.inl ⟨v, hu, hk⟩)).1
    have hkeep : Mod (fun _ => False) w w' := hm.mono fun k hk => hk.2.elim
    have hs1 : σ.set 1 v 1 = some v := Sg.set_self _ _ _
    have hrow1 : ∀ k, SO.own (σ.set 1 v) 1 (.row e 1 eB (f d)) k ↔ blkO v = some k := fun k => ⟨fun ⟨u, hu, hk⟩ => by rw [hs1] at hu; cases hu; exact hk, fun hk => ⟨v, hs1, hk⟩⟩
    have hsub : ∀ k, (subsAO e s).own k → k < w.heap.size ∧ ¬ A0 k := fun k hk => hobs.lt k ((hown k).2 hk)
    refine ⟨(), v, σ.set 1 v, rfl, trivial, fun k hk x hx => ?_, fun k hk => ?_, ⟨v, hs1, h1u, rfl⟩, hkeep.mono fun _ x => x.elim, ⟨fun o ho => ?_, ⟨fun k hk hx => ?_, fun _ _ x => x, trivial⟩, fun k hk => ?_⟩, fun k hk => ?_⟩
    · have hk1 : k < 1 := hk
      unfold Sg.set at hx
      rw [if_neg (by omega)] at hx; exact hx
    · have hk1 : 2 ≤ k := hk
      show (if k = 1 then some v else σ k) = none
      rw [if_neg (by omega)]; exact hdom k (by show 1 ≤ k; omega)
    · rcases List.mem_cons.1 ho with rfl | ho
      · exact ⟨fun p hp => (hrow p hp).later fun k hk => hkeep.block k ((hrow p hp).lt hk) (fun x => x), hap⟩
      · rcases List.mem_cons.1 ho with rfl | ho
        · exact rowH_b.2 ⟨v, hs1, hub⟩
        · cases ho
    · have hx' := (hrow1 k).1 (hx.resolve_right (fun x => x))
      have := (hsub k hk).1
      have := hfresh k hx'
      omega
    · rcases hk with hk | hk
      · have := hsub k hk
        exact ⟨Nat.lt_of_lt_of_le this.1 hkeep.size, this.2⟩
      · have hk' := (hrow1 k).1 (hk.resolve_right (fun x => x))
        refine ⟨hlt k hk', fun hx => ?_⟩
        have := hA k hx
        have := hfresh k hk'
        omega
    · rcases hk with hk | hk
      · exact .inl (.inl hk)
      · exact .inr (hfresh k ((hrow1 k).1 (hk.resolve_right (fun x => x))))
theorem rowO_ok (h : (rowC D pre arg f e).Ok P fn) : (rowO D pre arg f e).Ok P fn := by
  rintro d hpre A0 w σ vs hA hobs hargs hdom hgl
  have hr0 : rowH w (fun k => A0 k ∨ owns σ [(0, SO.row e 1 eB (arg d))] k) σ 0 e 1 ((arg d).map eB) := hobs.holds (0, .row e 1 eB (arg d)) (List.mem_cons_self)
  obtain ⟨u0, hu0, hub0⟩ := rowH_b.1 hr0
  have hown : ∀ k, owns σ [(0, SO.row e 1 eB (arg d))] k ↔ blkO u0 = some k := fun k => ⟨fun h => by
    obtain ⟨u, hu, hk⟩ := h.resolve_right (fun x => x)
    rw [hu0] at hu; cases hu; exact hk, fun hk => .inl ⟨u0, hu0, hk⟩⟩
  obtain ⟨v0, m, rfl, hv0, rfl⟩ := hargs
  simp only [SV.h1, SV.hc, List.cons.injEq, and_true] at hv0
  obtain ⟨u, hu, hone, rfl⟩ := hv0
  rw [hu0] at hu; cases hu
  have harg : (SV.fs 1 eB (arg d)).hc w (fun k => A0 k ∨ False) sg0 [u0] := by
    obtain ⟨u, hu, hc⟩ := hr0.fs (A' := fun k => A0 k ∨ False) (fun k hk => .inl (hk.resolve_right (fun x => x))) (fun k u hu hk => by
      rw [hu0] at hu; cases hu
      rintro (hx | x)
      · exact (hobs.lt k ((hown k).2 hk)).2 hx
      · exact x)
    rw [hu0] at hu; cases hu
    exact hc
  refine (h d hpre A0 w sg0 [u0] hA ⟨fun o ho => (by cases ho), trivial, fun k hk => hk.elim⟩ ⟨u0, [], rfl, harg, rfl⟩ (fun _ _ => rfl) (hgl.later (Later.own fun k hk => .inl (hk.resolve_right (fun x => x))))).mono ?_
  rintro en w' ⟨e', v, σ', rfl, _, hsame, hdom', hres, hm, hobs', hnew⟩
  simp only [rowC, SV.hv, SV.h1, SV.hc, List.cons.injEq, and_true] at hres
  obtain ⟨u, hu, h1u, rfl⟩ := hres
  obtain ⟨u', hu', hub⟩ := rowH_b.1 (show rowH w' _ σ' 0 e 1 ((f d).map eB) from hobs'.holds (0, .row e 1 eB (f d)) (List.mem_cons_self))
  rw [hu] at hu'; cases hu'
  have hfresh : ∀ k, blkO v = some k → w.heap.size ≤ k := fun k hk => (hnew k (.inl ⟨v, hu, hk⟩)).resolve_left (fun x => x.elim)
  have hlt : ∀ k, blkO v = some k → k < w'.heap.size := fun k hk => (hobs'.lt k (.inl ⟨v, hu, hk⟩)).1
  have hkeep : Mod (fun _ => False) w w' := hm.mono fun k hk => hk.2.elim
  have hs1 : σ.set 1 v 1 = some v := Sg.set_self _ _ _
  have hs0 : σ.set 1 v 0 = some u0 := by
    show (if 0 = 1 then some v else σ 0) = some u0
    rw [if_neg (by omega)]; exact hu0
  have hrow1 : ∀ k, SO.own (σ.set 1 v) 1 (.row e 1 eB (f d)) k ↔ blkO v = some k := fun k => ⟨fun ⟨u, hu, hk⟩ => by rw [hs1] at hu; cases hu; exact hk, fun hk => ⟨v, hs1, hk⟩⟩
  have hrow0 : ∀ k, SO.own (σ.set 1 v) 0 (.row e 1 eB (arg d)) k ↔ blkO u0 = some k := fun k => ⟨fun ⟨u, hu, hk⟩ => by rw [hs0] at hu; cases hu; exact hk, fun hk => ⟨u0, hs0, hk⟩⟩
  have hsub : ∀ k, blkO u0 = some k → k < w.heap.size ∧ ¬ A0 k := fun k hk => hobs.lt k ((hown k).2 hk)
  refine ⟨(), v, σ.set 1 v, rfl, trivial, fun k hk x hx => ?_, fun k hk => ?_, ⟨v, hs1, h1u, rfl⟩, hkeep.mono fun _ x => x.elim, ⟨fun o ho => ?_, ⟨fun k hk hx => ?_, fun _ _ x => x, trivial⟩, fun k hk => ?_⟩, fun k hk => ?_⟩
  · have hk1 : k < 1 := hk
    unfold Sg.set at hx
    rw [if_neg (by omega)] at hx; exact hx
  · have hk1 : 2 ≤ k := hk
    show (if k = 1 then some v else σ k) = none
    rw [if_neg (by omega)]; exact hdom k (by show 1 ≤ k; omega)
  · rcases List.mem_cons.1 ho with rfl | ho
    · exact rowH_b.2 ⟨u0, hs0, hub0.later fun k hk => hkeep.block k (hsub k hk).1 (fun x => x)⟩
    · rcases List.mem_cons.1 ho with rfl | ho
      · exact rowH_b.2 ⟨v, hs1, hub⟩
      · cases ho
  · have hx' := (hrow1 k).1 (hx.resolve_right (fun x => x))
    have := (hsub k ((hrow0 k).1 hk)).1
    have := hfresh k hx'
    omega
  · rcases hk with hk | hk
    · have := hsub k ((hrow0 k).1 hk)
      exact ⟨Nat.lt_of_lt_of_le this.1 hkeep.size, this.2⟩
    · have hk' := (hrow1 k).1 (hk.resolve_right (fun x => x))
      refine ⟨hlt k hk', fun hx => ?_⟩
      have := hA k hx
      have := hfresh k hk'
      omega
  · rcases hk with hk | hk
    · exact .inl ((hown k).2 ((hrow0 k).1 hk))
    · exact .inr (hfresh k ((hrow1 k).1 (hk.resolve_right (fun x => x))))
end
/-! ## what is handed back, told otherwise -/
def soSame (s s' : SO) : Prop := (∀ σ k, SO.own σ k s = SO.own σ k s') ∧ ∀ w A σ k, s.holds w A σ k = s'.holds w A σ k
def oSame : List Ob → List Ob → Prop
  | [], [] => True
  | (k, s) :: r, (k', s') :: r' => k = k' ∧ soSame s s' ∧ oSame r r'
  | _, _ => False
theorem soSame.rfl' {s : SO} : soSame s s := ⟨fun _ _ => rfl, fun _ _ _ _ => rfl⟩
theorem soSame.row {e z : Nat} {α β : Type} {enc : α → List SV} {enc' : β → List SV} {xs : List α} {ys : List β} (h : xs.map enc = ys.map enc') : soSame (.row e z enc xs) (.row e z enc' ys) :=
  ⟨fun _ _ => rfl, fun w A σ k => by show rowH w A σ k e z (xs.map enc) = rowH w A σ k e z (ys.map enc'); rw [h]⟩
theorem oSame.owns {σ : Sg} : ∀ {a b : List Ob}, oSame a b → owns σ a = owns σ b
  | [], [], _ => rfl
  | (k, s) :: r, (k', s') :: r', ⟨h1, h2, h3⟩ => by
    subst h1
    funext x
    show (SO.own σ k s x ∨ Go.Proofs.YtdflndjlnkoliaaGreatDoor.owns σ r x) = (SO.own σ k s' x ∨ Go.Proofs.YtdflndjlnkoliaaGreatDoor.owns σ r' x)
    rw [h2.1, oSame.owns h3]
theorem oSame.disj {σ : Sg} : ∀ {a b : List Ob}, oSame a b → Disj σ a → Disj σ b
  | [], [], _, h => h
  | (k, s) :: r, (k', s') :: r', ⟨h1, h2, h3⟩, h => by
    subst h1
    refine ⟨fun b hb => ?_, oSame.disj h3 h.2⟩
    have hb' : SO.own σ k s' b := hb
    rw [← h2.1] at hb'
    rw [← oSame.owns h3]
    exact h.1 b hb'
theorem oSame.mem : ∀ {a b : List Ob}, oSame a b → ∀ o ∈ b, ∃ o' ∈ a, o'.1 = o.1 ∧ soSame o'.2 o.2
  | [], [], _, o, h => by cases h
  | (k, s) :: r, (k', s') :: r', ⟨h1, h2, h3⟩, o, h => by
    rcases List.mem_cons.1 h with rfl | h
    · exact ⟨(k, s), List.mem_cons_self, h1, h2⟩
    · obtain ⟨o', ho', e⟩ := oSame.mem h3 o h
      exact ⟨o', List.mem_cons_of_mem _ ho', e⟩
theorem oSame.obs {σ : Sg} {A0 : Own} {a b : List Ob} {w : World} (h : oSame a b) (ho : Obs σ A0 a w) : Obs σ A0 b w :=
  ⟨fun o hm => by
    obtain ⟨o', hm', h1, h2⟩ := h.mem o hm
    have := ho.holds o' hm'
    rw [h1, h2.2, h.owns] at this
    exact this, h.disj ho.disj, fun x hx => ho.lt x (by rw [h.owns]; exact hx)⟩
theorem Ctr.Ok.out {P : Program} [TabC P] {f : Nat} {c : Ctr} (h : c.Ok P f) {out' : c.D → c.E → List Ob} (hs : ∀ d e, c.pre d → c.post d e → oSame (c.out d e) (out' d e)) : ({ c with out := out' } : Ctr).Ok P f := by
  intro d hpre A0 w σ vs hA hobs hargs hdom hgl
  refine (h d hpre A0 w σ vs hA hobs hargs hdom hgl).mono ?_
  rintro en w' ⟨e', v, σ', rfl, hp, hsame, hdom', hres, hm, hobs', hnew⟩
  have hh := hs d e' hpre hp
  refine ⟨e', v, σ', rfl, hp, hsame, hdom', ?_, hm, hh.obs hobs', ?_⟩
  · show (c.res d e').hv w' (Av A0 σ' (out' d e')) σ' v
    unfold Av at hres ⊢
    rw [← hh.owns]; exact hres
  · intro b hb
    have hb' : owns σ' (out' d e') b := hb
    rw [← hh.owns] at hb'
    exact hnew b hb'
/-! ## less is handed back -/
def soSub (s s' : SO) : Prop := (∀ σ k x, SO.own σ k s' x → SO.own σ k s x) ∧ ∀ w A σ k, s.holds w A σ k → s'.holds w A σ k
def oSub : List Ob → List Ob → Prop
  | [], [] => True
  | (k, s) :: r, (k', s') :: r' => k = k' ∧ soSub s s' ∧ oSub r r'
  | _, _ => False
theorem soSub.rfl' {s : SO} : soSub s s := ⟨fun _ _ _ h => h, fun _ _ _ _ h => h⟩
theorem oSub.owns {σ : Sg} {x : Nat} : ∀ {a b : List Ob}, oSub a b → Go.Proofs.YtdflndjlnkoliaaGreatDoor.owns σ b x → Go.Proofs.YtdflndjlnkoliaaGreatDoor.owns σ a x
  | [], [], _, h => h
  | (k, s) :: r, (k', s') :: r', ⟨h1, h2, h3⟩, h => by
    subst h1
    exact h.imp (h2.1 σ k x) (oSub.owns h3)
theorem oSub.disj {σ : Sg} : ∀ {a b : List Ob}, oSub a b → Disj σ a → Disj σ b
  | [], [], _, h => h
  | (k, s) :: r, (k', s') :: r', ⟨h1, h2, h3⟩, h => by
    subst h1
    exact ⟨fun b hb hr => h.1 b (h2.1 σ k b hb) (oSub.owns h3 hr), oSub.disj h3 h.2⟩
theorem oSub.mem : ∀ {a b : List Ob}, oSub a b → ∀ o ∈ b, ∃ o' ∈ a, o'.1 = o.1 ∧ soSub o'.2 o.2
  | [], [], _, o, h => by cases h
  | (k, s) :: r, (k', s') :: r', ⟨h1, h2, h3⟩, o, h => by
    rcases List.mem_cons.1 h with rfl | h
    · exact ⟨(k, s), List.mem_cons_self, h1, h2⟩
    · obtain ⟨o', ho', e⟩ := oSub.mem h3 o h
      exact ⟨o', List.mem_cons_of_mem _ ho', e⟩
theorem oSub.obs {σ : Sg} {A0 : Own} {a b : List Ob} {w : World} (h : oSub a b) (ho : Obs σ A0 a w) : Obs σ A0 b w :=
  ⟨fun o hm => by
    obtain ⟨o', hm', h1, h2⟩ := h.mem o hm
    have := ho.holds o' hm'
    rw [h1] at this
    exact (h2.2 _ _ _ _ this).later (Later.own fun k hk => hk.imp id h.owns) (fun _ _ => rfl), h.disj ho.disj, fun x hx => ho.lt x (h.owns hx)⟩
theorem Ctr.Ok.sub {P : Program} [TabC P] {f : Nat} {c : Ctr} (h : c.Ok P f) {out' : c.D → c.E → List Ob} (hs : ∀ d e, c.pre d → c.post d e → oSub (c.out d e) (out' d e)) : ({ c with out := out' } : Ctr).Ok P f := by
  intro d hpre A0 w σ vs hA hobs hargs hdom hgl
  refine (h d hpre A0 w σ vs hA hobs hargs hdom hgl).mono ?_
  rintro en w' ⟨e', v, σ', rfl, hp, hsame, hdom', hres, hm, hobs', hnew⟩
  have hh := hs d e' hpre hp
  exact ⟨e', v, σ', rfl, hp, hsame, hdom', hres.later (Later.own fun k hk => hk.imp id hh.owns), hm, hh.obs hobs', fun b hb => hnew b (hh.owns hb)⟩
end Go.Proofs.YtdflndjlnkoliaaGreatDoor

namespace Go.Proofs.YtdflndjlnkoliaaGreatDoor
set_option linter.all false
open Go.RowKit
/-! a nil slice told as one without elements -/
def leL : List SV → List SV → Prop
  | [], [] => True
  | s :: r, t :: q => (s = t ∨ (s = .nils ∧ ∃ (z : Nat) (α : Type) (enc : α → List SV), t = @SV.fs z α enc [])) ∧ leL r q
  | _, _ => False
theorem hL_le {w : World} {A : Own} {σ : Sg} : ∀ {ps qs : List SV} {cs : List Value}, leL ps qs → hL w A ps σ cs → hL w A qs σ cs
  | [], [], _, _, h => h
  | s :: r, t :: q, cs, ⟨h1, h2⟩, ⟨a, b, e, ha, hb⟩ => by
    refine ⟨a, b, e, ?_, hL_le h2 hb⟩
    rcases h1 with rfl | ⟨rfl, z, α, enc, rfl⟩
    · exact ha
    · simp only [SV.hc] at ha ⊢
      subst ha
      refine ⟨none, 0, rfl, Nat.zero_le _, Nat.zero_le _, ?_⟩
      simp
  | [], _ :: _, _, h, _ => h.elim
  | _ :: _, [], _, h, _ => h.elim
section
variable {P : Program} [TabC P] {S : Sig} {σ : Sg} {env : Env} {objs : List Ob} {nx : Nat} {a : Act} {w : World}
theorem St.nilA {t : Nat} {ps qs : List SV} (hst : St P S σ env objs nx a w) (ht : lk env t = some (.agg ps)) (hl : leL ps qs) : St P S σ ((t, .agg qs) :: env) objs nx a w := by
  refine hst.re (S' := S) rfl rfl (Sg.le.refl _) (fun k => Iff.rfl) (fun t' s' hx => ?_) hst.dom hst.obs.holds hst.obs.disj hst.hist (fun k hk => hst.own0 k hk) hst.a0 hst.base hst.nnx
  unfold lk at hx
  split at hx
  · rename_i hb
    obtain rfl := Nat.eq_of_beq_eq_true hb
    cases hx
    have := hst.slots t _ ht
    simp only [SV.hv, SV.h1] at this ⊢
    obtain ⟨cs, h1, h2⟩ := this
    exact ⟨cs, h1, hL_le hl h2⟩
  · exact hst.slots t' s' hx
/-- a piece of an array of one's own that is frozen -/
theorem OpsK.bslA {H : Cfg} {all r : List Oper} {K : KS} (t k off lo hi : Nat) (ht : lk env t = some (.bsl k off lo hi)) (h : nn1 objs (.bsl k off lo hi) fun o s => ∃ l : List (BitVec 8), s = .fs 1 eB l ∧ OpsK P H all r K ((t, .fs 1 eB l) :: env) o nx) : OpsK P H all r K env objs nx := ⟨fun {S Q ops} hcs hn ha hK => by
  obtain ⟨o', s', ⟨l, rfl, h⟩, g, e⟩ := nn1_sound (P := P) h
  intro σ a w hst
  have hst1 := g.1 S env nx σ a w hst
  refine h.h hcs hn ha hK σ a w (hst1.re (S' := S) rfl rfl (Sg.le.refl _) (fun k => Iff.rfl) (fun t' s' hx => ?_) hst1.dom hst1.obs.holds hst1.obs.disj hst1.hist (fun k hk => hst1.own0 k hk) hst1.a0 hst1.base hst1.nnx)
  unfold lk at hx
  split at hx
  · rename_i hb
    obtain rfl := Nat.eq_of_beq_eq_true hb
    cases hx
    have h1 := hst.slots t _ ht
    exact hv_up (e hst h1)
  · exact hst1.slots t' s' hx⟩
theorem OpsK.nilA {H : Cfg} {all r : List Oper} {K : KS} (t : Nat) (ps qs : List SV) (ht : lk env t = some (.agg ps)) (hl : leL ps qs) (h : OpsK P H all r K ((t, .agg qs) :: env) objs nx) : OpsK P H all r K env objs nx := ⟨fun {S Q ops} hcs hn ha hK => by
  intro σ a w hst
  exact h.h hcs hn ha hK σ a w (hst.nilA ht hl)⟩
theorem OrdK.nilA {H : Cfg} {all : List Oper} {o0 : List Ob} {N : List Nat} {r : Ord} {ph k : Bool} {K : KS} (t : Nat) (ps qs : List SV) (ht : lk env t = some (.agg ps)) (hl : leL ps qs)
    (h : OrdK P H all o0 N r ph k K ((t, .agg qs) :: env) objs nx) : OrdK P H all o0 N r ph k K env objs nx := ⟨fun {S Q ops} hcs hn ha hN hK => by
  intro σ a w w0 e0 a0 hst0 hS hst hph hk
  exact h.h hcs hn ha hN hK σ a w w0 e0 a0 hst0 hS (hst.nilA ht hl) hph hk⟩
end
end Go.Proofs.YtdflndjlnkoliaaGreatDoor

namespace Go.Proofs.YtdflndjlnkoliaaGreatDoor
set_option linter.all false
open Go.RowKit
/-! a directory: an epoch is closed -/
theorem setLb_last {x : Bs} {c : List Ver} {ps : Ppl} : (ps ++ [(x, ([] : List Ver))]).set ps.length (x, c) = ps ++ [(x, c)] := by
  rw [List.set_append_right _ _ (Nat.le_refl _), Nat.sub_self]; rfl
theorem flat_take_len {es : List (List Nws)} (h : StOk es) (n : List Nws) (hn : n.length ≤ 16) (hd : (n.map Prod.fst).Nodup) (i : Nat) : (setAll (peo es) ((n.take i).map (grownL (peo es)))).length ≤ 336 := by
  have h1 := setAll_len _ (peo es) ((n.take i).map (grownL (peo es))) rfl
  have h2 := h.people
  have h3 : ((n.take i).map (grownL (peo es))).length ≤ n.length := by simp; omega
  omega
def eclose_c : Ctr where
  D := H256 × List (List Nws) × List Nws
  pre := fun (_, es, n) => StOk es ∧ n.length ≤ 16 ∧ (n.map Prod.fst).Nodup ∧ ∀ p ∈ n, p.1.length ≤ 1000000 ∧ p.2.val.length ≤ 1000000
  args := fun (_, es, n) => [.ptr 0 0, .int .i64 (builtF (kvs (es ++ [n]))).2, .int .i64 ((builtF (kvs es)).1.length : Int), .agg [.fs 68 eNw n, .fs 1 eCh (chainsN (peo es) n)]]
  objs := fun (s, es, n) => stG s (builtF (kvs (es ++ [n]))).1 (slds es) (peo es)
  nn := 6
  res := fun _ _ => .tup []
  out := fun (s, es, n) _ => [(0, .box 89 [.arr8 s, .ptr 1 0, .own 6, .own 7, .own 5]), (1, .box 100 [.own 2]), (2, .row 192 132 eNd (builtF (kvs (es ++ [n]))).1), (6, .row 143 67 eSl (slds (es ++ [n]))), (7, .row 175 2 ePn (peo (es ++ [n]))), (5, nmO (peo (es ++ [n])))]
  mm := 2
def eclose_H : Cfg := ⟨[(89, root_c), (84, cloneB_c), (90, hentry_c), (68, ecopy_c)], [(5, [3, 5], [6, 7], (.one 0 0 false (.one 1 0 false (.one 2 0 false (.one 3 1 false (.one 4 0 false (.one 5 1 false (.one 6 2 true (.one 7 2 false (.one 8 0 false (.one 9 0 false (.one 10 0 false (.one 11 0 false (.one 12 0 false .nil))))))))))))), []), (8, [3, 5], [6, 8], (.one 0 0 false (.one 1 0 false (.one 2 0 false (.one 3 1 false (.one 4 0 false (.one 5 1 false (.one 7 0 false (.one 6 2 true (.one 8 2 false .nil))))))))), []), (9, [4, 6], [7, 9, 10, 13], (.one 0 0 false (.one 1 0 false (.one 2 0 false (.one 3 0 false (.one 4 1 false (.one 5 0 false (.one 6 1 false (.one 7 2 true (.one 8 0 false (.one 9 2 true (.one 10 2 false (.one 11 0 false (.one 12 0 false (.one 13 2 false .nil)))))))))))))), []), (10, [3, 6, 9], [12], (.one 0 0 false (.one 1 0 false (.one 2 0 false (.one 3 1 false (.one 4 0 false (.one 5 0 false (.one 6 1 false (.one 7 0 false (.one 8 0 false (.one 9 1 false (.one 10 0 false (.one 11 0 false (.one 12 2 false .nil))))))))))))), []), (12, [1, 6, 9, 12], [10, 13, 15, 16], (.one 0 0 false (.one 1 1 false (.one 2 0 false (.one 3 0 false (.one 4 0 false (.one 5 0 false (.one 6 1 false (.one 7 0 false (.one 8 0 false (.one 9 1 false (.one 11 0 false (.one 12 1 false (.alt 10 true (.alt 13 true (.one 14 0 false (.one 15 2 true (.one 16 2 false .nil))) (.one 15 2 true (.one 13 2 true (.one 14 0 false (.one 16 2 false .nil))))) (.one 15 2 true (.one 10 2 true (.one 13 2 true (.one 14 0 false (.one 16 2 false .nil)))))))))))))))))), []), (13, [4, 5], [6, 7, 10], (.one 0 0 false (.one 1 0 false (.one 2 0 false (.one 3 0 false (.one 4 1 false (.one 5 1 false (.one 6 2 true (.one 7 2 false (.one 8 0 false (.one 9 0 false (.one 10 2 false .nil))))))))))), [])], [], [], 109, 6, [], [], [67]⟩
set_option maxHeartbeats 2000000 in
theorem eclose_ok : eclose_c.Ok Tryz.prog 46 := by
  refine fn_ok eclose_H 6 rfl _ Tryz.func46 rfl rfl ⟨root_ok, cloneB_ok, hentry_ok, ecopy_ok, trivial⟩ rfl rfl (by kernel_rfl) (fun _ => Nat.le_of_ble_eq_true rfl) ?_
  rintro ⟨s, es, n⟩ hp hr
  try dsimp only [eclose_c] at hp
  try simp only [eclose_c, Rng, RngL, inR, and_true, true_and] at hr
  obtain ⟨hst, hp1, hp2, hp3⟩ := hp
  have hp1 : n.length ≤ 16 := hp1
  have hk := mkeyS
  have hz := zeroI
  have hbo := builtOk (kvs (es ++ [n]))
  have hpr : root_c.pre ((builtF (kvs (es ++ [n]))).1, (builtF (kvs (es ++ [n]))).2) := treeAt_is hbo.tree
  have hcl : (chainsN (peo es) n).length = n.length := by simp [chainsN]
  repeat' (first | (with_reducible refine Unf.h ?_) | fail); all_goals try (conv => whnf); all_goals try (exfalso; omega)
  refine CallS.mk (c := root_c) (((builtF (kvs (es ++ [n]))).1, (builtF (kvs (es ++ [n]))).2)) ?_
  repeat' (first | (with_reducible refine Unf.h ?_) | ((conv => whnf); first | (refine Side.mk ?_ ?_; focus (first | with_reducible rfl | assumption)) | refine Got.mk (fun _ _ => ?_)) | fail); all_goals try (conv => whnf); all_goals try (exfalso; omega)
  refine LoopS.mk (I := Nat) (fun i => i ≤ n.length) (fun i => [(27, .int .i64 (i : Int)), (26, .int .i64 (n.length : Int)), (25, .fs 68 eNw n), (8, .ptr 7 0), (7, .ptr 6 0), (0, .ptr 0 0), (1, .int .i64 (builtF (kvs (es ++ [n]))).2), (2, .int .i64 ((builtF (kvs es)).1.length : Int))]) (fun i => [(0, .box 89 [.arr8 s, .ptr 1 0, .own 3, .own 8, .own 5]), (1, .box 100 [.own 2]), (2, .row 192 132 eNd (builtF (kvs (es ++ [n]))).1), (3, .row 143 67 eSl (slds es)), (8, .row 175 2 ePn (setAll (peo es) ((n.take i).map (grownL (peo es))))), (5, nmO (setAll (peo es) ((n.take i).map (grownL (peo es))))), (6, .box 120 [.fs 68 eNw n, .fs 1 eCh (chainsN (peo es) n)]), (7, .box 30 [.arr8 (rootF (builtF (kvs (es ++ [n]))).1 (builtF (kvs (es ++ [n]))).2)])]) 9 (fun i => n.length - i) 0 (Nat.zero_le _) ?_ ?_
  · have e0 : setAll (peo es) ((n.take 0).map (grownL (peo es))) = peo es := rfl
    repeat' (first | (with_reducible refine Unf.h ?_) | ((conv => whnf); first | (refine Side.mk ?_ ?_; focus (first | with_reducible rfl | (refine congrArg (SV.int _) ?_; omega) | (simp only [*, e0]; done))) | (with_reducible refine Unf.h ?_) | exact True.intro) | fail); all_goals try (conv => whnf); all_goals try (exfalso; omega)
  · intro i hi
    have hpl := flat_take_len hst n hp1 hp2 i
    by_cases hil : i < n.length
    · obtain ⟨p, hpi⟩ : ∃ p, n[((i : Nat) : Int).toNat]'hil = p := ⟨_, rfl⟩
      have hpi2 : n[i]'hil = p := hpi
      have hpm : p ∈ n := hpi ▸ List.getElem_mem _
      obtain ⟨hpl2, hpv⟩ := hp3 p hpm
      have hc1 : cloneB_c.pre p.1 := hpl2
      obtain ⟨c, hc⟩ : ∃ c, chainP (peo es) p.1 ++ [p.2] = c := ⟨_, rfl⟩
      have hci : (chainsN (peo es) n)[((i : Nat) : Int).toNat]'(by rw [hcl]; exact hil) = c := by
        simp only [chainsN, List.getElem_map]
        rw [← hc, hpi]
      have ets : (n.take (i + 1)).map (grownL (peo es)) = (n.take i).map (grownL (peo es)) ++ [(p.1, c)] := by
        rw [List.take_succ_eq_append_getElem hil, hpi2, List.map_append, ← hc]; rfl
      have esa : setAll (peo es) ((n.take (i + 1)).map (grownL (peo es))) = setLb (setAll (peo es) ((n.take i).map (grownL (peo es)))) p.1 c := by rw [ets, setAll_snoc]
      generalize setAll (peo es) ((n.take i).map (grownL (peo es))) = ps at *
      repeat' (first | (with_reducible refine Unf.h ?_) | ((conv => whnf); first | refine Fork.mk (fun h => ?_) (fun h => ?_) | (refine Idx.mk ?_ ?_; focus (omega)) | refine Ex.mk _ rfl ?_) | fail); all_goals try (conv => whnf); all_goals try (exfalso; omega)
      rw [hpi]
      refine LookS.mk p.1 rfl hk _ hz ⟨rfl, fun _ => rfl⟩ (fun b hb => ?_) (fun hm => ?_)
      · obtain ⟨j, hj, hkj, e1, e2, e3⟩ := numsL_hit 0 ps hb
        obtain rfl : b = (j : Int) := by simpa using hkj
        have f1 := esa.trans (e3 c).1
        have f2 := (e3 c).2
        repeat' (first | (with_reducible refine Unf.h ?_) | ((conv => whnf); first | (refine Side.mk ?_ ?_; focus (omega)) | (refine Idx.mk ?_ ?_; focus (omega)) | (with_reducible refine Unf.h ?_)) | fail); all_goals try (conv => whnf); all_goals try (exfalso; omega)
        refine Ex.mk (p.1, c) (by rw [hci, show (ps[((j : Nat) : Int).toNat]'hj).1 = p.1 from e1]) ?_
        repeat' (first | (with_reducible first | refine Unf.h ?_ | refine loopK_n ?_) | ((conv => whnf); first | (refine Side.mk ?_ ?_; focus ((intros; (try simp only [lenS, inR, cutS, loI, hiI] at *); omega))) | (with_reducible refine Unf.h ?_)) | fail); all_goals try (conv => whnf); all_goals try (exfalso; omega)
        refine ⟨i + 1, ⟨by omega, by omega⟩, ?_⟩
        rw [f1]
        repeat' (first | (with_reducible refine Unf.h ?_) | ((conv => whnf); first | (refine Side.mk ?_ ?_; focus (first | with_reducible rfl | (refine congrArg (SV.int _) ?_; omega) | (simp only [*, f2]; done) | (simp [*, f2]; done))) | (with_reducible refine Unf.h ?_) | exact True.intro) | fail); all_goals try (conv => whnf); all_goals try (exfalso; omega)
      · obtain ⟨e1, e2, e3⟩ := numsL_miss c 0 ps hm
        have f1 := esa.trans e2
        rw [Nat.zero_add] at e3
        have hnl := numsL_len 0 ps
        repeat' (first | (with_reducible refine Unf.h ?_) | ((conv => whnf); first | refine Ex.mk _ rfl ?_ | (with_reducible refine Unf.h ?_)) | fail); all_goals try (conv => whnf); all_goals try (exfalso; omega)
        refine UpdS.mk p.1 rfl (ps.length : Int) rfl hk (by omega) ?_
        rw [e3]
        repeat' (first | (with_reducible refine Unf.h ?_) | ((conv => whnf); (with_reducible refine Unf.h ?_)) | fail); all_goals try (conv => whnf); all_goals try (exfalso; omega)
        refine CallS.mk (c := cloneB_c) (p.1) ?_
        repeat' (first | (with_reducible refine Unf.h ?_) | ((conv => whnf); first | (refine Side.mk ?_ ?_; focus (first | with_reducible rfl | assumption)) | refine Got.mk (fun _ _ => ?_)) | fail); all_goals try (conv => whnf); all_goals try (exfalso; omega)
        refine ValS.mk (OrdK.nilA 66 [.fs 1 eB p.1, .nils] [.fs 1 eB p.1, .fs 67 eVr []] rfl ⟨.inl rfl, .inr ⟨rfl, _, _, _, rfl⟩, trivial⟩ ?_)
        repeat' (first | (with_reducible refine Unf.h ?_) | fail); all_goals try (conv => whnf); all_goals try (exfalso; omega)
        refine Ex.mk [(p.1, [])] rfl ?_
        have hlast : ∀ h, (ps ++ [(p.1, ([] : List Ver))])[((ps.length : Nat) : Int).toNat]'h = (p.1, []) := fun h => by simp
        have hset : (ps ++ [(p.1, ([] : List Ver))]).set ((ps.length : Nat) : Int).toNat (p.1, c) = ps ++ [(p.1, c)] := setLb_last
        repeat' (first | (with_reducible refine Unf.h ?_) | ((conv => whnf); first | (refine Side.mk ?_ ?_; focus ((intros; (try simp only [lenS, inR, cutS, loI, hiI] at *); omega))) | (refine Idx.mk ?_ ?_; focus (first | omega | (simp only [lenS, inR, cutS, loI, hiI]; omega)))) | fail); all_goals try (conv => whnf); all_goals try (exfalso; omega)
        refine Ex.mk (p.1, c) (by rw [hci, hlast]) ?_
        rw [hset]
        repeat' (first | (with_reducible first | refine Unf.h ?_ | refine loopK_n ?_) | ((conv => whnf); first | (refine Side.mk ?_ ?_; focus ((intros; (try simp only [lenS, inR, cutS, loI, hiI] at *); omega))) | (with_reducible refine Unf.h ?_)) | fail); all_goals try (conv => whnf); all_goals try (exfalso; omega)
        refine ⟨i + 1, ⟨by omega, by omega⟩, ?_⟩
        rw [f1]
        repeat' (first | (with_reducible refine Unf.h ?_) | ((conv => whnf); first | (refine Side.mk ?_ ?_; focus (first | with_reducible rfl | (refine congrArg (SV.int _) ?_; omega))) | (with_reducible refine Unf.h ?_) | exact True.intro) | fail); all_goals try (conv => whnf); all_goals try (exfalso; omega)
    · have e0 : n.take i = n := List.take_of_length_le (by omega)
      have e1 : setAll (peo es) (n.map (grownL (peo es))) = peo (es ++ [n]) := by rw [peo_snoc, giveLb_all n _ hp2]
      rw [e0, e1]
      have hsl := slds_len es
      have hsl2 := hst.len
      have hph : hentry_c.pre (((slds es).length : Int) + 1, rootF (builtF (kvs (es ++ [n]))).1 (builtF (kvs (es ++ [n]))).2) := ⟨by show 0 ≤ ((slds es).length : Int) + 1; omega, by show ((slds es).length : Int) + 1 < _; omega⟩
      have hpc : ecopy_c.pre n := ⟨by show n.length ≤ 10000; omega, hp3⟩
      repeat' (first | (with_reducible refine Unf.h ?_) | ((conv => whnf); first | refine Both.mk ?_ ?_ | refine Both.mk ?_ ?_ | refine Fork.mk (fun h => ?_) (fun h => ?_) | (refine Side.mk ?_ ?_; focus ((intros; (try simp only [lenS, inR, cutS, loI, hiI] at *); omega)))) | fail); all_goals try (conv => whnf); all_goals try (exfalso; omega)
      all_goals
        refine CallS.mk (c := hentry_c) ((((slds es).length : Int) + 1, rootF (builtF (kvs (es ++ [n]))).1 (builtF (kvs (es ++ [n]))).2)) ?_
        repeat' (first | (with_reducible refine Unf.h ?_) | ((conv => whnf); first | refine Both.mk ?_ ?_ | refine Both.mk ?_ ?_ | (refine Side.mk ?_ ?_; focus (first | with_reducible rfl | assumption)) | refine Got.mk (fun _ _ => ?_)) | fail); all_goals try (conv => whnf); all_goals try (exfalso; omega)
      all_goals
        refine CallS.mk (c := ecopy_c) (n) ?_
        repeat' (first | (with_reducible refine Unf.h ?_) | ((conv => whnf); first | (refine Side.mk ?_ ?_; focus (first | with_reducible rfl | assumption)) | refine Got.mk (fun _ _ => ?_)) | fail); all_goals try (conv => whnf); all_goals try (exfalso; omega)
      all_goals have esl : slds (es ++ [n]) = slds es ++ [⟨(builtF (kvs (es ++ [n]))).2, rootB (es ++ [n]), ((builtF (kvs es)).1.length : Int), entH (((slds es).length : Int) + 1) (rootB (es ++ [n])), n⟩] := by rw [slds_snoc, hsl]
      all_goals
        refine Ex.mk [⟨(builtF (kvs (es ++ [n]))).2, rootB (es ++ [n]), ((builtF (kvs es)).1.length : Int), entH (((slds es).length : Int) + 1) (rootB (es ++ [n])), n⟩] rfl ?_
        repeat' (first | (with_reducible refine Unf.h ?_) | ((conv => whnf); first | (refine Side.mk ?_ ?_; focus (first | with_reducible rfl | (intros; (try simp only [lenS, inR, cutS, loI, hiI] at *); omega) | (simp only [*]; done))) | refine RetE.mk () trivial ?_ | refine retK_n ?_ | exact rfl) | fail); all_goals try (conv => whnf); all_goals try (exfalso; omega)
end Go.Proofs.YtdflndjlnkoliaaGreatDoor

namespace Go.Proofs.YtdflndjlnkoliaaGreatDoor
set_option linter.all false
open Go.RowKit
/-! a directory: what is sealed -/
theorem verN_ep (s : H256) (es : List (List Nws)) (u : Bs × Bs) : (verN s es u).2.ep = (es.length : Int) + 1 := rfl
theorem sealF_ok {s : H256} {es : List (List Nws)} {us : List (Bs × Bs)} (h : StOk es) (hl : es.length < 20) : StOk (sealF s es us).1 := by
  unfold sealF
  split
  · exact h
  · rename_i h16
    split
    · rename_i hc
      have ha : apartE (es ++ [us.map (verN s es)]) := by
        intro n hn
        rcases List.mem_append.1 hn with hn | hn
        · exact h.apart n hn
        · obtain rfl := List.mem_singleton.1 hn
          rw [verN_fst]; exact hc.2
      refine ⟨ha, by simp; omega, fun n hn => ?_, fun n hn p hp => ?_, fun i hi p hp => ?_⟩
      · rcases List.mem_append.1 hn with hn | hn
        · exact h.few n hn
        · obtain rfl := List.mem_singleton.1 hn; simp; omega
      · rcases List.mem_append.1 hn with hn | hn
        · exact h.lab n hn p hp
        · obtain rfl := List.mem_singleton.1 hn
          obtain ⟨u, hu, rfl⟩ := List.mem_map.1 hp
          have ho := hc.1 u hu
          exact ⟨ho.1.2, ho.2.2.2.2⟩
      · rcases Nat.lt_or_ge i es.length with hil | hil
        · have e : (es ++ [us.map (verN s es)])[i] = es[i] := List.getElem_append_left hil
          have hp : p ∈ (es ++ [us.map (verN s es)])[i] := hp
          rw [e] at hp
          exact h.ep i hil p hp
        · have hi : i < (es ++ [us.map (verN s es)]).length := hi
          obtain rfl : i = es.length := by simp at hi; omega
          have hp : p ∈ (es ++ [us.map (verN s es)])[es.length] := hp
          rw [List.getElem_concat_length rfl] at hp
          obtain ⟨u, hu, rfl⟩ := List.mem_map.1 hp
          rfl
    · exact h
theorem growOk_seal {s : H256} {es : List (List Nws)} {us : List (Bs × Bs)} (h : StOk es) (ho : ∀ u ∈ us, okU es u) : growOk (peo es) ((es.length : Int) + 1) (us.map (verN s es)) ↔ (us.map Prod.fst).Nodup := by
  unfold growOk
  rw [verN_fst]
  refine ⟨fun h => h.1, fun h1 => ⟨h1, fun p hp => ?_⟩⟩
  obtain ⟨u, hu, rfl⟩ := List.mem_map.1 hp
  refine ⟨rfl, ?_⟩
  show formedC cmL zeroH u.1 (chainP (peo es) u.1 ++ [(verN s es u).2])
  rw [h.chain]
  exact (okG_out cmL zeroH _).2 (ho u hu)
/-- names: 0: itself; 1: the forest; 6: its nodes; 7: what is sealed; 8: the people; 5: their numbers -/
abbrev stO8 (s : H256) (es : List (List Nws)) : List Ob := [(0, .box 89 [.arr8 s, .ptr 1 0, .own 7, .own 8, .own 5]), (1, .box 100 [.own 6]), (6, .row 192 132 eNd (builtF (kvs es)).1), (7, .row 143 67 eSl (slds es)), (8, .row 175 2 ePn (peo es)), (5, nmO (peo es))]
def eseal_c : Ctr where
  D := H256 × List (List Nws) × List (Bs × Bs)
  pre := fun (_, es, us) => StOk es ∧ es.length < 20 ∧ us.length ≤ 100000 ∧ ∀ u ∈ us, u.1.length ≤ 10000 ∧ u.2.length ≤ 10000
  args := fun (_, _, us) => [.ptr 0 0, .fs 2 eUp us]
  objs := fun (s, es, _) => stG s (builtF (kvs es)).1 (slds es) (peo es)
  nn := 6
  res := fun (s, es, us) _ => .int .i64 (sealF s es us).2
  out := fun (s, es, us) _ => stO8 s (sealF s es us).1
  mm := 3
def eseal_H : Cfg := ⟨[(42, chOf_c), (41, cgrow_c), (43, egrow_c), (44, size_c), (45, eplant_c), (46, eclose_c)], [(10, [5, 8, 12], [3, 9, 13], (.one 0 0 false (.one 1 0 false (.one 2 0 false (.one 4 0 false (.one 5 1 false (.one 6 0 false (.one 7 0 false (.one 8 1 false (.one 10 0 false (.one 11 0 false (.one 12 1 false (.alt 3 true (.one 9 2 true (.one 13 2 false (.one 14 0 false (.one 15 0 false (.one 16 0 false (.one 17 0 false (.one 18 0 false .nil))))))) (.one 9 2 true (.one 3 2 true (.one 13 2 false (.one 14 0 false (.one 15 0 false (.one 16 0 false (.one 17 0 false (.one 18 0 false .nil)))))))))))))))))))), [1000000]), (13, [2, 8], [10, 11], (.one 0 0 false (.one 1 0 false (.one 2 1 false (.one 3 0 false (.one 4 0 false (.one 5 0 false (.one 6 0 false (.one 7 0 false (.one 8 1 false (.one 9 0 false (.one 10 2 false (.one 11 2 false (.one 12 0 false .nil))))))))))))), [])], [], [], 96, 6, [], [10], []⟩
set_option maxHeartbeats 4000000 in
theorem eseal_ok : eseal_c.Ok Tryz.prog 17 := by
  refine fn_ok eseal_H 6 rfl _ Tryz.func17 rfl rfl ⟨chOf_ok, cgrow_ok, egrow_ok, size_ok, eplant_ok, eclose_ok, trivial⟩ rfl rfl (by kernel_rfl) (fun _ => Nat.le_of_ble_eq_true rfl) ?_
  rintro ⟨s, es, us⟩ hp hr
  try dsimp only [eseal_c] at hp
  try simp only [eseal_c, Rng, RngL, inR, and_true, true_and] at hr
  obtain ⟨hst, hp1, hp2, hp3⟩ := hp
  have hp1 : es.length < 20 := hp1
  have hp2 : us.length ≤ 100000 := hp2
  have hsl := slds_len es
  rcases Nat.lt_or_ge 16 us.length with h16 | h16
  · have ef : sealF s es us = (es, 3) := if_pos h16
    repeat' (first | (with_reducible refine Unf.h ?_) | ((conv => whnf); first | refine Fork.mk (fun h => ?_) (fun h => ?_) | (refine Side.mk ?_ ?_; focus (first | with_reducible rfl | (simp only [*, ef]; done) | (dsimp only [resS, eseal_c]; (simp only [*, ef]; done)))) | refine RetE.mk () trivial ?_ | refine retK_r ?_ | exact rfl) | fail); all_goals try (conv => whnf); all_goals try (exfalso; omega)
  · have efn : sealF s es us = if (∀ u ∈ us, okU es u) ∧ (us.map Prod.fst).Nodup then (es ++ [us.map (verN s es)], 0) else (es, 1) := if_neg (by omega)
    repeat' (first | (with_reducible refine Unf.h ?_) | ((conv => whnf); first | refine Fork.mk (fun h => ?_) (fun h => ?_) | (refine Side.mk ?_ ?_; focus ((intros; (try simp only [lenS, inR, cutS, loI, hiI] at *); omega)))) | fail); all_goals try (conv => whnf); all_goals try (exfalso; omega)
    refine LoopS.mk (I := Nat) (fun i => i ≤ us.length ∧ ∀ u ∈ us.take i, okU es u) (fun i => [(31, .int .i64 (i : Int)), (30, .int .i64 (us.length : Int)), (29, .fs 2 eUp us), (5, .int .i64 (((slds es).length : Int) + 1)), (6, .own 6), (0, .ptr 0 0), (1, .fs 2 eUp us)]) (fun i => stG s (builtF (kvs es)).1 (slds es) (peo es) ++ [(6, .row 117 68 eNw ((us.take i).map (verN s es)))]) 7 (fun i => us.length - i) 0 ⟨Nat.zero_le _, fun u hu => by simp at hu⟩ ?_ ?_
    · have e0 : (us.take 0).map (verN s es) = [] := rfl
      repeat' (first | (with_reducible refine Unf.h ?_) | ((conv => whnf); first | (refine Side.mk ?_ ?_; focus (first | with_reducible rfl | assumption | (refine congrArg (SV.int _) ?_; omega))) | (with_reducible refine Unf.h ?_) | exact True.intro) | fail); all_goals try (conv => whnf); all_goals try (exfalso; omega)
    · rintro i ⟨hi, hok⟩
      have hi : i ≤ us.length := hi
      by_cases hil : i < us.length
      · obtain ⟨u, hui⟩ : ∃ u, us[((i : Nat) : Int).toNat]'hil = u := ⟨_, rfl⟩
        have hui2 : us[i]'hil = u := hui
        have hum : u ∈ us := hui ▸ List.getElem_mem _
        obtain ⟨hul, huv⟩ := hp3 u hum
        have hch : chainP (peo es) u.1 = chR es u.1 := hst.chain u.1
        have hcl := hst.chainLen u.1
        rw [← hch] at hcl
        have hpc : chOf_c.pre (s, peo es, u.1) := by show u.1.length ≤ 1000000; omega
        have hpg : cgrow_c.pre (s, u.1, chainP (peo es) u.1, ((slds es).length : Int) + 1, u.2) := ⟨by show u.1.length ≤ 100000; omega, by show (chainP (peo es) u.1).length ≤ 10000; omega, by show u.2.length ≤ 100000; omega⟩
        have hgd : growF s u.1 (chainP (peo es) u.1) (((slds es).length : Int) + 1) u.2 = if okU es u then (chainP (peo es) u.1 ++ [(verN s es u).2], 0) else ([], 1) := by
          rw [hch, hsl]; rfl
        have ets : (us.take (i + 1)).map (verN s es) = (us.take i).map (verN s es) ++ [verN s es u] := by
          rw [List.take_succ_eq_append_getElem hil, hui2, List.map_append]; rfl
        repeat' (first | (with_reducible refine Unf.h ?_) | ((conv => whnf); first | refine Fork.mk (fun h => ?_) (fun h => ?_) | (refine Idx.mk ?_ ?_; focus (omega))) | fail); all_goals try (conv => whnf); all_goals try (exfalso; omega)
        refine CutS.mk (I := Unit) (fun _ => True) (fun _ => [(9, .fs 67 eVr (growF s u.1 (chainP (peo es) u.1) (((slds es).length : Int) + 1) u.2).1), (10, .int .i64 (growF s u.1 (chainP (peo es) u.1) (((slds es).length : Int) + 1) u.2).2), (8, .ptr 7 0), (31, .int .i64 (i : Int)), (30, .int .i64 (us.length : Int)), (29, .fs 2 eUp us), (5, .int .i64 (((slds es).length : Int) + 1)), (6, .own 6), (0, .ptr 0 0), (1, .fs 2 eUp us)]) (fun _ => stG s (builtF (kvs es)).1 (slds es) (peo es) ++ [(6, .row 117 68 eNw ((us.take i).map (verN s es))), (7, .box 79 (eUp u))]) 8 ?_ ?_
        · repeat' (first | (with_reducible refine Unf.h ?_) | ((conv => whnf); first | refine Both.mk ?_ ?_ | refine Both.mk ?_ ?_) | fail); all_goals try (conv => whnf); all_goals try (exfalso; omega)
          all_goals
            rw [hui]
            refine CallS.mk (c := chOf_c) ((s, peo es, u.1)) ?_
            repeat' (first | (with_reducible refine Unf.h ?_) | ((conv => whnf); first | (refine Side.mk ?_ ?_; focus (first | with_reducible rfl | assumption)) | refine Got.mk (fun _ _ => ?_)) | fail); all_goals try (conv => whnf); all_goals try (exfalso; omega)
          all_goals
            refine CallS.mk (c := cgrow_c) ((s, u.1, chainP (peo es) u.1, ((slds es).length : Int) + 1, u.2)) ?_
            repeat' (first | (with_reducible first | refine Unf.h ?_ | refine cutK_n ?_) | ((conv => whnf); first | (refine Side.mk ?_ ?_; focus (first | with_reducible rfl | assumption)) | refine Got.mk (fun _ _ => ?_)) | fail); all_goals try (conv => whnf); all_goals try (exfalso; omega)
          all_goals
            refine ⟨(), trivial, ?_⟩
            repeat' (first | (with_reducible refine Unf.h ?_) | ((conv => whnf); first | (refine Side.mk ?_ ?_; focus (with_reducible rfl)) | (with_reducible refine Unf.h ?_) | exact True.intro) | fail); all_goals try (conv => whnf); all_goals try (exfalso; omega)
        · intro _ _
          by_cases hoku : okU es u
          · rw [if_pos hoku] at hgd
            have hv : ∀ h, (chainP (peo es) u.1 ++ [(verN s es u).2])[(((chainP (peo es) u.1 ++ [(verN s es u).2]).length : Int) - 1).toNat]'h = (verN s es u).2 := fun h => by
              have e : (((chainP (peo es) u.1 ++ [(verN s es u).2]).length : Int) - 1).toNat = (chainP (peo es) u.1).length := by simp
              simp only [e]
              exact List.getElem_concat_length rfl _
            rw [hgd]
            repeat' (first | (with_reducible refine Unf.h ?_) | ((conv => whnf); first | refine Fork.mkn (fun h => ?_) (fun h => ?_) | (refine Side.mk ?_ ?_; focus ((intros; (try simp only [lenS, inR, cutS, loI, hiI] at *); omega))) | (refine Idx.mk ?_ ?_; focus ((simp only [lenS, inR, cutS, loI, hiI]; omega)))) | fail); all_goals try (conv => whnf); all_goals try (exfalso; omega)
            refine Ex.mk [verN s es u] (by simp only [hv]; rfl) ?_
            repeat' (first | (with_reducible first | refine Unf.h ?_ | refine loopK_n ?_) | ((conv => whnf); (refine Side.mk ?_ ?_; focus ((intros; (try simp only [lenS, inR, cutS, loI, hiI] at *); omega)))) | fail); all_goals try (conv => whnf); all_goals try (exfalso; omega)
            refine ⟨i + 1, ⟨by omega, by omega, fun w hw => ?_⟩, ?_⟩
            · rw [List.take_succ_eq_append_getElem hil, hui2] at hw
              rcases List.mem_append.1 hw with hw | hw
              · exact hok w hw
              · obtain rfl := List.mem_singleton.1 hw; exact hoku
            · rw [ets]
              repeat' (first | (with_reducible refine Unf.h ?_) | ((conv => whnf); first | (refine Side.mk ?_ ?_; focus (first | with_reducible rfl | (refine congrArg (SV.int _) ?_; omega))) | (with_reducible refine Unf.h ?_) | exact True.intro) | fail); all_goals try (conv => whnf); all_goals try (exfalso; omega)
          · rw [if_neg hoku] at hgd
            have ef : sealF s es us = (es, 1) := by rw [efn, if_neg fun h => hoku (h.1 u hum)]
            rw [hgd]
            repeat' (first | (with_reducible refine Unf.h ?_) | ((conv => whnf); first | refine Fork.mkn (fun h => ?_) (fun h => ?_) | (refine Side.mk ?_ ?_; focus (first | with_reducible rfl | (simp only [*, ef]; done) | (dsimp only [resS, eseal_c]; (simp only [*, ef]; done)))) | refine RetE.mk () trivial ?_ | refine retK_r ?_ | exact rfl) | fail); all_goals try (conv => whnf); all_goals try (exfalso; omega)
      · have e0 : us.take i = us := List.take_of_length_le (by omega)
        rw [e0] at hok ⊢
        have hml : (us.map (verN s es)).length = us.length := by simp
        have hgs := growOk_seal (s := s) hst hok
        rw [← hsl] at hgs
        have hpg : egrow_c.pre ((s, (builtF (kvs es)).1, slds es, peo es), ((slds es).length : Int) + 1, us.map (verN s es)) := ⟨by show (us.map (verN s es)).length ≤ 1000; omega, fun p hp => by
          obtain ⟨u, hu, rfl⟩ := List.mem_map.1 hp
          have := (hp3 u hu).1
          show u.1.length ≤ 100000; omega, fun x => by
          have := hst.chainLen x
          rw [hst.chain x]; omega⟩
        have hpn : ∀ p ∈ us.map (verN s es), p.1.length ≤ 1000000 ∧ p.2.val.length ≤ 1000000 := fun p hp => by
          obtain ⟨u, hu, rfl⟩ := List.mem_map.1 hp
          have := hp3 u hu
          exact ⟨by show u.1.length ≤ 1000000; omega, by show u.2.length ≤ 1000000; omega⟩
        by_cases hgo : growOk (peo es) (((slds es).length : Int) + 1) (us.map (verN s es))
        · have ef : sealF s es us = (es ++ [us.map (verN s es)], 0) := by rw [efn, if_pos ⟨hok, hgs.1 hgo⟩]
          have hgr : grownR (peo es) (((slds es).length : Int) + 1) (us.map (verN s es)) = (us.map (verN s es), chainsN (peo es) (us.map (verN s es))) := if_pos hgo
          have hpp : eplant_c.pre (s, es, us.map (verN s es)) := ⟨hst, by omega, hpn⟩
          have hpc : eclose_c.pre (s, es, us.map (verN s es)) := ⟨hst, by omega, hgo.1, hpn⟩
          repeat' (first | (with_reducible refine Unf.h ?_) | ((conv => whnf); refine Fork.mk (fun h => ?_) (fun h => ?_)) | fail); all_goals try (conv => whnf); all_goals try (exfalso; omega)
          refine CallS.mk (c := egrow_c) (((s, (builtF (kvs es)).1, slds es, peo es), ((slds es).length : Int) + 1, us.map (verN s es))) ?_
          repeat' (first | (with_reducible refine Unf.h ?_) | ((conv => whnf); first | refine Fork.mkn (fun h => ?_) (fun h => ?_) | (refine Side.mk ?_ ?_; focus (first | with_reducible rfl | assumption)) | refine RetE.mk () trivial ?_ | refine Got.mk (fun _ _ => ?_) | refine retK_r ?_) | fail); all_goals try (conv => whnf); all_goals try (exfalso; omega)
          · exact absurd hgo (by assumption)
          rw [hgr]
          refine CallS.mk (c := size_c) ((builtF (kvs es)).1) ?_
          repeat' (first | (with_reducible refine Unf.h ?_) | ((conv => whnf); first | (refine Side.mk ?_ ?_; focus (first | with_reducible rfl | exact True.intro)) | refine Got.mk (fun _ _ => ?_)) | fail); all_goals try (conv => whnf); all_goals try (exfalso; omega)
          refine CallS.mk (c := eplant_c) ((s, es, us.map (verN s es))) ?_
          repeat' (first | (with_reducible refine Unf.h ?_) | ((conv => whnf); first | refine Fork.mkn (fun h => ?_) (fun h => ?_) | (refine Side.mk ?_ ?_; focus (first | with_reducible rfl | assumption)) | refine Got.mk (fun _ _ => ?_)) | fail); all_goals try (conv => whnf); all_goals try (exfalso; omega)
          refine CallS.mk (c := eclose_c) ((s, es, us.map (verN s es))) ?_
          repeat' (first | (with_reducible refine Unf.h ?_) | ((conv => whnf); first | (refine Side.mk ?_ ?_; focus (first | with_reducible rfl | assumption | (simp only [*, ef]; done) | (dsimp only [resS, eseal_c]; (simp only [*, ef]; done)))) | refine RetE.mk () trivial ?_ | refine Got.mk (fun _ _ => ?_) | refine retK_r ?_ | exact rfl) | fail); all_goals try (conv => whnf); all_goals try (exfalso; omega)
        · have ef : sealF s es us = (es, 1) := by rw [efn, if_neg fun h => hgo (hgs.2 h.2)]
          repeat' (first | (with_reducible refine Unf.h ?_) | ((conv => whnf); refine Fork.mk (fun h => ?_) (fun h => ?_)) | fail); all_goals try (conv => whnf); all_goals try (exfalso; omega)
          refine CallS.mk (c := egrow_c) (((s, (builtF (kvs es)).1, slds es, peo es), ((slds es).length : Int) + 1, us.map (verN s es))) ?_
          repeat' (first | (with_reducible refine Unf.h ?_) | ((conv => whnf); first | refine Fork.mkn (fun h => ?_) (fun h => ?_) | (refine Side.mk ?_ ?_; focus (first | with_reducible rfl | assumption | (simp only [*, ef]; done) | (dsimp only [resS, eseal_c]; (simp only [*, ef]; done)))) | refine RetE.mk () trivial ?_ | refine Got.mk (fun _ _ => ?_) | refine retK_r ?_ | exact rfl) | fail); all_goals try (conv => whnf); all_goals try (exfalso; omega)
          exact absurd (by assumption) hgo
end Go.Proofs.YtdflndjlnkoliaaGreatDoor

namespace Go.Proofs.YtdflndjlnkoliaaGreatDoor
set_option linter.all false
open Go.RowKit
/-! awake -/
def awk_c : Ctr where
  D := Unit
  args := fun _ => []
  res := fun _ _ => .bool true
def awk_H : Cfg := ⟨[(15, enew_c), (17, eseal_c), (21, eps_c)], [], [], [], 16, 0, [], [], [8]⟩
theorem awk_ok : awk_c.Ok Tryz.prog 6 := by
  refine fn_ok awk_H 0 rfl _ Tryz.func6 rfl rfl ⟨enew_ok, eseal_ok, eps_ok, trivial⟩ rfl rfl (by kernel_rfl) (fun _ => Nat.le_of_ble_eq_true rfl) ?_
  intro (_ : Unit) hp hr
  try dsimp only [awk_c] at hp
  try simp only [awk_c, Rng, RngL, inR, and_true, true_and] at hr
  have hpn : enew_c.pre key1 := trivial
  have hoku : okU [] ([97#8], []) := ⟨by decide, trivial, by decide, by decide, by decide⟩
  have hps : eseal_c.pre (key1, [], [([97#8], [])]) := ⟨StOk.nil, by decide, by decide, by decide⟩
  have es : sealF key1 [] [([97#8], [])] = ([[verN key1 [] ([97#8], [])]], 0) := by
    unfold sealF
    rw [if_neg (by decide), if_pos ⟨fun u hu => by obtain rfl := List.mem_singleton.1 hu; exact hoku, by decide⟩]; rfl
  repeat' (first | (with_reducible refine Unf.h ?_) | fail); all_goals try (conv => whnf); all_goals try (exfalso; omega)
  refine CallS.mk (c := enew_c) (key1) ?_
  repeat' (first | (with_reducible refine Unf.h ?_) | ((conv => whnf); first | (refine Side.mk ?_ ?_; focus (first | with_reducible rfl | exact True.intro | (intros; (try simp only [lenS, inR, cutS, loI, hiI] at *); omega))) | refine Got.mk (fun _ _ => ?_) | refine Ex.mk [_] rfl ?_) | fail); all_goals try (conv => whnf); all_goals try (exfalso; omega)
  refine ValS.mk (OpsK.nilA 7 [.fs 1 eB [97#8], .nils] [.fs 1 eB [97#8], .fs 1 eB []] rfl ⟨.inl rfl, .inr ⟨rfl, _, _, _, rfl⟩, trivial⟩ ?_)
  repeat' (first | (with_reducible refine Unf.h ?_) | fail); all_goals try (conv => whnf); all_goals try (exfalso; omega)
  have f1 : (builtF (kvs [])).1 = [] := rfl
  have f2 : slds [] = [] := rfl
  have f3 : peo [] = [] := rfl
  have f4 : (slds (sealF key1 [] [([97#8], [])]).1).length = 1 := by rw [es]; rfl
  have f5 : (sealF key1 [] [([97#8], [])]).2 = 0 := by rw [es]
  refine CallS.mk (c := eseal_c) ((key1, [], [([97#8], [])])) ?_
  repeat' (first | (with_reducible refine Unf.h ?_) | ((conv => whnf); first | refine Fork.mk (fun h => ?_) (fun h => ?_) | (refine Side.mk ?_ ?_; focus (first | with_reducible rfl | assumption | (simp only [*, f1, f2, f3, f5]; done) | (simp only [*, f1, f2, f3, f5, List.map_cons, List.map_nil, eB]; done))) | refine Got.mk (fun _ _ => ?_)) | fail); all_goals try (conv => whnf); all_goals try (exfalso; omega)
  generalize (sealF key1 [] [([97#8], [])]).1 = es1 at *
  refine CallS.mk (c := eps_c) ((key1, (builtF (kvs es1)).1, slds es1, peo es1)) ?_
  repeat' (first | (with_reducible refine Unf.h ?_) | ((conv => whnf); first | (refine Side.mk ?_ ?_; focus (first | with_reducible rfl | exact True.intro | (simp [*, f4]; done))) | refine RetE.mk () trivial ?_ | refine Got.mk (fun _ _ => ?_) | refine retK_r ?_ | exact rfl) | fail); all_goals try (conv => whnf); all_goals try (exfalso; omega)
end Go.Proofs.YtdflndjlnkoliaaGreatDoor

namespace Go.Proofs.YtdflndjlnkoliaaGreatDoor
set_option linter.all false
open Go.RowKit
/-! the document's chains -/
theorem four_doc (n : Int) : beN 4 (BitVec.ofInt 64 n % 4294967296#64) = fourB n := by
  have key : ∀ k : Nat, k = 0 ∨ k = 8 ∨ k = 16 ∨ k = 24 → ((BitVec.ofInt 64 n % 4294967296#64) >>> k).setWidth 8 = BitVec.ofInt 8 (n / 2 ^ k) := fun k hk => by
    apply BitVec.eq_of_toNat_eq
    simp only [BitVec.toNat_setWidth, BitVec.toNat_ushiftRight, BitVec.toNat_umod, BitVec.toNat_ofInt, BitVec.toNat_ofNat, Nat.shiftRight_eq_div_pow]
    have h64 : (n % 18446744073709551616).toNat = n % 18446744073709551616 := by omega
    rcases hk with rfl | rfl | rfl | rfl
    all_goals
      simp only [Nat.reducePow, Nat.reduceMod, Int.reducePow, Int.cast_ofNat_Int]
      omega
  have k0 := key 0 (by omega)
  have k1 := key 8 (by omega)
  have k2 := key 16 (by omega)
  have k3 := key 24 (by omega)
  rw [show (n / 2 ^ 0) = n by simp] at k0
  show [_, _, _, _] = [_, _, _, _]
  rw [← k0, ← k1, ← k2, ← k3]
def rfour_c : Ctr where
  D := Int
  args := fun n => [.int .i64 n]
  res := fun n _ => .fs 1 eB (fourB n)
def rfour_H : Cfg := ⟨[(77, number_c)], [], [], [], 7, 0, [], [], []⟩
theorem rfour_ok : rfour_c.Ok Tryz.prog 121 := by
  refine fn_ok rfour_H 0 rfl _ Tryz.func121 rfl rfl ⟨number_ok, trivial⟩ rfl rfl (by kernel_rfl) (fun _ => Nat.le_of_ble_eq_true rfl) ?_
  intro (n : Int) hp hr
  try dsimp only [rfour_c] at hp
  try simp only [rfour_c, Rng, RngL, inR, and_true, true_and] at hr
  have e := four_doc n
  have hpn : number_c.pre (BitVec.ofInt 64 n % 4294967296#64, 4) := show 4 ≤ 1000 by omega
  repeat' (first | (with_reducible refine Unf.h ?_) | ((conv => whnf); (refine Side.mk ?_ ?_; focus ((simp [*]; done)))) | fail); all_goals try (conv => whnf); all_goals try (exfalso; omega)
  refine CallS.mk (c := number_c) ((BitVec.ofInt 64 n % 4294967296#64, 4)) ?_
  repeat' (first | (with_reducible refine Unf.h ?_) | ((conv => whnf); first | (refine Side.mk ?_ ?_; focus (first | with_reducible rfl | assumption | (refine congrArg (SV.int _) ?_; omega) | (simp only [*, e]; done))) | refine RetE.mk () trivial ?_ | refine Got.mk (fun _ _ => ?_) | refine retK_r ?_ | exact rfl) | fail); all_goals try (conv => whnf); all_goals try (exfalso; omega)
def rkey14_c : Ctr where
  D := Bs
  pre := fun x => x.length ≤ 1000000
  args := fun x => [.fs 1 eB x]
  res := fun x _ => .agg [.arr8 (keyL x)]
def rkey14_H : Cfg := ⟨[(96, rtagged_c)], [], [], [], 6, 0, [], [], []⟩
theorem rkey14_ok : rkey14_c.Ok Tryz.prog 52 := by
  refine fn_ok rkey14_H 0 rfl _ Tryz.func52 rfl rfl ⟨rtagged_ok, trivial⟩ rfl rfl (by kernel_rfl) (fun _ => Nat.le_of_ble_eq_true rfl) ?_
  intro (x : Bs) hp hr
  try dsimp only [rkey14_c] at hp
  try simp only [rkey14_c, Rng, RngL, inR, and_true, true_and] at hr
  have hp : x.length ≤ 1000000 := hp
  have hpt : rtagged_c.pre (107#8, [x]) := ⟨by simp, by simpa using hp⟩
  repeat' (first | (with_reducible refine Unf.h ?_) | ((conv => whnf); first | (refine Side.mk ?_ ?_; focus (with_reducible rfl)) | refine CallS.mk (c := rtagged_c) ((107#8, [x])) ?_) | fail); all_goals try (conv => whnf); all_goals try (exfalso; omega)
  refine Side.mk rfl ?_
  repeat' (first | (with_reducible refine Unf.h ?_) | ((conv => whnf); first | (refine Side.mk ?_ ?_; focus (first | assumption | (simp only [*, keyL]; done))) | refine RetE.mk () trivial ?_ | refine Got.mk (fun _ _ => ?_) | (with_reducible refine Unf.h ?_) | refine retK_r ?_ | exact rfl) | fail); all_goals try (conv => whnf); all_goals try (exfalso; omega)
def rsalt14_c : Ctr where
  D := H256 × Bs × Int
  pre := fun (_, x, _) => x.length ≤ 1000000
  args := fun (s, x, n) => [.agg [.arr8 s], .fs 1 eB x, .int .i64 n]
  res := fun (s, x, n) _ => .agg [.arr8 (saltL s x n)]
def rsalt14_H : Cfg := ⟨[(96, rtagged_c), (121, rfour_c)], [(1, [], [3, 4, 5, 6], (.one 0 0 false (.one 1 0 false (.one 2 0 false (.one 3 2 false (.one 4 2 false (.one 5 2 false (.one 6 2 false .nil))))))), [])], [], [], 13, 0, [], [], []⟩
theorem rsalt14_ok : rsalt14_c.Ok Tryz.prog 80 := by
  refine fn_ok rsalt14_H 0 rfl _ Tryz.func80 rfl rfl ⟨rtagged_ok, rfour_ok, trivial⟩ rfl rfl (by kernel_rfl) (fun _ => Nat.le_of_ble_eq_true rfl) ?_
  rintro ⟨s, x, n⟩ hp hr
  try dsimp only [rsalt14_c] at hp
  try simp only [rsalt14_c, Rng, RngL, inR, and_true, true_and] at hr
  have hp : x.length ≤ 1000000 := hp
  have hpt : rtagged_c.pre (122#8, [s.toList, x, fourB n]) := ⟨by simp, by simp [fourB_len, hp]⟩
  repeat' (first | (with_reducible refine Unf.h ?_) | ((conv => whnf); first | (refine Side.mk ?_ ?_; focus (first | with_reducible rfl | exact True.intro | (intros; (try simp only [lenS, inR, cutS, loI, hiI, saltL, cutv2] at *); omega))) | refine Got.mk (fun _ _ => ?_) | refine CallS.mk (c := rfour_c) (n) ?_ | refine CallS.mk (c := rtagged_c) ((122#8, [s.toList, x, fourB n])) ?_) | fail); all_goals try (conv => whnf); all_goals try (exfalso; omega)
  refine Side.mk (by simp only [cutv2]; rfl) ?_
  repeat' (first | (with_reducible refine Unf.h ?_) | ((conv => whnf); first | (refine Side.mk ?_ ?_; focus (first | assumption | (simp only [*, saltL]; done))) | refine RetE.mk () trivial ?_ | refine Got.mk (fun _ _ => ?_) | (with_reducible refine Unf.h ?_) | refine retK_r ?_ | exact rfl) | fail); all_goals try (conv => whnf); all_goals try (exfalso; omega)
def rvtext_c : Ctr where
  D := Bs × Ver
  pre := fun (x, v) => x.length ≤ 1000000 ∧ v.val.length ≤ 1000000
  args := fun (x, v) => [.fs 1 eB x, .agg (eVr v)]
  res := fun _ _ => .own 0
  out := fun (x, v) _ => [(0, .row 5 1 eB (verT x v))]
  mm := 1
def rvtext_H : Cfg := ⟨[(138, rtext_c), (121, rfour_c)], [(1, [2, 5, 12], [3, 6, 13, 14], (.one 0 0 false (.one 1 0 false (.one 2 1 false (.one 4 0 false (.one 5 1 false (.one 7 0 false (.one 8 0 false (.one 9 0 false (.one 10 0 false (.one 11 0 false (.one 12 1 false (.one 3 2 true (.one 6 2 true (.one 13 2 false (.one 14 2 false (.one 15 0 false .nil)))))))))))))))), [])], [], [], 20, 0, [], [], []⟩
theorem rvtext_ok : rvtext_c.Ok Tryz.prog 122 := by
  refine fn_ok rvtext_H 0 rfl _ Tryz.func122 rfl rfl ⟨rtext_ok, rfour_ok, trivial⟩ rfl rfl (by kernel_rfl) (fun _ => Nat.le_of_ble_eq_true rfl) ?_
  rintro ⟨x, v⟩ hp hr
  try dsimp only [rvtext_c] at hp
  try simp only [rvtext_c, Rng, RngL, inR, and_true, true_and] at hr
  obtain ⟨hp1, hp2⟩ := hp
  have hpt : rtext_c.pre (99#8, [x, fourB v.num, fourB v.ep, v.salt.toList, v.before.toList, v.val]) := ⟨by simp, by simp [fourB_len, hp1, hp2]⟩
  repeat' (first | (with_reducible refine Unf.h ?_) | ((conv => whnf); (refine Side.mk ?_ ?_; focus (exact True.intro))) | fail); all_goals try (conv => whnf); all_goals try (exfalso; omega)
  refine CallS.mk (c := rfour_c) (v.num) ?_
  repeat' (first | (with_reducible refine Unf.h ?_) | ((conv => whnf); first | (refine Side.mk ?_ ?_; focus (first | with_reducible rfl | exact True.intro)) | refine Got.mk (fun _ _ => ?_)) | fail); all_goals try (conv => whnf); all_goals try (exfalso; omega)
  refine CallS.mk (c := rfour_c) (v.ep) ?_
  repeat' (first | (with_reducible refine Unf.h ?_) | ((conv => whnf); first | (refine Side.mk ?_ ?_; focus (first | with_reducible rfl | exact True.intro | (intros; (try simp only [lenS, inR, cutS, loI, hiI] at *); omega))) | refine Got.mk (fun _ _ => ?_)) | fail); all_goals try (conv => whnf); all_goals try (exfalso; omega)
  refine CallS.mk (c := rtext_c) ((99#8, [x, fourB v.num, fourB v.ep, v.salt.toList, v.before.toList, v.val])) ?_
  repeat' (first | (with_reducible refine Unf.h ?_) | ((conv => whnf); (refine Side.mk ?_ ?_; focus (with_reducible rfl))) | fail); all_goals try (conv => whnf); all_goals try (exfalso; omega)
  refine Side.mk (by simp only [cutv2]; rfl) ?_
  repeat' (first | (with_reducible refine Unf.h ?_) | ((conv => whnf); first | (refine Side.mk ?_ ?_; focus (first | assumption | (simp only [*, verT]; done))) | refine RetE.mk () trivial ?_ | refine Got.mk (fun _ _ => ?_) | (with_reducible refine Unf.h ?_) | refine retK_r ?_ | exact rfl) | fail); all_goals try (conv => whnf); all_goals try (exfalso; omega)
def rcommit_c : Ctr where
  D := Bs × Ver
  pre := fun (x, v) => x.length ≤ 1000000 ∧ v.val.length ≤ 1000000
  args := fun (x, v) => [.fs 1 eB x, .agg (eVr v)]
  res := fun (x, v) _ => .agg [.arr8 (cmL x v)]
def rcommit_H : Cfg := ⟨[(122, rvtext_c), (117, refsum_c)], [], [], [], 9, 0, [], [], []⟩
theorem rcommit_ok : rcommit_c.Ok Tryz.prog 81 := by
  refine fn_ok rcommit_H 0 rfl _ Tryz.func81 rfl rfl ⟨rvtext_ok, refsum_ok, trivial⟩ rfl rfl (by kernel_rfl) (fun _ => Nat.le_of_ble_eq_true rfl) ?_
  rintro ⟨x, v⟩ hp hr
  try dsimp only [rcommit_c] at hp
  try simp only [rcommit_c, Rng, RngL, inR, and_true, true_and] at hr
  obtain ⟨hp1, hp2⟩ := hp
  have hpt : rvtext_c.pre (x, v) := ⟨hp1, hp2⟩
  have hps := verT_small hp1 hp2
  have hpr : refsum_c.pre (verT x v) := hps
  repeat' (first | (with_reducible refine Unf.h ?_) | ((conv => whnf); first | (refine Side.mk ?_ ?_; focus (first | with_reducible rfl | assumption | (simp only [*, cmL]; done))) | refine RetE.mk () trivial ?_ | refine Got.mk (fun _ _ => ?_) | refine retK_r ?_ | exact rfl | refine CallS.mk (c := rvtext_c) ((x, v)) ?_ | refine CallS.mk (c := refsum_c) (verT x v) ?_) | fail); all_goals try (conv => whnf); all_goals try (exfalso; omega)
end Go.Proofs.YtdflndjlnkoliaaGreatDoor

namespace Go.Proofs.YtdflndjlnkoliaaGreatDoor
set_option linter.all false
open Go.RowKit
/-! the document's chains: which are formed, and longer ones -/
theorem last_at {x : Bs} {l : List Ver} {j : Nat} (h : (((j + 1 : Nat) : Int) - 1).toNat < l.length) : lastE 0 (l.take (j + 1)) = (l[(((j + 1 : Nat) : Int) - 1).toNat]'h).ep ∧ lastB (cmL x) zeroH (l.take (j + 1)) = cmL x (l[(((j + 1 : Nat) : Int) - 1).toNat]'h) := by
  have e : (((j + 1 : Nat) : Int) - 1).toNat = j := by omega
  have hj : j < l.length := by omega
  rw [List.take_succ_eq_append_getElem hj, lastE_snoc, lastB_snoc]
  simp only [e, and_self]
theorem fm_at {x : Bs} {l : List Ver} {j : Nat} (hf : fmV (cmL x) 0 zeroH 0 (l.take (j + 1))) (h : (((j + 1 : Nat) : Int) - 1).toNat < l.length) : 1 ≤ (l[(((j + 1 : Nat) : Int) - 1).toNat]'h).ep ∧ (l[(((j + 1 : Nat) : Int) - 1).toNat]'h).val.length ≤ 64 := by
  have e : (((j + 1 : Nat) : Int) - 1).toNat = j := by omega
  have hj : j < l.length := by omega
  rw [List.take_succ_eq_append_getElem hj, fmV_app] at hf
  have h1 := fmV_le (cmL x) hf.1
  have h2 := hf.2.2.1
  simp only [e]
  exact ⟨by omega, hf.2.2.2.2.2⟩
def rform14_c : Ctr where
  D := Bs × List Ver
  pre := fun (x, l) => x.length ≤ 1000000 ∧ l.length ≤ 100000
  args := fun (x, l) => [.fs 1 eB x, .fs 67 eVr l]
  res := fun (x, l) _ => .dec (formedC cmL zeroH x l) inferInstance
def rform14_H : Cfg := ⟨[(81, rcommit_c)], [(11, [4, 10, 14, 20], [21], (.one 0 0 false (.one 1 0 false (.one 2 0 false (.one 3 0 false (.one 4 1 false (.one 5 0 false (.one 6 0 false (.one 7 0 false (.one 8 0 false (.one 9 0 false (.one 10 1 false (.one 11 0 false (.one 12 0 false (.one 13 0 false (.one 14 1 false (.one 15 0 false (.one 16 0 false (.one 17 0 false (.one 18 0 false (.one 19 0 false (.one 20 1 false (.one 21 2 true (.one 22 0 false (.one 23 0 false (.one 24 0 false .nil))))))))))))))))))))))))), [])], [], [], 84, 0, [], [], []⟩
theorem rform14_ok : rform14_c.Ok Tryz.prog 82 := by
  refine fn_ok rform14_H 0 rfl _ Tryz.func82 rfl rfl ⟨rcommit_ok, trivial⟩ rfl rfl (by kernel_rfl) (fun _ => Nat.le_of_ble_eq_true rfl) ?_
  rintro ⟨x, l⟩ hp hr
  try dsimp only [rform14_c] at hp
  try simp only [rform14_c, Rng, RngL, inR, and_true, true_and] at hr
  obtain ⟨hp1, hp2⟩ := hp
  have hp1 : x.length ≤ 1000000 := hp1
  have hp2 : l.length ≤ 100000 := hp2
  by_cases hx : (1 ≤ x.length ∧ x.length ≤ 32) ∧ 0 < l.length
  · obtain ⟨⟨hx1, hx2⟩, hl⟩ := hx
    repeat' (first | (with_reducible refine Unf.h ?_) | ((conv => whnf); refine Fork.mk (fun h => ?_) (fun h => ?_)) | fail); all_goals try (conv => whnf); all_goals try (exfalso; omega)
    refine LoopS.autoN (I := Nat) (fun i => i ≤ l.length ∧ fmV (cmL x) 0 zeroH 0 (l.take i)) (fun i => [(5, .int .i64 (i : Int))]) (fun _ => []) 0 (fun i => l.length - i) 0 ⟨Nat.zero_le _, trivial⟩ ?_ ?_
    · repeat' (first | (with_reducible refine Unf.h ?_) | ((conv => whnf); first | (refine Side.mk ?_ ?_; focus (first | with_reducible rfl | (refine congrArg (SV.int _) ?_; omega))) | (with_reducible refine Unf.h ?_) | exact True.intro) | fail); all_goals try (conv => whnf); all_goals try (exfalso; omega)
    · rintro i ⟨hi, hf⟩
      have hi : i ≤ l.length := hi
      by_cases hil : i < l.length
      · have hA : formedC cmL zeroH x l → (l[((i : Nat) : Int).toNat]'hil).num = (i : Int) + 1 ∧ lastE 0 (l.take i) < (l[((i : Nat) : Int).toNat]'hil).ep ∧ (l[((i : Nat) : Int).toNat]'hil).ep < 2147483648 ∧ (l[((i : Nat) : Int).toNat]'hil).before = lastB (cmL x) zeroH (l.take i) ∧ (l[((i : Nat) : Int).toNat]'hil).val.length ≤ 64 := fun hF => formed_at hF i hil
        rcases Nat.eq_zero_or_pos i with h0 | h0
        · subst h0
          have e0 : lastE 0 (l.take 0) = 0 := rfl
          have e1 : lastB (cmL x) zeroH (l.take 0) = zeroH := rfl
          rw [e0, e1] at hA
          repeat' (first | (with_reducible first | refine Unf.h ?_ | refine loopK_n ?_) | ((conv => whnf); first | refine Fork.mkn (fun h => ?_) (fun h => ?_) | refine Fork.mk (fun h => ?_) (fun h => ?_) | (refine Side.mk ?_ ?_; focus ((intros; (try simp only [lenS, inR, cutS, loI, hiI] at *); omega))) | (refine Idx.mk ?_ ?_; focus (omega)) | refine RetE.mk () trivial ?_ | refine retK_r ?_) | fail); all_goals try (conv => whnf); all_goals try (exfalso; omega)
          all_goals first
            | (refine Side.mk (iffF fun hF => ?_) ?_
               · obtain ⟨a1, a2, a3, a4, a5⟩ := hA hF
                 first
                   | omega
                   | exact absurd (congrArg Vector.toList a4) (by assumption)
               · repeat' (first | (with_reducible refine Unf.h ?_) | ((conv => whnf); exact rfl) | fail); all_goals try (conv => whnf); all_goals try (exfalso; omega))
            | skip
          obtain ⟨q1, q2, q3⟩ := fm_step hil hf (by assumption) (by show 0 < (l[((0 : Nat) : Int).toNat]'hil).ep; omega) (by show (l[((0 : Nat) : Int).toNat]'hil).ep < _; omega) (Vector.toList_inj.1 (by assumption)) (by show (l[((0 : Nat) : Int).toNat]'hil).val.length ≤ _; omega)
          refine ⟨0 + 1, ⟨by omega, by omega, q1⟩, ?_⟩
          repeat' (first | (with_reducible refine Unf.h ?_) | ((conv => whnf); first | (refine Side.mk ?_ ?_; focus (first | with_reducible rfl | (refine congrArg (SV.int _) ?_; omega))) | (with_reducible refine Unf.h ?_) | exact True.intro) | fail); all_goals try (conv => whnf); all_goals try (exfalso; omega)
        · obtain ⟨j, rfl⟩ : ∃ j, i = j + 1 := ⟨i - 1, by omega⟩
          have hjl : (((j + 1 : Nat) : Int) - 1).toNat < l.length := by omega
          obtain ⟨e0, e1⟩ := last_at (x := x) hjl
          obtain ⟨e2, e3⟩ := fm_at hf hjl
          rw [e0, e1] at hA
          have hpc : rcommit_c.pre (x, l[(((j + 1 : Nat) : Int) - 1).toNat]'hjl) := ⟨hp1, by show (l[(((j + 1 : Nat) : Int) - 1).toNat]'hjl).val.length ≤ 1000000; omega⟩
          repeat' (first | (with_reducible refine Unf.h ?_) | ((conv => whnf); first | refine Fork.mkn (fun h => ?_) (fun h => ?_) | refine Fork.mk (fun h => ?_) (fun h => ?_) | (refine Side.mk ?_ ?_; focus ((intros; (try simp only [lenS, inR, cutS, loI, hiI] at *); omega))) | (refine Idx.mk ?_ ?_; focus (omega)) | refine RetE.mk () trivial ?_ | refine retK_r ?_) | fail); all_goals try (conv => whnf); all_goals try (exfalso; omega)
          all_goals first
            | (refine Side.mk (iffF fun hF => ?_) ?_
               · obtain ⟨a1, a2, a3, a4, a5⟩ := hA hF
                 first
                   | omega
                   | exact absurd (congrArg Vector.toList a4) (by assumption)
               · repeat' (first | (with_reducible refine Unf.h ?_) | ((conv => whnf); exact rfl) | fail); all_goals try (conv => whnf); all_goals try (exfalso; omega))
            | skip
          refine CallS.mk (c := rcommit_c) ((x, l[(((j + 1 : Nat) : Int) - 1).toNat]'hjl)) ?_
          repeat' (first | (with_reducible first | refine Unf.h ?_ | refine loopK_n ?_) | ((conv => whnf); first | refine Fork.mkn (fun h => ?_) (fun h => ?_) | (refine Side.mk ?_ ?_; focus (first | with_reducible rfl | assumption | (intros; (try simp only [lenS, inR, cutS, loI, hiI] at *); omega))) | refine RetE.mk () trivial ?_ | refine Got.mk (fun _ _ => ?_) | refine retK_r ?_) | fail); all_goals try (conv => whnf); all_goals try (exfalso; omega)
          all_goals first
            | (refine Side.mk (iffF fun hF => ?_) ?_
               · obtain ⟨a1, a2, a3, a4, a5⟩ := hA hF
                 first
                   | omega
                   | exact absurd (congrArg Vector.toList a4) (by assumption)
               · repeat' (first | (with_reducible refine Unf.h ?_) | ((conv => whnf); exact rfl) | fail); all_goals try (conv => whnf); all_goals try (exfalso; omega))
            | skip
          obtain ⟨q1, q2, q3⟩ := fm_step hil hf (by assumption) (by rw [e0]; show _ < (l[((j + 1 : Nat) : Int).toNat]'hil).ep; omega) (by show (l[((j + 1 : Nat) : Int).toNat]'hil).ep < _; omega) (by rw [e1]; exact Vector.toList_inj.1 (by assumption)) (by show (l[((j + 1 : Nat) : Int).toNat]'hil).val.length ≤ _; omega)
          refine ⟨j + 1 + 1, ⟨by omega, by omega, q1⟩, ?_⟩
          repeat' (first | (with_reducible refine Unf.h ?_) | ((conv => whnf); first | (refine Side.mk ?_ ?_; focus (first | with_reducible rfl | (refine congrArg (SV.int _) ?_; omega))) | (with_reducible refine Unf.h ?_) | exact True.intro) | fail); all_goals try (conv => whnf); all_goals try (exfalso; omega)
      · have e : l.take i = l := List.take_of_length_le (by omega)
        rw [e] at hf
        have hF : formedC cmL zeroH x l := ⟨⟨hx1, hx2⟩, fun h => by rw [h] at hl; exact absurd hl (by simp), hf⟩
        repeat' (first | (with_reducible refine Unf.h ?_) | ((conv => whnf); first | refine Fork.mk (fun h => ?_) (fun h => ?_) | (refine Side.mk ?_ ?_; focus ((refine ⟨fun h => ?_, fun h => ?_⟩ <;> first | rfl | (cases h; done) | omega | (exfalso; omega) | (simp only [Bool.false_eq_true] at h; done)))) | refine RetE.mk () trivial ?_ | refine retK_r ?_ | exact rfl) | fail); all_goals try (conv => whnf); all_goals try (exfalso; omega)
  · have hn : ¬ formedC cmL zeroH x l := fun h => hx ⟨h.1, List.length_pos_iff.2 h.2.1⟩
    repeat' (first | (with_reducible refine Unf.h ?_) | ((conv => whnf); first | refine Fork.mk (fun h => ?_) (fun h => ?_) | (refine Side.mk ?_ ?_; focus ((simp [*, hn]; done))) | refine RetE.mk () trivial ?_ | refine retK_r ?_ | exact rfl) | fail); all_goals try (conv => whnf); all_goals try (exfalso; omega)
def rgrow14_c : Ctr where
  D := H256 × Bs × List Ver × Int × Bs
  pre := fun (_, x, l, _, val) => x.length ≤ 100000 ∧ l.length ≤ 10000 ∧ val.length ≤ 100000 ∧ ∀ v ∈ l, v.val.length ≤ 100000
  args := fun (s, x, l, e, val) => [.agg [.arr8 s], .fs 1 eB x, .fs 67 eVr l, .int .i64 e, .fs 1 eB val]
  res := fun (s, x, l, e, val) _ => .tup [.fs 67 eVr (growF s x l e val).1, .int .i64 (growF s x l e val).2]
def rgrow14_H : Cfg := ⟨[(80, rsalt14_c), (81, rcommit_c), (82, rform14_c)], [], [28], [], 61, 0, [], [], []⟩
theorem rgrow14_ok : rgrow14_c.Ok Tryz.prog 37 := by
  refine fn_ok rgrow14_H 0 rfl _ Tryz.func37 rfl rfl ⟨rsalt14_ok, rcommit_ok, rform14_ok, trivial⟩ rfl rfl (by kernel_rfl) (fun _ => Nat.le_of_ble_eq_true rfl) ?_
  rintro ⟨s, x, l, e, val⟩ hp hr
  try dsimp only [rgrow14_c] at hp
  try simp only [rgrow14_c, Rng, RngL, inR, and_true, true_and] at hr
  obtain ⟨hp1, hp2, hp3, hp4⟩ := hp
  have hp1 : x.length ≤ 100000 := hp1
  have hp2 : l.length ≤ 10000 := hp2
  have hp3 : val.length ≤ 100000 := hp3
  have hcs : rsalt14_c.pre (s, x, (l.length : Int) + 1) := show x.length ≤ 1000000 by omega
  obtain ⟨nv, hnv⟩ : ∃ nv, newV cmL zeroH (saltL s x ((l.length : Int) + 1)) x l e val = nv := ⟨_, rfl⟩
  have hnv2 : nv = ⟨(l.length : Int) + 1, e, saltL s x ((l.length : Int) + 1), lastB (cmL x) zeroH l, val⟩ := hnv.symm
  have hfo : formedC cmL zeroH x (l ++ [nv]) ↔ okG cmL zeroH x l e val := by rw [← hnv]; exact okG_out cmL zeroH _
  repeat' (first | (with_reducible refine Unf.h ?_) | ((conv => whnf); (refine Side.mk ?_ ?_; focus ((intros; (try simp only [lenS, inR, cutS, loI, hiI] at *); omega)))) | fail); all_goals try (conv => whnf); all_goals try (exfalso; omega)
  refine CallS.mk (c := rsalt14_c) ((s, x, (l.length : Int) + 1)) ?_
  repeat' (first | (with_reducible refine Unf.h ?_) | ((conv => whnf); first | (refine Side.mk ?_ ?_; focus (first | with_reducible rfl | assumption)) | refine Got.mk (fun _ _ => ?_)) | fail); all_goals try (conv => whnf); all_goals try (exfalso; omega)
  refine CutS.auto (I := Unit) (fun _ => True) (fun _ => [(12, .ptr 1 0)]) (fun _ => [(0, .box 30 [.arr8 s]), (1, .box 107 [.int .i64 ((l.length : Int) + 1), .int .i64 e, .arr8 (saltL s x ((l.length : Int) + 1)), .arr8 (lastB (cmL x) zeroH l), .fs 1 eB val])]) 2 ?_ ?_
  · rcases Nat.eq_zero_or_pos l.length with hl | hl
    · obtain rfl := List.eq_nil_of_length_eq_zero hl
      have e0 : lastB (cmL x) zeroH [] = zeroH := rfl
      repeat' (first | (with_reducible first | refine Unf.h ?_ | refine cutK_n ?_) | ((conv => whnf); refine Fork.mk (fun h => ?_) (fun h => ?_)) | fail); all_goals try (conv => whnf); all_goals try (exfalso; omega)
      refine ⟨(), trivial, ?_⟩
      repeat' (first | (with_reducible refine Unf.h ?_) | ((conv => whnf); first | (refine Side.mk ?_ ?_; focus (first | with_reducible rfl | (simp only [*, e0]; done))) | (with_reducible refine Unf.h ?_) | exact True.intro) | fail); all_goals try (conv => whnf); all_goals try (exfalso; omega)
    · have hne := List.length_pos_iff.1 hl
      have hli : ((l.length : Int) - 1).toNat < l.length := by omega
      have hlast : (l.getLast hne) = l[((l.length : Int) - 1).toNat]'hli := by
        rw [List.getLast_eq_getElem]; congr 1; omega
      have hB := lastB_at (cmL x) zeroH hne
      rw [hlast] at hB
      have hpc : rcommit_c.pre (x, l[((l.length : Int) - 1).toNat]'hli) := ⟨show x.length ≤ 1000000 by omega, by
        have := hp4 _ (List.getElem_mem hli)
        show (l[((l.length : Int) - 1).toNat]'hli).val.length ≤ 1000000; omega⟩
      repeat' (first | (with_reducible refine Unf.h ?_) | ((conv => whnf); first | refine Fork.mk (fun h => ?_) (fun h => ?_) | (refine Side.mk ?_ ?_; focus ((intros; (try simp only [lenS, inR, cutS, loI, hiI] at *); omega))) | (refine Idx.mk ?_ ?_; focus (omega))) | fail); all_goals try (conv => whnf); all_goals try (exfalso; omega)
      refine CallS.mk (c := rcommit_c) ((x, l[((l.length : Int) - 1).toNat]'hli)) ?_
      repeat' (first | (with_reducible first | refine Unf.h ?_ | refine cutK_n ?_) | ((conv => whnf); first | (refine Side.mk ?_ ?_; focus (first | with_reducible rfl | assumption)) | refine Got.mk (fun _ _ => ?_)) | fail); all_goals try (conv => whnf); all_goals try (exfalso; omega)
      refine ⟨(), trivial, ?_⟩
      repeat' (first | (with_reducible refine Unf.h ?_) | ((conv => whnf); first | (refine Side.mk ?_ ?_; focus (first | with_reducible rfl | (simp only [*, hB]; done))) | (with_reducible refine Unf.h ?_) | exact True.intro) | fail); all_goals try (conv => whnf); all_goals try (exfalso; omega)
  · intro _ _
    have hp5 : rform14_c.pre (x, l) := ⟨show x.length ≤ 1000000 by omega, show l.length ≤ 100000 by omega⟩
    have hp6 : rform14_c.pre (x, l ++ [nv]) := ⟨show x.length ≤ 1000000 by omega, by show (l ++ [nv]).length ≤ 100000; simp; omega⟩
    by_cases hok : okG cmL zeroH x l e val
    · have hf : growF s x l e val = (l ++ [nv], 0) := by rw [← hnv]; exact if_pos hok
      have hF2 := hfo.2 hok
      repeat' (first | (with_reducible refine Unf.h ?_) | ((conv => whnf); (refine Side.mk ?_ ?_; focus ((intros; (try simp only [lenS, inR, cutS, loI, hiI] at *); omega)))) | fail); all_goals try (conv => whnf); all_goals try (exfalso; omega)
      refine Ex.mk [nv] (by rw [hnv2]; rfl) ?_
      repeat' (first | (with_reducible refine Unf.h ?_) | ((conv => whnf); first | refine Fork.mk (fun h => ?_) (fun h => ?_) | (refine Side.mk ?_ ?_; focus ((intros; (try simp only [lenS, inR, cutS, loI, hiI] at *); omega)))) | fail); all_goals try (conv => whnf); all_goals try (exfalso; omega)
      · refine CallS.mk (c := rform14_c) ((x, l)) ?_
        repeat' (first | (with_reducible refine Unf.h ?_) | ((conv => whnf); first | refine Fork.mkn (fun h => ?_) (fun h => ?_) | (refine Side.mk ?_ ?_; focus (first | with_reducible rfl | assumption)) | refine RetE.mk () trivial ?_ | refine Got.mk (fun _ _ => ?_) | refine retK_r ?_) | fail); all_goals try (conv => whnf); all_goals try (exfalso; omega)
        · exact absurd (okG_short cmL zeroH hok (List.length_pos_iff.1 (by omega))) (by assumption)
        refine CallS.mk (c := rform14_c) ((x, l ++ [nv])) ?_
        repeat' (first | (with_reducible refine Unf.h ?_) | ((conv => whnf); first | refine Fork.mkn (fun h => ?_) (fun h => ?_) | (refine Side.mk ?_ ?_; focus (first | with_reducible rfl | assumption | (simp only [*, hf]; done))) | refine RetE.mk () trivial ?_ | refine Got.mk (fun _ _ => ?_) | refine retK_r ?_ | exact rfl) | fail); all_goals try (conv => whnf); all_goals try (exfalso; omega)
        exact absurd hF2 (by assumption)
      · refine CallS.mk (c := rform14_c) ((x, l ++ [nv])) ?_
        repeat' (first | (with_reducible refine Unf.h ?_) | ((conv => whnf); first | refine Fork.mkn (fun h => ?_) (fun h => ?_) | (refine Side.mk ?_ ?_; focus (first | with_reducible rfl | assumption | (simp only [*, hf]; done))) | refine RetE.mk () trivial ?_ | refine Got.mk (fun _ _ => ?_) | refine retK_r ?_ | exact rfl) | fail); all_goals try (conv => whnf); all_goals try (exfalso; omega)
        exact absurd hF2 (by assumption)
    · have hf : growF s x l e val = ([], 1) := if_neg hok
      repeat' (first | (with_reducible refine Unf.h ?_) | ((conv => whnf); (refine Side.mk ?_ ?_; focus ((intros; (try simp only [lenS, inR, cutS, loI, hiI] at *); omega)))) | fail); all_goals try (conv => whnf); all_goals try (exfalso; omega)
      refine Ex.mk [nv] (by rw [hnv2]; rfl) ?_
      repeat' (first | (with_reducible refine Unf.h ?_) | ((conv => whnf); first | refine Fork.mk (fun h => ?_) (fun h => ?_) | (refine Side.mk ?_ ?_; focus ((intros; (try simp only [lenS, inR, cutS, loI, hiI] at *); omega)))) | fail); all_goals try (conv => whnf); all_goals try (exfalso; omega)
      · refine CallS.mk (c := rform14_c) ((x, l)) ?_
        repeat' (first | (with_reducible refine Unf.h ?_) | ((conv => whnf); first | refine Fork.mkn (fun h => ?_) (fun h => ?_) | (refine Side.mk ?_ ?_; focus (first | with_reducible rfl | assumption | (simp only [*, hf]; done))) | refine RetE.mk () trivial ?_ | refine Got.mk (fun _ _ => ?_) | refine retK_r ?_ | exact rfl) | fail); all_goals try (conv => whnf); all_goals try (exfalso; omega)
        refine CallS.mk (c := rform14_c) ((x, l ++ [nv])) ?_
        repeat' (first | (with_reducible refine Unf.h ?_) | ((conv => whnf); first | refine Fork.mkn (fun h => ?_) (fun h => ?_) | (refine Side.mk ?_ ?_; focus (first | with_reducible rfl | assumption | (simp only [*, hf]; done))) | refine RetE.mk () trivial ?_ | refine Got.mk (fun _ _ => ?_) | refine retK_r ?_ | exact rfl) | fail); all_goals try (conv => whnf); all_goals try (exfalso; omega)
        exact absurd (hfo.1 (by assumption)) hok
      · refine CallS.mk (c := rform14_c) ((x, l ++ [nv])) ?_
        repeat' (first | (with_reducible refine Unf.h ?_) | ((conv => whnf); first | refine Fork.mkn (fun h => ?_) (fun h => ?_) | (refine Side.mk ?_ ?_; focus (first | with_reducible rfl | assumption | (simp only [*, hf]; done))) | refine RetE.mk () trivial ?_ | refine Got.mk (fun _ _ => ?_) | refine retK_r ?_ | exact rfl) | fail); all_goals try (conv => whnf); all_goals try (exfalso; omega)
        exact absurd (hfo.1 (by assumption)) hok
end Go.Proofs.YtdflndjlnkoliaaGreatDoor

namespace Go.Proofs.YtdflndjlnkoliaaGreatDoor
set_option linter.all false
open Go.RowKit
/-! the document's directories -/
abbrev eEp (n : List Nws) : List SV := [.fs 68 eNw n]
/-- a directory of the document -/
abbrev rSt (s : H256) (es : List (List Nws)) : SV := .fpt [.arr8 s, .fs 1 eEp es]
structure RdOk (es : List (List Nws)) : Prop where
  len : es.length ≤ 30
  few : ∀ n ∈ es, n.length ≤ 100
  lab : ∀ n ∈ es, ∀ p ∈ n, p.1.length ≤ 100000 ∧ p.2.val.length ≤ 100000
theorem StOk.rd {es : List (List Nws)} (h : StOk es) : RdOk es := ⟨by have := h.len; omega, fun n hn => by have := h.few n hn; omega, fun n hn p hp => by have := h.lab n hn p hp; omega⟩
abbrev pick1 (x : Bs) (n : List Nws) : List Ver := n.filterMap fun p => if p.1 = x then some p.2 else none
theorem pick1_len (x : Bs) (n : List Nws) : (pick1 x n).length ≤ n.length := List.length_filterMap_le ..
theorem pick1_step (x : Bs) (n : List Nws) (k : Nat) (h : k < n.length) : pick1 x (n.take (k + 1)) = pick1 x (n.take k) ++ if n[k].1 = x then [n[k].2] else [] := by
  unfold pick1
  rw [List.take_succ_eq_append_getElem h, List.filterMap_append]
  congr 1
  split
  · rename_i e; simp [e]
  · rename_i e; simp [e]
theorem chR_step (es : List (List Nws)) (x : Bs) (i : Nat) (h : i < es.length) : chR (es.take (i + 1)) x = chR (es.take i) x ++ pick1 x es[i] := by
  rw [List.take_succ_eq_append_getElem h, chR_snoc]
theorem RdOk.ch {es : List (List Nws)} (h : RdOk es) (x : Bs) (i : Nat) : (chR (es.take i) x).length ≤ 3000 := by
  have h1 := chR_len (es.take i) x
  have h2 := flat_few (es.take i) 100 fun n hn => h.few n (List.mem_of_mem_take hn)
  have h3 : (es.take i).length ≤ es.length := by simp; omega
  have := h.len
  omega
theorem chR_mem {es : List (List Nws)} {x : Bs} {v : Ver} (h : v ∈ chR es x) : ∃ n ∈ es, ∃ p ∈ n, p.2 = v := by
  unfold chR at h
  obtain ⟨p, hp, he⟩ := List.mem_filterMap.1 h
  obtain ⟨n, hn, hpn⟩ := List.mem_flatten.1 hp
  refine ⟨n, hn, p, hpn, ?_⟩
  split at he
  · exact Option.some.inj he
  · cases he
def rchain_c : Ctr where
  D := H256 × List (List Nws) × Bs × Nat
  pre := fun (_, es, _, _) => RdOk es
  args := fun (s, es, x, e) => [rSt s es, .fs 1 eB x, .int .i64 (e : Int)]
  res := fun _ _ => .own 0
  out := fun (_, es, x, e) _ => [(0, .row 107 67 eVr (chR (es.take e) x))]
  mm := 1
def rchain_H : Cfg := ⟨[(73, same_c)], [], [], [], 64, 0, [], [], []⟩
theorem rchain_ok : rchain_c.Ok Tryz.prog 38 := by
  refine fn_ok rchain_H 0 rfl _ Tryz.func38 rfl rfl ⟨same_ok, trivial⟩ rfl rfl (by kernel_rfl) (fun _ => Nat.le_of_ble_eq_true rfl) ?_
  rintro ⟨s, es, x, e⟩ hp hr
  try dsimp only [rchain_c] at hp
  try simp only [rchain_c, Rng, RngL, inR, and_true, true_and] at hr
  have hp : RdOk es := hp
  repeat' (first | (with_reducible refine Unf.h ?_) | fail); all_goals try (conv => whnf); all_goals try (exfalso; omega)
  refine LoopS.autoN (I := Nat) (fun i => i ≤ es.length ∧ i ≤ e) (fun i => [(8, .int .i64 (i : Int)), (7, .own 0)]) (fun i => [(0, .row 107 67 eVr (chR (es.take i) x))]) 1 (fun i => es.length - i) 0 ⟨Nat.zero_le _, Nat.zero_le _⟩ ?_ ?_
  · have e0 : chR (es.take 0) x = [] := rfl
    repeat' (first | (with_reducible refine Unf.h ?_) | ((conv => whnf); first | (refine Side.mk ?_ ?_; focus (first | with_reducible rfl | assumption | (refine congrArg (SV.int _) ?_; omega))) | (with_reducible refine Unf.h ?_) | exact True.intro) | fail); all_goals try (conv => whnf); all_goals try (exfalso; omega)
  · rintro i ⟨hi, hie⟩
    have hi : i ≤ es.length := hi
    have hie : i ≤ e := hie
    have hch := hp.ch x i
    by_cases hil : i < es.length ∧ i < e
    · obtain ⟨hil, hil2⟩ := hil
      have hnl := hp.few (es[((i : Nat) : Int).toNat]'hil) (List.getElem_mem _)
      have es1 : chR (es.take (i + 1)) x = chR (es.take i) x ++ pick1 x (es[((i : Nat) : Int).toNat]'hil) := chR_step es x i hil
      repeat' (first | (with_reducible refine Unf.h ?_) | ((conv => whnf); refine Fork.mk (fun h => ?_) (fun h => ?_)) | fail); all_goals try (conv => whnf); all_goals try (exfalso; omega)
      refine LoopS.autoN (I := Nat) (fun k => k ≤ (es[((i : Nat) : Int).toNat]'hil).length) (fun k => [(9, .int .i64 (k : Int)), (7, .own 0)]) (fun k => [(0, .row 107 67 eVr (chR (es.take i) x ++ pick1 x ((es[((i : Nat) : Int).toNat]'hil).take k)))]) 1 (fun k => (es[((i : Nat) : Int).toNat]'hil).length - k) 0 (Nat.zero_le _) ?_ ?_
      · have e0 : chR (es.take i) x ++ pick1 x ((es[((i : Nat) : Int).toNat]'hil).take 0) = chR (es.take i) x := by simp [pick1]
        repeat' (first | (with_reducible refine Unf.h ?_) | ((conv => whnf); first | (refine Side.mk ?_ ?_; focus (first | with_reducible rfl | (refine congrArg (SV.int _) ?_; omega) | (simp only [*, e0]; done))) | (with_reducible refine Unf.h ?_) | exact True.intro) | fail); all_goals try (conv => whnf); all_goals try (exfalso; omega)
      · intro k hk
        have hk : k ≤ (es[((i : Nat) : Int).toNat]'hil).length := hk
        have hpk := pick1_len x ((es[((i : Nat) : Int).toNat]'hil).take k)
        have htk : ((es[((i : Nat) : Int).toNat]'hil).take k).length ≤ (es[((i : Nat) : Int).toNat]'hil).length := by simp; omega
        by_cases hkl : k < (es[((i : Nat) : Int).toNat]'hil).length
        · have ek : pick1 x ((es[((i : Nat) : Int).toNat]'hil).take (k + 1)) = pick1 x ((es[((i : Nat) : Int).toNat]'hil).take k) ++ if ((es[((i : Nat) : Int).toNat]'hil)[((k : Nat) : Int).toNat]'hkl).1 = x then [((es[((i : Nat) : Int).toNat]'hil)[((k : Nat) : Int).toNat]'hkl).2] else [] := pick1_step x (es[((i : Nat) : Int).toNat]'hil) k hkl
          repeat' (first | (with_reducible refine Unf.h ?_) | ((conv => whnf); first | refine Fork.mk (fun h => ?_) (fun h => ?_) | (refine Idx.mk ?_ ?_; focus (omega))) | fail); all_goals try (conv => whnf); all_goals try (exfalso; omega)
          refine CallS.mk (c := same_c) ((((es[((i : Nat) : Int).toNat]'hil)[((k : Nat) : Int).toNat]'hkl).1, x)) ?_
          repeat' (first | (with_reducible first | refine Unf.h ?_ | refine loopK_n ?_) | ((conv => whnf); first | refine Fork.mk (fun h => ?_) (fun h => ?_) | (refine Side.mk ?_ ?_; focus (first | with_reducible rfl | exact True.intro | (intros; (try simp only [lenS, inR, cutS, loI, hiI] at *); omega))) | (refine Idx.mk ?_ ?_; focus (omega)) | refine Got.mk (fun _ _ => ?_) | refine Ex.mk [_] rfl ?_) | fail); all_goals try (conv => whnf); all_goals try (exfalso; omega)
          · rw [if_pos (by assumption)] at ek
            refine ⟨k + 1, ⟨by omega, by omega⟩, ?_⟩
            rw [ek, ← List.append_assoc]
            repeat' (first | (with_reducible refine Unf.h ?_) | ((conv => whnf); first | (refine Side.mk ?_ ?_; focus (first | with_reducible rfl | (refine congrArg (SV.int _) ?_; omega))) | (with_reducible refine Unf.h ?_) | exact True.intro) | fail); all_goals try (conv => whnf); all_goals try (exfalso; omega)
          · rw [if_neg (by assumption), List.append_nil] at ek
            refine ⟨k + 1, ⟨by omega, by omega⟩, ?_⟩
            rw [ek]
            repeat' (first | (with_reducible refine Unf.h ?_) | ((conv => whnf); first | (refine Side.mk ?_ ?_; focus (first | with_reducible rfl | (refine congrArg (SV.int _) ?_; omega))) | (with_reducible refine Unf.h ?_) | exact True.intro) | fail); all_goals try (conv => whnf); all_goals try (exfalso; omega)
        · have e0 : (es[((i : Nat) : Int).toNat]'hil).take k = (es[((i : Nat) : Int).toNat]'hil) := List.take_of_length_le (by omega)
          rw [e0, ← es1]
          repeat' (first | (with_reducible first | refine Unf.h ?_ | refine loopK_n ?_) | ((conv => whnf); first | refine Fork.mk (fun h => ?_) (fun h => ?_) | (refine Side.mk ?_ ?_; focus ((intros; (try simp only [lenS, inR, cutS, loI, hiI] at *); omega))) | (refine Idx.mk ?_ ?_; focus (omega))) | fail); all_goals try (conv => whnf); all_goals try (exfalso; omega)
          refine ⟨i + 1, ⟨by omega, by omega, by omega⟩, ?_⟩
          repeat' (first | (with_reducible refine Unf.h ?_) | ((conv => whnf); first | (refine Side.mk ?_ ?_; focus (first | with_reducible rfl | (refine congrArg (SV.int _) ?_; omega))) | (with_reducible refine Unf.h ?_) | exact True.intro) | fail); all_goals try (conv => whnf); all_goals try (exfalso; omega)
    · have e1 : es.take e = es.take i := by
        rcases Nat.lt_or_ge i e with h' | h'
        · rw [List.take_of_length_le (by omega), List.take_of_length_le (by omega)]
        · rw [show e = i by omega]
      repeat' (first | (with_reducible refine Unf.h ?_) | ((conv => whnf); first | refine Fork.mk (fun h => ?_) (fun h => ?_) | (refine Side.mk ?_ ?_; focus ((simp only [*, e1]; done))) | refine RetE.mk () trivial ?_ | refine retK_r ?_ | exact rfl) | fail); all_goals try (conv => whnf); all_goals try (exfalso; omega)
def rwith19_c : Ctr where
  D := H256 × List (List Nws) × List Nws
  pre := fun (_, es, _) => es.length ≤ 1000
  args := fun (s, es, n) => [rSt s es, .fs 68 eNw n]
  res := fun (s, es, n) _ => rSt s (es ++ [n])
def rwith19_H : Cfg := ⟨[], [(2, [4, 8], [9, 12], (.one 0 0 false (.one 1 0 false (.one 2 0 false (.one 3 0 false (.one 4 1 false (.one 5 0 false (.one 6 0 false (.one 7 0 false (.one 8 1 false (.one 9 2 false (.one 10 0 false (.one 11 0 false (.one 12 2 false .nil))))))))))))), [])], [], [], 35, 0, [], [], []⟩
theorem rwith19_ok : rwith19_c.Ok Tryz.prog 40 := by
  refine fn_ok rwith19_H 0 rfl _ Tryz.func40 rfl rfl trivial rfl rfl (by kernel_rfl) (fun _ => Nat.le_of_ble_eq_true rfl) ?_
  rintro ⟨s, es, n⟩ hp hr
  try dsimp only [rwith19_c] at hp
  try simp only [rwith19_c, Rng, RngL, inR, and_true, true_and] at hr
  have hp : es.length ≤ 1000 := hp
  repeat' (first | (with_reducible refine Unf.h ?_) | ((conv => whnf); first | (refine Side.mk ?_ ?_; focus (first | with_reducible rfl | (intros; (try simp only [lenS, inR, cutS, loI, hiI] at *); omega))) | refine RetE.mk () trivial ?_ | refine Ex.mk [_] rfl ?_ | refine retK_r ?_ | exact rfl) | fail); all_goals try (conv => whnf); all_goals try (exfalso; omega)
end Go.Proofs.YtdflndjlnkoliaaGreatDoor

namespace Go.Proofs.YtdflndjlnkoliaaGreatDoor
set_option linter.all false
open Go.RowKit
/-! the document's directories: what fits, what is sealed -/
def rfits_c : Ctr where
  D := H256 × List (List Nws) × List Nws
  pre := fun (_, es, n) => StOk es ∧ n.length ≤ 1000 ∧ ∀ p ∈ n, p.1.length ≤ 100000 ∧ p.2.val.length ≤ 100000
  args := fun (s, es, n) => [rSt s es, .fs 68 eNw n]
  res := fun (_, es, n) _ => .dec (growOk (peo es) ((es.length : Int) + 1) n) inferInstance
def rfits_H : Cfg := ⟨[(73, same_c), (38, rchain_c), (82, rform14_c)], [(7, [4, 9], [10], (.one 0 0 false (.one 1 0 false (.one 2 0 false (.one 3 0 false (.one 4 1 false (.one 5 0 false (.one 6 0 false (.one 7 0 false (.one 8 0 false (.one 9 1 false (.one 10 2 false .nil))))))))))), []), (9, [5, 9], [11], (.one 0 0 false (.one 1 0 false (.one 2 0 false (.one 3 0 false (.one 4 0 false (.one 5 1 false (.one 6 0 false (.one 7 0 false (.one 8 0 false (.one 9 1 false (.one 10 0 false (.one 11 2 false (.one 12 0 false .nil))))))))))))), []), (11, [5, 9, 18], [20], (.one 0 0 false (.one 1 0 false (.one 2 0 false (.one 3 0 false (.one 4 0 false (.one 5 1 false (.one 6 0 false (.one 7 0 false (.one 8 0 false (.one 9 1 false (.one 10 0 false (.one 11 0 false (.one 12 0 false (.one 13 0 false (.one 14 0 false (.one 15 0 false (.one 16 0 false (.one 17 0 false (.one 18 1 false (.one 19 0 false (.one 20 2 false (.one 21 0 false (.one 22 0 false .nil))))))))))))))))))))))), [])], [], [], 73, 0, [], [], []⟩
theorem rfits_ok : rfits_c.Ok Tryz.prog 39 := by
  refine fn_ok rfits_H 0 rfl _ Tryz.func39 rfl rfl ⟨same_ok, rchain_ok, rform14_ok, trivial⟩ rfl rfl (by kernel_rfl) (fun _ => Nat.le_of_ble_eq_true rfl) ?_
  rintro ⟨s, es, n⟩ hp hr
  try dsimp only [rfits_c] at hp
  try simp only [rfits_c, Rng, RngL, inR, and_true, true_and] at hr
  obtain ⟨hst, hp1, hp2⟩ := hp
  have hp1 : n.length ≤ 1000 := hp1
  have hesl := hst.len
  repeat' (first | (with_reducible refine Unf.h ?_) | fail); all_goals try (conv => whnf); all_goals try (exfalso; omega)
  refine LoopS.autoN (I := Nat) (fun i => i ≤ n.length ∧ growOk (peo es) ((es.length : Int) + 1) (n.take i)) (fun i => [(5, .int .i64 (i : Int))]) (fun _ => []) 0 (fun i => n.length - i) 0 ⟨Nat.zero_le _, by constructor <;> simp⟩ ?_ ?_
  · repeat' (first | (with_reducible refine Unf.h ?_) | ((conv => whnf); first | (refine Side.mk ?_ ?_; focus (first | with_reducible rfl | (refine congrArg (SV.int _) ?_; omega))) | (with_reducible refine Unf.h ?_) | exact True.intro) | fail); all_goals try (conv => whnf); all_goals try (exfalso; omega)
  · rintro i ⟨hi, hg⟩
    have hi : i ≤ n.length := hi
    by_cases hil : i < n.length
    · obtain ⟨hpl, hpv⟩ := hp2 (n[((i : Nat) : Int).toNat]'hil) (List.getElem_mem _)
      have ets : n.take (i + 1) = n.take i ++ [(n[((i : Nat) : Int).toNat]'hil)] := List.take_succ_eq_append_getElem hil
      have hgs := growOk_snoc (ps := peo es) (e := (es.length : Int) + 1) (n := n.take i) (p := (n[((i : Nat) : Int).toNat]'hil))
      rw [← ets, hst.chain] at hgs
      repeat' (first | (with_reducible refine Unf.h ?_) | ((conv => whnf); refine Fork.mk (fun h => ?_) (fun h => ?_)) | fail); all_goals try (conv => whnf); all_goals try (exfalso; omega)
      refine LoopS.autoN (I := Nat) (fun k => k ≤ i ∧ ∀ j, ∀ h : j < k, ∀ h2 : j < n.length, ¬ (n[j]'h2).1 = (n[((i : Nat) : Int).toNat]'hil).1) (fun k => [(6, .int .i64 (k : Int))]) (fun _ => []) 0 (fun k => i - k) 0 ⟨Nat.zero_le _, fun j h => absurd h (by omega)⟩ ?_ ?_
      · repeat' (first | (with_reducible refine Unf.h ?_) | ((conv => whnf); first | (refine Side.mk ?_ ?_; focus (first | with_reducible rfl | (refine congrArg (SV.int _) ?_; omega))) | (with_reducible refine Unf.h ?_) | exact True.intro) | fail); all_goals try (conv => whnf); all_goals try (exfalso; omega)
      · rintro k ⟨hk, hkk⟩
        have hk : k ≤ i := hk
        by_cases hki : k < i
        · have hkn : k < n.length := by omega
          repeat' (first | (with_reducible refine Unf.h ?_) | ((conv => whnf); first | refine Fork.mk (fun h => ?_) (fun h => ?_) | (refine Idx.mk ?_ ?_; focus (omega))) | fail); all_goals try (conv => whnf); all_goals try (exfalso; omega)
          refine CallS.mk (c := same_c) (((n[((i : Nat) : Int).toNat]'hil).1, (n[((k : Nat) : Int).toNat]'hkn).1)) ?_
          repeat' (first | (with_reducible first | refine Unf.h ?_ | refine loopK_n ?_) | ((conv => whnf); first | refine Fork.mk (fun h => ?_) (fun h => ?_) | (refine Side.mk ?_ ?_; focus (first | with_reducible rfl | exact True.intro | (intros; (try simp only [lenS, inR, cutS, loI, hiI] at *); omega))) | refine RetE.mk () trivial ?_ | refine Got.mk (fun _ _ => ?_) | refine retK_r ?_) | fail); all_goals try (conv => whnf); all_goals try (exfalso; omega)
          · have hng : ¬ growOk (peo es) ((es.length : Int) + 1) n := fun hF => by
              have h1 := hF.1
              have h2 := (List.nodup_iff_pairwise_ne.1 h1)
              have h3 := List.pairwise_iff_getElem.1 h2 k i (by simpa using hkn) (by simpa using hil) hki
              simp only [List.getElem_map] at h3
              have h4 : (n[((i : Nat) : Int).toNat]'hil).1 = (n[((k : Nat) : Int).toNat]'hkn).1 := by assumption
              exact h3 h4.symm
            refine Side.mk (iffF hng) ?_
            repeat' (first | (with_reducible refine Unf.h ?_) | ((conv => whnf); exact rfl) | fail); all_goals try (conv => whnf); all_goals try (exfalso; omega)
          · refine ⟨k + 1, ⟨by omega, by omega, fun j h h2 => ?_⟩, ?_⟩
            · rcases Nat.lt_or_ge j k with h' | h'
              · exact hkk j h' h2
              · obtain rfl : j = k := by omega
                have h4 : ¬ (n[((i : Nat) : Int).toNat]'hil).1 = (n[((j : Nat) : Int).toNat]'hkn).1 := by assumption
                exact fun e => h4 e.symm
            · repeat' (first | (with_reducible refine Unf.h ?_) | ((conv => whnf); first | (refine Side.mk ?_ ?_; focus (first | with_reducible rfl | (refine congrArg (SV.int _) ?_; omega))) | (with_reducible refine Unf.h ?_) | exact True.intro) | fail); all_goals try (conv => whnf); all_goals try (exfalso; omega)
        · have hcnt : ((n.take (i + 1)).map Prod.fst).count (n[((i : Nat) : Int).toNat]'hil).1 ≤ 1 := by
            rw [ets, List.map_append, List.count_append]
            have h0 : ((n.take i).map Prod.fst).count (n[((i : Nat) : Int).toNat]'hil).1 = 0 := List.count_eq_zero.2 fun hm => by
              obtain ⟨q, hq, he⟩ := List.mem_map.1 hm
              obtain ⟨j, hj, rfl⟩ := List.mem_iff_getElem.1 hq
              rw [List.length_take] at hj
              rw [List.getElem_take] at he
              exact hkk j (by omega) (by omega) he
            rw [h0]; simp
          have hrd := hst.rd
          have hpc : rchain_c.pre (s, es, (n[((i : Nat) : Int).toNat]'hil).1, es.length) := hrd
          have hcl := hrd.ch (n[((i : Nat) : Int).toNat]'hil).1 es.length
          have etl : es.take es.length = es := List.take_length
          have hpf : rform14_c.pre ((n[((i : Nat) : Int).toNat]'hil).1, chR (es.take es.length) (n[((i : Nat) : Int).toNat]'hil).1 ++ [(n[((i : Nat) : Int).toNat]'hil).2]) := ⟨by show (n[((i : Nat) : Int).toNat]'hil).1.length ≤ 1000000; omega, by show (chR (es.take es.length) (n[((i : Nat) : Int).toNat]'hil).1 ++ [(n[((i : Nat) : Int).toNat]'hil).2]).length ≤ 100000; simp only [List.length_append, List.length_singleton]; omega⟩
          repeat' (first | (with_reducible refine Unf.h ?_) | ((conv => whnf); first | refine Fork.mk (fun h => ?_) (fun h => ?_) | (refine Idx.mk ?_ ?_; focus (omega))) | fail); all_goals try (conv => whnf); all_goals try (exfalso; omega)
          have hgs2 : growOk (peo es) ((es.length : Int) + 1) (n.take (i + 1)) ↔ growOk (peo es) ((es.length : Int) + 1) (n.take i) ∧ ((n.take (i + 1)).map Prod.fst).count (n[((i : Nat) : Int).toNat]'hil).1 ≤ 1 ∧ (n[((i : Nat) : Int).toNat]'hil).2.ep = (es.length : Int) + 1 ∧ formedC cmL zeroH (n[((i : Nat) : Int).toNat]'hil).1 (chR (es.take es.length) (n[((i : Nat) : Int).toNat]'hil).1 ++ [(n[((i : Nat) : Int).toNat]'hil).2]) := by rw [etl]; exact hgs
          refine CallS.mk (c := rchain_c) ((s, es, (n[((i : Nat) : Int).toNat]'hil).1, es.length)) ?_
          repeat' (first | (with_reducible refine Unf.h ?_) | ((conv => whnf); first | refine Fork.mkn (fun h => ?_) (fun h => ?_) | (refine Side.mk ?_ ?_; focus (first | with_reducible rfl | assumption | (intros; (try simp only [lenS, inR, cutS, loI, hiI] at *); omega))) | (refine Idx.mk ?_ ?_; focus (omega)) | refine RetE.mk () trivial ?_ | refine Got.mk (fun _ _ => ?_) | refine Ex.mk [_] rfl ?_ | refine retK_r ?_) | fail); all_goals try (conv => whnf); all_goals try (exfalso; omega)
          · refine Side.mk (iffF fun hF => ?_) ?_
            · have h3 := (hgs2.1 (growOk_take hF _)).2.2.1
              exact absurd h3 (by assumption)
            · repeat' (first | (with_reducible refine Unf.h ?_) | ((conv => whnf); exact rfl) | fail); all_goals try (conv => whnf); all_goals try (exfalso; omega)
          refine CallS.mk (c := rform14_c) (((n[((i : Nat) : Int).toNat]'hil).1, chR (es.take es.length) (n[((i : Nat) : Int).toNat]'hil).1 ++ [(n[((i : Nat) : Int).toNat]'hil).2])) ?_
          repeat' (first | (with_reducible first | refine Unf.h ?_ | refine loopK_n ?_) | ((conv => whnf); first | refine Fork.mkn (fun h => ?_) (fun h => ?_) | (refine Side.mk ?_ ?_; focus (first | with_reducible rfl | assumption | (intros; (try simp only [lenS, inR, cutS, loI, hiI] at *); omega))) | refine RetE.mk () trivial ?_ | refine Got.mk (fun _ _ => ?_) | refine retK_r ?_) | fail); all_goals try (conv => whnf); all_goals try (exfalso; omega)
          · refine Side.mk (iffF fun hF => ?_) ?_
            · have h3 := (hgs2.1 (growOk_take hF _)).2.2.2
              exact absurd h3 (by assumption)
            · repeat' (first | (with_reducible refine Unf.h ?_) | ((conv => whnf); exact rfl) | fail); all_goals try (conv => whnf); all_goals try (exfalso; omega)
          refine ⟨i + 1, ⟨by omega, by omega, hgs2.2 ⟨hg, hcnt, by assumption, by assumption⟩⟩, ?_⟩
          repeat' (first | (with_reducible refine Unf.h ?_) | ((conv => whnf); first | (refine Side.mk ?_ ?_; focus (first | with_reducible rfl | (refine congrArg (SV.int _) ?_; omega))) | (with_reducible refine Unf.h ?_) | exact True.intro) | fail); all_goals try (conv => whnf); all_goals try (exfalso; omega)
    · have e0 : n.take i = n := List.take_of_length_le (by omega)
      rw [e0] at hg
      repeat' (first | (with_reducible refine Unf.h ?_) | ((conv => whnf); first | refine Fork.mk (fun h => ?_) (fun h => ?_) | (refine Side.mk ?_ ?_; focus ((refine ⟨fun h => ?_, fun h => ?_⟩ <;> first | rfl | (cases h; done) | omega | (exfalso; omega) | (simp only [Bool.false_eq_true] at h; done)))) | refine RetE.mk () trivial ?_ | refine retK_r ?_ | exact rfl) | fail); all_goals try (conv => whnf); all_goals try (exfalso; omega)
end Go.Proofs.YtdflndjlnkoliaaGreatDoor

namespace Go.Proofs.YtdflndjlnkoliaaGreatDoor
set_option linter.all false
open Go.RowKit
/-! the document's directories: an epoch is sealed -/
def rseal_c : Ctr where
  D := H256 × List (List Nws) × List (Bs × Bs)
  pre := fun (_, es, us) => StOk es ∧ es.length < 20 ∧ us.length ≤ 100000 ∧ ∀ u ∈ us, u.1.length ≤ 10000 ∧ u.2.length ≤ 10000
  args := fun (s, es, us) => [rSt s es, .fs 2 eUp us]
  res := fun (s, es, us) _ => .tup [rSt s (sealF s es us).1, .int .i64 (sealF s es us).2]
def rseal_H : Cfg := ⟨[(38, rchain_c), (37, rgrow14_c), (39, rfits_c), (40, rwith19_c)], [(8, [3, 5, 8, 12, 18, 22], [14, 23], (.one 0 0 false (.one 1 0 false (.one 2 0 false (.one 3 1 false (.one 4 0 false (.one 5 1 false (.one 6 0 false (.one 7 0 false (.one 8 1 false (.one 9 0 false (.one 10 0 false (.one 11 0 false (.one 12 1 false (.one 13 0 false (.one 15 0 false (.one 16 0 false (.one 17 0 false (.one 18 1 false (.one 19 0 false (.one 20 0 false (.one 21 0 false (.one 22 1 false (.one 14 2 true (.one 23 2 false (.one 24 0 false (.one 25 0 false (.one 26 0 false (.one 27 0 false (.one 28 0 false .nil))))))))))))))))))))))))))))), []), (11, [2, 8], [10, 11], (.one 0 0 false (.one 1 0 false (.one 2 1 false (.one 3 0 false (.one 4 0 false (.one 5 0 false (.one 6 0 false (.one 7 0 false (.one 8 1 false (.one 9 0 false (.one 10 2 false (.one 11 2 false (.one 12 0 false .nil))))))))))))), [])], [], [], 76, 0, [], [8], []⟩
set_option maxHeartbeats 4000000 in
theorem rseal_ok : rseal_c.Ok Tryz.prog 16 := by
  refine fn_ok rseal_H 0 rfl _ Tryz.func16 rfl rfl ⟨rchain_ok, rgrow14_ok, rfits_ok, rwith19_ok, trivial⟩ rfl rfl (by kernel_rfl) (fun _ => Nat.le_of_ble_eq_true rfl) ?_
  rintro ⟨s, es, us⟩ hp hr
  try dsimp only [rseal_c] at hp
  try simp only [rseal_c, Rng, RngL, inR, and_true, true_and] at hr
  obtain ⟨hst, hp1, hp2, hp3⟩ := hp
  have hp1 : es.length < 20 := hp1
  have hp2 : us.length ≤ 100000 := hp2
  have hrd := hst.rd
  rcases Nat.lt_or_ge 16 us.length with h16 | h16
  · have ef : sealF s es us = (es, 3) := if_pos h16
    repeat' (first | (with_reducible refine Unf.h ?_) | ((conv => whnf); first | refine Fork.mk (fun h => ?_) (fun h => ?_) | (refine Side.mk ?_ ?_; focus ((simp only [*, ef]; done))) | refine RetE.mk () trivial ?_ | refine retK_r ?_ | exact rfl) | fail); all_goals try (conv => whnf); all_goals try (exfalso; omega)
  · have efn : sealF s es us = if (∀ u ∈ us, okU es u) ∧ (us.map Prod.fst).Nodup then (es ++ [us.map (verN s es)], 0) else (es, 1) := if_neg (by omega)
    repeat' (first | (with_reducible refine Unf.h ?_) | ((conv => whnf); refine Fork.mk (fun h => ?_) (fun h => ?_)) | fail); all_goals try (conv => whnf); all_goals try (exfalso; omega)
    refine LoopS.mk (I := Nat) (fun i => i ≤ us.length ∧ ∀ u ∈ us.take i, okU es u) (fun i => [(7, .int .i64 (i : Int)), (6, .own 0), (0, rSt s es), (1, .fs 2 eUp us)]) (fun i => [(0, .row 109 68 eNw ((us.take i).map (verN s es)))]) 1 (fun i => us.length - i) 0 ⟨Nat.zero_le _, fun u hu => by simp at hu⟩ ?_ ?_
    · have e0 : (us.take 0).map (verN s es) = [] := rfl
      repeat' (first | (with_reducible refine Unf.h ?_) | ((conv => whnf); first | (refine Side.mk ?_ ?_; focus (first | with_reducible rfl | assumption | (refine congrArg (SV.int _) ?_; omega))) | (with_reducible refine Unf.h ?_) | exact True.intro) | fail); all_goals try (conv => whnf); all_goals try (exfalso; omega)
    · rintro i ⟨hi, hok⟩
      have hi : i ≤ us.length := hi
      by_cases hil : i < us.length
      · obtain ⟨u, hui⟩ : ∃ u, us[((i : Nat) : Int).toNat]'hil = u := ⟨_, rfl⟩
        have hui2 : us[i]'hil = u := hui
        have hum : u ∈ us := hui ▸ List.getElem_mem _
        obtain ⟨hul, huv⟩ := hp3 u hum
        have etl : es.take es.length = es := List.take_length
        have hcl := hst.chainLen u.1
        have hpg : rgrow14_c.pre (s, u.1, chR es u.1, (es.length : Int) + 1, u.2) := ⟨by show u.1.length ≤ 100000; omega, by show (chR es u.1).length ≤ 10000; omega, by show u.2.length ≤ 100000; omega, fun v hv => by
          obtain ⟨n, hn, p, hp, rfl⟩ := chR_mem hv
          have := (hst.lab n hn p hp).2
          omega⟩
        have hgd : growF s u.1 (chR es u.1) ((es.length : Int) + 1) u.2 = if okU es u then (chR es u.1 ++ [(verN s es u).2], 0) else ([], 1) := rfl
        have ets : (us.take (i + 1)).map (verN s es) = (us.take i).map (verN s es) ++ [verN s es u] := by
          rw [List.take_succ_eq_append_getElem hil, hui2, List.map_append]; rfl
        repeat' (first | (with_reducible refine Unf.h ?_) | ((conv => whnf); first | refine Fork.mk (fun h => ?_) (fun h => ?_) | (refine Idx.mk ?_ ?_; focus (omega))) | fail); all_goals try (conv => whnf); all_goals try (exfalso; omega)
        refine CutS.mk (I := Unit) (fun _ => True) (fun _ => [(9, .fs 67 eVr (growF s u.1 (chR es u.1) ((es.length : Int) + 1) u.2).1), (10, .int .i64 (growF s u.1 (chR es u.1) ((es.length : Int) + 1) u.2).2), (8, .ptr 1 0), (7, .int .i64 (i : Int)), (6, .own 0), (0, rSt s es), (1, .fs 2 eUp us)]) (fun _ => [(0, .row 109 68 eNw ((us.take i).map (verN s es))), (1, .box 80 (eUp u))]) 2 ?_ ?_
        · repeat' (first | (with_reducible refine Unf.h ?_) | ((conv => whnf); (refine Side.mk ?_ ?_; focus ((intros; (try simp only [lenS, inR, cutS, loI, hiI] at *); omega)))) | fail); all_goals try (conv => whnf); all_goals try (exfalso; omega)
          all_goals
            simp only [hui]
            refine CallS.mk (c := rchain_c) ((s, es, u.1, es.length)) ?_
            repeat' (first | (with_reducible refine Unf.h ?_) | ((conv => whnf); first | (refine Side.mk ?_ ?_; focus (first | with_reducible rfl | assumption)) | refine Got.mk (fun _ _ => ?_)) | fail); all_goals try (conv => whnf); all_goals try (exfalso; omega)
          all_goals simp only [etl]
          all_goals
            refine CallS.mk (c := rgrow14_c) ((s, u.1, chR es u.1, (es.length : Int) + 1, u.2)) ?_
            repeat' (first | (with_reducible first | refine Unf.h ?_ | refine cutK_n ?_) | ((conv => whnf); first | (refine Side.mk ?_ ?_; focus (first | with_reducible rfl | assumption)) | refine Got.mk (fun _ _ => ?_)) | fail); all_goals try (conv => whnf); all_goals try (exfalso; omega)
          all_goals
            refine ⟨(), trivial, ?_⟩
            repeat' (first | (with_reducible refine Unf.h ?_) | ((conv => whnf); first | (refine Side.mk ?_ ?_; focus (with_reducible rfl)) | (with_reducible refine Unf.h ?_) | exact True.intro) | fail); all_goals try (conv => whnf); all_goals try (exfalso; omega)
        · intro _ _
          by_cases hoku : okU es u
          · rw [if_pos hoku] at hgd
            have hv : ∀ h, (chR es u.1 ++ [(verN s es u).2])[(((chR es u.1 ++ [(verN s es u).2]).length : Int) - 1).toNat]'h = (verN s es u).2 := fun h => by
              have e : (((chR es u.1 ++ [(verN s es u).2]).length : Int) - 1).toNat = (chR es u.1).length := by simp
              simp only [e]
              exact List.getElem_concat_length rfl _
            rw [hgd]
            repeat' (first | (with_reducible refine Unf.h ?_) | ((conv => whnf); first | refine Fork.mkn (fun h => ?_) (fun h => ?_) | (refine Side.mk ?_ ?_; focus ((intros; (try simp only [lenS, inR, cutS, loI, hiI] at *); omega))) | (refine Idx.mk ?_ ?_; focus ((simp only [lenS, inR, cutS, loI, hiI]; omega)))) | fail); all_goals try (conv => whnf); all_goals try (exfalso; omega)
            refine Ex.mk [verN s es u] (by simp only [hv]; rfl) ?_
            repeat' (first | (with_reducible first | refine Unf.h ?_ | refine loopK_n ?_) | ((conv => whnf); (refine Side.mk ?_ ?_; focus ((intros; (try simp only [lenS, inR, cutS, loI, hiI] at *); omega)))) | fail); all_goals try (conv => whnf); all_goals try (exfalso; omega)
            refine ⟨i + 1, ⟨by omega, by omega, fun w hw => ?_⟩, ?_⟩
            · rw [List.take_succ_eq_append_getElem hil, hui2] at hw
              rcases List.mem_append.1 hw with hw | hw
              · exact hok w hw
              · obtain rfl := List.mem_singleton.1 hw; exact hoku
            · rw [ets]
              repeat' (first | (with_reducible refine Unf.h ?_) | ((conv => whnf); first | (refine Side.mk ?_ ?_; focus (first | with_reducible rfl | (refine congrArg (SV.int _) ?_; omega))) | (with_reducible refine Unf.h ?_) | exact True.intro) | fail); all_goals try (conv => whnf); all_goals try (exfalso; omega)
          · rw [if_neg hoku] at hgd
            have ef : sealF s es us = (es, 1) := by rw [efn, if_neg fun h => hoku (h.1 u hum)]
            rw [hgd]
            repeat' (first | (with_reducible refine Unf.h ?_) | ((conv => whnf); first | refine Fork.mkn (fun h => ?_) (fun h => ?_) | (refine Side.mk ?_ ?_; focus ((simp only [*, ef]; done))) | refine RetE.mk () trivial ?_ | refine retK_r ?_ | exact rfl) | fail); all_goals try (conv => whnf); all_goals try (exfalso; omega)
      · have e0 : us.take i = us := List.take_of_length_le (by omega)
        rw [e0] at hok ⊢
        have hml : (us.map (verN s es)).length = us.length := by simp
        have hgs := growOk_seal (s := s) hst hok
        have hpn : ∀ p ∈ us.map (verN s es), p.1.length ≤ 100000 ∧ p.2.val.length ≤ 100000 := fun p hp => by
          obtain ⟨u, hu, rfl⟩ := List.mem_map.1 hp
          have := hp3 u hu
          exact ⟨by show u.1.length ≤ 100000; omega, by show u.2.length ≤ 100000; omega⟩
        have hpf : rfits_c.pre (s, es, us.map (verN s es)) := ⟨hst, by show (us.map (verN s es)).length ≤ 1000; omega, hpn⟩
        have hpw : rwith19_c.pre (s, es, us.map (verN s es)) := by show es.length ≤ 1000; omega
        by_cases hgo : growOk (peo es) ((es.length : Int) + 1) (us.map (verN s es))
        · have ef : sealF s es us = (es ++ [us.map (verN s es)], 0) := by rw [efn, if_pos ⟨hok, hgs.1 hgo⟩]
          repeat' (first | (with_reducible refine Unf.h ?_) | ((conv => whnf); refine Fork.mk (fun h => ?_) (fun h => ?_)) | fail); all_goals try (conv => whnf); all_goals try (exfalso; omega)
          refine CallS.mk (c := rfits_c) ((s, es, us.map (verN s es))) ?_
          repeat' (first | (with_reducible refine Unf.h ?_) | ((conv => whnf); first | refine Fork.mkn (fun h => ?_) (fun h => ?_) | (refine Side.mk ?_ ?_; focus (first | with_reducible rfl | assumption)) | refine RetE.mk () trivial ?_ | refine Got.mk (fun _ _ => ?_) | refine retK_r ?_) | fail); all_goals try (conv => whnf); all_goals try (exfalso; omega)
          · exact absurd hgo (by assumption)
          refine CallS.mk (c := rwith19_c) ((s, es, us.map (verN s es))) ?_
          repeat' (first | (with_reducible refine Unf.h ?_) | ((conv => whnf); first | (refine Side.mk ?_ ?_; focus (first | with_reducible rfl | assumption | (simp only [*, ef]; done))) | refine RetE.mk () trivial ?_ | refine Got.mk (fun _ _ => ?_) | refine retK_r ?_ | exact rfl) | fail); all_goals try (conv => whnf); all_goals try (exfalso; omega)
        · have ef : sealF s es us = (es, 1) := by rw [efn, if_neg fun h => hgo (hgs.2 h.2)]
          repeat' (first | (with_reducible refine Unf.h ?_) | ((conv => whnf); refine Fork.mk (fun h => ?_) (fun h => ?_)) | fail); all_goals try (conv => whnf); all_goals try (exfalso; omega)
          refine CallS.mk (c := rfits_c) ((s, es, us.map (verN s es))) ?_
          repeat' (first | (with_reducible refine Unf.h ?_) | ((conv => whnf); first | refine Fork.mkn (fun h => ?_) (fun h => ?_) | (refine Side.mk ?_ ?_; focus (first | with_reducible rfl | assumption | (simp only [*, ef]; done))) | refine RetE.mk () trivial ?_ | refine Got.mk (fun _ _ => ?_) | refine retK_r ?_ | exact rfl) | fail); all_goals try (conv => whnf); all_goals try (exfalso; omega)
          exact absurd (by assumption) hgo
end Go.Proofs.YtdflndjlnkoliaaGreatDoor

namespace Go.Proofs.YtdflndjlnkoliaaGreatDoor
set_option linter.all false
open Go.RowKit
/-! epochs' updates of a size that is looked at -/
abbrev eUe (us : List (Bs × Bs)) : List SV := [.fs 2 eUp us]
structure FewOk (l : List (List (Bs × Bs))) (m : Int) : Prop where
  len : (l.length : Int) ≤ m
  few : ∀ us ∈ l, us.length ≤ 20
  lab : ∀ us ∈ l, ∀ u ∈ us, u.1.length ≤ 100 ∧ u.2.length ≤ 200
def labelsL (l : List (List (Bs × Bs))) : List Bs := l.flatten.map Prod.fst
theorem labels_snoc (l : List (List (Bs × Bs))) (us : List (Bs × Bs)) : labelsL (l ++ [us]) = labelsL l ++ us.map Prod.fst := by unfold labelsL; simp
theorem labels_len (l : List (List (Bs × Bs))) (h : ∀ us ∈ l, us.length ≤ 20) : (labelsL l).length ≤ 20 * l.length := by
  unfold labelsL
  rw [List.length_map, List.length_flatten]
  induction l with
  | nil => simp
  | cons a r ih =>
    have h1 := h a (by simp)
    have := ih fun us hu => h us (by simp [hu])
    simp only [List.map_cons, List.sum_cons, List.length_cons]; omega
def rlabels_c : Ctr where
  D := List (List (Bs × Bs)) × Bs
  pre := fun (l, _) => l.length ≤ 100 ∧ ∀ us ∈ l, us.length ≤ 20
  args := fun (l, x) => [.fs 1 eUe l, .fs 1 eB x]
  res := fun (l, x) _ => .fs 1 eP (x :: labelsL l)
def rlabels_H : Cfg := ⟨[], [], [], [], 37, 0, [], [], []⟩
theorem rlabels_ok : rlabels_c.Ok Tryz.prog 29 := by
  refine fn_ok rlabels_H 0 rfl _ Tryz.func29 rfl rfl trivial rfl rfl (by kernel_rfl) (fun _ => Nat.le_of_ble_eq_true rfl) ?_
  rintro ⟨l, x⟩ hp hr
  try dsimp only [rlabels_c] at hp
  try simp only [rlabels_c, Rng, RngL, inR, and_true, true_and] at hr
  obtain ⟨hp1, hp2⟩ := hp
  have hp1 : l.length ≤ 100 := hp1
  repeat' (first | (with_reducible refine Unf.h ?_) | fail); all_goals try (conv => whnf); all_goals try (exfalso; omega)
  refine LoopS.autoN (I := Nat) (fun i => i ≤ l.length) (fun i => [(6, .int .i64 (i : Int)), (5, .own 0)]) (fun i => [(0, .row 46 1 eP (x :: labelsL (l.take i)))]) 1 (fun i => l.length - i) 0 (Nat.zero_le _) ?_ ?_
  · have e0 : labelsL (l.take 0) = [] := rfl
    repeat' (first | (with_reducible refine Unf.h ?_) | ((conv => whnf); first | (refine Side.mk ?_ ?_; focus (first | with_reducible rfl | (refine congrArg (SV.int _) ?_; omega))) | (with_reducible refine Unf.h ?_)) | fail); all_goals try (conv => whnf); all_goals try (exfalso; omega)
    refine Side.mk rfl ?_
    repeat' (first | (with_reducible refine Unf.h ?_) | ((conv => whnf); exact True.intro) | fail); all_goals try (conv => whnf); all_goals try (exfalso; omega)
  · intro i hi
    have hi : i ≤ l.length := hi
    have hll := labels_len (l.take i) fun us hu => hp2 us (List.mem_of_mem_take hu)
    have hlt : (l.take i).length ≤ l.length := by simp; omega
    by_cases hil : i < l.length
    · have hul := hp2 (l[((i : Nat) : Int).toNat]'hil) (List.getElem_mem _)
      have els : labelsL (l.take (i + 1)) = labelsL (l.take i) ++ (l[((i : Nat) : Int).toNat]'hil).map Prod.fst := by rw [List.take_succ_eq_append_getElem hil, labels_snoc]; rfl
      repeat' (first | (with_reducible refine Unf.h ?_) | ((conv => whnf); refine Fork.mk (fun h => ?_) (fun h => ?_)) | fail); all_goals try (conv => whnf); all_goals try (exfalso; omega)
      refine LoopS.autoN (I := Nat) (fun k => k ≤ (l[((i : Nat) : Int).toNat]'hil).length) (fun k => [(7, .int .i64 (k : Int)), (5, .own 0)]) (fun k => [(0, .row 46 1 eP (x :: (labelsL (l.take i) ++ ((l[((i : Nat) : Int).toNat]'hil).take k).map Prod.fst)))]) 1 (fun k => (l[((i : Nat) : Int).toNat]'hil).length - k) 0 (Nat.zero_le _) ?_ ?_
      · have e0 : x :: (labelsL (l.take i) ++ ((l[((i : Nat) : Int).toNat]'hil).take 0).map Prod.fst) = x :: labelsL (l.take i) := by simp
        repeat' (first | (with_reducible refine Unf.h ?_) | ((conv => whnf); first | (refine Side.mk ?_ ?_; focus (first | with_reducible rfl | (refine congrArg (SV.int _) ?_; omega) | (simp only [*, e0]; done))) | (with_reducible refine Unf.h ?_) | exact True.intro) | fail); all_goals try (conv => whnf); all_goals try (exfalso; omega)
      · intro k hk
        have hk : k ≤ (l[((i : Nat) : Int).toNat]'hil).length := hk
        by_cases hkl : k < (l[((i : Nat) : Int).toNat]'hil).length
        · have ek : x :: (labelsL (l.take i) ++ ((l[((i : Nat) : Int).toNat]'hil).take (k + 1)).map Prod.fst) = x :: (labelsL (l.take i) ++ ((l[((i : Nat) : Int).toNat]'hil).take k).map Prod.fst) ++ [((l[((i : Nat) : Int).toNat]'hil)[((k : Nat) : Int).toNat]'hkl).1] := by
            rw [List.take_succ_eq_append_getElem hkl, List.map_append]
            simp
          have hkt : (((l[((i : Nat) : Int).toNat]'hil).take k).map Prod.fst).length ≤ (l[((i : Nat) : Int).toNat]'hil).length := by simp; omega
          repeat' (first | (with_reducible first | refine Unf.h ?_ | refine loopK_n ?_) | ((conv => whnf); first | refine Fork.mk (fun h => ?_) (fun h => ?_) | (refine Side.mk ?_ ?_; focus ((intros; (try simp only [lenS, inR, cutS, loI, hiI] at *); omega))) | (refine Idx.mk ?_ ?_; focus (omega)) | refine Ex.mk [_] rfl ?_) | fail); all_goals try (conv => whnf); all_goals try (exfalso; omega)
          refine ⟨k + 1, ⟨by omega, by omega⟩, ?_⟩
          rw [ek]
          repeat' (first | (with_reducible refine Unf.h ?_) | ((conv => whnf); first | (refine Side.mk ?_ ?_; focus (first | with_reducible rfl | (refine congrArg (SV.int _) ?_; omega))) | (with_reducible refine Unf.h ?_) | exact True.intro) | fail); all_goals try (conv => whnf); all_goals try (exfalso; omega)
        · have e0 : (l[((i : Nat) : Int).toNat]'hil).take k = (l[((i : Nat) : Int).toNat]'hil) := List.take_of_length_le (by omega)
          rw [e0, ← els]
          repeat' (first | (with_reducible first | refine Unf.h ?_ | refine loopK_n ?_) | ((conv => whnf); first | refine Fork.mk (fun h => ?_) (fun h => ?_) | (refine Side.mk ?_ ?_; focus ((intros; (try simp only [lenS, inR, cutS, loI, hiI] at *); omega))) | (refine Idx.mk ?_ ?_; focus (omega))) | fail); all_goals try (conv => whnf); all_goals try (exfalso; omega)
          refine ⟨i + 1, ⟨by omega, by omega⟩, ?_⟩
          repeat' (first | (with_reducible refine Unf.h ?_) | ((conv => whnf); first | (refine Side.mk ?_ ?_; focus (first | with_reducible rfl | (refine congrArg (SV.int _) ?_; omega))) | (with_reducible refine Unf.h ?_) | exact True.intro) | fail); all_goals try (conv => whnf); all_goals try (exfalso; omega)
    · have e0 : l.take i = l := List.take_of_length_le (by omega)
      rw [e0]
      repeat' (first | (with_reducible refine Unf.h ?_) | ((conv => whnf); first | refine Fork.mk (fun h => ?_) (fun h => ?_) | (refine Side.mk ?_ ?_; focus (with_reducible rfl)) | refine RetE.mk () trivial ?_ | refine retK_r ?_ | exact rfl) | fail); all_goals try (conv => whnf); all_goals try (exfalso; omega)
def rapart_c : Ctr where
  D := List Bs
  pre := fun l => l.length ≤ 10000 ∧ ∀ x ∈ l, x.length ≤ 1000000
  args := fun l => [.fs 1 eP l]
  E := Bool
  res := fun _ b => .bool b
def rapart_H : Cfg := ⟨[(52, rkey14_c), (73, same_c)], [(9, [3, 7, 13, 17], [18], (.one 0 0 false (.one 1 0 false (.one 2 0 false (.one 3 1 false (.one 4 0 false (.one 5 0 false (.one 6 0 false (.one 7 1 false (.one 8 0 false (.one 9 0 false (.one 10 0 false (.one 11 0 false (.one 12 0 false (.one 13 1 false (.one 14 0 false (.one 15 0 false (.one 16 0 false (.one 17 1 false (.one 18 2 false (.one 19 0 false (.one 20 0 false .nil))))))))))))))))))))), [])], [], [], 46, 0, [], [], []⟩
theorem rapart_ok : rapart_c.Ok Tryz.prog 28 := by
  refine fn_ok rapart_H 0 rfl _ Tryz.func28 rfl rfl ⟨rkey14_ok, same_ok, trivial⟩ rfl rfl (by kernel_rfl) (fun _ => Nat.le_of_ble_eq_true rfl) ?_
  intro (l : List Bs) hp hr
  try dsimp only [rapart_c] at hp
  try simp only [rapart_c, Rng, RngL, inR, and_true, true_and] at hr
  obtain ⟨hp1, hp2⟩ := hp
  have hp1 : l.length ≤ 10000 := hp1
  repeat' (first | (with_reducible refine Unf.h ?_) | fail); all_goals try (conv => whnf); all_goals try (exfalso; omega)
  refine LoopS.autoN (I := Nat) (fun i => i ≤ l.length) (fun i => [(4, .int .i64 (i : Int)), (3, .own 0)]) (fun i => [(0, .row 30 32 (fun v : H256 => [.arr8 v]) ((l.take i).map keyL))]) 1 (fun i => l.length - i) 0 (Nat.zero_le _) ?_ ?_
  · have e0 : (l.take 0).map keyL = [] := rfl
    repeat' (first | (with_reducible refine Unf.h ?_) | ((conv => whnf); first | (refine Side.mk ?_ ?_; focus (first | with_reducible rfl | assumption | (refine congrArg (SV.int _) ?_; omega))) | (with_reducible refine Unf.h ?_) | exact True.intro) | fail); all_goals try (conv => whnf); all_goals try (exfalso; omega)
  · intro i hi
    have hi : i ≤ l.length := hi
    by_cases hil : i < l.length
    · have hki : rkey14_c.pre (l[((i : Nat) : Int).toNat]'hil) := hp2 _ (List.getElem_mem _)
      have ek : (l.take (i + 1)).map keyL = (l.take i).map keyL ++ [keyL (l[((i : Nat) : Int).toNat]'hil)] := by rw [List.take_succ_eq_append_getElem hil, List.map_append]; rfl
      have hkl : ((l.take i).map keyL).length = i := by simp; omega
      have hkl2 : ((l.take (i + 1)).map keyL).length = i + 1 := by simp; omega
      repeat' (first | (with_reducible refine Unf.h ?_) | ((conv => whnf); first | refine Fork.mk (fun h => ?_) (fun h => ?_) | (refine Idx.mk ?_ ?_; focus (omega))) | fail); all_goals try (conv => whnf); all_goals try (exfalso; omega)
      refine CallS.mk (c := rkey14_c) ((l[((i : Nat) : Int).toNat]'hil)) ?_
      repeat' (first | (with_reducible refine Unf.h ?_) | ((conv => whnf); first | (refine Side.mk ?_ ?_; focus (first | with_reducible rfl | assumption | (intros; (try simp only [lenS, inR, cutS, loI, hiI] at *); omega))) | refine Got.mk (fun _ _ => ?_) | refine Ex.mk [_] rfl ?_) | fail); all_goals try (conv => whnf); all_goals try (exfalso; omega)
      refine LoopS.autoN (I := Nat) (fun k => k ≤ i) (fun k => [(5, .int .i64 (k : Int)), (3, .own 0)]) (fun _ => [(0, .row 30 32 (fun v : H256 => [.arr8 v]) ((l.take (i + 1)).map keyL))]) 1 (fun k => i - k) 0 (Nat.zero_le _) ?_ ?_
      · repeat' (first | (with_reducible refine Unf.h ?_) | ((conv => whnf); first | (refine Side.mk ?_ ?_; focus (first | with_reducible rfl | (refine congrArg (SV.int _) ?_; omega) | (simp only [*, ek]; done))) | (with_reducible refine Unf.h ?_) | exact True.intro) | fail); all_goals try (conv => whnf); all_goals try (exfalso; omega)
      · intro k hk
        have hk : k ≤ i := hk
        rcases Nat.lt_or_ge k i with hki2 | hki2
        · repeat' (first | (with_reducible first | refine Unf.h ?_ | refine loopK_n ?_) | ((conv => whnf); first | refine Fork.mk (fun h => ?_) (fun h => ?_) | (refine Side.mk ?_ ?_; focus (first | omega | (intros; (try simp only [lenS, inR, cutS, loI, hiI, eP] at *); omega))) | (refine Idx.mk ?_ ?_; focus (omega))) | fail); all_goals try (conv => whnf); all_goals try (exfalso; omega)
          all_goals first
            | (refine RetE.mk false trivial ?_; all_goals try (conv => whnf); all_goals try (exfalso; omega); done)
            | (refine ⟨k + 1, ⟨by omega, by omega⟩, ?_⟩; repeat' (first | (with_reducible refine Unf.h ?_) | ((conv => whnf); first | (refine Side.mk ?_ ?_; focus (first | with_reducible rfl | (refine congrArg (SV.int _) ?_; omega))) | (with_reducible refine Unf.h ?_) | exact True.intro) | fail); all_goals try (conv => whnf); all_goals try (exfalso; omega); done)
            | skip
          have hkl3 : k < l.length := by omega
          refine CallS.mk (c := same_c) ((l[((k : Nat) : Int).toNat]'hkl3, l[((i : Nat) : Int).toNat]'hil)) ?_
          repeat' (first | (with_reducible first | refine Unf.h ?_ | refine loopK_n ?_) | ((conv => whnf); first | refine Fork.mkn (fun h => ?_) (fun h => ?_) | (refine Side.mk ?_ ?_; focus (first | with_reducible rfl | exact True.intro | (intros; (try simp only [lenS, inR, cutS, loI, hiI] at *); omega))) | refine Got.mk (fun _ _ => ?_) | refine retK_r ?_) | fail); all_goals try (conv => whnf); all_goals try (exfalso; omega)
          all_goals first
            | (refine RetE.mk false trivial ?_; repeat' (first | (with_reducible refine Unf.h ?_) | ((conv => whnf); first | (refine Side.mk ?_ ?_; focus (with_reducible rfl)) | exact rfl) | fail); all_goals try (conv => whnf); all_goals try (exfalso; omega); done)
            | (refine ⟨k + 1, ⟨by omega, by omega⟩, ?_⟩; repeat' (first | (with_reducible refine Unf.h ?_) | ((conv => whnf); first | (refine Side.mk ?_ ?_; focus (first | with_reducible rfl | (refine congrArg (SV.int _) ?_; omega))) | (with_reducible refine Unf.h ?_) | exact True.intro) | fail); all_goals try (conv => whnf); all_goals try (exfalso; omega); done)
            | skip
        · repeat' (first | (with_reducible first | refine Unf.h ?_ | refine loopK_n ?_) | ((conv => whnf); first | refine Fork.mk (fun h => ?_) (fun h => ?_) | (refine Side.mk ?_ ?_; focus ((intros; (try simp only [lenS, inR, cutS, loI, hiI, eP] at *); omega)))) | fail); all_goals try (conv => whnf); all_goals try (exfalso; omega)
          refine ⟨i + 1, ⟨by omega, by omega⟩, ?_⟩
          repeat' (first | (with_reducible refine Unf.h ?_) | ((conv => whnf); first | (refine Side.mk ?_ ?_; focus (first | with_reducible rfl | (refine congrArg (SV.int _) ?_; omega))) | (with_reducible refine Unf.h ?_) | exact True.intro) | fail); all_goals try (conv => whnf); all_goals try (exfalso; omega)
    · repeat' (first | (with_reducible refine Unf.h ?_) | ((conv => whnf); first | refine Fork.mk (fun h => ?_) (fun h => ?_) | refine retK_r ?_) | fail); all_goals try (conv => whnf); all_goals try (exfalso; omega)
      refine RetE.mk true trivial ?_
      repeat' (first | (with_reducible refine Unf.h ?_) | ((conv => whnf); first | (refine Side.mk ?_ ?_; focus (with_reducible rfl)) | exact rfl) | fail); all_goals try (conv => whnf); all_goals try (exfalso; omega)
def rfew_c : Ctr where
  D := List (List (Bs × Bs)) × Int
  pre := fun (_, m) => m ≤ 40
  args := fun (l, m) => [.fs 1 eUe l, .int .i64 m]
  E := Bool
  post := fun (l, m) b => b = true → FewOk l m
  res := fun _ b => .bool b
abbrev okUs (us : List (Bs × Bs)) : Prop := us.length ≤ 20 ∧ ∀ u ∈ us, u.1.length ≤ 100 ∧ u.2.length ≤ 200
def rfew_H : Cfg := ⟨[(29, rlabels_c), (28, rapart_c)], [], [], [], 67, 0, [], [], []⟩
theorem rfew_ok : rfew_c.Ok Tryz.prog 7 := by
  refine fn_ok rfew_H 0 rfl _ Tryz.func7 rfl rfl ⟨rlabels_ok, rapart_ok, trivial⟩ rfl rfl (by kernel_rfl) (fun _ => Nat.le_of_ble_eq_true rfl) ?_
  rintro ⟨l, m⟩ hp hr
  try dsimp only [rfew_c] at hp
  try simp only [rfew_c, Rng, RngL, inR, and_true, true_and] at hr
  have hp : m ≤ 40 := hp
  repeat' (first | (with_reducible refine Unf.h ?_) | fail); all_goals try (conv => whnf); all_goals try (exfalso; omega)
  refine LoopS.autoN (I := Nat) (fun i => i ≤ l.length ∧ ∀ us ∈ l.take i, okUs us) (fun i => [(5, .int .i64 (i : Int))]) (fun _ => []) 0 (fun i => l.length - i) 0 ⟨Nat.zero_le _, fun us hu => by simp at hu⟩ ?_ ?_
  · repeat' (first | (with_reducible refine Unf.h ?_) | ((conv => whnf); first | (refine Side.mk ?_ ?_; focus (first | with_reducible rfl | (refine congrArg (SV.int _) ?_; omega))) | (with_reducible refine Unf.h ?_) | exact True.intro) | fail); all_goals try (conv => whnf); all_goals try (exfalso; omega)
  · rintro i ⟨hi, ho⟩
    have hi : i ≤ l.length := hi
    by_cases hil : i < l.length ∧ i < 50
    · obtain ⟨hil, hi50⟩ := hil
      repeat' (first | (with_reducible refine Unf.h ?_) | ((conv => whnf); refine Fork.mk (fun h => ?_) (fun h => ?_)) | fail); all_goals try (conv => whnf); all_goals try (exfalso; omega)
      refine LoopS.autoN (I := Nat) (fun k => k ≤ (l[((i : Nat) : Int).toNat]'hil).length ∧ ∀ u ∈ (l[((i : Nat) : Int).toNat]'hil).take k, u.1.length ≤ 100 ∧ u.2.length ≤ 200) (fun k => [(6, .int .i64 (k : Int))]) (fun _ => []) 0 (fun k => (l[((i : Nat) : Int).toNat]'hil).length - k) 0 ⟨Nat.zero_le _, fun u hu => by simp at hu⟩ ?_ ?_
      · repeat' (first | (with_reducible refine Unf.h ?_) | ((conv => whnf); first | (refine Side.mk ?_ ?_; focus (first | with_reducible rfl | (refine congrArg (SV.int _) ?_; omega))) | (with_reducible refine Unf.h ?_) | exact True.intro) | fail); all_goals try (conv => whnf); all_goals try (exfalso; omega)
      · rintro k ⟨hk, hko⟩
        have hk : k ≤ (l[((i : Nat) : Int).toNat]'hil).length := hk
        by_cases hkl : k < (l[((i : Nat) : Int).toNat]'hil).length ∧ k < 30
        · obtain ⟨hkl, hk30⟩ := hkl
          repeat' (first | (with_reducible first | refine Unf.h ?_ | refine loopK_n ?_) | ((conv => whnf); first | refine Fork.mk (fun h => ?_) (fun h => ?_) | (refine Side.mk ?_ ?_; focus ((intros; (try simp only [lenS, inR, cutS, loI, hiI] at *); omega))) | (refine Idx.mk ?_ ?_; focus (omega)) | refine retK_r ?_) | fail); all_goals try (conv => whnf); all_goals try (exfalso; omega)
          all_goals first
            | (refine RetE.mk false (fun h => by cases h) ?_; repeat' (first | (with_reducible refine Unf.h ?_) | ((conv => whnf); first | (refine Side.mk ?_ ?_; focus (with_reducible rfl)) | exact rfl) | fail); all_goals try (conv => whnf); all_goals try (exfalso; omega); done)
            | skip
          refine ⟨k + 1, ⟨by omega, by omega, fun u hu => ?_⟩, ?_⟩
          · rw [List.take_succ_eq_append_getElem hkl] at hu
            rcases List.mem_append.1 hu with hu | hu
            · exact hko u hu
            · obtain rfl := List.mem_singleton.1 hu
              exact ⟨by show ((l[((i : Nat) : Int).toNat]'hil)[((k : Nat) : Int).toNat]'hkl).1.length ≤ 100; omega, by show ((l[((i : Nat) : Int).toNat]'hil)[((k : Nat) : Int).toNat]'hkl).2.length ≤ 200; omega⟩
          · repeat' (first | (with_reducible refine Unf.h ?_) | ((conv => whnf); first | (refine Side.mk ?_ ?_; focus (first | with_reducible rfl | (refine congrArg (SV.int _) ?_; omega))) | (with_reducible refine Unf.h ?_) | exact True.intro) | fail); all_goals try (conv => whnf); all_goals try (exfalso; omega)
        · repeat' (first | (with_reducible first | refine Unf.h ?_ | refine loopK_n ?_) | ((conv => whnf); first | refine Fork.mk (fun h => ?_) (fun h => ?_) | (refine Side.mk ?_ ?_; focus ((intros; (try simp only [lenS, inR, cutS, loI, hiI] at *); omega))) | (refine Idx.mk ?_ ?_; focus (omega)) | refine retK_r ?_) | fail); all_goals try (conv => whnf); all_goals try (exfalso; omega)
          all_goals first
            | (refine RetE.mk false (fun h => by cases h) ?_; repeat' (first | (with_reducible refine Unf.h ?_) | ((conv => whnf); first | (refine Side.mk ?_ ?_; focus (with_reducible rfl)) | exact rfl) | fail); all_goals try (conv => whnf); all_goals try (exfalso; omega); done)
            | skip
          all_goals
            refine ⟨i + 1, ⟨by omega, by omega, fun us hu => ?_⟩, ?_⟩
            · rw [List.take_succ_eq_append_getElem hil] at hu
              rcases List.mem_append.1 hu with hu | hu
              · exact ho us hu
              · obtain rfl := List.mem_singleton.1 hu
                have hu20 : (l[((i : Nat) : Int).toNat]'hil).length ≤ 20 := by omega
                have e0 : (l[((i : Nat) : Int).toNat]'hil).take k = (l[((i : Nat) : Int).toNat]'hil) := List.take_of_length_le (by omega)
                rw [e0] at hko
                exact ⟨hu20, hko⟩
            · repeat' (first | (with_reducible refine Unf.h ?_) | ((conv => whnf); first | (refine Side.mk ?_ ?_; focus (first | with_reducible rfl | (refine congrArg (SV.int _) ?_; omega))) | (with_reducible refine Unf.h ?_) | exact True.intro) | fail); all_goals try (conv => whnf); all_goals try (exfalso; omega)
    · have hfw : (l.length : Int) ≤ m → FewOk l m := fun hm => by
        have e0 : l.take i = l := List.take_of_length_le (by omega)
        rw [e0] at ho
        exact ⟨hm, fun us hu => (ho us hu).1, fun us hu => (ho us hu).2⟩
      repeat' (first | (with_reducible refine Unf.h ?_) | ((conv => whnf); first | refine Fork.mk (fun h => ?_) (fun h => ?_) | refine retK_r ?_) | fail); all_goals try (conv => whnf); all_goals try (exfalso; omega)
      all_goals first
        | (refine RetE.mk false (fun h => by cases h) ?_; repeat' (first | (with_reducible refine Unf.h ?_) | ((conv => whnf); first | (refine Side.mk ?_ ?_; focus (with_reducible rfl)) | exact rfl) | fail); all_goals try (conv => whnf); all_goals try (exfalso; omega); done)
        | skip
      have hF := hfw (by omega)
      have hpl : rlabels_c.pre (l, []) := ⟨by show l.length ≤ 100; omega, hF.few⟩
      have hll := labels_len l hF.few
      have hpa : rapart_c.pre ([] :: labelsL l) := ⟨by show ([] :: labelsL l).length ≤ 10000; simp only [List.length_cons]; omega, fun x hx => by
        rcases List.mem_cons.1 hx with rfl | hx
        · simp
        · obtain ⟨u, hu, rfl⟩ := List.mem_map.1 hx
          obtain ⟨us, hus, huu⟩ := List.mem_flatten.1 hu
          have := (hF.lab us hus u huu).1
          omega⟩
      refine CallS.mk (c := rlabels_c) ((l, [])) ?_
      repeat' (first | (with_reducible refine Unf.h ?_) | ((conv => whnf); first | (refine Side.mk ?_ ?_; focus (first | with_reducible rfl | assumption)) | refine Got.mk (fun _ _ => ?_)) | fail); all_goals try (conv => whnf); all_goals try (exfalso; omega)
      first | refine CallS.mk (c := rapart_c) (([] :: labelsL l)) ?_ | refine Or2.l (CallS.mk (c := rapart_c) (([] :: labelsL l)) ?_) | refine Or2.r (CallS.mk (c := rapart_c) (([] :: labelsL l)) ?_)
      repeat (first | (with_reducible refine Unf.h ?_) | ((conv => whnf); first | (refine Side.mk ?_ ?_; focus (first | with_reducible rfl | assumption | exact True.intro | rfl)) | (with_reducible refine Unf.h ?_)))
      conv => whnf
      refine Got.mk (fun e he => ?_)
      repeat' (first | (with_reducible refine Unf.h ?_) | ((conv => whnf); first | (with_reducible refine Unf.h ?_) | refine retK_r ?_) | fail); all_goals try (conv => whnf); all_goals try (exfalso; omega)
      refine RetE.mk e (fun _ => hF) ?_
      repeat' (first | (with_reducible refine Unf.h ?_) | ((conv => whnf); first | (refine Side.mk ?_ ?_; focus (with_reducible rfl)) | exact rfl) | fail); all_goals try (conv => whnf); all_goals try (exfalso; omega)
end Go.Proofs.YtdflndjlnkoliaaGreatDoor

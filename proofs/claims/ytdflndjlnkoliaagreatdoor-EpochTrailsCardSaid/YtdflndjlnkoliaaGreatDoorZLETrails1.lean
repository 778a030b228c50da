import Derived.Test.YtdflndjlnkoliaaGreatDoorFn
import Derived.Test.YtdflndjlnkoliaaGreatDoorTab
import Derived.Lib.AppendZerosOnto
import Derived.Lib.Walk
import Derived.Lib.SliceRun
namespace Go.Proofs.YtdflndjlnkoliaaGreatDoor
set_option linter.all false
open Go.RowKit
/-! room for bytes: slices.Grow of no slice -/
set_option maxRecDepth 100000 in
set_option maxHeartbeats 4000000 in
theorem sgrow_raw (n : Nat) (h1 : 1 ≤ n) (h2 : n ≤ 1000000000) (w : World) : Calls Tryz.prog 187 #[.slice none 0 0, .int .i64 (n : Int)] w fun e w' => ∃ c C, e = .returned (.slice (some ⟨w.heap.size, 0, none⟩) 0 c) ∧ c ≤ maxLen ∧ C.size = c ∧ w' = w.drew.alloc (.cells C 5) := by
  obtain ⟨i0, d0, hi0, hd0, hz0, hb0, _⟩ := ty_spec (P := Tryz.prog) (t := 5) (i := ⟨.int .u8, 1, 1⟩) rfl
  obtain ⟨i1, z, hi1, hz, hs1, hc1⟩ := zero_spec (P := Tryz.prog) (t := 5) (c := [.u8 0#8]) rfl
  rw [hi0] at hi1; cases hi1
  have hb0 : i0.bytes = 1 := hb0
  have hz0 : i0.size = 1 := hz0
  have hzc : z.cells.size = 1 := by
    have := (hc1 w (fun _ => False) (fun _ => none)).len
    simpa [szL, SV.sz] using this
  have hh1 : ¬ ((n : Int) < 0) := by omega
  have hh2 : wrap64 ((0 : Int) - 0) = 0 := by unfold wrap64; omega
  have hh3 : wrap64 ((n : Int) - 0) = (n : Int) := by unfold wrap64; omega
  have hh4 : (n : Int) > 0 := by omega
  have hold : (Builtin.firstCells i0.size 0 (.slice none 0 0)).run Tryz.prog w.drew = .ok (([] : List Value).toArray) w.drew := run_firstCells_none w.drew i0.size 0 0 0
  have hfit : Builtin.nextslicecap (0 + n) 0 * i0.bytes ≤ 281474976710656 := growslice_fits (by omega) (by rw [hb0]; omega)
  have hrz : ∀ ty, (Builtin.append_ #[46, 3] ty #[.slice none 0 0, .int .i64 (n : Int)]).run Tryz.prog w =
      .ok (.slice (some ⟨w.heap.size, 0, none⟩) n (grownCap w n 0 5)) (w.drew.alloc (.cells (#[] ++ Builtin.zeroCells z.cells n ++ Builtin.zeroCells z.cells (grownCap w n 0 5 - n)) 5)) := fun ty => by
    have h := Lib.run_append_grow_zeros w 46 3 ty 5 i0 z .i64 .i64 Tryz.underlying46 Tryz.underlying3 hi0 hz none 0 0 [] hold n (by omega) (by omega) (by omega) (by omega) (by rw [hb0]; omega) hfit
    simpa using h
  have hGn : n ≤ grownCap w n 0 5 := grownCap_ge w _ _ _
  have hGm : grownCap w n 0 5 ≤ maxLen := grownCap_le_maxLen w n 0 5 (by unfold maxLen; omega)
  generalize grownCap w n 0 5 = G at *
  have hG63 : G ≤ 9223372036854775807 := by unfold maxLen at hGm; omega
  clear hold hfit hc1
  generalize z.cells = zc at hrz hzc
  clear hz
  go_enter Tryz.func187, Tryz.ntmps187
  go_wp2_with (at_builtin; refine Lib.wpList_append_run _ rfl _ _ _ _ rfl _ _ rfl rfl _ _ (hrz _) ?_)
  all_goals go_ret
  exact ⟨G, rfl, hGm, _, by simp [Builtin.zeroCells, hzc]; omega, rfl⟩
def sgrow_c : Ctr where
  D := Nat
  pre := fun n => 1 ≤ n ∧ n ≤ 1000000000
  args := fun n => [.nils, .int .i64 (n : Int)]
  res := fun _ _ => .own 0
  out := fun _ _ => [(0, .row 5 1 eB [])]
  mm := 1
theorem sgrow_ok : sgrow_c.Ok Tryz.prog 187 := by
  intro n ⟨h1, h2⟩ A0 w σ vs hA hobs hargs hdom hgl
  obtain ⟨v0, m, rfl, h0, v1, m1, rfl, h1', rfl⟩ := hargs
  simp only [SV.h1, SV.hc, List.cons.injEq, and_true] at h0 h1'
  subst h0
  obtain ⟨rfl, _⟩ := h1'
  refine (sgrow_raw n h1 h2 w).mono ?_
  rintro en w' ⟨c, C, rfl, hcm, hcs, rfl⟩
  have hg : (w.drew.alloc (.cells C 5)).heap[w.heap.size]? = some (.cells C 5 (0, 0)) := heap_alloc_new w.drew _
  have hm : Mod (fun _ => False) w (w.drew.alloc (.cells C 5)) := (Mod.drew _ w).trans (Mod.alloc _ _ _)
  have hs1 : σ.set 0 (.slice (some ⟨w.heap.size, 0, none⟩) 0 c) 0 = some (.slice (some ⟨w.heap.size, 0, none⟩) 0 c) := Sg.set_self _ _ _
  have hrow1 : ∀ k, SO.own (σ.set 0 (.slice (some ⟨w.heap.size, 0, none⟩) 0 c)) 0 (.row 5 1 eB []) k ↔ w.heap.size = k := fun k => ⟨fun ⟨u, hu, hk⟩ => by rw [hs1] at hu; cases hu; simpa [blkO] using hk, fun hk => ⟨_, hs1, by simp [blkO, hk]⟩⟩
  refine ⟨(), _, σ.set 0 (.slice (some ⟨w.heap.size, 0, none⟩) 0 c), rfl, trivial, fun k hk x hx => ?_, fun k hk => ?_, ⟨_, hs1, rfl, rfl⟩, hm.mono fun k hk => hk.elim, ⟨fun o ho => ?_, ⟨fun _ _ x => x, trivial⟩, fun k hk => ?_⟩, fun k hk => ?_⟩
  · cases hk
  · have hk1 : 1 ≤ k := hk
    show (if k = 0 then _ else σ k) = none
    rw [if_neg (by omega)]; exact hdom k (Nat.zero_le _)
  · rcases List.mem_cons.1 ho with rfl | ho
    · exact ⟨_, [], hs1, fun e he => (by cases he), Nat.zero_le _, rfl, by simp, .inr ⟨w.heap.size, c, C, rfl, Nat.zero_le _, hg, Nat.zero_le _, hcm, by omega, by simp⟩⟩
    · cases ho
  · have := (hrow1 k).1 (hk.resolve_right (fun x => x))
    subst this
    exact ⟨(Array.getElem?_eq_some_iff.1 hg).1, fun hx => by have := hA _ hx; omega⟩
  · have := (hrow1 k).1 (hk.resolve_right (fun x => x))
    subst this
    exact Or.inr (Nat.le_refl _)
end Go.Proofs.YtdflndjlnkoliaaGreatDoor

namespace Go.Proofs.YtdflndjlnkoliaaGreatDoor
set_option linter.all false
/-! chains of versions; labels with their chains -/
section
structure Vr (H B : Type) where
  num : Int
  ep : Int
  salt : H
  before : H
  val : List B
variable {H B : Type} (cm : Vr H B → H)
/-- may a version stand at a place, behind a hash and an epoch? -/
def okV (i : Nat) (b : H) (e : Int) (v : Vr H B) : Prop := v.num = (i : Int) + 1 ∧ e < v.ep ∧ v.ep < 2147483648 ∧ v.before = b ∧ v.val.length ≤ 64
def fmV : Nat → H → Int → List (Vr H B) → Prop
  | _, _, _, [] => True
  | i, b, e, v :: r => okV i b e v ∧ fmV (i + 1) (cm v) v.ep r
def lastB (b : H) : List (Vr H B) → H
  | [] => b
  | v :: r => lastB (cm v) r
def lastE (e : Int) : List (Vr H B) → Int
  | [] => e
  | v :: r => lastE v.ep r
theorem fmV_app (v : Vr H B) : ∀ (l : List (Vr H B)) (i : Nat) (b : H) (e : Int), fmV cm i b e (l ++ [v]) ↔ fmV cm i b e l ∧ okV (i + l.length) (lastB cm b l) (lastE e l) v
  | [], i, b, e => by simp [fmV, lastB, lastE]
  | w :: r, i, b, e => by
    simp only [List.cons_append, fmV, lastB, lastE, List.length_cons]
    rw [fmV_app v r, show i + 1 + r.length = i + (r.length + 1) by omega, and_assoc]
theorem lastB_snoc (b : H) (v : Vr H B) : ∀ (l : List (Vr H B)), lastB cm b (l ++ [v]) = cm v
  | [] => rfl
  | w :: r => lastB_snoc (cm w) v r
theorem lastE_snoc (e : Int) (v : Vr H B) : ∀ (l : List (Vr H B)), lastE e (l ++ [v]) = v.ep
  | [] => rfl
  | w :: r => lastE_snoc w.ep v r
theorem lastB_at (b : H) : ∀ {l : List (Vr H B)} (h : l ≠ []), lastB cm b l = cm (l.getLast h) := by
  intro l h
  have e := List.dropLast_concat_getLast h
  conv => lhs; rw [← e]
  exact lastB_snoc cm b _ _
theorem lastE_at (e : Int) : ∀ {l : List (Vr H B)} (h : l ≠ []), lastE e l = (l.getLast h).ep := by
  intro l h
  have e' := List.dropLast_concat_getLast h
  conv => lhs; rw [← e']
  exact lastE_snoc e _ _
theorem fmV_take {i : Nat} {b : H} {e : Int} : ∀ {l m : List (Vr H B)}, fmV cm i b e (l ++ m) → fmV cm i b e l := by
  intro l
  induction l generalizing i b e with
  | nil => intro m _; trivial
  | cons v r ih => intro m h; exact ⟨h.1, ih h.2⟩
/-- formed chains end at an epoch that is above the first bound -/
theorem fmV_le {i : Nat} {b : H} : ∀ {l : List (Vr H B)} {e : Int}, fmV cm i b e l → e ≤ lastE e l := by
  intro l
  induction l generalizing i b with
  | nil => intro e _; exact Int.le_refl _
  | cons v r ih => intro e h; have h1 := h.1.2.1; have := ih h.2; show e ≤ lastE v.ep r; omega
/-! labels with what they have -/
variable {L C : Type} [DecidableEq L]
/-- where a label stands -/
def atLb (ps : List (L × C)) (x : L) : Option Nat := (ps.map Prod.fst).idxOf? x
/-- what a label has -/
def getLb (ps : List (L × C)) (x : L) : Option C := (ps.find? fun p => decide (p.1 = x)).map Prod.snd
/-- a label is given something -/
def setLb (ps : List (L × C)) (x : L) (c : C) : List (L × C) := match ps with
  | [] => [(x, c)]
  | p :: r => if p.1 = x then (x, c) :: r else p :: setLb r x c
theorem getLb_set (x y : L) (c : C) : ∀ (ps : List (L × C)), getLb (setLb ps x c) y = if x = y then some c else getLb ps y
  | [] => by
    unfold setLb getLb
    by_cases h : x = y
    · simp [h]
    · simp [h]
  | p :: r => by
    have ih := getLb_set x y c r
    unfold setLb
    by_cases h : p.1 = x
    · rw [if_pos h]
      by_cases h2 : x = y
      · subst h2; simp [getLb]
      · rw [if_neg h2]
        unfold getLb
        have h3 : ¬ p.1 = y := fun e => h2 (h.symm.trans e)
        simp [h2, h3]
    · rw [if_neg h]
      unfold getLb at ih ⊢
      by_cases h2 : p.1 = y
      · have h3 : ¬ x = y := fun e => h (h2.trans e.symm)
        simp [h2, h3]
      · simp only [List.find?_cons, h2, decide_false]
        exact ih
/-- the labels of a list stay apart -/
theorem setLb_fst (x : L) (c : C) : ∀ (ps : List (L × C)), (setLb ps x c).map Prod.fst = if x ∈ ps.map Prod.fst then ps.map Prod.fst else ps.map Prod.fst ++ [x]
  | [] => rfl
  | p :: r => by
    unfold setLb
    by_cases h : p.1 = x
    · rw [if_pos h, if_pos (by simp [h])]; simp [h]
    · rw [if_neg h, List.map_cons, setLb_fst x c r]
      have h' : ¬ x = p.1 := fun e => h e.symm
      by_cases hm : x ∈ r.map Prod.fst
      · rw [if_pos hm, if_pos (by simp only [List.map_cons, List.mem_cons]; exact .inr hm)]; rfl
      · rw [if_neg hm, if_neg (by simp only [List.map_cons, List.mem_cons, not_or]; exact ⟨h', hm⟩)]; rfl
theorem setLb_nodup {x : L} {c : C} {ps : List (L × C)} (h : (ps.map Prod.fst).Nodup) : ((setLb ps x c).map Prod.fst).Nodup := by
  rw [setLb_fst]
  split
  · exact h
  · rename_i hm
    rw [List.nodup_append]
    exact ⟨h, by simp, fun a ha b hb => by obtain rfl := List.mem_singleton.1 hb; exact fun e => hm (e ▸ ha)⟩
/-! epochs of news: a label's chain is what its news are, in their order -/
variable {V : Type}
def chR (es : List (List (L × V))) (x : L) : List V := es.flatten.filterMap fun p => if p.1 = x then some p.2 else none
theorem chR_snoc (es : List (List (L × V))) (n : List (L × V)) (x : L) : chR (es ++ [n]) x = chR es x ++ n.filterMap fun p => if p.1 = x then some p.2 else none := by
  unfold chR; simp
/-- of labels that are apart at most one piece of news is a label's -/
theorem news_one {n : List (L × V)} (h : (n.map Prod.fst).Nodup) (x : L) : (n.filterMap fun p => if p.1 = x then some p.2 else none) = (getLb n x).toList := by
  induction n with
  | nil => rfl
  | cons p r ih =>
    obtain ⟨h1, h2⟩ := List.nodup_cons.1 (show (p.1 :: r.map Prod.fst).Nodup from h)
    have ih := ih h2
    unfold getLb at ih ⊢
    by_cases hp : p.1 = x
    · have hn : ∀ q ∈ r, ¬ q.1 = x := fun q hq e => h1 (List.mem_map.2 ⟨q, hq, e.trans hp.symm⟩)
      have hr : (r.filterMap fun p => if p.1 = x then some p.2 else none) = [] := by
        rw [List.filterMap_eq_nil_iff]
        intro q hq
        rw [if_neg (hn q hq)]
      simp [hp, hr]
    · simp [hp, ih]
/-- all of an epoch's news given -/
def giveLb (ps : List (L × List V)) : List (L × V) → List (L × List V)
  | [] => ps
  | p :: r => giveLb (setLb ps p.1 (((getLb ps p.1).getD []) ++ [p.2])) r
theorem giveLb_get : ∀ (n : List (L × V)) (ps : List (L × List V)), (n.map Prod.fst).Nodup → ∀ x, (getLb (giveLb ps n) x).getD [] = (getLb ps x).getD [] ++ (getLb n x).toList
  | [], ps, _, x => by simp [giveLb, getLb]
  | p :: r, ps, h, x => by
    obtain ⟨h1, h2⟩ := List.nodup_cons.1 (show (p.1 :: r.map Prod.fst).Nodup from h)
    show (getLb (giveLb (setLb ps p.1 _) r) x).getD [] = _
    rw [giveLb_get r _ h2, getLb_set]
    by_cases hp : p.1 = x
    · have hr : getLb r x = none := by
        unfold getLb
        rw [List.find?_eq_none.2 fun q hq => by
          simp only [decide_eq_true_eq]
          exact fun e => h1 (List.mem_map.2 ⟨q, hq, e.trans hp.symm⟩)]
        rfl
      rw [if_pos hp, hr]
      subst hp
      simp [getLb]
    · rw [if_neg hp]
      congr 2
      unfold getLb
      simp [hp]
/-- the chains are those of the news, epoch by epoch -/
theorem give_chR {es : List (List (L × V))} {n : List (L × V)} {ps : List (L × List V)} (hn : (n.map Prod.fst).Nodup) (h : ∀ x, (getLb ps x).getD [] = chR es x) : ∀ x, (getLb (giveLb ps n) x).getD [] = chR (es ++ [n]) x := fun x => by
  rw [giveLb_get n ps hn, h x, chR_snoc, news_one hn]
end
end Go.Proofs.YtdflndjlnkoliaaGreatDoor

namespace Go.Proofs.YtdflndjlnkoliaaGreatDoor
set_option linter.all false
/-! what is sealed -/
section
variable {H B : Type} (cm : List B → Vr H B → H) (zero : H)
/-- may a chain of a label be made longer? -/
def okG (x : List B) (l : List (Vr H B)) (e : Int) (val : List B) : Prop := (1 ≤ x.length ∧ x.length ≤ 32) ∧ fmV (cm x) 0 zero 0 l ∧ lastE 0 l < e ∧ e < 2147483648 ∧ val.length ≤ 64
def formedC (x : List B) (l : List (Vr H B)) : Prop := (1 ≤ x.length ∧ x.length ≤ 32) ∧ l ≠ [] ∧ fmV (cm x) 0 zero 0 l
def newV (salt : H) (x : List B) (l : List (Vr H B)) (e : Int) (val : List B) : Vr H B := ⟨(l.length : Int) + 1, e, salt, lastB (cm x) zero l, val⟩
def fmVD [DecidableEq H] (cm : Vr H B → H) : ∀ (i : Nat) (b : H) (e : Int) (l : List (Vr H B)), Decidable (fmV cm i b e l)
  | _, _, _, [] => isTrue trivial
  | i, b, e, v :: r => @instDecidableAnd _ _ (inferInstanceAs (Decidable (_ ∧ _ ∧ _ ∧ _ ∧ _))) (fmVD cm (i + 1) (cm v) v.ep r)
instance [DecidableEq H] (cm : Vr H B → H) (i : Nat) (b : H) (e : Int) (l : List (Vr H B)) : Decidable (fmV cm i b e l) := fmVD cm i b e l
instance [DecidableEq H] (cm : List B → Vr H B → H) (zero : H) (x : List B) (l : List (Vr H B)) (e : Int) (val : List B) : Decidable (okG cm zero x l e val) := inferInstanceAs (Decidable (_ ∧ _ ∧ _ ∧ _ ∧ _))
instance [DecidableEq H] (cm : List B → Vr H B → H) (zero : H) (x : List B) (l : List (Vr H B)) : Decidable (formedC cm zero x l) :=
  match l with
  | [] => isFalse fun h => h.2.1 rfl
  | v :: r => decidable_of_iff ((1 ≤ x.length ∧ x.length ≤ 32) ∧ fmV (cm x) 0 zero 0 (v :: r)) ⟨fun h => ⟨h.1, by simp, h.2⟩, fun h => ⟨h.1, h.2.2⟩⟩
/-- the document's condition is that the longer chain is formed -/
theorem okG_out (salt : H) {x : List B} {l : List (Vr H B)} {e : Int} {val : List B} : formedC cm zero x (l ++ [newV cm zero salt x l e val]) ↔ okG cm zero x l e val := by
  unfold formedC okG
  rw [fmV_app]
  constructor
  · rintro ⟨h1, _, h2, _, h3, h4, _, h5⟩
    exact ⟨h1, h2, h3, h4, h5⟩
  · rintro ⟨h1, h2, h3, h4, h5⟩
    exact ⟨h1, by simp, h2, by simp [newV], h3, h4, rfl, h5⟩
/-- the program's -/
theorem okG_prog {x : List B} {l : List (Vr H B)} {e : Int} {val : List B} : okG cm zero x l e val ↔ ((1 ≤ x.length ∧ x.length ≤ 32) ∧ val.length ≤ 64 ∧ 1 ≤ e ∧ e < 2147483648) ∧ (l = [] ∨ formedC cm zero x l ∧ ∀ h : l ≠ [], (l.getLast h).ep < e) := by
  unfold okG formedC
  constructor
  · rintro ⟨h1, h2, h3, h4, h5⟩
    have := fmV_le (cm x) h2
    refine ⟨⟨h1, h5, by omega, h4⟩, ?_⟩
    by_cases hl : l = []
    · exact .inl hl
    · exact .inr ⟨⟨h1, hl, h2⟩, fun h => by rw [← lastE_at 0 h]; exact h3⟩
  · rintro ⟨⟨h1, h5, h6, h4⟩, h | ⟨⟨_, hl, h2⟩, h3⟩⟩
    · subst h; exact ⟨h1, trivial, by show (0 : Int) < e; omega, h4, h5⟩
    · exact ⟨h1, h2, by rw [lastE_at 0 hl]; exact h3 hl, h4, h5⟩
/-- a longer chain is formed if the shorter one is none or formed, too -/
theorem okG_short {x : List B} {l : List (Vr H B)} {e : Int} {val : List B} (h : okG cm zero x l e val) (hl : l ≠ []) : formedC cm zero x l := ⟨h.1, hl, h.2.1⟩
end
end Go.Proofs.YtdflndjlnkoliaaGreatDoor

namespace Go.Proofs.YtdflndjlnkoliaaGreatDoor
set_option linter.all false
open Go.RowKit
def rotr (x : BitVec 32) (n : Nat) : BitVec 32 := x >>> n ||| x <<< (32 - n)
theorem rot_amt : ∀ n : Fin 32, 0 < n.1 → (BitVec.ofInt 64 (-(n.1 : Int)) &&& 31#64).toNat = 32 - n.1 ∧ (32#64 - (BitVec.ofInt 64 (-(n.1 : Int)) &&& 31#64)).toNat = n.1 := by decide
def rot_c : Ctr where
  D := BitVec 32 × Nat
  pre := fun (x, n) => 0 < n ∧ n < 32
  args := fun (x, n) => [.u32 x, .int .i64 (-(n : Int))]
  objs := fun _ => []
  nn := 0
  E := Unit
  post := fun _ _ => True
  res := fun (x, n) _ => .u32 (rotr x n)
  out := fun _ _ => []
  mm := 0
def rot_H : Cfg := ⟨[], [], [], [], 17, 0, [], [], []⟩
theorem rot_ok : rot_c.Ok Tryz.prog 182 := by
  refine fn_ok rot_H 0 rfl _ Tryz.func182 rfl rfl trivial rfl rfl (by kernel_rfl) (fun _ => Nat.le_of_ble_eq_true rfl) ?_
  rintro ⟨x, n⟩ hp hr
  try dsimp only [rot_c] at hp
  try simp only [rot_c, Rng, RngL, inR, and_true, true_and] at hr
  repeat' (first | (with_reducible refine Unf.h ?_) | ((conv => whnf); first | refine RetE.mk () trivial ?_ | refine retK_r ?_) | fail); all_goals try (conv => whnf)
  refine Side.mk ?_ (by repeat' (first | (with_reducible refine Unf.h ?_) | ((conv => whnf); exact rfl) | fail); all_goals try (conv => whnf))
  obtain ⟨h1, h2⟩ := rot_amt ⟨n, hp.2⟩ hp.1
  show SV.u32 _ = SV.u32 _
  simp only at h1 h2
  rw [rotr, BitVec.or_comm, h1, h2]
end Go.Proofs.YtdflndjlnkoliaaGreatDoor

namespace Go.Proofs.YtdflndjlnkoliaaGreatDoor
set_option linter.all false
open Go.RowKit
/-! the words of a block -/
def wpart (b : List (BitVec 8)) (j : Nat) : Nat → BitVec 32
  | 0 => 0#32
  | m + 1 => wpart b j m <<< 8 ||| (b.getD (4 * j + m) 0#8).setWidth 32
@[irreducible] def sig0 (x : BitVec 32) : BitVec 32 := rotr x 7 ^^^ rotr x 18 ^^^ x >>> 3
@[irreducible] def sig1 (x : BitVec 32) : BitVec 32 := rotr x 17 ^^^ rotr x 19 ^^^ x >>> 10
def wrd (b : List (BitVec 8)) (t : Nat) : BitVec 32 :=
  if t < 16 then wpart b t 4 else if h : 16 ≤ t then wrd b (t - 16) + sig0 (wrd b (t - 15)) + wrd b (t - 7) + sig1 (wrd b (t - 2)) else 0#32
termination_by t
theorem wrd_rec (b : List (BitVec 8)) (t : Nat) (h : 16 ≤ t) : wrd b t = wrd b (t - 16) + sig0 (wrd b (t - 15)) + wrd b (t - 7) + sig1 (wrd b (t - 2)) := by
  rw [wrd, if_neg (by omega), dif_pos h]
@[irreducible] def wUp (b : List (BitVec 8)) (t : Nat) : Vector (BitVec 32) 64 := Vector.ofFn fun i => if i.1 < t then wrd b i.1 else 0#32
@[irreducible] def wAt (b : List (BitVec 8)) (i : Nat) : Vector (BitVec 32) 64 := Vector.ofFn fun j => wpart b j.1 (min 4 (i - 4 * j.1))
theorem wAt_zero (b : List (BitVec 8)) : wAt b 0 = Vector.replicate 64 0#32 := by
  ext i hi : 1
  simp [wAt, wpart]
theorem wAt_all (b : List (BitVec 8)) : wAt b 64 = wUp b 16 := by
  ext i hi : 1
  unfold wAt wUp; simp only [Vector.getElem_ofFn]
  by_cases h : i < 16
  · rw [if_pos h, wrd, if_pos h, show min 4 (64 - 4 * i) = 4 by omega]
  · rw [if_neg h, show min 4 (64 - 4 * i) = 0 by omega]; rfl
theorem wAt_step (b : List (BitVec 8)) (i k : Nat) (hk : k < 64) (e : k = i / 4) (x : BitVec 32) (hx : x = (wAt b i)[k] <<< 8 ||| (b.getD i 0#8).setWidth 32) : (wAt b i).set k x hk = wAt b (i + 1) := by
  subst e
  ext j hj : 1
  rw [Vector.getElem_set]
  split
  · rename_i h; subst h
    rw [hx]
    simp only [wAt, Vector.getElem_ofFn]
    rw [show min 4 (i + 1 - 4 * (i / 4)) = min 4 (i - 4 * (i / 4)) + 1 by omega, wpart, show 4 * (i / 4) + min 4 (i - 4 * (i / 4)) = i by omega]
  · simp only [wAt, Vector.getElem_ofFn]
    rw [show min 4 (i + 1 - 4 * j) = min 4 (i - 4 * j) by omega]
theorem wUp_get (b : List (BitVec 8)) (t i k : Nat) (hi : i < 64) (h : i < t) (e : i = k) : (wUp b t)[i] = wrd b k := by
  subst e; simp [wUp, h]
theorem wUp_step (b : List (BitVec 8)) (t k : Nat) (hk : k < 64) (e : k = t) (x : BitVec 32) (hx : x = wrd b t) : (wUp b t).set k x hk = wUp b (t + 1) := by
  subst e hx
  ext j hj : 1
  rw [Vector.getElem_set]
  split
  · rename_i h; subst h; simp [wUp]
  · simp only [wUp, Vector.getElem_ofFn]
    by_cases h : j < k
    · rw [if_pos h, if_pos (by omega)]
    · rw [if_neg h, if_neg (by omega)]
attribute [irreducible] wpart
def sched_c : Ctr where
  D := List (BitVec 8)
  pre := fun b => 64 ≤ b.length
  args := fun b => [.fs 1 eB b]
  res := fun b _ => .agg [.arr32 (wUp b 64)]
theorem cut64 {b : List (BitVec 8)} (h : 64 ≤ b.length) : cutL b none (some 64) = b.take 64 := by simp [cutL]
def sched_H : Cfg := ⟨[(182, rot_c)], [(10, [3, 8, 14], [4, 9], (.one 0 0 false (.one 1 0 false (.one 2 0 false (.one 3 1 false (.one 5 0 false (.one 6 0 false (.one 7 0 false (.one 8 1 false (.one 11 0 false (.one 12 0 false (.one 13 0 false (.one 14 1 false (.one 15 0 false (.one 4 2 true (.one 9 2 true (.one 10 0 false (.one 16 0 false (.one 17 0 false .nil)))))))))))))))))), []), (11, [3, 8, 14], [4, 9], (.one 0 0 false (.one 1 0 false (.one 2 0 false (.one 3 1 false (.one 5 0 false (.one 6 0 false (.one 7 0 false (.one 8 1 false (.one 11 0 false (.one 12 0 false (.one 13 0 false (.one 14 1 false (.one 15 0 false (.one 4 2 true (.one 9 2 true (.one 10 0 false (.one 16 0 false (.one 17 0 false .nil)))))))))))))))))), []), (12, [4, 10], [15], (.one 0 0 false (.one 1 0 false (.one 2 0 false (.one 3 0 false (.one 4 1 false (.one 5 0 false (.one 6 0 false (.one 7 0 false (.one 8 0 false (.one 9 0 false (.one 10 1 false (.one 11 0 false (.one 12 0 false (.one 13 0 false (.one 14 0 false (.one 15 2 false .nil)))))))))))))))), [])], [], [], 83, 0, [], [], []⟩
theorem sched_ok : sched_c.Ok Tryz.prog 181 := by
  refine fn_ok sched_H 0 rfl _ Tryz.func181 rfl rfl ⟨rot_ok, trivial⟩ rfl rfl (by kernel_rfl) (fun _ => Nat.le_of_ble_eq_true rfl) ?_
  intro (b : List (BitVec 8)) hp hr
  try dsimp only [sched_c] at hp
  try simp only [sched_c, Rng, RngL, inR, and_true, true_and] at hr
  repeat' (first | (with_reducible refine Unf.h ?_) | ((conv => whnf); (refine Side.mk ?_ ?_; focus ((intros; (try simp only [lenS, inR, cutS, loI, hiI] at *); omega)))) | fail); all_goals try (conv => whnf)
  refine LoopS.auto (fun i : Nat => i ≤ 64) (fun i => [(12, .int .i64 i)]) (fun i => [(1, .box 279 [.arr32 (wAt b i)]), (0, .box 279 [.arr32 (Vector.replicate 64 0#32)])]) (fun i => 64 - i) 0 (by omega) ?_ ?_
  · repeat' (first | (with_reducible refine Unf.h ?_) | ((conv => whnf); first | (refine Side.mk ?_ ?_; focus (first | with_reducible rfl | (refine congrArg (SV.int _) ?_; omega) | (simp only [*, cutL, wAt_zero]; done))) | (with_reducible refine Unf.h ?_) | exact True.intro) | fail); all_goals try (conv => whnf)
  · intro i hi
    repeat' (first | (with_reducible first | refine Unf.h ?_ | refine loopK_n ?_) | ((conv => whnf); first | refine Fork.mk (fun h => ?_) (fun h => ?_) | (refine Side.mk ?_ ?_; focus (first | omega | (intros; (try simp only [lenS, inR, cutS, loI, hiI, cutL] at *); omega))) | (refine Idx.mk ?_ ?_; focus (omega))) | fail); all_goals try (conv => whnf)
    · have h := h
      simp [cutL] at h
      refine ⟨i + 1, ⟨by omega, by omega⟩, ?_⟩
      repeat' (first | (with_reducible refine Unf.h ?_) | ((conv => whnf); first | (refine Side.mk ?_ ?_; focus (first | with_reducible rfl | (refine congrArg (SV.int _) ?_; omega))) | (with_reducible refine Unf.h ?_)) | fail); all_goals try (conv => whnf)
      refine Side.mk (congrArg SV.arr32 (wAt_step b i _ _ (by omega) _ ?_)) (by repeat' (first | (with_reducible refine Unf.h ?_) | ((conv => whnf); first | (refine Side.mk ?_ ?_; focus (with_reducible rfl)) | exact True.intro) | fail); all_goals try (conv => whnf))
      have hi' : i < b.length := by omega
      have e : (cutL b none (some 64))[((i : Nat) : Int).toNat]'(by simp [cutL]; omega) = b.getD i 0#8 := by
        simp [cutL, List.getD_eq_getElem?_getD, hi']
      rw [e]; rfl
    have h64 : i = 64 := by simp [cutL] at h; omega
    clear h hi
    subst h64
    refine LoopS.auto (fun k : Nat => 16 ≤ k ∧ k ≤ 64) (fun k => [(6, .int .i64 k)]) (fun k => [(1, .box 279 [.arr32 (wUp b k)]), (0, .box 279 [.arr32 (Vector.replicate 64 0#32)])]) (fun k => 64 - k) 16 (by omega) ?_ ?_
    · repeat' (first | (with_reducible refine Unf.h ?_) | ((conv => whnf); first | (refine Side.mk ?_ ?_; focus (first | with_reducible rfl | (refine congrArg (SV.int _) ?_; omega) | (simp only [*, wAt_all]; done))) | (with_reducible refine Unf.h ?_) | exact True.intro) | fail); all_goals try (conv => whnf)
    · intro k hk
      repeat' (first | (with_reducible refine Unf.h ?_) | ((conv => whnf); first | refine Fork.mk (fun h => ?_) (fun h => ?_) | (refine Side.mk ?_ ?_; focus (first | omega | (intros; (try simp only [lenS, inR, cutS, loI, hiI] at *); omega))) | (refine Idx.mk ?_ ?_; focus (omega)) | refine RetE.mk () trivial ?_ | refine retK_r ?_) | fail); all_goals try (conv => whnf)
      · have g : ∀ m : Nat, 0 < m → m ≤ 16 → ∀ h : ((k : Int) - m).toNat < 64, (wUp b k)[((k : Int) - m).toNat]'h = wrd b (k - m) := fun m h1 h2 h3 => wUp_get b k _ _ h3 (by omega) (by omega)
        have g15 := g 15 (by omega) (by omega) (by omega)
        have g16 := g 16 (by omega) (by omega) (by omega)
        have g2 := g 2 (by omega) (by omega) (by omega)
        have g7 := g 7 (by omega) (by omega) (by omega)
        simp only [show ((15 : Nat) : Int) = 15 from rfl, show ((16 : Nat) : Int) = 16 from rfl, show ((2 : Nat) : Int) = 2 from rfl, show ((7 : Nat) : Int) = 7 from rfl] at g15 g16 g2 g7
        clear g
        refine CallS.mk (c := rot_c) ((wrd b (k - 15), 7)) ?_
        repeat' (first | (with_reducible refine Unf.h ?_) | ((conv => whnf); first | (refine Side.mk ?_ ?_; focus (first | (refine congrArg (SV.int _) ?_; omega) | (simp only [*]; done) | (dsimp only [resS, sched_c, rot_c]; omega))) | refine Got.mk (fun _ _ => ?_)) | fail); all_goals try (conv => whnf)
        refine CallS.mk (c := rot_c) ((wrd b (k - 15), 18)) ?_
        repeat' (first | (with_reducible refine Unf.h ?_) | ((conv => whnf); first | (refine Side.mk ?_ ?_; focus (first | omega | (refine congrArg (SV.int _) ?_; omega) | (intros; (try simp only [lenS, inR, cutS, loI, hiI] at *); omega) | (simp only [*]; done) | (dsimp only [resS, sched_c, rot_c]; omega))) | (refine Idx.mk ?_ ?_; focus (omega)) | refine Got.mk (fun _ _ => ?_)) | fail); all_goals try (conv => whnf)
        refine CallS.mk (c := rot_c) ((wrd b (k - 2), 17)) ?_
        repeat' (first | (with_reducible refine Unf.h ?_) | ((conv => whnf); first | (refine Side.mk ?_ ?_; focus (first | (refine congrArg (SV.int _) ?_; omega) | (simp only [*]; done) | (dsimp only [resS, sched_c, rot_c]; omega))) | refine Got.mk (fun _ _ => ?_)) | fail); all_goals try (conv => whnf)
        refine CallS.mk (c := rot_c) ((wrd b (k - 2), 19)) ?_
        repeat' (first | (with_reducible first | refine Unf.h ?_ | refine loopK_n ?_) | ((conv => whnf); first | (refine Side.mk ?_ ?_; focus (first | omega | (refine congrArg (SV.int _) ?_; omega) | (intros; (try simp only [lenS, inR, cutS, loI, hiI] at *); omega) | (simp only [*]; done) | (dsimp only [resS, sched_c, rot_c]; omega))) | (refine Idx.mk ?_ ?_; focus (omega)) | refine Got.mk (fun _ _ => ?_)) | fail); all_goals try (conv => whnf)
        refine ⟨k + 1, ⟨by omega, by omega, by omega⟩, ?_⟩
        repeat' (first | (with_reducible refine Unf.h ?_) | ((conv => whnf); first | (refine Side.mk ?_ ?_; focus (first | with_reducible rfl | (refine congrArg (SV.int _) ?_; omega))) | (with_reducible refine Unf.h ?_)) | fail); all_goals try (conv => whnf)
        refine Side.mk (congrArg SV.arr32 (wUp_step b k _ _ (by omega) _ ?_)) (by repeat' (first | (with_reducible refine Unf.h ?_) | ((conv => whnf); first | (refine Side.mk ?_ ?_; focus (with_reducible rfl)) | exact True.intro) | fail); all_goals try (conv => whnf))
        rw [g15, g16, g2, g7, wrd_rec b k hk.1]
        unfold sig0 sig1
        rfl
      · have e : k = 64 := by omega
        subst e
        repeat' (first | (with_reducible refine Unf.h ?_) | ((conv => whnf); first | (refine Side.mk ?_ ?_; focus (with_reducible rfl)) | exact rfl) | fail); all_goals try (conv => whnf)
end Go.Proofs.YtdflndjlnkoliaaGreatDoor

namespace Go.Proofs.YtdflndjlnkoliaaGreatDoor
set_option linter.all false
open Go.RowKit
/-! a block taken in -/
@[irreducible] def kAt (t : Nat) : BitVec 32 := if h : t < 64 then gv1[t] else 0#32
def sgA (v : BitVec 32) : BitVec 32 := rotr v 6 ^^^ rotr v 11 ^^^ rotr v 25
def sgB (v : BitVec 32) : BitVec 32 := rotr v 2 ^^^ rotr v 13 ^^^ rotr v 22
def rnX (v : Vector (BitVec 32) 8) (k w : BitVec 32) : BitVec 32 := v[7] + sgA v[4] + (v[6] ^^^ v[4] &&& (v[5] ^^^ v[6])) + k + w
def rnY (v : Vector (BitVec 32) 8) : BitVec 32 := sgB v[0] + (v[0] &&& v[1] ||| v[2] &&& (v[0] ||| v[1]))
@[irreducible] def rnd (v : Vector (BitVec 32) 8) (k w : BitVec 32) : Vector (BitVec 32) 8 := #v[rnX v k w + rnY v, v[0], v[1], v[2], v[3] + rnX v k w, v[4], v[5], v[6]]
def rnds (s : Vector (BitVec 32) 8) (b : List (BitVec 8)) : Nat → Vector (BitVec 32) 8
  | 0 => s
  | t + 1 => rnd (rnds s b t) (kAt t) (wrd b t)
@[irreducible] def addUp (s v : Vector (BitVec 32) 8) (i : Nat) : Vector (BitVec 32) 8 := Vector.ofFn fun j => if j.1 < i then s[j] + v[j] else s[j]
theorem rnds_succ (s : Vector (BitVec 32) 8) (b : List (BitVec 8)) (t : Nat) : rnds s b (t + 1) = rnd (rnds s b t) (kAt t) (wrd b t) := rfl
theorem rnds_zero (s : Vector (BitVec 32) 8) (b : List (BitVec 8)) : rnds s b 0 = s := rfl
attribute [irreducible] rnds
@[irreducible] def blk (s : Vector (BitVec 32) 8) (b : List (BitVec 8)) : Vector (BitVec 32) 8 := addUp s (rnds s b 64) 8
theorem addUp_zero (s v : Vector (BitVec 32) 8) : addUp s v 0 = s := by
  unfold addUp; ext i hi : 1; simp
theorem addUp_step (s v : Vector (BitVec 32) 8) (i k m : Nat) (hk : k < 8) (hm : m < 8) (e : k = i) (e2 : m = i) : (addUp s v i).set k ((addUp s v i)[k] + v[m]) hk = addUp s v (i + 1) := by
  subst e e2
  ext j hj : 1
  rw [Vector.getElem_set]
  unfold addUp
  split
  · rename_i h; subst h; simp
  · simp only [Vector.getElem_ofFn]
    by_cases h : j < m
    · rw [if_pos h, if_pos (by omega)]
    · rw [if_neg h, if_neg (by omega)]
def block_c : Ctr where
  D := Vector (BitVec 32) 8 × List (BitVec 8)
  pre := fun (s, b) => 64 ≤ b.length
  args := fun (s, b) => [.agg [.arr32 s], .fs 1 eB b]
  res := fun (s, b) _ => .agg [.arr32 (blk s b)]
def block_H : Cfg := ⟨[(181, sched_c), (182, rot_c)], [(6, [1, 4, 8], [2, 5, 9], (.one 0 0 false (.one 1 1 false (.one 3 0 false (.one 4 1 false (.one 7 0 false (.one 8 1 false (.one 2 2 true (.one 5 2 true (.one 6 0 false (.one 9 2 false (.one 10 0 false (.one 11 0 false .nil)))))))))))), []), (7, [1, 5, 7, 9, 11, 18, 22], [], (.one 0 0 false (.one 1 1 false (.one 2 0 false (.one 3 0 false (.one 4 0 false (.one 5 1 false (.one 6 0 false (.one 7 1 false (.one 8 0 false (.one 9 1 false (.one 10 0 false (.one 11 1 false (.one 12 0 false (.one 13 0 false (.one 14 0 false (.one 15 0 false (.one 16 0 false (.one 17 0 false (.one 18 1 false (.one 19 0 false (.one 20 0 false (.one 21 0 false (.one 22 1 false (.one 23 0 false (.one 24 0 false .nil))))))))))))))))))))))))), []), (8, [1, 4, 8], [2, 5, 9], (.one 0 0 false (.one 1 1 false (.one 3 0 false (.one 4 1 false (.one 7 0 false (.one 8 1 false (.one 2 2 true (.one 5 2 true (.one 6 0 false (.one 9 2 false (.one 10 0 false (.one 11 0 false .nil)))))))))))), []), (15, [2, 5], [8], (.one 0 0 false (.one 1 0 false (.one 2 1 false (.one 3 0 false (.one 4 0 false (.one 5 1 false (.one 6 0 false (.one 7 0 false (.one 8 2 false .nil))))))))), [])], [], [], 115, 0, [], [], []⟩
theorem block_ok : block_c.Ok Tryz.prog 154 := by
  refine fn_ok block_H 0 rfl _ Tryz.func154 rfl rfl ⟨sched_ok, rot_ok, trivial⟩ rfl rfl (by kernel_rfl) (fun _ => Nat.le_of_ble_eq_true rfl) ?_
  rintro ⟨s, b⟩ hp hr
  try dsimp only [block_c] at hp
  try simp only [block_c, Rng, RngL, inR, and_true, true_and] at hr
  repeat' (first | (with_reducible refine Unf.h ?_) | ((conv => whnf); first | (refine Side.mk ?_ ?_; focus (first | with_reducible rfl | assumption)) | refine Got.mk (fun _ _ => ?_) | refine CallS.mk (c := sched_c) (b) ?_) | fail); all_goals try (conv => whnf)
  refine LoopS.auto (fun t : Nat => t ≤ 64) (fun t => [(16, .int .i64 t)]) (fun t => [(3, .box 256 [.arr32 (rnds s b t)]), (2, .box 279 [.arr32 (wUp b 64)]), (1, .box 256 [.arr32 (Vector.replicate 8 0#32)]), (0, .box 256 [.arr32 s])]) (fun t => 64 - t) 0 (by omega) ?_ ?_
  · repeat' (first | (with_reducible refine Unf.h ?_) | ((conv => whnf); first | (refine Side.mk ?_ ?_; focus (first | with_reducible rfl | (refine congrArg (SV.int _) ?_; omega) | (simp only [*, rnds_zero]; done))) | (with_reducible refine Unf.h ?_) | exact True.intro) | fail); all_goals try (conv => whnf)
  · intro t ht
    repeat' (first | (with_reducible refine Unf.h ?_) | ((conv => whnf); first | refine Fork.mk (fun h => ?_) (fun h => ?_) | (refine Side.mk ?_ ?_; focus (omega)) | (refine Idx.mk ?_ ?_; focus (omega))) | fail); all_goals try (conv => whnf)
    · refine CallS.mk (c := rot_c) (((rnds s b t)[4], 6)) ?_
      repeat' (first | (with_reducible refine Unf.h ?_) | ((conv => whnf); first | (refine Side.mk ?_ ?_; focus (first | (refine congrArg (SV.int _) ?_; omega) | (simp [*]; done) | (dsimp only [resS, block_c, rot_c]; omega))) | refine Got.mk (fun _ _ => ?_)) | fail); all_goals try (conv => whnf)
      refine CallS.mk (c := rot_c) (((rnds s b t)[4], 11)) ?_
      repeat' (first | (with_reducible refine Unf.h ?_) | ((conv => whnf); first | (refine Side.mk ?_ ?_; focus (first | (refine congrArg (SV.int _) ?_; omega) | (simp [*]; done) | (dsimp only [resS, block_c, rot_c]; omega))) | refine Got.mk (fun _ _ => ?_)) | fail); all_goals try (conv => whnf)
      refine CallS.mk (c := rot_c) (((rnds s b t)[4], 25)) ?_
      repeat' (first | (with_reducible refine Unf.h ?_) | ((conv => whnf); first | (refine Side.mk ?_ ?_; focus (first | omega | (refine congrArg (SV.int _) ?_; omega) | (simp [*]; done) | (dsimp only [resS, block_c, rot_c]; omega))) | (refine Idx.mk ?_ ?_; focus (omega)) | refine Got.mk (fun _ _ => ?_)) | fail); all_goals try (conv => whnf)
      refine CallS.mk (c := rot_c) (((rnds s b t)[0], 2)) ?_
      repeat' (first | (with_reducible refine Unf.h ?_) | ((conv => whnf); first | (refine Side.mk ?_ ?_; focus (first | (refine congrArg (SV.int _) ?_; omega) | (simp [*]; done) | (dsimp only [resS, block_c, rot_c]; omega))) | refine Got.mk (fun _ _ => ?_)) | fail); all_goals try (conv => whnf)
      refine CallS.mk (c := rot_c) (((rnds s b t)[0], 13)) ?_
      repeat' (first | (with_reducible refine Unf.h ?_) | ((conv => whnf); first | (refine Side.mk ?_ ?_; focus (first | (refine congrArg (SV.int _) ?_; omega) | (simp [*]; done) | (dsimp only [resS, block_c, rot_c]; omega))) | refine Got.mk (fun _ _ => ?_)) | fail); all_goals try (conv => whnf)
      refine CallS.mk (c := rot_c) (((rnds s b t)[0], 22)) ?_
      repeat' (first | (with_reducible first | refine Unf.h ?_ | refine loopK_n ?_) | ((conv => whnf); first | (refine Side.mk ?_ ?_; focus (first | omega | (refine congrArg (SV.int _) ?_; omega) | (intros; (try simp only [lenS, inR, cutS, loI, hiI] at *); omega) | (simp [*]; done) | (dsimp only [resS, block_c, rot_c]; omega))) | (refine Idx.mk ?_ ?_; focus (omega)) | refine Got.mk (fun _ _ => ?_)) | fail); all_goals try (conv => whnf)
      refine ⟨t + 1, ⟨by omega, by omega⟩, ?_⟩
      repeat' (first | (with_reducible refine Unf.h ?_) | ((conv => whnf); first | (refine Side.mk ?_ ?_; focus (first | with_reducible rfl | (refine congrArg (SV.int _) ?_; omega))) | (with_reducible refine Unf.h ?_)) | fail); all_goals try (conv => whnf)
      refine Side.mk (congrArg SV.arr32 ?_) (by repeat' (first | (with_reducible refine Unf.h ?_) | ((conv => whnf); first | (refine Side.mk ?_ ?_; focus (with_reducible rfl)) | exact True.intro) | fail); all_goals try (conv => whnf))
      have e1 : gv1[((t : Nat) : Int).toNat]'(by omega) = kAt t := by
        have h' : t < 64 := by omega
        unfold kAt; rw [dif_pos h']; rfl
      have e2 : (wUp b 64)[((t : Nat) : Int).toNat]'(by omega) = wrd b t := wUp_get b 64 _ _ _ (by omega) (by omega)
      rw [rnds_succ, e1, e2]
      generalize rnds s b t = v
      unfold rnd rnX rnY sgA sgB
      rfl
    refine LoopS.auto (fun i : Nat => i ≤ 8) (fun i => [(102, .int .i64 i)]) (fun i => [(3, .box 256 [.arr32 (rnds s b 64)]), (2, .box 279 [.arr32 (wUp b 64)]), (1, .box 256 [.arr32 (Vector.replicate 8 0#32)]), (0, .box 256 [.arr32 (addUp s (rnds s b 64) i)])]) (fun i => 8 - i) 0 (by omega) ?_ ?_
    · have e : t = 64 := by omega
      subst e
      repeat' (first | (with_reducible refine Unf.h ?_) | ((conv => whnf); first | (refine Side.mk ?_ ?_; focus (first | with_reducible rfl | (refine congrArg (SV.int _) ?_; omega) | (simp only [*, addUp_zero]; done))) | (with_reducible refine Unf.h ?_) | exact True.intro) | fail); all_goals try (conv => whnf)
    · intro i hi
      repeat' (first | (with_reducible first | refine Unf.h ?_ | refine loopK_n ?_) | ((conv => whnf); first | refine Fork.mk (fun h => ?_) (fun h => ?_) | (refine Side.mk ?_ ?_; focus (first | omega | (intros; (try simp only [lenS, inR, cutS, loI, hiI] at *); omega))) | (refine Idx.mk ?_ ?_; focus (omega)) | refine RetE.mk () trivial ?_ | refine retK_r ?_) | fail); all_goals try (conv => whnf)
      · refine ⟨i + 1, ⟨by omega, by omega⟩, ?_⟩
        repeat' (first | (with_reducible refine Unf.h ?_) | ((conv => whnf); first | (refine Side.mk ?_ ?_; focus (first | with_reducible rfl | (refine congrArg (SV.int _) ?_; omega))) | (with_reducible refine Unf.h ?_)) | fail); all_goals try (conv => whnf)
        refine Side.mk (congrArg SV.arr32 (addUp_step s _ i _ _ (by omega) (by omega) (by omega) (by omega))) (by repeat' (first | (with_reducible refine Unf.h ?_) | ((conv => whnf); exact True.intro) | fail); all_goals try (conv => whnf))
      · have e : i = 8 := by omega
        subst e
        repeat' (first | (with_reducible refine Unf.h ?_) | ((conv => whnf); first | (refine Side.mk ?_ ?_; focus ((simp only [*, blk]; done))) | exact rfl) | fail); all_goals try (conv => whnf)
end Go.Proofs.YtdflndjlnkoliaaGreatDoor

namespace Go.Proofs.YtdflndjlnkoliaaGreatDoor
set_option linter.all false
open Go.RowKit
/-! the hash of a text -/
abbrev H256 := Vector (BitVec 8) 32
def folded (s : Vector (BitVec 32) 8) (l : List (BitVec 8)) : Vector (BitVec 32) 8 := if _h : 64 ≤ l.length then folded (blk s l) (l.drop 64) else s
termination_by l.length
decreasing_by rw [List.length_drop]; omega
def restOf (l : List (BitVec 8)) : List (BitVec 8) := if _h : 64 ≤ l.length then restOf (l.drop 64) else l
termination_by l.length
decreasing_by rw [List.length_drop]; omega
theorem folded_ge {s : Vector (BitVec 32) 8} {l : List (BitVec 8)} (h : 64 ≤ l.length) : folded s l = folded (blk s l) (l.drop 64) := by rw [folded, dif_pos h]
theorem folded_lt {s : Vector (BitVec 32) 8} {l : List (BitVec 8)} (h : ¬ 64 ≤ l.length) : folded s l = s := by rw [folded, dif_neg h]
theorem restOf_ge {l : List (BitVec 8)} (h : 64 ≤ l.length) : restOf l = restOf (l.drop 64) := by rw [restOf, dif_pos h]
theorem restOf_lt {l : List (BitVec 8)} (h : ¬ 64 ≤ l.length) : restOf l = l := by rw [restOf, dif_neg h]
/-- eight bytes of a number, the most significant first -/
def be8 (x : BitVec 64) : List (BitVec 8) := (List.range 8).map fun i => (x >>> (8 * (7 - i))).setWidth 8
def padT (r : List (BitVec 8)) (n : Nat) : List (BitVec 8) := r ++ [128#8] ++ List.replicate ((119 - r.length % 64) % 64) 0#8 ++ be8 (BitVec.ofNat 64 n <<< 3)
@[irreducible] def outV (s : Vector (BitVec 32) 8) (i : Nat) : H256 := Vector.ofFn fun j => if j.1 < i then (s[j.1 / 4]'(by omega) >>> (24 - 8 * (j.1 % 4))).setWidth 8 else 0#8
@[irreducible] def sha (b : List (BitVec 8)) : H256 := outV (folded gv0 (padT b b.length)) 32
/-- the tail as the program lays it -/
def tailUp (r : List (BitVec 8)) (n size : Nat) : Nat → Vector (BitVec 8) 128
  | 0 => (vput (Vector.replicate 128 0#8) 0 r).setIfInBounds r.length 128#8
  | i + 1 => (tailUp r n size i).setIfInBounds (size - 1 - i) ((BitVec.ofNat 64 n <<< 3 >>> (8 * i)).setWidth 8)
theorem tailUp_get (r : List (BitVec 8)) (n size k : Nat) (hr : r.length < 64) (hs : size = 64 ∨ size = 128) (hz : r.length + 9 ≤ size) (hk : k ≤ 8) (j : Nat) (hj : j < 128) :
    (tailUp r n size k)[j] = if j < r.length then r.getD j 0#8 else if j = r.length then 128#8 else if size - k ≤ j ∧ j < size then (BitVec.ofNat 64 n <<< 3 >>> (8 * (size - 1 - j))).setWidth 8 else 0#8 := by
  induction k with
  | zero =>
    simp only [tailUp, Vector.getElem_setIfInBounds, vput, Vector.getElem_ofFn, Vector.getElem_replicate, Nat.zero_le, true_and, Nat.sub_zero]
    by_cases h1 : r.length = j
    · subst h1; simp
    · rw [if_neg h1]
      by_cases h2 : j < r.length
      · rw [dif_pos h2, if_pos h2]; simp [List.getD_eq_getElem?_getD, h2]
      · rw [dif_neg h2, if_neg h2, if_neg (fun e => h1 e.symm), if_neg (by omega)]; simp
  | succ k ih =>
    simp only [tailUp, Vector.getElem_setIfInBounds]
    have := ih (by omega)
    by_cases h1 : size - 1 - k = j
    · rw [if_pos h1, if_neg (by omega), if_neg (by omega), if_pos (by omega)]
      rw [show size - 1 - j = k by omega]
    · rw [if_neg h1, this]
      by_cases h2 : j < r.length
      · rw [if_pos h2, if_pos h2]
      · rw [if_neg h2, if_neg h2]
        by_cases h3 : j = r.length
        · rw [if_pos h3, if_pos h3]
        · rw [if_neg h3, if_neg h3]
          by_cases h4 : size - k ≤ j ∧ j < size
          · rw [if_pos h4, if_pos (by omega)]
          · rw [if_neg h4, if_neg (by omega)]
theorem tailUp_zero (r : List (BitVec 8)) (n size : Nat) : tailUp r n size 0 = (vput (Vector.replicate 128 0#8) 0 r).setIfInBounds r.length 128#8 := rfl
theorem tailUp_succ (r : List (BitVec 8)) (n size i : Nat) : tailUp r n size (i + 1) = (tailUp r n size i).setIfInBounds (size - 1 - i) ((BitVec.ofNat 64 n <<< 3 >>> (8 * i)).setWidth 8) := rfl
attribute [irreducible] tailUp
theorem set_sib {α : Type} {n : Nat} (v : Vector α n) {i j : Nat} {x y : α} (h : i < n) (e : i = j) (exy : x = y) : v.set i x h = v.setIfInBounds j y := by
  subst e exy
  ext k hk : 1
  rw [Vector.getElem_set, Vector.getElem_setIfInBounds]
theorem padT_len (r : List (BitVec 8)) (n : Nat) (hr : r.length < 64) : (padT r n).length = if r.length < 56 then 64 else 128 := by
  simp only [padT, be8, List.length_append, List.length_replicate, List.length_map, List.length_range, List.length_cons, List.length_nil]
  split <;> omega
theorem padT_get (r : List (BitVec 8)) (n j Z : Nat) (hr : r.length < 64) (hZ : Z = if r.length < 56 then 64 else 128) (hj : j < (padT r n).length) : (padT r n)[j] = if j < r.length then r.getD j 0#8 else if j = r.length then 128#8 else if Z - 8 ≤ j then (BitVec.ofNat 64 n <<< 3 >>> (8 * (Z - 1 - j))).setWidth 8 else 0#8 := by
  have hl := padT_len r n hr
  rw [hl, ← hZ] at hj
  have hz : (119 - r.length % 64) % 64 = Z - 9 - r.length ∧ r.length + 9 ≤ Z := by split at hZ <;> omega
  clear hZ hl
  simp only [padT]
  by_cases h1 : j < r.length
  · rw [if_pos h1, List.getElem_append_left (by simp <;> omega), List.getElem_append_left (by simp <;> omega), List.getElem_append_left h1]
    simp [List.getD_eq_getElem?_getD, h1]
  · rw [if_neg h1]
    by_cases h2 : j = r.length
    · subst h2
      rw [if_pos rfl, List.getElem_append_left (by simp <;> omega), List.getElem_append_left (by simp)]; simp
    · rw [if_neg h2]
      by_cases h3 : Z - 8 ≤ j
      · rw [if_pos h3, List.getElem_append_right (by simp only [List.length_append, List.length_replicate, List.length_cons, List.length_nil]; omega)]
        simp only [be8, List.getElem_map, List.getElem_range, List.length_append, List.length_replicate, List.length_cons, List.length_nil]
        rw [show 7 - (j - (r.length + (0 + 1) + (119 - r.length % 64) % 64)) = Z - 1 - j by omega]
      · rw [if_neg h3, List.getElem_append_left (by simp only [List.length_append, List.length_replicate, List.length_cons, List.length_nil]; omega), List.getElem_append_right (by simp <;> omega)]
        simp
theorem tail_pad (r : List (BitVec 8)) (n : Nat) (hr : r.length < 64) : (tailUp r n (if r.length < 56 then 64 else 128) 8).toList.take (if r.length < 56 then 64 else 128) = padT r n := by
  have hl := padT_len r n hr
  refine List.ext_getElem (by rw [hl]; simp; split <;> omega) fun j h1 h2 => ?_
  rw [List.getElem_take, Vector.getElem_toList, tailUp_get r n _ 8 hr (by split <;> simp) (by split <;> omega) (by omega), padT_get r n j _ hr rfl h2]
  rw [hl] at h2
  simp only [h2, and_true]
/-! what a block hangs on -/
theorem wpart_congr {a b : List (BitVec 8)} (h : ∀ i, i < 64 → a.getD i 0#8 = b.getD i 0#8) (j : Nat) (hj : j < 16) : ∀ m, m ≤ 4 → wpart a j m = wpart b j m
  | 0, _ => by unfold wpart; rfl
  | m + 1, hm => by rw [wpart, wpart, wpart_congr h j hj m (by omega), h _ (by omega)]
theorem wrd_lt (b : List (BitVec 8)) (t : Nat) (h : t < 16) : wrd b t = wpart b t 4 := by rw [wrd, if_pos h]
theorem wrd_congr {a b : List (BitVec 8)} (h : ∀ i, i < 64 → a.getD i 0#8 = b.getD i 0#8) (t : Nat) : wrd a t = wrd b t := by
  induction t using Nat.strongRecOn with
  | ind t ih =>
    by_cases ht : t < 16
    · rw [wrd_lt a t ht, wrd_lt b t ht, wpart_congr h t ht 4 (by omega)]
    · rw [wrd_rec a t (by omega), wrd_rec b t (by omega), ih (t - 16) (by omega), ih (t - 15) (by omega), ih (t - 7) (by omega), ih (t - 2) (by omega)]
theorem rnds_congr {a b : List (BitVec 8)} (h : ∀ i, i < 64 → a.getD i 0#8 = b.getD i 0#8) (s : Vector (BitVec 32) 8) : ∀ t, rnds s a t = rnds s b t
  | 0 => by rw [rnds_zero, rnds_zero]
  | t + 1 => by rw [rnds_succ, rnds_succ, rnds_congr h s t, wrd_congr h]
theorem blk_congr {a b : List (BitVec 8)} (h : ∀ i, i < 64 → a.getD i 0#8 = b.getD i 0#8) (s : Vector (BitVec 32) 8) : blk s a = blk s b := by
  unfold blk; rw [rnds_congr h]
theorem blk_append (s : Vector (BitVec 32) 8) (a t : List (BitVec 8)) (h : 64 ≤ a.length) : blk s (a ++ t) = blk s a :=
  blk_congr (fun i hi => by simp [List.getD_eq_getElem?_getD, List.getElem?_append, show i < a.length by omega]) s
theorem blk_take (s : Vector (BitVec 32) 8) (a : List (BitVec 8)) (k : Nat) (h : 64 ≤ k) : blk s (a.take k) = blk s a :=
  blk_congr (fun i hi => by simp only [List.getD_eq_getElem?_getD]; rw [List.getElem?_take_of_lt (by omega)]) s
theorem folded_append (a t : List (BitVec 8)) (s : Vector (BitVec 32) 8) : folded s (a ++ t) = folded (folded s a) (restOf a ++ t) := by
  induction hn : a.length using Nat.strongRecOn generalizing a s with
  | ind n ih =>
    by_cases h : 64 ≤ a.length
    · rw [folded_ge (l := a ++ t) (by simp; omega), blk_append s a t h, List.drop_append_of_le_length h, ih (a.drop 64).length (by simp; omega) _ _ rfl, ← folded_ge h, ← restOf_ge h]
    · rw [folded_lt (l := a) h, restOf_lt h]
theorem restOf_len (a : List (BitVec 8)) : (restOf a).length = a.length % 64 := by
  induction hn : a.length using Nat.strongRecOn generalizing a with
  | ind n ih =>
    by_cases h : 64 ≤ a.length
    · rw [restOf_ge h, ih (a.drop 64).length (by simp; omega) _ rfl, List.length_drop]; omega
    · rw [restOf_lt h]; omega
theorem padT_rest (b : List (BitVec 8)) (s : Vector (BitVec 32) 8) : folded s (padT b b.length) = folded (folded s b) (padT (restOf b) b.length) := by
  have h := restOf_len b
  unfold padT
  rw [List.append_assoc, List.append_assoc, folded_append, h]
  congr 1
  rw [List.append_assoc, List.append_assoc]
  congr 4
  omega
theorem outV_zero (s : Vector (BitVec 32) 8) : outV s 0 = Vector.replicate 32 0#8 := by
  unfold outV; ext i hi : 1; simp
theorem outV_step (s : Vector (BitVec 32) 8) (i k : Nat) (hk : k < 32) (e : k = i) (x : BitVec 8) (hx : x = (s[i / 4]'(by omega) >>> (24 - 8 * (i % 4))).setWidth 8) : (outV s i).set k x hk = outV s (i + 1) := by
  subst e
  ext j hj : 1
  rw [Vector.getElem_set]
  unfold outV
  split
  · rename_i h; subst h; simp [hx]
  · simp only [Vector.getElem_ofFn]
    by_cases h : j < k
    · rw [if_pos h, if_pos (by omega)]
    · rw [if_neg h, if_neg (by omega)]
/-- what the program reckons behind the whole blocks -/
theorem sha_tail (b r : List (BitVec 8)) (s : Vector (BitVec 32) 8) (hr : r = restOf b) (hs : s = folded gv0 b) (v : Vector (BitVec 8) 128) (hv : v = tailUp r b.length (if r.length < 56 then 64 else 128) 8) :
    sha b = outV (if r.length < 56 then blk s v.toList else blk (blk s v.toList) (v.toList.drop 64)) 32 := by
  have hl : r.length < 64 := by rw [hr, restOf_len]; omega
  have ht := tail_pad r b.length hl
  rw [← hv] at ht
  unfold sha
  congr 1
  rw [padT_rest, ← hr, ← hs, ← ht]
  have hvl : v.toList.length = 128 := by simp
  by_cases h : r.length < 56
  · rw [if_pos h, if_pos h, folded_ge (by simp), blk_take _ _ _ (by omega), folded_lt (by simp)]
  · rw [if_neg h, if_neg h, List.take_of_length_le (by omega), folded_ge (by omega), folded_ge (by simp), folded_lt (by simp)]
end Go.Proofs.YtdflndjlnkoliaaGreatDoor

namespace Go.Proofs.YtdflndjlnkoliaaGreatDoor
set_option linter.all false
open Go.RowKit
theorem cut64v (v : Vector (BitVec 8) 128) : List.drop (loI (some 64)).toNat (List.take (hiI 128 none).toNat v.toList) = v.toList.drop 64 := cut_from v 64
def sum_c : Ctr where
  D := List (BitVec 8)
  args := fun b => [.fs 1 eB b]
  res := fun b _ => .agg [.arr8 (sha b)]
def sum_H : Cfg := ⟨[(154, block_c)], [(17, [0], [2, 3], (.one 0 1 false (.one 1 0 false (.one 2 2 false (.one 3 2 false .nil)))), []), (19, [0], [2, 3], (.one 0 1 false (.one 1 0 false (.one 2 2 false (.one 3 2 false .nil)))), [])], [24, 50], [], 71, 0, [], [], []⟩
theorem sum_ok : sum_c.Ok Tryz.prog 114 := by
  refine fn_ok sum_H 0 rfl _ Tryz.func114 rfl rfl ⟨block_ok, trivial⟩ rfl rfl (by kernel_rfl) (fun _ => Nat.le_of_ble_eq_true rfl) ?_
  intro (b : List (BitVec 8)) hp hr
  try dsimp only [sum_c] at hp
  try simp only [sum_c, Rng, RngL, inR, and_true, true_and] at hr
  repeat' (first | (with_reducible refine Unf.h ?_) | fail); all_goals try (conv => whnf)
  refine LoopS.auto (I := Vector (BitVec 32) 8 × List (BitVec 8)) (fun p => folded p.1 p.2 = folded gv0 b ∧ restOf p.2 = restOf b ∧ p.2.length ≤ b.length) (fun p => [(0, .fs 1 eB p.2)]) (fun p => [(1, .box 256 [.arr32 p.1]), (0, .box 30 [.arr8 (Vector.replicate 32 0#8)])]) (fun p => p.2.length) (gv0, b) ⟨rfl, rfl, Nat.le_refl _⟩ ?_ ?_
  · repeat' (first | (with_reducible refine Unf.h ?_) | ((conv => whnf); first | (refine Side.mk ?_ ?_; focus (with_reducible rfl)) | (with_reducible refine Unf.h ?_) | exact True.intro) | fail); all_goals try (conv => whnf)
  · intro p hq
    repeat' (first | (with_reducible first | refine Unf.h ?_ | refine loopK_n ?_) | ((conv => whnf); first | refine Fork.mk (fun h => ?_) (fun h => ?_) | (refine Side.mk ?_ ?_; focus (first | with_reducible rfl | (intros; (try simp only [lenS, inR, cutS, loI, hiI] at *); omega) | (dsimp only [resS, sum_c, block_c]; omega))) | refine Got.mk (fun _ _ => ?_) | refine CallS.mk (c := block_c) (p) ?_) | fail); all_goals try (conv => whnf)
    · have hl : 64 ≤ p.2.length := by omega
      refine ⟨(blk p.1 p.2, p.2.drop 64), ⟨by simp only [List.length_drop]; omega, ?_, ?_, by simp only [List.length_drop]; omega⟩, ?_⟩
      · rw [← hq.1, folded_ge hl]
      · rw [← hq.2.1, restOf_ge hl]
      · repeat' (first | (with_reducible refine Unf.h ?_) | ((conv => whnf); first | (refine Side.mk ?_ ?_; focus (first | with_reducible rfl | (simp [*, cutL]; done))) | (with_reducible refine Unf.h ?_) | exact True.intro) | fail); all_goals try (conv => whnf)
    have hl : ¬ 64 ≤ p.2.length := by omega
    obtain ⟨h1, h2, h3⟩ := hq
    rw [folded_lt hl] at h1
    rw [restOf_lt hl] at h2
    refine CutS.auto (I := Nat) (fun z => z = 64 ∧ p.2.length < 56 ∨ z = 128 ∧ 56 ≤ p.2.length) (fun z => [(6, .int .i64 z)]) (fun _ => [(2, .box 258 [.arr8 (Vector.replicate 128 0#8)]), (1, .box 256 [.arr32 p.1]), (0, .box 30 [.arr8 (Vector.replicate 32 0#8)])]) 3 ?_ ?_
    · repeat' (first | (with_reducible first | refine Unf.h ?_ | refine cutK_n ?_) | ((conv => whnf); refine Fork.mk (fun h => ?_) (fun h => ?_)) | fail); all_goals try (conv => whnf)
      · refine ⟨128, by omega, ?_⟩
        repeat' (first | (with_reducible refine Unf.h ?_) | ((conv => whnf); first | (refine Side.mk ?_ ?_; focus (first | with_reducible rfl | (refine congrArg (SV.int _) ?_; omega))) | (with_reducible refine Unf.h ?_) | exact True.intro) | fail); all_goals try (conv => whnf)
      · refine ⟨64, by omega, ?_⟩
        repeat' (first | (with_reducible refine Unf.h ?_) | ((conv => whnf); first | (refine Side.mk ?_ ?_; focus (first | with_reducible rfl | (refine congrArg (SV.int _) ?_; omega))) | (with_reducible refine Unf.h ?_) | exact True.intro) | fail); all_goals try (conv => whnf)
    intro z hz
    have hr64 : p.2.length < 64 := by omega
    repeat' (first | (with_reducible refine Unf.h ?_) | ((conv => whnf); first | (refine Side.mk ?_ ?_; focus (first | exact True.intro | omega | (intros; (try simp only [lenS, inR, cutS, loI, hiI] at *); omega))) | (refine Idx.mk ?_ ?_; focus (omega)) | refine Ex.mk _ rfl ?_) | fail); all_goals try (conv => whnf)
    refine LoopS.auto (fun i : Nat => i ≤ 8) (fun i => [(31, .int .i64 i)]) (fun i => [(2, .box 258 [.arr8 (tailUp p.2 b.length z i)]), (1, .box 256 [.arr32 p.1]), (0, .box 30 [.arr8 (Vector.replicate 32 0#8)])]) (fun i => 8 - i) 0 (by omega) ?_ ?_
    · repeat' (first | (with_reducible refine Unf.h ?_) | ((conv => whnf); first | (refine Side.mk ?_ ?_; focus (first | with_reducible rfl | (refine congrArg (SV.int _) ?_; omega))) | (with_reducible refine Unf.h ?_)) | fail); all_goals try (conv => whnf)
      refine Side.mk (congrArg SV.arr8 ?_) (by repeat' (first | (with_reducible refine Unf.h ?_) | ((conv => whnf); first | (refine Side.mk ?_ ?_; focus (with_reducible rfl)) | exact True.intro) | fail); all_goals try (conv => whnf))
      rw [tailUp_zero]
      refine (set_sib (j := p.2.length) (y := 128#8) _ _ (by omega) rfl).trans ?_
      simp only [loI, hiI, List.take_of_length_le (show p.2.length ≤ (((128 : Nat) : Int)).toNat - (0 : Int).toNat by omega)]
      rfl
    · intro i hi
      repeat' (first | (with_reducible first | refine Unf.h ?_ | refine loopK_n ?_) | ((conv => whnf); first | refine Fork.mk (fun h => ?_) (fun h => ?_) | (refine Side.mk ?_ ?_; focus (first | exact True.intro | omega | (intros; (try simp only [lenS, inR, cutS, loI, hiI] at *); omega))) | (refine Idx.mk ?_ ?_; focus (omega))) | fail); all_goals try (conv => whnf)
      · refine ⟨i + 1, ⟨by omega, by omega⟩, ?_⟩
        repeat' (first | (with_reducible refine Unf.h ?_) | ((conv => whnf); first | (refine Side.mk ?_ ?_; focus (first | with_reducible rfl | (refine congrArg (SV.int _) ?_; omega))) | (with_reducible refine Unf.h ?_)) | fail); all_goals try (conv => whnf)
        refine Side.mk (congrArg SV.arr8 ?_) (by repeat' (first | (with_reducible refine Unf.h ?_) | ((conv => whnf); first | (refine Side.mk ?_ ?_; focus (with_reducible rfl)) | exact True.intro) | fail); all_goals try (conv => whnf))
        rw [tailUp_succ]
        refine set_sib _ _ (by omega) ?_
        rw [BitVec.ofInt_natCast, show (8 * (i : Int)).toNat = 8 * i by omega]
        rfl
      have h8 : i = 8 := by omega
      subst h8
      refine CallS.mk (c := block_c) (p.1, (tailUp p.2 b.length z 8).toList) ?_
      repeat' (first | (with_reducible refine Unf.h ?_) | ((conv => whnf); first | (refine Side.mk ?_ ?_; focus (first | with_reducible rfl | (intros; (try simp only [lenS, inR, cutS, loI, hiI, cut_all] at *); omega) | (simp only [*, cut_all]; done) | (dsimp only [resS, sum_c, block_c]; ((try simp only [lenS, inR, cutS, loI, hiI, cut_all]); omega)))) | refine Got.mk (fun _ _ => ?_)) | fail); all_goals try (conv => whnf)
      refine CutS.auto (I := Vector (BitVec 32) 8) (fun v => v = if p.2.length < 56 then blk p.1 (tailUp p.2 b.length z 8).toList else blk (blk p.1 (tailUp p.2 b.length z 8).toList) ((tailUp p.2 b.length z 8).toList.drop 64)) (fun _ => []) (fun v => [(2, .fbox 258 [.arr8 (tailUp p.2 b.length z 8)]), (1, .box 256 [.arr32 v]), (0, .box 30 [.arr8 (Vector.replicate 32 0#8)])]) 3 ?_ ?_
      · repeat' (first | (with_reducible first | refine Unf.h ?_ | refine cutK_n ?_) | ((conv => whnf); first | refine Fork.mk (fun h => ?_) (fun h => ?_) | (refine Side.mk ?_ ?_; focus ((intros; (try simp only [lenS, inR, cutS, loI, hiI] at *); omega)))) | fail); all_goals try (conv => whnf)
        · refine CallS.mk (c := block_c) (blk p.1 (tailUp p.2 b.length z 8).toList, (tailUp p.2 b.length z 8).toList.drop 64) ?_
          repeat' (first | (with_reducible first | refine Unf.h ?_ | refine cutK_n ?_) | ((conv => whnf); first | (refine Side.mk ?_ ?_; focus (first | with_reducible rfl | (intros; (try simp only [lenS, inR, cutS, loI, hiI, cut64v] at *); omega) | (simp only [*, cut64v]; done) | (dsimp only [resS, sum_c, block_c]; ((try simp only [lenS, inR, cutS, loI, hiI, cut64v]); omega)))) | refine Got.mk (fun _ _ => ?_)) | fail); all_goals try (conv => whnf)
          refine ⟨blk (blk p.1 (tailUp p.2 b.length z 8).toList) ((tailUp p.2 b.length z 8).toList.drop 64), (if_neg (by omega)).symm, ?_⟩
          repeat' (first | (with_reducible refine Unf.h ?_) | ((conv => whnf); first | (refine Side.mk ?_ ?_; focus (with_reducible rfl)) | (with_reducible refine Unf.h ?_) | exact True.intro) | fail); all_goals try (conv => whnf)
        · refine ⟨blk p.1 (tailUp p.2 b.length z 8).toList, (if_pos (by omega)).symm, ?_⟩
          repeat' (first | (with_reducible refine Unf.h ?_) | ((conv => whnf); first | (refine Side.mk ?_ ?_; focus (with_reducible rfl)) | (with_reducible refine Unf.h ?_) | exact True.intro) | fail); all_goals try (conv => whnf)
      · intro v hv
        repeat' (first | (with_reducible refine Unf.h ?_) | fail); all_goals try (conv => whnf)
        refine LoopS.auto (fun i : Nat => i ≤ 32) (fun i => [(54, .int .i64 i)]) (fun i => [(3, .box 30 [.arr8 (outV v i)]), (1, .box 256 [.arr32 v]), (0, .box 30 [.arr8 (Vector.replicate 32 0#8)])]) (fun i => 32 - i) 0 (by omega) ?_ ?_
        · repeat' (first | (with_reducible refine Unf.h ?_) | ((conv => whnf); first | (refine Side.mk ?_ ?_; focus (first | with_reducible rfl | (refine congrArg (SV.int _) ?_; omega) | (simp only [*, outV_zero]; done))) | (with_reducible refine Unf.h ?_) | exact True.intro) | fail); all_goals try (conv => whnf)
        · intro i hi
          repeat' (first | (with_reducible first | refine Unf.h ?_ | refine loopK_n ?_) | ((conv => whnf); first | refine Fork.mk (fun h => ?_) (fun h => ?_) | (refine Side.mk ?_ ?_; focus (first | omega | (intros; (try simp only [lenS, inR, cutS, loI, hiI] at *); omega))) | (refine Idx.mk ?_ ?_; focus (omega)) | refine RetE.mk () trivial ?_ | refine retK_r ?_) | fail); all_goals try (conv => whnf)
          · refine ⟨i + 1, ⟨by omega, by omega⟩, ?_⟩
            repeat' (first | (with_reducible refine Unf.h ?_) | ((conv => whnf); first | (refine Side.mk ?_ ?_; focus (first | with_reducible rfl | (refine congrArg (SV.int _) ?_; omega))) | (with_reducible refine Unf.h ?_)) | fail); all_goals try (conv => whnf)
            refine Side.mk (congrArg SV.arr8 (outV_step v i _ (by omega) (by omega) _ ?_)) (by repeat' (first | (with_reducible refine Unf.h ?_) | ((conv => whnf); first | (refine Side.mk ?_ ?_; focus (with_reducible rfl)) | exact True.intro) | fail); all_goals try (conv => whnf))
            have e1 : ((i : Nat) : Int) / 4 = ((i / 4 : Nat) : Int) := by omega
            have e2 : ((24 : Int) - 8 * (((i : Nat) : Int) % 4)).toNat = 24 - 8 * (i % 4) := by omega
            simp only [e1, e2, Int.toNat_natCast]
          · have e : i = 32 := by omega
            subst e
            have hz' : z = if p.2.length < 56 then 64 else 128 := by split <;> omega
            have hs := sha_tail b p.2 p.1 h2 h1 (tailUp p.2 b.length z 8) (by rw [← hz'])
            rw [← hv] at hs
            rw [← hs]
            repeat' (first | (with_reducible refine Unf.h ?_) | ((conv => whnf); first | (refine Side.mk ?_ ?_; focus (with_reducible rfl)) | exact rfl) | fail); all_goals try (conv => whnf)
end Go.Proofs.YtdflndjlnkoliaaGreatDoor

namespace Go.Proofs.YtdflndjlnkoliaaGreatDoor
set_option linter.all false
open Go.RowKit
/-! the document's numbers -/
def numA (x : BitVec 64) (n : Nat) : List (BitVec 8) := (List.range n).map fun i => (x >>> (8 * i)).setWidth 8
def beN (n : Nat) (x : BitVec 64) : List (BitVec 8) := (List.range n).map fun i => (x >>> (8 * (n - 1 - i))).setWidth 8
theorem be8_eq (x : BitVec 64) : be8 x = beN 8 x := rfl
theorem numA_zero (x : BitVec 64) : numA x 0 = [] := rfl
theorem numA_succ (x : BitVec 64) (n : Nat) : numA x n ++ [(x >>> (8 * n)).setWidth 8] = numA x (n + 1) := by simp [numA, List.range_succ]
theorem numA_len (x : BitVec 64) (n : Nat) : (numA x n).length = n := by simp [numA]
theorem beN_len (x : BitVec 64) (n : Nat) : (beN n x).length = n := by simp [beN]
theorem div256 (x : BitVec 64) : x / 256#64 = x >>> 8 := by
  apply BitVec.eq_of_toNat_eq; simp [BitVec.toNat_udiv, Nat.shiftRight_eq_div_pow]
theorem mod256 (x : BitVec 64) : (x % 256#64).setWidth 8 = x.setWidth 8 := by
  apply BitVec.eq_of_toNat_eq; simp [BitVec.toNat_umod]
/-- the last ones of what is to be turned, turned -/
def beUp (x : BitVec 64) (n k : Nat) : List (BitVec 8) := (List.range k).map fun i => (x >>> (8 * (n - 1 - i))).setWidth 8
theorem beUp_zero (x : BitVec 64) (n : Nat) : beUp x n 0 = [] := rfl
theorem beUp_all (x : BitVec 64) (n : Nat) : beUp x n n = beN n x := rfl
theorem beUp_len (x : BitVec 64) (n k : Nat) : (beUp x n k).length = k := by simp [beUp]
theorem beUp_succ (x : BitVec 64) (n k : Nat) : beUp x n k ++ [(x >>> (8 * (n - 1 - k))).setWidth 8] = beUp x n (k + 1) := by simp [beUp, List.range_succ]
theorem shr_shr (x : BitVec 64) (i : Nat) : x >>> (8 * i) >>> 8 = x >>> (8 * (i + 1)) := by rw [← BitVec.shiftRight_add]; rfl
def number_c : Ctr where
  D := BitVec 64 × Nat
  pre := fun (_, n) => n ≤ 1000
  args := fun (x, n) => [.u64 x, .int .i64 n]
  res := fun _ _ => .own 0
  out := fun (x, n) _ => [(0, .row 5 1 eB (beN n x))]
  mm := 1
def number_H : Cfg := ⟨[], [], [], [], 36, 0, [], [], []⟩
theorem number_ok : number_c.Ok Tryz.prog 77 := by
  refine fn_ok number_H 0 rfl _ Tryz.func77 rfl rfl trivial rfl rfl (by kernel_rfl) (fun _ => Nat.le_of_ble_eq_true rfl) ?_
  rintro ⟨x, n⟩ hp hr
  try dsimp only [number_c] at hp
  try simp only [number_c, Rng, RngL, inR, and_true, true_and] at hr
  repeat' (first | (with_reducible refine Unf.h ?_) | fail); all_goals try (conv => whnf)
  refine LoopS.autoN (fun i : Nat => i ≤ n) (fun i => [(7, .int .i64 i), (5, .own 0), (0, .u64 (x >>> (8 * i)))]) (fun i => [(0, .row 5 1 eB (numA x i))]) 1 (fun i => n - i) 0 (by omega) ?_ ?_
  · repeat' (first | (with_reducible refine Unf.h ?_) | ((conv => whnf); first | (refine Side.mk ?_ ?_; focus (first | with_reducible rfl | (refine congrArg (SV.int _) ?_; omega) | (simp only [*, numA_zero]; done) | (simp [*, numA_zero]; done))) | (with_reducible refine Unf.h ?_) | exact True.intro) | fail); all_goals try (conv => whnf)
  · intro i hi
    repeat' (first | (with_reducible first | refine Unf.h ?_ | refine loopK_n ?_) | ((conv => whnf); first | refine Fork.mk (fun h => ?_) (fun h => ?_) | (refine Side.mk ?_ ?_; focus (first | (intros; (try simp only [lenS, inR, cutS, loI, hiI, numA_len] at *); omega) | (simp [*, numA_len]; done))) | refine Ex.mk [_] rfl ?_) | fail); all_goals try (conv => whnf)
    · refine ⟨i + 1, ⟨by omega, by omega⟩, ?_⟩
      repeat' (first | (with_reducible refine Unf.h ?_) | ((conv => whnf); first | (refine Side.mk ?_ ?_; focus (first | with_reducible rfl | (refine congrArg (SV.int _) ?_; omega) | (simp only [*, div256, shr_shr, mod256, numA_succ]; done))) | (with_reducible refine Unf.h ?_) | exact True.intro) | fail); all_goals try (conv => whnf)
    have e : i = n := by omega
    subst e
    refine LoopS.autoN (fun k : Nat => k ≤ i) (fun k => [(8, .int .i64 ((i : Int) - 1 - k)), (5, .own 0), (6, .own 1)]) (fun k => [(0, .row 5 1 eB (numA x i)), (1, .row 5 1 eB (beUp x i k))]) 2 (fun k => i - k) 0 (by omega) ?_ ?_
    · repeat' (first | (with_reducible refine Unf.h ?_) | ((conv => whnf); first | (refine Side.mk ?_ ?_; focus (first | with_reducible rfl | (refine congrArg (SV.int _) ?_; omega) | (simp only [*, beUp_zero]; done))) | (with_reducible refine Unf.h ?_) | exact True.intro) | fail); all_goals try (conv => whnf)
    · intro k hk
      repeat' (first | (with_reducible first | refine Unf.h ?_ | refine loopK_n ?_) | ((conv => whnf); first | refine Fork.mk (fun h => ?_) (fun h => ?_) | (refine Side.mk ?_ ?_; focus ((intros; (try simp only [lenS, inR, cutS, loI, hiI, numA_len, beUp_len] at *); omega))) | (refine Idx.mk ?_ ?_; focus ((simp only [lenS, inR, cutS, loI, hiI, numA_len, beUp_len]; omega))) | refine RetE.mk () trivial ?_ | refine Ex.mk [_] rfl ?_ | refine retK_r ?_) | fail); all_goals try (conv => whnf)
      · refine ⟨k + 1, ⟨by omega, by omega⟩, ?_⟩
        repeat' (first | (with_reducible refine Unf.h ?_) | ((conv => whnf); first | (refine Side.mk ?_ ?_; focus (first | with_reducible rfl | (refine congrArg (SV.int _) ?_; omega))) | (with_reducible refine Unf.h ?_)) | fail); all_goals try (conv => whnf)
        refine Side.mk (congrArg (SO.row _ _ _) ?_) (by repeat' (first | (with_reducible refine Unf.h ?_) | ((conv => whnf); exact True.intro) | fail); all_goals try (conv => whnf))
        rw [← beUp_succ]
        congr 2
        have e : ((i : Int) - 1 - k).toNat = i - 1 - k := by omega
        simp only [e, numA, List.getElem_map, List.getElem_range]
      · have e : k = i := by omega
        subst e
        repeat' (first | (with_reducible refine Unf.h ?_) | ((conv => whnf); first | (refine Side.mk ?_ ?_; focus ((simp only [*, beUp_all]; done))) | exact rfl) | fail); all_goals try (conv => whnf)
end Go.Proofs.YtdflndjlnkoliaaGreatDoor

namespace Go.Proofs.YtdflndjlnkoliaaGreatDoor
set_option linter.all false
open Go.RowKit
/-! the document's hash -/
def valL (b : List (BitVec 8)) : BitVec 64 := b.foldl (fun x c => x * 256#64 + c.setWidth 64) 0#64
theorem valL_zero (b : List (BitVec 8)) : valL (b.take 0) = 0#64 := by simp [valL]
theorem valL_succ (b : List (BitVec 8)) (i : Nat) (h : i < b.length) : valL (b.take (i + 1)) = valL (b.take i) * 256#64 + (b[i]).setWidth 64 := by
  unfold valL; rw [List.take_succ_eq_append_getElem h, List.foldl_append]; rfl
def value_c : Ctr where
  D := List (BitVec 8)
  args := fun b => [.fs 1 eB b]
  res := fun b _ => .u64 (valL b)
def value_H : Cfg := ⟨[], [], [], [], 20, 0, [], [], []⟩
theorem value_ok : value_c.Ok Tryz.prog 195 := by
  refine fn_ok value_H 0 rfl _ Tryz.func195 rfl rfl trivial rfl rfl (by kernel_rfl) (fun _ => Nat.le_of_ble_eq_true rfl) ?_
  intro (b : List (BitVec 8)) hp hr
  try dsimp only [value_c] at hp
  try simp only [value_c, Rng, RngL, inR, and_true, true_and] at hr
  repeat' (first | (with_reducible refine Unf.h ?_) | fail); all_goals try (conv => whnf)
  refine LoopS.auto (fun i : Nat => i ≤ b.length) (fun i => [(4, .int .i64 i), (3, .u64 (valL (b.take i)))]) (fun i => []) (fun i => b.length - i) 0 (by omega) ?_ ?_
  · repeat' (first | (with_reducible refine Unf.h ?_) | ((conv => whnf); first | (refine Side.mk ?_ ?_; focus (first | with_reducible rfl | (refine congrArg (SV.int _) ?_; omega) | (simp only [*, valL_zero]; done))) | (with_reducible refine Unf.h ?_) | exact True.intro) | fail); all_goals try (conv => whnf)
  · intro i hi
    repeat' (first | (with_reducible first | refine Unf.h ?_ | refine loopK_n ?_) | ((conv => whnf); first | refine Fork.mk (fun h => ?_) (fun h => ?_) | (refine Side.mk ?_ ?_; focus ((intros; (try simp only [lenS, inR, cutS, loI, hiI] at *); omega))) | (refine Idx.mk ?_ ?_; focus (omega)) | refine RetE.mk () trivial ?_ | refine retK_r ?_) | fail); all_goals try (conv => whnf)
    · refine ⟨i + 1, ⟨by omega, by omega⟩, ?_⟩
      repeat' (first | (with_reducible refine Unf.h ?_) | ((conv => whnf); first | (refine Side.mk ?_ ?_; focus ((refine congrArg (SV.int _) ?_; omega))) | (with_reducible refine Unf.h ?_)) | fail); all_goals try (conv => whnf)
      refine Side.mk (congrArg SV.u64 ?_) (by repeat' (first | (with_reducible refine Unf.h ?_) | ((conv => whnf); first | (refine Side.mk ?_ ?_; focus (with_reducible rfl)) | exact True.intro) | fail); all_goals try (conv => whnf))
      rw [valL_succ b i (by omega)]; rfl
    · have e : i = b.length := by omega
      subst e
      repeat' (first | (with_reducible refine Unf.h ?_) | ((conv => whnf); first | (refine Side.mk ?_ ?_; focus ((dsimp only [resS, value_c]; (simp only [*, List.take_length]; done)))) | exact rfl) | fail); all_goals try (conv => whnf)
def turned_c : Ctr where
  D := BitVec 32 × Nat
  pre := fun (x, n) => 0 < n ∧ n < 32
  args := fun (x, n) => [.u32 x, .u32 (BitVec.ofNat 32 n)]
  res := fun (x, n) _ => .u32 (rotr x n)
theorem rot_amt2 : ∀ n : Fin 32, (BitVec.ofNat 32 n.1).toNat = n.1 ∧ (32#32 - BitVec.ofNat 32 n.1).toNat = 32 - n.1 := by decide
def turned_H : Cfg := ⟨[], [], [], [], 13, 0, [], [], []⟩
theorem turned_ok : turned_c.Ok Tryz.prog 185 := by
  refine fn_ok turned_H 0 rfl _ Tryz.func185 rfl rfl trivial rfl rfl (by kernel_rfl) (fun _ => Nat.le_of_ble_eq_true rfl) ?_
  rintro ⟨x, n⟩ hp hr
  try dsimp only [turned_c] at hp
  try simp only [turned_c, Rng, RngL, inR, and_true, true_and] at hr
  repeat' (first | (with_reducible refine Unf.h ?_) | ((conv => whnf); first | refine RetE.mk () trivial ?_ | refine retK_r ?_) | fail); all_goals try (conv => whnf)
  refine Side.mk (congrArg SV.u32 ?_) (by repeat' (first | (with_reducible refine Unf.h ?_) | ((conv => whnf); exact rfl) | fail); all_goals try (conv => whnf))
  obtain ⟨h1, h2⟩ := rot_amt2 ⟨n, hp.2⟩
  simp only at h1 h2
  rw [rotr, h1, h2]
def start_c : Ctr where
  D := Unit
  args := fun _ => []
  res := fun _ _ => .agg [.arr32 gv0]
def start_H : Cfg := ⟨[], [], [], [], 2, 0, [], [], []⟩
theorem start_ok : start_c.Ok Tryz.prog 155 := by
  refine fn_ok start_H 0 rfl _ Tryz.func155 rfl rfl trivial rfl rfl (by kernel_rfl) (fun _ => Nat.le_of_ble_eq_true rfl) ?_
  intro (_ : Unit) hp hr
  repeat' (first | (with_reducible refine Unf.h ?_) | ((conv => whnf); first | refine RetE.mk () trivial ?_ | refine retK_r ?_) | fail); all_goals try (conv => whnf)
  refine Side.mk (congrArg SV.arr32 (by kernel_rfl)) (by repeat' (first | (with_reducible refine Unf.h ?_) | ((conv => whnf); exact rfl) | fail); all_goals try (conv => whnf))
def kk_c : Ctr where
  D := Unit
  args := fun _ => []
  res := fun _ _ => .agg [.arr32 gv1]
def kk_H : Cfg := ⟨[], [], [], [], 2, 0, [], [], []⟩
theorem kk_ok : kk_c.Ok Tryz.prog 184 := by
  refine fn_ok kk_H 0 rfl _ Tryz.func184 rfl rfl trivial rfl rfl (by kernel_rfl) (fun _ => Nat.le_of_ble_eq_true rfl) ?_
  intro (_ : Unit) hp hr
  repeat' (first | (with_reducible refine Unf.h ?_) | ((conv => whnf); first | refine RetE.mk () trivial ?_ | refine retK_r ?_) | fail); all_goals try (conv => whnf)
  refine Side.mk (congrArg SV.arr32 (by kernel_rfl)) (by repeat' (first | (with_reducible refine Unf.h ?_) | ((conv => whnf); exact rfl) | fail); all_goals try (conv => whnf))
theorem shl3 (n : Nat) : 8#64 * BitVec.ofInt 64 (n : Int) = BitVec.ofNat 64 n <<< 3 := by
  rw [BitVec.ofInt_natCast]
  apply BitVec.eq_of_toNat_eq
  simp [BitVec.toNat_mul, BitVec.toNat_shiftLeft, Nat.shiftLeft_eq, Nat.mul_comm]
def padZ (b : List (BitVec 8)) (k : Nat) : List (BitVec 8) := b ++ [128#8] ++ List.replicate k 0#8
theorem padZ_len (b : List (BitVec 8)) (k : Nat) : (padZ b k).length = b.length + 1 + k := by simp [padZ]; omega
theorem padZ_zero (b : List (BitVec 8)) : padZ b 0 = b ++ [128#8] := by simp [padZ]
theorem padZ_succ (b : List (BitVec 8)) (k : Nat) : padZ b k ++ [0#8] = padZ b (k + 1) := by simp [padZ, List.replicate_succ']
def padded_c : Ctr where
  D := List (BitVec 8)
  pre := fun b => b.length ≤ 1000000000
  args := fun b => [.fs 1 eB b]
  res := fun _ _ => .own 0
  out := fun b _ => [(0, .row 5 1 eB (padT b b.length))]
  mm := 1
def padded_H : Cfg := ⟨[(77, number_c)], [], [], [], 24, 0, [], [], []⟩
theorem padded_ok : padded_c.Ok Tryz.prog 156 := by
  refine fn_ok padded_H 0 rfl _ Tryz.func156 rfl rfl ⟨number_ok, trivial⟩ rfl rfl (by kernel_rfl) (fun _ => Nat.le_of_ble_eq_true rfl) ?_
  intro (b : List (BitVec 8)) hp hr
  try dsimp only [padded_c] at hp
  try simp only [padded_c, Rng, RngL, inR, and_true, true_and] at hr
  repeat' (first | (with_reducible refine Unf.h ?_) | ((conv => whnf); first | (refine Side.mk ?_ ?_; focus ((intros; (try simp only [lenS, inR, cutS, loI, hiI] at *); omega))) | refine Ex.mk [_] rfl ?_) | fail); all_goals try (conv => whnf)
  refine LoopS.autoN (fun k : Nat => k ≤ (119 - b.length % 64) % 64) (fun k => [(3, .own 0)]) (fun k => [(0, .row 5 1 eB (padZ b k))]) 1 (fun k => (119 - b.length % 64) % 64 - k) 0 (by omega) ?_ ?_
  · repeat' (first | (with_reducible refine Unf.h ?_) | ((conv => whnf); first | (refine Side.mk ?_ ?_; focus (first | with_reducible rfl | (simp only [*, padZ_zero]; done))) | (with_reducible refine Unf.h ?_) | exact True.intro) | fail); all_goals try (conv => whnf)
  · intro k hk
    repeat' (first | (with_reducible first | refine Unf.h ?_ | refine loopK_n ?_) | ((conv => whnf); first | refine Fork.mkn (fun h => ?_) (fun h => ?_) | (refine Side.mk ?_ ?_; focus (first | omega | (intros; (try simp only [lenS, inR, cutS, loI, hiI, padZ_len] at *); omega))) | refine Ex.mk [_] rfl ?_) | fail); all_goals try (conv => whnf)
    · simp only [padZ_len] at h
      refine ⟨k + 1, ⟨by omega, by omega⟩, ?_⟩
      repeat' (first | (with_reducible refine Unf.h ?_) | ((conv => whnf); first | (refine Side.mk ?_ ?_; focus (first | with_reducible rfl | (simp only [*, padZ_succ]; done))) | (with_reducible refine Unf.h ?_) | exact True.intro) | fail); all_goals try (conv => whnf)
    · simp only [padZ_len] at h
      have e : k = (119 - b.length % 64) % 64 := by omega
      repeat' (first | (with_reducible refine Unf.h ?_) | ((conv => whnf); first | (refine Side.mk ?_ ?_; focus (first | with_reducible rfl | (refine congrArg (SV.int _) ?_; omega) | (intros; (try simp only [lenS, inR, cutS, loI, hiI, padZ_len, beN_len] at *); omega) | (dsimp only [resS, padded_c, number_c]; omega))) | refine RetE.mk () trivial ?_ | refine Got.mk (fun _ _ => ?_) | refine Ex.mk _ rfl ?_ | refine retK_r ?_ | refine CallS.mk (c := number_c) ((8#64 * BitVec.ofInt 64 (b.length : Int), 8)) ?_) | fail); all_goals try (conv => whnf)
      refine Side.mk (congrArg (SO.row _ _ _) ?_) (by repeat' (first | (with_reducible refine Unf.h ?_) | ((conv => whnf); exact rfl) | fail); all_goals try (conv => whnf))
      rw [shl3, e]; rfl
end Go.Proofs.YtdflndjlnkoliaaGreatDoor

namespace Go.Proofs.YtdflndjlnkoliaaGreatDoor
set_option linter.all false
open Go.RowKit
theorem val_step (v : BitVec 64) (c : BitVec 8) : (v * 256#64 + c.setWidth 64).setWidth 32 = (v.setWidth 32) <<< 8 ||| c.setWidth 32 := by
  apply BitVec.eq_of_toNat_eq
  have hc := c.isLt
  have hv := v.isLt
  simp only [BitVec.toNat_setWidth, BitVec.toNat_add, BitVec.toNat_mul, BitVec.toNat_ofNat, BitVec.toNat_or, BitVec.toNat_shiftLeft, Nat.shiftLeft_eq]
  have e : v.toNat % 2 ^ 32 * 2 ^ 8 % 2 ^ 32 = (v.toNat % 2 ^ 24) * 2 ^ 8 := by omega
  rw [e, Nat.mod_eq_of_lt (show c.toNat < 2 ^ 32 by omega), Nat.mod_eq_of_lt (show c.toNat < 2 ^ 64 by omega), ← Nat.shiftLeft_eq, ← Nat.shiftLeft_add_eq_or_of_lt (by omega) (v.toNat % 2 ^ 24), Nat.shiftLeft_eq]
  omega
theorem valL_snoc (l : List (BitVec 8)) (c : BitVec 8) : valL (l ++ [c]) = valL l * 256#64 + c.setWidth 64 := by simp [valL]
theorem wrd_val (b : List (BitVec 8)) (t : Nat) (ht : t < 16) (hb : 64 ≤ b.length) (l : List (BitVec 8)) (hl : l = (b.take (4 * t + 4)).drop (4 * t)) : (valL l).setWidth 32 = wrd b t := by
  rw [wrd_lt b t ht]
  have e : l = [b.getD (4 * t + 0) 0#8] ++ [b.getD (4 * t + 1) 0#8] ++ [b.getD (4 * t + 2) 0#8] ++ [b.getD (4 * t + 3) 0#8] := by
    rw [hl]
    refine List.ext_getElem (by simp; omega) fun j h1 h2 => ?_
    simp only [List.length_append, List.length_cons, List.length_nil] at h2
    rw [List.getElem_drop, List.getElem_take]
    have h3 : j = 0 ∨ j = 1 ∨ j = 2 ∨ j = 3 := by omega
    rcases h3 with rfl | rfl | rfl | rfl <;> simp [List.getD_eq_getElem?_getD, show 4 * t + 0 < b.length by omega, show 4 * t + 1 < b.length by omega, show 4 * t + 2 < b.length by omega, show 4 * t + 3 < b.length by omega, show 4 * t < b.length by omega]
  rw [e, valL_snoc, val_step, valL_snoc, val_step, valL_snoc, val_step]
  have z : (valL [b.getD (4 * t + 0) 0#8]).setWidth 32 = (0#32) <<< 8 ||| (b.getD (4 * t + 0) 0#8).setWidth 32 := by
    rw [← List.nil_append [b.getD (4 * t + 0) 0#8], valL_snoc, val_step]; simp [valL]
  rw [z]
  simp only [wpart]
theorem wUp_zero (b : List (BitVec 8)) : wUp b 0 = Vector.replicate 64 0#32 := by
  ext i hi : 1; simp [wUp]
theorem div8 (x : BitVec 32) : x / 8#32 = x >>> 3 := by
  apply BitVec.eq_of_toNat_eq; simp [BitVec.toNat_udiv, Nat.shiftRight_eq_div_pow]
theorem div1024 (x : BitVec 32) : x / 1024#32 = x >>> 10 := by
  apply BitVec.eq_of_toNat_eq; simp [BitVec.toNat_udiv, Nat.shiftRight_eq_div_pow]
def words_c : Ctr where
  D := List (BitVec 8)
  pre := fun b => 64 ≤ b.length
  args := fun b => [.fs 1 eB b]
  res := fun b _ => .agg [.arr32 (wUp b 64)]
def words_H : Cfg := ⟨[(185, turned_c), (195, value_c)], [(11, [4, 17], [6, 8, 20, 22, 29], (.one 0 0 false (.one 1 0 false (.one 2 0 false (.one 3 0 false (.one 4 1 false (.one 5 0 false (.one 7 0 false (.one 10 0 false (.one 11 0 false (.one 14 0 false (.one 15 0 false (.one 16 0 false (.one 17 1 false (.one 19 0 false (.one 21 0 false (.one 24 0 false (.one 25 0 false (.one 6 2 true (.one 8 2 true (.one 9 0 false (.one 12 0 false (.one 13 0 false (.one 18 0 false (.one 20 2 true (.one 22 2 true (.one 23 0 false (.one 26 0 false (.one 27 0 false (.one 28 0 false (.one 29 2 false .nil)))))))))))))))))))))))))))))), [])], [], [], 65, 0, [], [], []⟩
theorem words_ok : words_c.Ok Tryz.prog 183 := by
  refine fn_ok words_H 0 rfl _ Tryz.func183 rfl rfl ⟨turned_ok, value_ok, trivial⟩ rfl rfl (by kernel_rfl) (fun _ => Nat.le_of_ble_eq_true rfl) ?_
  intro (b : List (BitVec 8)) hp hr
  try dsimp only [words_c] at hp
  try simp only [words_c, Rng, RngL, inR, and_true, true_and] at hr
  repeat' (first | (with_reducible refine Unf.h ?_) | fail); all_goals try (conv => whnf)
  refine LoopS.auto (fun t : Nat => t ≤ 16) (fun t => [(4, .int .i64 t)]) (fun t => [(1, .box 279 [.arr32 (wUp b t)]), (0, .box 279 [.arr32 (Vector.replicate 64 0#32)])]) (fun t => 16 - t) 0 (by omega) ?_ ?_
  · repeat' (first | (with_reducible refine Unf.h ?_) | ((conv => whnf); first | (refine Side.mk ?_ ?_; focus (first | with_reducible rfl | (refine congrArg (SV.int _) ?_; omega) | (simp only [*, wUp_zero]; done))) | (with_reducible refine Unf.h ?_) | exact True.intro) | fail); all_goals try (conv => whnf)
  · intro t ht
    repeat' (first | (with_reducible refine Unf.h ?_) | ((conv => whnf); first | refine Fork.mk (fun h => ?_) (fun h => ?_) | (refine Side.mk ?_ ?_; focus ((intros; (try simp only [lenS, inR, cutS, loI, hiI] at *); omega)))) | fail); all_goals try (conv => whnf)
    · refine CallS.mk (c := value_c) ((cutL b (some (4 * (t : Int))) (some (4 * (t : Int) + 4)))) ?_
      repeat' (first | (with_reducible first | refine Unf.h ?_ | refine loopK_n ?_) | ((conv => whnf); first | (refine Side.mk ?_ ?_; focus (first | with_reducible rfl | exact True.intro | omega | (intros; (try simp only [lenS, inR, cutS, loI, hiI] at *); omega))) | (refine Idx.mk ?_ ?_; focus (omega)) | refine Got.mk (fun _ _ => ?_)) | fail); all_goals try (conv => whnf)
      refine ⟨t + 1, ⟨by omega, by omega⟩, ?_⟩
      repeat' (first | (with_reducible refine Unf.h ?_) | ((conv => whnf); first | (refine Side.mk ?_ ?_; focus (first | with_reducible rfl | (refine congrArg (SV.int _) ?_; omega))) | (with_reducible refine Unf.h ?_)) | fail); all_goals try (conv => whnf)
      refine Side.mk (congrArg SV.arr32 (wUp_step b t _ _ (by omega) _ ?_)) (by repeat' (first | (with_reducible refine Unf.h ?_) | ((conv => whnf); first | (refine Side.mk ?_ ?_; focus (with_reducible rfl)) | exact True.intro) | fail); all_goals try (conv => whnf))
      refine wrd_val b t (by omega) hp _ ?_
      simp only [cutL_eq, loI, hiI]
      congr 2 <;> omega
    have e : t = 16 := by omega
    subst e
    refine LoopS.auto (fun k : Nat => 16 ≤ k ∧ k ≤ 64) (fun k => [(5, .int .i64 k)]) (fun k => [(1, .box 279 [.arr32 (wUp b k)]), (0, .box 279 [.arr32 (Vector.replicate 64 0#32)])]) (fun k => 64 - k) 16 (by omega) ?_ ?_
    · repeat' (first | (with_reducible refine Unf.h ?_) | ((conv => whnf); first | (refine Side.mk ?_ ?_; focus (first | with_reducible rfl | (refine congrArg (SV.int _) ?_; omega))) | (with_reducible refine Unf.h ?_) | exact True.intro) | fail); all_goals try (conv => whnf)
    · intro k hk
      repeat' (first | (with_reducible refine Unf.h ?_) | ((conv => whnf); first | refine Fork.mk (fun h => ?_) (fun h => ?_) | (refine Side.mk ?_ ?_; focus (first | omega | (intros; (try simp only [lenS, inR, cutS, loI, hiI] at *); omega) | (simp [*]; done))) | (refine Idx.mk ?_ ?_; focus (omega)) | refine RetE.mk () trivial ?_ | refine retK_r ?_) | fail); all_goals try (conv => whnf)
      · have g : ∀ m : Nat, 0 < m → m ≤ 16 → ∀ h : ((k : Int) - m).toNat < 64, (wUp b k)[((k : Int) - m).toNat]'h = wrd b (k - m) := fun m h1 h2 h3 => wUp_get b k _ _ h3 (by omega) (by omega)
        have g15 := g 15 (by omega) (by omega) (by omega)
        have g16 := g 16 (by omega) (by omega) (by omega)
        have g2 := g 2 (by omega) (by omega) (by omega)
        have g7 := g 7 (by omega) (by omega) (by omega)
        simp only [show ((15 : Nat) : Int) = 15 from rfl, show ((16 : Nat) : Int) = 16 from rfl, show ((2 : Nat) : Int) = 2 from rfl, show ((7 : Nat) : Int) = 7 from rfl] at g15 g16 g2 g7
        clear g
        refine CallS.mk (c := turned_c) ((wrd b (k - 15), 7)) ?_
        repeat' (first | (with_reducible refine Unf.h ?_) | ((conv => whnf); first | (refine Side.mk ?_ ?_; focus (first | with_reducible rfl | (simp only [*]; done) | (dsimp only [resS, words_c, turned_c]; omega))) | refine Got.mk (fun _ _ => ?_)) | fail); all_goals try (conv => whnf)
        refine CallS.mk (c := turned_c) ((wrd b (k - 15), 18)) ?_
        repeat' (first | (with_reducible refine Unf.h ?_) | ((conv => whnf); first | (refine Side.mk ?_ ?_; focus (first | with_reducible rfl | (simp only [*]; done) | (dsimp only [resS, words_c, turned_c]; omega))) | refine Got.mk (fun _ _ => ?_)) | fail); all_goals try (conv => whnf)
        refine CallS.mk (c := turned_c) ((wrd b (k - 2), 17)) ?_
        repeat' (first | (with_reducible refine Unf.h ?_) | ((conv => whnf); first | (refine Side.mk ?_ ?_; focus (first | with_reducible rfl | (simp only [*]; done) | (dsimp only [resS, words_c, turned_c]; omega))) | refine Got.mk (fun _ _ => ?_)) | fail); all_goals try (conv => whnf)
        refine CallS.mk (c := turned_c) ((wrd b (k - 2), 19)) ?_
        repeat' (first | (with_reducible first | refine Unf.h ?_ | refine loopK_n ?_) | ((conv => whnf); first | (refine Side.mk ?_ ?_; focus (first | with_reducible rfl | omega | (intros; (try simp only [lenS, inR, cutS, loI, hiI] at *); omega) | (simp only [*]; done) | (dsimp only [resS, words_c, turned_c]; omega))) | (refine Idx.mk ?_ ?_; focus (omega)) | refine Got.mk (fun _ _ => ?_)) | fail); all_goals try (conv => whnf)
        refine ⟨k + 1, ⟨by omega, by omega, by omega⟩, ?_⟩
        repeat' (first | (with_reducible refine Unf.h ?_) | ((conv => whnf); first | (refine Side.mk ?_ ?_; focus (first | with_reducible rfl | (refine congrArg (SV.int _) ?_; omega))) | (with_reducible refine Unf.h ?_)) | fail); all_goals try (conv => whnf)
        refine Side.mk (congrArg SV.arr32 (wUp_step b k _ _ (by omega) _ ?_)) (by repeat' (first | (with_reducible refine Unf.h ?_) | ((conv => whnf); first | (refine Side.mk ?_ ?_; focus (with_reducible rfl)) | exact True.intro) | fail); all_goals try (conv => whnf))
        rw [div8, div1024, g15, g16, g2, g7, wrd_rec b k hk.1]
        unfold sig0 sig1
        rfl
      · have e : k = 64 := by omega
        subst e
        repeat' (first | (with_reducible refine Unf.h ?_) | ((conv => whnf); first | (refine Side.mk ?_ ?_; focus (with_reducible rfl)) | exact rfl) | fail); all_goals try (conv => whnf)
end Go.Proofs.YtdflndjlnkoliaaGreatDoor

namespace Go.Proofs.YtdflndjlnkoliaaGreatDoor
set_option linter.all false
open Go.RowKit
theorem pick_eq (a b c : BitVec 32) : a &&& b ||| (4294967295#32 - a) &&& c = c ^^^ a &&& (b ^^^ c) := by
  have e : 4294967295#32 - a = ~~~ a := by
    rw [← BitVec.allOnes_sub_eq_not]; rfl
  rw [e]
  ext i hi
  simp only [BitVec.getElem_or, BitVec.getElem_and, BitVec.getElem_xor, BitVec.getElem_not]
  cases a[i] <;> cases b[i] <;> cases c[i] <;> rfl
theorem two_eq (a b c : BitVec 32) : a &&& b ||| a &&& c ||| b &&& c = a &&& b ||| c &&& (a ||| b) := by
  ext i hi
  simp only [BitVec.getElem_or, BitVec.getElem_and]
  cases a[i] <;> cases b[i] <;> cases c[i] <;> rfl
theorem v8 (a b c d e f g h : BitVec 32) : ((((((((Vector.replicate 8 0#32).setIfInBounds 0 a).setIfInBounds 1 b).setIfInBounds 2 c).setIfInBounds 3 d).setIfInBounds 4 e).setIfInBounds 5 f).setIfInBounds 6 g).setIfInBounds 7 h = #v[a, b, c, d, e, f, g, h] := rfl
theorem rnd_doc (v : Vector (BitVec 32) 8) (k w : BitVec 32) : #v[v[7] + (rotr v[4] 6 ^^^ rotr v[4] 11 ^^^ rotr v[4] 25) + (v[4] &&& v[5] ||| (4294967295#32 - v[4]) &&& v[6]) + k + w + ((rotr v[0] 2 ^^^ rotr v[0] 13 ^^^ rotr v[0] 22) + (v[0] &&& v[1] ||| v[0] &&& v[2] ||| v[1] &&& v[2])), v[0], v[1], v[2], v[3] + (v[7] + (rotr v[4] 6 ^^^ rotr v[4] 11 ^^^ rotr v[4] 25) + (v[4] &&& v[5] ||| (4294967295#32 - v[4]) &&& v[6]) + k + w), v[4], v[5], v[6]] = rnd v k w := by
  unfold rnd rnX rnY sgA sgB
  rw [pick_eq, two_eq]
def take_c : Ctr where
  D := Vector (BitVec 32) 8 × List (BitVec 8)
  pre := fun (_, b) => 64 ≤ b.length
  args := fun (s, b) => [.agg [.arr32 s], .fs 1 eB b]
  res := fun (s, b) _ => .agg [.arr32 (blk s b)]
def take_H : Cfg := ⟨[(185, turned_c), (183, words_c), (184, kk_c)], [(9, [1, 3, 6, 10, 18, 22], [4, 7, 11], (.one 0 0 false (.one 1 1 false (.one 2 0 false (.one 3 1 false (.one 5 0 false (.one 6 1 false (.one 9 0 false (.one 10 1 false (.one 14 0 false (.one 16 0 false (.one 17 0 false (.one 18 1 false (.one 20 0 false (.one 21 0 false (.one 22 1 false (.one 4 2 true (.one 7 2 true (.one 8 0 false (.one 11 2 true (.one 12 0 false (.one 13 0 false (.one 15 0 false (.one 19 0 false (.one 23 0 false (.one 24 0 false .nil))))))))))))))))))))))))), []), (10, [1, 4, 8], [2, 5, 9], (.one 0 0 false (.one 1 1 false (.one 3 0 false (.one 4 1 false (.one 7 0 false (.one 8 1 false (.one 11 0 false (.one 2 2 true (.one 5 2 true (.one 6 0 false (.one 9 2 false (.one 10 0 false (.one 12 0 false (.one 13 0 false .nil)))))))))))))), []), (15, [2, 5], [8], (.one 0 0 false (.one 1 0 false (.one 2 1 false (.one 3 0 false (.one 4 0 false (.one 5 1 false (.one 6 0 false (.one 7 0 false (.one 8 2 false .nil))))))))), [])], [], [], 121, 0, [], [], []⟩
theorem take_ok : take_c.Ok Tryz.prog 157 := by
  refine fn_ok take_H 0 rfl _ Tryz.func157 rfl rfl ⟨turned_ok, words_ok, kk_ok, trivial⟩ rfl rfl (by kernel_rfl) (fun _ => Nat.le_of_ble_eq_true rfl) ?_
  rintro ⟨s, b⟩ hp hr
  try dsimp only [take_c] at hp
  try simp only [take_c, Rng, RngL, inR, and_true, true_and] at hr
  repeat' (first | (with_reducible refine Unf.h ?_) | ((conv => whnf); first | (refine Side.mk ?_ ?_; focus (first | with_reducible rfl | exact True.intro | assumption)) | refine Got.mk (fun _ _ => ?_) | refine CallS.mk (c := words_c) (b) ?_ | refine CallS.mk (c := kk_c) (()) ?_) | fail); all_goals try (conv => whnf)
  refine LoopS.auto (fun t : Nat => t ≤ 64) (fun t => [(8, .int .i64 t)]) (fun t => [(4, .box 255 [.arr32 (rnds s b t)]), (3, .box 279 [.arr32 gv1]), (2, .box 279 [.arr32 (wUp b 64)]), (1, .box 255 [.arr32 (Vector.replicate 8 0#32)]), (0, .box 255 [.arr32 s])]) (fun t => 64 - t) 0 (by omega) ?_ ?_
  · repeat' (first | (with_reducible refine Unf.h ?_) | ((conv => whnf); first | (refine Side.mk ?_ ?_; focus (first | with_reducible rfl | (refine congrArg (SV.int _) ?_; omega) | (simp only [*, rnds_zero]; done))) | (with_reducible refine Unf.h ?_) | exact True.intro) | fail); all_goals try (conv => whnf)
  · intro t ht
    repeat' (first | (with_reducible refine Unf.h ?_) | ((conv => whnf); first | refine Fork.mk (fun h => ?_) (fun h => ?_) | (refine Side.mk ?_ ?_; focus (omega)) | (refine Idx.mk ?_ ?_; focus (omega))) | fail); all_goals try (conv => whnf)
    · refine CallS.mk (c := turned_c) (((rnds s b t)[4], 6)) ?_
      repeat' (first | (with_reducible refine Unf.h ?_) | ((conv => whnf); first | (refine Side.mk ?_ ?_; focus (first | with_reducible rfl | (simp [*]; done) | (dsimp only [resS, take_c, turned_c]; omega))) | refine Got.mk (fun _ _ => ?_)) | fail); all_goals try (conv => whnf)
      refine CallS.mk (c := turned_c) (((rnds s b t)[4], 11)) ?_
      repeat' (first | (with_reducible refine Unf.h ?_) | ((conv => whnf); first | (refine Side.mk ?_ ?_; focus (first | with_reducible rfl | (simp [*]; done) | (dsimp only [resS, take_c, turned_c]; omega))) | refine Got.mk (fun _ _ => ?_)) | fail); all_goals try (conv => whnf)
      refine CallS.mk (c := turned_c) (((rnds s b t)[4], 25)) ?_
      repeat' (first | (with_reducible refine Unf.h ?_) | ((conv => whnf); first | (refine Side.mk ?_ ?_; focus (first | with_reducible rfl | omega | (simp [*]; done) | (dsimp only [resS, take_c, turned_c]; omega))) | (refine Idx.mk ?_ ?_; focus (omega)) | refine Got.mk (fun _ _ => ?_)) | fail); all_goals try (conv => whnf)
      refine CallS.mk (c := turned_c) (((rnds s b t)[0], 2)) ?_
      repeat' (first | (with_reducible refine Unf.h ?_) | ((conv => whnf); first | (refine Side.mk ?_ ?_; focus (first | with_reducible rfl | (simp [*]; done) | (dsimp only [resS, take_c, turned_c]; omega))) | refine Got.mk (fun _ _ => ?_)) | fail); all_goals try (conv => whnf)
      refine CallS.mk (c := turned_c) (((rnds s b t)[0], 13)) ?_
      repeat' (first | (with_reducible refine Unf.h ?_) | ((conv => whnf); first | (refine Side.mk ?_ ?_; focus (first | with_reducible rfl | (simp [*]; done) | (dsimp only [resS, take_c, turned_c]; omega))) | refine Got.mk (fun _ _ => ?_)) | fail); all_goals try (conv => whnf)
      refine CallS.mk (c := turned_c) (((rnds s b t)[0], 22)) ?_
      repeat' (first | (with_reducible first | refine Unf.h ?_ | refine loopK_n ?_) | ((conv => whnf); first | (refine Side.mk ?_ ?_; focus (first | with_reducible rfl | omega | (intros; (try simp only [lenS, inR, cutS, loI, hiI] at *); omega) | (simp [*]; done) | (dsimp only [resS, take_c, turned_c]; omega))) | (refine Idx.mk ?_ ?_; focus (omega)) | refine Got.mk (fun _ _ => ?_)) | fail); all_goals try (conv => whnf)
      refine ⟨t + 1, ⟨by omega, by omega⟩, ?_⟩
      repeat' (first | (with_reducible refine Unf.h ?_) | ((conv => whnf); first | (refine Side.mk ?_ ?_; focus (first | with_reducible rfl | (refine congrArg (SV.int _) ?_; omega))) | (with_reducible refine Unf.h ?_)) | fail); all_goals try (conv => whnf)
      refine Side.mk (congrArg SV.arr32 ((v8 _ _ _ _ _ _ _ _).trans ?_)) (by repeat' (first | (with_reducible refine Unf.h ?_) | ((conv => whnf); first | (refine Side.mk ?_ ?_; focus (with_reducible rfl)) | exact True.intro) | fail); all_goals try (conv => whnf))
      have e1 : gv1[((t : Nat) : Int).toNat]'(by omega) = kAt t := by
        have h' : t < 64 := by omega
        unfold kAt; rw [dif_pos h']; rfl
      have e2 : (wUp b 64)[((t : Nat) : Int).toNat]'(by omega) = wrd b t := wUp_get b 64 _ _ _ (by omega) (by omega)
      rw [rnds_succ, e1, e2]
      generalize rnds s b t = v
      exact rnd_doc v _ _
    refine LoopS.auto (fun i : Nat => i ≤ 8) (fun i => [(13, .int .i64 i)]) (fun i => [(4, .box 255 [.arr32 (rnds s b 64)]), (3, .box 279 [.arr32 gv1]), (2, .box 279 [.arr32 (wUp b 64)]), (1, .box 255 [.arr32 (Vector.replicate 8 0#32)]), (0, .box 255 [.arr32 (addUp s (rnds s b 64) i)])]) (fun i => 8 - i) 0 (by omega) ?_ ?_
    · have e : t = 64 := by omega
      subst e
      repeat' (first | (with_reducible refine Unf.h ?_) | ((conv => whnf); first | (refine Side.mk ?_ ?_; focus (first | with_reducible rfl | (refine congrArg (SV.int _) ?_; omega) | (simp only [*, addUp_zero]; done))) | (with_reducible refine Unf.h ?_) | exact True.intro) | fail); all_goals try (conv => whnf)
    · intro i hi
      repeat' (first | (with_reducible first | refine Unf.h ?_ | refine loopK_n ?_) | ((conv => whnf); first | refine Fork.mk (fun h => ?_) (fun h => ?_) | (refine Side.mk ?_ ?_; focus (first | omega | (intros; (try simp only [lenS, inR, cutS, loI, hiI] at *); omega))) | (refine Idx.mk ?_ ?_; focus (omega)) | refine RetE.mk () trivial ?_ | refine retK_r ?_) | fail); all_goals try (conv => whnf)
      · refine ⟨i + 1, ⟨by omega, by omega⟩, ?_⟩
        repeat' (first | (with_reducible refine Unf.h ?_) | ((conv => whnf); first | (refine Side.mk ?_ ?_; focus (first | with_reducible rfl | (refine congrArg (SV.int _) ?_; omega))) | (with_reducible refine Unf.h ?_)) | fail); all_goals try (conv => whnf)
        refine Side.mk (congrArg SV.arr32 (addUp_step s _ i _ _ (by omega) (by omega) (by omega) (by omega))) (by repeat' (first | (with_reducible refine Unf.h ?_) | ((conv => whnf); exact True.intro) | fail); all_goals try (conv => whnf))
      · have e : i = 8 := by omega
        subst e
        repeat' (first | (with_reducible refine Unf.h ?_) | ((conv => whnf); first | (refine Side.mk ?_ ?_; focus ((simp only [*, blk]; done))) | exact rfl) | fail); all_goals try (conv => whnf)
end Go.Proofs.YtdflndjlnkoliaaGreatDoor

namespace Go.Proofs.YtdflndjlnkoliaaGreatDoor
set_option linter.all false
open Go.RowKit
theorem padT_mod (b : List (BitVec 8)) : 64 ∣ (padT b b.length).length := by
  simp only [padT, be8, List.length_append, List.length_replicate, List.length_map, List.length_range, List.length_cons, List.length_nil]; omega
theorem padT_le (b : List (BitVec 8)) : (padT b b.length).length ≤ b.length + 128 := by
  simp only [padT, be8, List.length_append, List.length_replicate, List.length_map, List.length_range, List.length_cons, List.length_nil]; omega
theorem sub24 : ∀ j : Fin 4, (24#32 - 8#32 * BitVec.ofInt 32 ((j.1 : Nat) : Int)).toNat = 24 - 8 * j.1 := by decide
theorem cutL_nn {α : Type} (l : List α) (a b : Int) (i k : Nat) (ha : a = i) (hb : b = k) : cutL l (some a) (some b) = (l.take k).drop i := by
  subst ha hb; simp [cutL]
def refsum_c : Ctr where
  D := List (BitVec 8)
  pre := fun b => b.length ≤ 1000000000
  args := fun b => [.fs 1 eB b]
  res := fun b _ => .agg [.arr8 (sha b)]
def refsum_H : Cfg := ⟨[(155, start_c), (156, padded_c), (157, take_c)], [(6, [0], [6, 7], (.one 0 1 false (.one 1 0 false (.one 2 0 false (.one 3 0 false (.one 4 0 false (.one 5 0 false (.one 6 2 false (.one 7 2 false .nil)))))))), [])], [], [], 42, 0, [], [], []⟩
theorem refsum_ok : refsum_c.Ok Tryz.prog 117 := by
  refine fn_ok refsum_H 0 rfl _ Tryz.func117 rfl rfl ⟨start_ok, padded_ok, take_ok, trivial⟩ rfl rfl (by kernel_rfl) (fun _ => Nat.le_of_ble_eq_true rfl) ?_
  intro (b : List (BitVec 8)) hp hr
  try dsimp only [refsum_c] at hp
  try simp only [refsum_c, Rng, RngL, inR, and_true, true_and] at hr
  repeat' (first | (with_reducible refine Unf.h ?_) | ((conv => whnf); first | (refine Side.mk ?_ ?_; focus (first | with_reducible rfl | exact True.intro | assumption)) | refine Got.mk (fun _ _ => ?_) | refine CallS.mk (c := start_c) (()) ?_ | refine CallS.mk (c := padded_c) (b) ?_) | fail); all_goals try (conv => whnf)
  refine LoopS.auto (I := Vector (BitVec 32) 8 × Nat) (fun p => 64 * p.2 ≤ (padT b b.length).length ∧ folded p.1 ((padT b b.length).drop (64 * p.2)) = folded gv0 (padT b b.length)) (fun p => [(5, .int .i64 (64 * (p.2 : Int))), (4, .fs 1 eB (padT b b.length))]) (fun p => [(1, .box 255 [.arr32 p.1]), (0, .box 30 [.arr8 (Vector.replicate 32 0#8)])]) (fun p => (padT b b.length).length - 64 * p.2) (gv0, 0) ⟨by omega, by simp⟩ ?_ ?_
  · repeat' (first | (with_reducible refine Unf.h ?_) | ((conv => whnf); first | (refine Side.mk ?_ ?_; focus (first | with_reducible rfl | (refine congrArg (SV.int _) ?_; omega))) | (with_reducible refine Unf.h ?_) | exact True.intro) | fail); all_goals try (conv => whnf)
  · intro p hq
    obtain ⟨hi, hf⟩ := hq
    have hm := padT_mod b
    have hle := padT_le b
    repeat' (first | (with_reducible refine Unf.h ?_) | ((conv => whnf); first | refine Fork.mk (fun h => ?_) (fun h => ?_) | (refine Side.mk ?_ ?_; focus ((intros; (try simp only [lenS, inR, cutS, loI, hiI] at *); omega)))) | fail); all_goals try (conv => whnf)
    · have hlt : 64 * p.2 + 64 ≤ (padT b b.length).length := by omega
      have hc := cutL_nn (padT b b.length) (64 * (p.2 : Int)) (64 * (p.2 : Int) + 64) (64 * p.2) (64 * p.2 + 64) (by omega) (by omega)
      have hcl : (cutL (padT b b.length) (some (64 * (p.2 : Int))) (some (64 * (p.2 : Int) + 64))).length = 64 := by rw [hc]; simp; omega
      refine CallS.mk (c := take_c) ((p.1, cutL (padT b b.length) (some (64 * (p.2 : Int))) (some (64 * (p.2 : Int) + 64)))) ?_
      repeat' (first | (with_reducible first | refine Unf.h ?_ | refine loopK_n ?_) | ((conv => whnf); first | (refine Side.mk ?_ ?_; focus (first | with_reducible rfl | (intros; (try simp only [lenS, inR, cutS, loI, hiI, hcl] at *); omega) | (dsimp only [resS, refsum_c, take_c]; omega))) | refine Got.mk (fun _ _ => ?_)) | fail); all_goals try (conv => whnf)
      refine ⟨(blk p.1 ((padT b b.length).drop (64 * p.2)), p.2 + 1), ⟨by omega, by omega, ?_⟩, ?_⟩
      · rw [← hf, folded_ge (l := (padT b b.length).drop (64 * p.2)) (by rw [List.length_drop]; omega), List.drop_drop]
        congr 2
      · repeat' (first | (with_reducible refine Unf.h ?_) | ((conv => whnf); first | (refine Side.mk ?_ ?_; focus (first | with_reducible rfl | (refine congrArg (SV.int _) ?_; omega))) | (with_reducible refine Unf.h ?_)) | fail); all_goals try (conv => whnf)
        refine Side.mk (congrArg SV.arr32 ?_) (by repeat' (first | (with_reducible refine Unf.h ?_) | ((conv => whnf); first | (refine Side.mk ?_ ?_; focus (with_reducible rfl)) | exact True.intro) | fail); all_goals try (conv => whnf))
        rw [hc, List.drop_take, show 64 * p.2 + 64 - 64 * p.2 = 64 by omega, blk_take _ _ _ (Nat.le_refl _)]
    · have he : 64 * p.2 = (padT b b.length).length := by omega
      rw [he, List.drop_length, folded_lt (by simp)] at hf
      refine LoopS.auto (fun i : Nat => i ≤ 32) (fun i => [(7, .int .i64 i)]) (fun i => [(3, .box 30 [.arr8 (outV p.1 i)]), (1, .box 255 [.arr32 p.1]), (0, .box 30 [.arr8 (Vector.replicate 32 0#8)])]) (fun i => 32 - i) 0 (by omega) ?_ ?_
      · repeat' (first | (with_reducible refine Unf.h ?_) | ((conv => whnf); first | (refine Side.mk ?_ ?_; focus (first | with_reducible rfl | (refine congrArg (SV.int _) ?_; omega) | (simp only [*, outV_zero]; done))) | (with_reducible refine Unf.h ?_) | exact True.intro) | fail); all_goals try (conv => whnf)
      · intro i hi
        repeat' (first | (with_reducible first | refine Unf.h ?_ | refine loopK_n ?_) | ((conv => whnf); first | refine Fork.mk (fun h => ?_) (fun h => ?_) | (refine Side.mk ?_ ?_; focus (first | omega | (intros; (try simp only [lenS, inR, cutS, loI, hiI] at *); omega))) | (refine Idx.mk ?_ ?_; focus (omega)) | refine RetE.mk () trivial ?_ | refine retK_r ?_) | fail); all_goals try (conv => whnf)
        · refine ⟨i + 1, ⟨by omega, by omega⟩, ?_⟩
          repeat' (first | (with_reducible refine Unf.h ?_) | ((conv => whnf); first | (refine Side.mk ?_ ?_; focus (first | with_reducible rfl | (refine congrArg (SV.int _) ?_; omega))) | (with_reducible refine Unf.h ?_)) | fail); all_goals try (conv => whnf)
          refine Side.mk (congrArg SV.arr8 (outV_step p.1 i _ (by omega) (by omega) _ ?_)) (by repeat' (first | (with_reducible refine Unf.h ?_) | ((conv => whnf); first | (refine Side.mk ?_ ?_; focus (with_reducible rfl)) | exact True.intro) | fail); all_goals try (conv => whnf))
          have e1 : (((i : Nat) : Int) / 4).toNat = i / 4 := by omega
          have e2 : ((i : Nat) : Int) % 4 = ((i % 4 : Nat) : Int) := by omega
          have e3 := sub24 ⟨i % 4, by omega⟩
          simp only at e3
          simp only [e1, e2, e3]
        · have e : i = 32 := by omega
          subst e
          repeat' (first | (with_reducible refine Unf.h ?_) | ((conv => whnf); first | (refine Side.mk ?_ ?_; focus ((simp only [*, sha]; done))) | exact rfl) | fail); all_goals try (conv => whnf)
end Go.Proofs.YtdflndjlnkoliaaGreatDoor

namespace Go.Proofs.YtdflndjlnkoliaaGreatDoor
set_option linter.all false
open Go.RowKit
/-! texts with tags -/
abbrev Bs := List (BitVec 8)
def eP (p : Bs) : List SV := [.fs 1 eB p]
def lenB (n : Nat) : Bs := beN 4 (BitVec.ofNat 64 n)
def part (p : Bs) : Bs := lenB p.length ++ p
def txt (tag : BitVec 8) (l : List Bs) : Bs := tag :: l.flatMap part
theorem txt_zero (tag : BitVec 8) (l : List Bs) : txt tag (l.take 0) = [tag] := by simp [txt]
theorem txt_succ (tag : BitVec 8) (l : List Bs) (i : Nat) (h : i < l.length) : txt tag (l.take (i + 1)) = txt tag (l.take i) ++ lenB l[i].length ++ l[i] := by
  unfold txt
  rw [List.take_succ_eq_append_getElem h, List.flatMap_append, List.flatMap_singleton, part, List.append_assoc, List.cons_append]
theorem lenB_len (n : Nat) : (lenB n).length = 4 := beN_len _ _
theorem flat_len (l : List Bs) (h : ∀ p ∈ l, p.length ≤ 1000000) : (l.flatMap part).length ≤ 1000004 * l.length := by
  induction l with
  | nil => simp
  | cons a r ih =>
    have := h a (by simp)
    have := ih fun p hp => h p (by simp [hp])
    rw [List.flatMap_cons, List.length_append, part, List.length_append, lenB_len, List.length_cons]; omega
theorem txt_len (tag : BitVec 8) (l : List Bs) (h : ∀ p ∈ l, p.length ≤ 1000000) (i : Nat) : (txt tag (l.take i)).length ≤ 1000004 * l.length + 1 := by
  have := flat_len (l.take i) fun p hp => h p (List.mem_of_mem_take hp)
  simp only [txt, List.length_cons]
  have : (l.take i).length ≤ l.length := by simp; omega
  omega
theorem lenB_doc (n : Nat) (h : n < 4294967296) : [((BitVec.ofInt 32 (n : Int)) >>> 24).setWidth 8, ((BitVec.ofInt 32 (n : Int)) >>> 16).setWidth 8, ((BitVec.ofInt 32 (n : Int)) >>> 8).setWidth 8, (BitVec.ofInt 32 (n : Int)).setWidth 8] = lenB n := by
  have key : ∀ k : Nat, ((BitVec.ofNat 32 n) >>> k).setWidth 8 = ((BitVec.ofNat 64 n) >>> k).setWidth 8 := fun k => by
    apply BitVec.eq_of_toNat_eq
    simp only [BitVec.toNat_setWidth, BitVec.toNat_ushiftRight, BitVec.toNat_ofNat]
    rw [Nat.mod_eq_of_lt (show n < 2 ^ 32 by omega), Nat.mod_eq_of_lt (show n < 2 ^ 64 by omega)]
  have k0 := key 0
  simp only [BitVec.ushiftRight_zero] at k0
  simp only [BitVec.ofInt_natCast, lenB, beN, List.range, List.range.loop, List.map, key, k0]
  rfl
def htext_c : Ctr where
  D := BitVec 8 × List Bs
  pre := fun (_, l) => l.length ≤ 1000 ∧ ∀ p ∈ l, p.length ≤ 1000000
  args := fun (t, l) => [.u8 t, .fs 1 eP l]
  res := fun _ _ => .own 0
  out := fun (t, l) _ => [(0, .row 5 1 eB (txt t l))]
  mm := 1
def htext_H : Cfg := ⟨[], [], [], [], 58, 0, [], [], []⟩
theorem htext_ok : htext_c.Ok Tryz.prog 141 := by
  refine fn_ok htext_H 0 rfl _ Tryz.func141 rfl rfl trivial rfl rfl (by kernel_rfl) (fun _ => Nat.le_of_ble_eq_true rfl) ?_
  rintro ⟨t, l⟩ hp hr
  try dsimp only [htext_c] at hp
  try simp only [htext_c, Rng, RngL, inR, and_true, true_and] at hr
  obtain ⟨hp1, hp2⟩ := hp
  repeat' (first | (with_reducible refine Unf.h ?_) | fail); all_goals try (conv => whnf)
  refine LoopS.auto (I := Nat × Int) (fun p => p.1 ≤ l.length ∧ 0 ≤ p.2 ∧ p.2 ≤ 1000004 * p.1 + 1) (fun p => [(14, .int .i64 p.1), (5, .int .i64 p.2)]) (fun p => []) (fun p => l.length - p.1) (0, 1) (by omega) ?_ ?_
  · repeat' (first | (with_reducible refine Unf.h ?_) | ((conv => whnf); first | (refine Side.mk ?_ ?_; focus (first | with_reducible rfl | (refine congrArg (SV.int _) ?_; omega))) | (with_reducible refine Unf.h ?_) | exact True.intro) | fail); all_goals try (conv => whnf)
  · intro p hq
    repeat' (first | (with_reducible refine Unf.h ?_) | ((conv => whnf); first | refine Fork.mk (fun h => ?_) (fun h => ?_) | (refine Side.mk ?_ ?_; focus (first | (dsimp only; omega) | (intros; (try simp only [lenS, inR, cutS, loI, hiI] at *); omega))) | (refine Idx.mk ?_ ?_; focus (omega))) | fail); all_goals try (conv => whnf)
    · have hb := hp2 _ (List.getElem_mem (show p.1 < l.length by omega))
      have hb' : (l[((p.1 : Nat) : Int).toNat]'(by omega)).length ≤ 1000000 := hb
      repeat' (first | (with_reducible first | refine Unf.h ?_ | refine loopK_n ?_) | ((conv => whnf); (refine Side.mk ?_ ?_; focus ((intros; (try simp only [lenS, inR, cutS, loI, hiI, eP] at *); omega)))) | fail); all_goals try (conv => whnf)
      refine ⟨(p.1 + 1, p.2 + (4 + ((l[((p.1 : Nat) : Int).toNat]'(by omega)).length : Int))), ⟨by omega, by omega, by omega, by omega⟩, ?_⟩
      repeat' (first | (with_reducible refine Unf.h ?_) | ((conv => whnf); first | (refine Side.mk ?_ ?_; focus (first | with_reducible rfl | (refine congrArg (SV.int _) ?_; omega))) | (with_reducible refine Unf.h ?_) | exact True.intro) | fail); all_goals try (conv => whnf)
    · refine LoopS.auto (fun i : Nat => i ≤ l.length) (fun i => [(32, .int .i64 i), (8, .own 0)]) (fun i => [(0, .row 5 1 eB (txt t (l.take i)))]) (fun i => l.length - i) 0 (by omega) ?_ ?_
      · repeat' (first | (with_reducible refine Unf.h ?_) | ((conv => whnf); first | (refine Side.mk ?_ ?_; focus (first | with_reducible rfl | (refine congrArg (SV.int _) ?_; omega) | (simp only [*, txt_zero, List.map_cons, List.map_nil, eB]; done))) | (with_reducible refine Unf.h ?_) | exact True.intro) | fail); all_goals try (conv => whnf)
      · intro i hi
        have htl := txt_len t l hp2 i
        repeat' (first | (with_reducible refine Unf.h ?_) | ((conv => whnf); first | refine Fork.mk (fun h => ?_) (fun h => ?_) | (refine Side.mk ?_ ?_; focus ((intros; (try simp only [lenS, inR, cutS, loI, hiI] at *); omega))) | (refine Idx.mk ?_ ?_; focus (omega)) | refine RetE.mk () trivial ?_ | refine Ex.mk _ rfl ?_ | refine Ex.mk [_, _, _, _] rfl ?_ | refine retK_r ?_) | fail); all_goals try (conv => whnf)
        · have hb := hp2 _ (List.getElem_mem (show i < l.length by omega))
          have hb' : (l[((i : Nat) : Int).toNat]'(by omega)).length ≤ 1000000 := hb
          repeat' (first | (with_reducible first | refine Unf.h ?_ | refine loopK_n ?_) | ((conv => whnf); (refine Side.mk ?_ ?_; focus ((intros; (try simp only [lenS, inR, cutS, loI, hiI, eP] at *); omega)))) | fail); all_goals try (conv => whnf)
          refine ⟨i + 1, ⟨by omega, by omega⟩, ?_⟩
          repeat' (first | (with_reducible refine Unf.h ?_) | ((conv => whnf); first | (refine Side.mk ?_ ?_; focus (first | with_reducible rfl | (refine congrArg (SV.int _) ?_; omega))) | (with_reducible refine Unf.h ?_)) | fail); all_goals try (conv => whnf)
          refine Side.mk (congrArg (SO.row _ _ _) ?_) (by repeat' (first | (with_reducible refine Unf.h ?_) | ((conv => whnf); exact True.intro) | fail); all_goals try (conv => whnf))
          rw [txt_succ t l i (by omega), ← lenB_doc _ (by omega)]
          rfl
        · have e : i = l.length := by omega
          subst e
          repeat' (first | (with_reducible refine Unf.h ?_) | ((conv => whnf); first | (refine Side.mk ?_ ?_; focus ((simp only [*, List.take_length]; done))) | exact rfl) | fail); all_goals try (conv => whnf)
end Go.Proofs.YtdflndjlnkoliaaGreatDoor

namespace Go.Proofs.YtdflndjlnkoliaaGreatDoor
set_option linter.all false
open Go.RowKit
def rtext_c : Ctr where
  D := BitVec 8 × List Bs
  pre := fun (_, l) => l.length ≤ 1000 ∧ ∀ p ∈ l, p.length ≤ 1000000
  args := fun (t, l) => [.u8 t, .fs 1 eP l]
  res := fun _ _ => .own 0
  out := fun (t, l) _ => [(0, .row 5 1 eB (txt t l))]
  mm := 1
def rtext_H : Cfg := ⟨[(77, number_c)], [], [], [], 31, 0, [], [], []⟩
theorem rtext_ok : rtext_c.Ok Tryz.prog 138 := by
  refine fn_ok rtext_H 0 rfl _ Tryz.func138 rfl rfl ⟨number_ok, trivial⟩ rfl rfl (by kernel_rfl) (fun _ => Nat.le_of_ble_eq_true rfl) ?_
  rintro ⟨t, l⟩ hp hr
  try dsimp only [rtext_c] at hp
  try simp only [rtext_c, Rng, RngL, inR, and_true, true_and] at hr
  obtain ⟨hp1, hp2⟩ := hp
  repeat' (first | (with_reducible refine Unf.h ?_) | fail); all_goals try (conv => whnf)
  refine LoopS.auto (fun i : Nat => i ≤ l.length) (fun i => [(6, .int .i64 i), (5, .own 0)]) (fun i => [(0, .row 5 1 eB (txt t (l.take i)))]) (fun i => l.length - i) 0 (by omega) ?_ ?_
  · repeat' (first | (with_reducible refine Unf.h ?_) | ((conv => whnf); first | (refine Side.mk ?_ ?_; focus (first | with_reducible rfl | (refine congrArg (SV.int _) ?_; omega) | (simp only [*, txt_zero, List.map_cons, List.map_nil, eB]; done))) | (with_reducible refine Unf.h ?_) | exact True.intro) | fail); all_goals try (conv => whnf)
  · intro i hi
    have htl := txt_len t l hp2 i
    repeat' (first | (with_reducible refine Unf.h ?_) | ((conv => whnf); first | refine Fork.mk (fun h => ?_) (fun h => ?_) | (refine Idx.mk ?_ ?_; focus (omega)) | refine RetE.mk () trivial ?_ | refine retK_r ?_) | fail); all_goals try (conv => whnf)
    · have hb := hp2 _ (List.getElem_mem (show i < l.length by omega))
      have hb' : (l[((i : Nat) : Int).toNat]'(by omega)).length ≤ 1000000 := hb
      all_goals try (conv => whnf)
      refine CallS.mk (c := number_c) ((BitVec.ofNat 64 (l[i]'(by omega)).length, 4)) ?_
      repeat' (first | (with_reducible first | refine Unf.h ?_ | refine loopK_n ?_) | ((conv => whnf); first | (refine Side.mk ?_ ?_; focus (first | (refine congrArg (SV.int _) ?_; omega) | (intros; (try simp only [lenS, inR, cutS, loI, hiI, eP, BitVec.ofInt_natCast, beN_len] at *); omega) | (simp [*, eP, BitVec.ofInt_natCast, beN_len]; done) | (dsimp only [resS, rtext_c, number_c]; omega))) | (refine Idx.mk ?_ ?_; focus (omega)) | refine Got.mk (fun _ _ => ?_) | refine Ex.mk _ rfl ?_) | fail); all_goals try (conv => whnf)
      refine ⟨i + 1, ⟨by omega, by omega⟩, ?_⟩
      repeat' (first | (with_reducible refine Unf.h ?_) | ((conv => whnf); first | (refine Side.mk ?_ ?_; focus (first | with_reducible rfl | (refine congrArg (SV.int _) ?_; omega))) | (with_reducible refine Unf.h ?_)) | fail); all_goals try (conv => whnf)
      refine Side.mk (congrArg (SO.row _ _ _) ?_) (by repeat' (first | (with_reducible refine Unf.h ?_) | ((conv => whnf); exact True.intro) | fail); all_goals try (conv => whnf))
      rw [txt_succ t l i (by omega)]
      rfl
    · have e : i = l.length := by omega
      subst e
      repeat' (first | (with_reducible refine Unf.h ?_) | ((conv => whnf); first | (refine Side.mk ?_ ?_; focus ((simp only [*, List.take_length]; done))) | exact rfl) | fail); all_goals try (conv => whnf)
theorem txt_small (t : BitVec 8) (l : List Bs) (h1 : l.length ≤ 900) (h2 : ∀ p ∈ l, p.length ≤ 1000000) : (txt t l).length ≤ 1000000000 := by
  have := txt_len t l h2 l.length
  rw [List.take_length] at this; omega
def htagged_c : Ctr where
  D := BitVec 8 × List Bs
  pre := fun (_, l) => l.length ≤ 900 ∧ ∀ p ∈ l, p.length ≤ 1000000
  args := fun (t, l) => [.u8 t, .fs 1 eP l]
  res := fun (t, l) _ => .agg [.arr8 (sha (txt t l))]
def htagged_H : Cfg := ⟨[(141, htext_c), (114, sum_c)], [], [], [], 9, 0, [], [], []⟩
theorem htagged_ok : htagged_c.Ok Tryz.prog 102 := by
  refine fn_ok htagged_H 0 rfl _ Tryz.func102 rfl rfl ⟨htext_ok, sum_ok, trivial⟩ rfl rfl (by kernel_rfl) (fun _ => Nat.le_of_ble_eq_true rfl) ?_
  rintro ⟨t, l⟩ hp hr
  try dsimp only [htagged_c] at hp
  try simp only [htagged_c, Rng, RngL, inR, and_true, true_and] at hr
  obtain ⟨hp1, hp2⟩ := hp
  repeat' (first | (with_reducible refine Unf.h ?_) | ((conv => whnf); first | (refine Side.mk ?_ ?_; focus (first | with_reducible rfl | exact True.intro | (dsimp only [resS, htagged_c, htext_c, sum_c]; (refine ⟨?_, ?_⟩; all_goals (repeat' apply And.intro); all_goals first | omega | assumption | (simp only [lenS, inR, cutS, loI, hiI]; omega) | (simp; done) | (simp only [*]; done) | (simp only [*, List.map_cons, List.map_nil, eB]; done) | (simp [*]; done))))) | refine RetE.mk () trivial ?_ | refine Got.mk (fun _ _ => ?_) | refine retK_r ?_ | exact rfl | refine CallS.mk (c := htext_c) ((t, l)) ?_ | refine CallS.mk (c := sum_c) (txt t l) ?_) | fail); all_goals try (conv => whnf)
def rtagged_c : Ctr where
  D := BitVec 8 × List Bs
  pre := fun (_, l) => l.length ≤ 900 ∧ ∀ p ∈ l, p.length ≤ 1000000
  args := fun (t, l) => [.u8 t, .fs 1 eP l]
  res := fun (t, l) _ => .agg [.arr8 (sha (txt t l))]
def rtagged_H : Cfg := ⟨[(138, rtext_c), (117, refsum_c)], [], [], [], 9, 0, [], [], []⟩
theorem rtagged_ok : rtagged_c.Ok Tryz.prog 96 := by
  refine fn_ok rtagged_H 0 rfl _ Tryz.func96 rfl rfl ⟨rtext_ok, refsum_ok, trivial⟩ rfl rfl (by kernel_rfl) (fun _ => Nat.le_of_ble_eq_true rfl) ?_
  rintro ⟨t, l⟩ hp hr
  try dsimp only [rtagged_c] at hp
  try simp only [rtagged_c, Rng, RngL, inR, and_true, true_and] at hr
  obtain ⟨hp1, hp2⟩ := hp
  repeat' (first | (with_reducible refine Unf.h ?_) | ((conv => whnf); first | (refine Side.mk ?_ ?_; focus (first | with_reducible rfl | (dsimp only [resS, rtagged_c, rtext_c, refsum_c]; (refine ⟨?_, ?_⟩; all_goals (repeat' apply And.intro); all_goals first | omega | assumption | (simp only [lenS, inR, cutS, loI, hiI]; omega) | (simp; done) | (simp only [*]; done) | (simp only [*, List.map_cons, List.map_nil, eB]; done) | (simp [*]; done))))) | refine Got.mk (fun _ _ => ?_) | refine CallS.mk (c := rtext_c) ((t, l)) ?_ | refine CallS.mk (c := refsum_c) (txt t l) ?_) | fail); all_goals try (conv => whnf)
  refine Side.mk (txt_small _ _ hp1 hp2) ?_
  repeat' (first | (with_reducible refine Unf.h ?_) | ((conv => whnf); first | (refine Side.mk ?_ ?_; focus (with_reducible rfl)) | refine RetE.mk () trivial ?_ | refine Got.mk (fun _ _ => ?_) | refine retK_r ?_ | exact rfl) | fail); all_goals try (conv => whnf)
def emptyH : H256 := sha (txt 101#8 [])
def hempty_c : Ctr where
  D := Unit
  args := fun _ => []
  res := fun _ _ => .agg [.arr8 emptyH]
def hempty_H : Cfg := ⟨[(102, htagged_c)], [], [], [], 2, 0, [], [], []⟩
theorem hempty_ok : hempty_c.Ok Tryz.prog 129 := by
  refine fn_ok hempty_H 0 rfl _ Tryz.func129 rfl rfl ⟨htagged_ok, trivial⟩ rfl rfl (by kernel_rfl) (fun _ => Nat.le_of_ble_eq_true rfl) ?_
  intro (_ : Unit) hp hr
  repeat' (first | (with_reducible refine Unf.h ?_) | ((conv => whnf); first | (refine Side.mk ?_ ?_; focus (first | with_reducible rfl | (simp only [*, emptyH]; done) | (dsimp only [resS, rtagged_c, htagged_c]; (refine ⟨?_, ?_⟩; all_goals (repeat' apply And.intro); all_goals first | omega | assumption | (simp only [lenS, inR, cutS, loI, hiI, emptyH]; omega) | (simp; done) | (simp only [*, emptyH]; done) | (simp only [*, emptyH, List.map_cons, List.map_nil, eB]; done) | (simp [*, emptyH]; done))))) | refine RetE.mk () trivial ?_ | refine Got.mk (fun _ _ => ?_) | refine retK_r ?_ | exact rfl | refine CallS.mk (c := htagged_c) ((101#8, [])) ?_) | fail); all_goals try (conv => whnf)
def rempty_c : Ctr where
  D := Unit
  args := fun _ => []
  res := fun _ _ => .agg [.arr8 emptyH]
def rempty_H : Cfg := ⟨[(96, rtagged_c)], [], [], [], 2, 0, [], [], []⟩
theorem rempty_ok : rempty_c.Ok Tryz.prog 119 := by
  refine fn_ok rempty_H 0 rfl _ Tryz.func119 rfl rfl ⟨rtagged_ok, trivial⟩ rfl rfl (by kernel_rfl) (fun _ => Nat.le_of_ble_eq_true rfl) ?_
  intro (_ : Unit) hp hr
  repeat' (first | (with_reducible refine Unf.h ?_) | ((conv => whnf); first | (refine Side.mk ?_ ?_; focus (first | with_reducible rfl | (simp only [*, emptyH]; done) | (dsimp only [resS, rtagged_c, rtagged_c]; (refine ⟨?_, ?_⟩; all_goals (repeat' apply And.intro); all_goals first | omega | assumption | (simp only [lenS, inR, cutS, loI, hiI, emptyH]; omega) | (simp; done) | (simp only [*, emptyH]; done) | (simp only [*, emptyH, List.map_cons, List.map_nil, eB]; done) | (simp [*, emptyH]; done))))) | refine RetE.mk () trivial ?_ | refine Got.mk (fun _ _ => ?_) | refine retK_r ?_ | exact rfl | refine CallS.mk (c := rtagged_c) ((101#8, [])) ?_) | fail); all_goals try (conv => whnf)
end Go.Proofs.YtdflndjlnkoliaaGreatDoor

namespace Go.Proofs.YtdflndjlnkoliaaGreatDoor
set_option linter.all false
open Go.RowKit
/-! nodes, and their texts -/
structure Nd where
  leaf : Bool
  key : H256
  value : H256
  plen : Int
  bits : H256
  left : Int
  right : Int
  hash : H256
def eNd (n : Nd) : List SV := [.bool n.leaf, .arr8 n.key, .arr8 n.value, .int .i64 n.plen, .arr8 n.bits, .int .i64 n.left, .int .i64 n.right, .arr8 n.hash]
def leafT (k v : H256) : Bs := txt 108#8 [k.toList, v.toList]
def innerT (len : Int) (bits l r : H256) : Bs := txt 110#8 [[BitVec.ofInt 8 (len / 2 ^ 8), BitVec.ofInt 8 len], bits.toList, l.toList, r.toList]
def ndT (n : Nd) (l r : H256) : Bs := if n.leaf then leafT n.key n.value else innerT n.plen n.bits l r
theorem leafT_len (k v : H256) : (leafT k v).length ≤ 1000000000 := txt_small _ _ (by simp) (by simp)
theorem innerT_len (n : Int) (b l r : H256) : (innerT n b l r).length ≤ 1000000000 := txt_small _ _ (by simp) (by simp)
theorem ndT_len (n : Nd) (l r : H256) : (ndT n l r).length ≤ 1000000000 := by
  unfold ndT; split
  · exact leafT_len _ _
  · exact innerT_len _ _ _ _
theorem cutv {n : Nat} (v : Vector (BitVec 8) n) : cutL v.toList none none = v.toList := by simp [cutL]
theorem cutv2 {α : Type} {n : Nat} (v : Vector α n) : List.drop (loI none).toNat (List.take (hiI (↑n) none).toNat v.toList) = v.toList := cut_all v
def ttext_c : Ctr where
  D := Nd × H256 × H256
  args := fun (n, l, r) => [.agg (eNd n), .agg [.arr8 l], .agg [.arr8 r]]
  res := fun _ _ => .own 0
  out := fun (n, l, r) _ => [(0, .row 5 1 eB (ndT n l r))]
  mm := 1
def ttext_H : Cfg := ⟨[(141, htext_c)], [(2, [], [4, 5], (.one 0 0 false (.one 1 0 false (.one 2 0 false (.one 3 0 false (.one 4 2 false (.one 5 2 false (.one 6 0 false .nil))))))), []), (4, [], [6, 7], (.one 0 0 false (.one 1 0 false (.one 2 0 false (.one 3 0 false (.one 4 0 false (.one 5 0 false (.one 6 2 false (.one 7 2 false (.one 8 0 false .nil))))))))), [])], [], [], 34, 0, [], [], []⟩
theorem ttext_ok : ttext_c.Ok Tryz.prog 161 := by
  refine fn_ok ttext_H 0 rfl _ Tryz.func161 rfl rfl ⟨htext_ok, trivial⟩ rfl rfl (by kernel_rfl) (fun _ => Nat.le_of_ble_eq_true rfl) ?_
  rintro ⟨n, l, r⟩ hp hr
  try dsimp only [ttext_c] at hp
  try simp only [ttext_c, Rng, RngL, inR, and_true, true_and] at hr
  obtain ⟨leaf, key, value, plen, bits, left, right, hash⟩ := n
  cases leaf
  · repeat' (first | (with_reducible refine Unf.h ?_) | ((conv => whnf); first | (refine Side.mk ?_ ?_; focus (first | exact True.intro | (intros; (try simp only [lenS, inR, cutS, loI, hiI, cutv2] at *); omega) | exact nnS (by decide))) | refine Ex.mk [_, _] rfl ?_) | fail); all_goals try (conv => whnf)
    refine CallS.mk (c := htext_c) ((110#8, [[BitVec.ofInt 8 (plen / 2 ^ 8), BitVec.ofInt 8 plen], bits.toList, l.toList, r.toList])) ?_
    repeat' (first | (with_reducible refine Unf.h ?_) | ((conv => whnf); (refine Side.mk ?_ ?_; focus (with_reducible rfl))) | fail); all_goals try (conv => whnf)
    refine Side.mk (by simp only [cutv2]; rfl) ?_
    repeat' (first | (with_reducible refine Unf.h ?_) | ((conv => whnf); first | (refine Side.mk ?_ ?_; focus ((dsimp only [resS, ttext_c, htext_c]; (refine ⟨?_, ?_⟩; all_goals (repeat' apply And.intro); all_goals first | omega | assumption | (simp only [lenS, inR, cutS, loI, hiI]; omega) | (simp; done) | (simp only [*]; done) | (simp only [*, List.map_cons, List.map_nil, eB]; done) | (simp [*]; done))))) | refine RetE.mk () trivial ?_ | refine Got.mk (fun _ _ => ?_) | (with_reducible refine Unf.h ?_) | refine retK_r ?_) | fail); all_goals try (conv => whnf)
    exact Side.mk rfl (by repeat' (first | (with_reducible refine Unf.h ?_) | ((conv => whnf); exact rfl) | fail); all_goals try (conv => whnf))
  · repeat' (first | (with_reducible refine Unf.h ?_) | ((conv => whnf); (refine Side.mk ?_ ?_; focus (first | exact True.intro | (intros; (try simp only [lenS, inR, cutS, loI, hiI, cutv2] at *); omega)))) | fail); all_goals try (conv => whnf)
    refine CallS.mk (c := htext_c) ((108#8, [key.toList, value.toList])) ?_
    repeat' (first | (with_reducible refine Unf.h ?_) | ((conv => whnf); (refine Side.mk ?_ ?_; focus (with_reducible rfl))) | fail); all_goals try (conv => whnf)
    refine Side.mk (by simp only [cutv2]; rfl) ?_
    repeat' (first | (with_reducible refine Unf.h ?_) | ((conv => whnf); first | (refine Side.mk ?_ ?_; focus ((dsimp only [resS, ttext_c, htext_c]; (refine ⟨?_, ?_⟩; all_goals (repeat' apply And.intro); all_goals first | omega | assumption | (simp only [lenS, inR, cutS, loI, hiI]; omega) | (simp; done) | (simp only [*]; done) | (simp only [*, List.map_cons, List.map_nil, eB]; done) | (simp [*]; done))))) | refine RetE.mk () trivial ?_ | refine Got.mk (fun _ _ => ?_) | (with_reducible refine Unf.h ?_) | refine retK_r ?_) | fail); all_goals try (conv => whnf)
    exact Side.mk rfl (by repeat' (first | (with_reducible refine Unf.h ?_) | ((conv => whnf); exact rfl) | fail); all_goals try (conv => whnf))
def rleaf_c : Ctr where
  D := H256 × H256
  args := fun (k, v) => [.agg [.arr8 k, .arr8 v]]
  res := fun _ _ => .own 0
  out := fun (k, v) _ => [(0, .row 5 1 eB (leafT k v))]
  mm := 1
def rleaf_H : Cfg := ⟨[(138, rtext_c)], [(1, [], [4, 5], (.one 0 0 false (.one 1 0 false (.one 2 0 false (.one 3 0 false (.one 4 2 false (.one 5 2 false (.one 6 0 false .nil))))))), [])], [], [], 9, 0, [], [], []⟩
theorem rleaf_ok : rleaf_c.Ok Tryz.prog 159 := by
  refine fn_ok rleaf_H 0 rfl _ Tryz.func159 rfl rfl ⟨rtext_ok, trivial⟩ rfl rfl (by kernel_rfl) (fun _ => Nat.le_of_ble_eq_true rfl) ?_
  rintro ⟨k, v⟩ hp hr
  try dsimp only [rleaf_c] at hp
  try simp only [rleaf_c, Rng, RngL, inR, and_true, true_and] at hr
  repeat' (first | (with_reducible refine Unf.h ?_) | ((conv => whnf); (refine Side.mk ?_ ?_; focus (first | exact True.intro | (intros; (try simp only [lenS, inR, cutS, loI, hiI, cutv2] at *); omega)))) | fail); all_goals try (conv => whnf)
  refine CallS.mk (c := rtext_c) ((108#8, [k.toList, v.toList])) ?_
  repeat' (first | (with_reducible refine Unf.h ?_) | ((conv => whnf); (refine Side.mk ?_ ?_; focus (with_reducible rfl))) | fail); all_goals try (conv => whnf)
  refine Side.mk (by simp only [cutv2]; rfl) ?_
  repeat' (first | (with_reducible refine Unf.h ?_) | ((conv => whnf); first | (refine Side.mk ?_ ?_; focus ((dsimp only [resS, rleaf_c, rtext_c]; (refine ⟨?_, ?_⟩; all_goals (repeat' apply And.intro); all_goals first | omega | assumption | (simp only [lenS, inR, cutS, loI, hiI]; omega) | (simp; done) | (simp only [*]; done) | (simp only [*, List.map_cons, List.map_nil, eB]; done) | (simp [*]; done))))) | refine RetE.mk () trivial ?_ | refine Got.mk (fun _ _ => ?_) | (with_reducible refine Unf.h ?_) | refine retK_r ?_) | fail); all_goals try (conv => whnf)
  exact Side.mk rfl (by repeat' (first | (with_reducible refine Unf.h ?_) | ((conv => whnf); exact rfl) | fail); all_goals try (conv => whnf))
def rinner_c : Ctr where
  D := Int × H256 × H256 × H256
  args := fun (n, b, l, r) => [.agg [.int .i64 n, .arr8 b], .agg [.arr8 l], .agg [.arr8 r]]
  res := fun _ _ => .own 0
  out := fun (n, b, l, r) _ => [(0, .row 5 1 eB (innerT n b l r))]
  mm := 1
theorem num2 (n : Int) : beN 2 (BitVec.ofInt 64 n) = [BitVec.ofInt 8 (n / 2 ^ 8), BitVec.ofInt 8 n] := by
  have h1 : (BitVec.ofInt 64 n >>> 8).setWidth 8 = BitVec.ofInt 8 (n / 2 ^ 8) := by
    apply BitVec.eq_of_toNat_eq
    simp only [BitVec.toNat_setWidth, BitVec.toNat_ushiftRight, BitVec.toNat_ofInt, Nat.shiftRight_eq_div_pow]
    omega
  have h2 : (BitVec.ofInt 64 n).setWidth 8 = BitVec.ofInt 8 n := by
    apply BitVec.eq_of_toNat_eq
    simp only [BitVec.toNat_setWidth, BitVec.toNat_ofInt]
    omega
  rw [← h1, ← h2]
  simp [beN, List.range, List.range.loop]
def rinner_H : Cfg := ⟨[(138, rtext_c), (77, number_c)], [(1, [1], [3, 8, 9], (.one 0 0 false (.one 1 1 false (.one 2 0 false (.one 4 0 false (.one 5 0 false (.one 6 0 false (.one 7 0 false (.one 3 2 false (.one 8 2 false (.one 9 2 false (.one 10 0 false .nil))))))))))), [])], [], [], 17, 0, [], [], []⟩
theorem rinner_ok : rinner_c.Ok Tryz.prog 160 := by
  refine fn_ok rinner_H 0 rfl _ Tryz.func160 rfl rfl ⟨rtext_ok, number_ok, trivial⟩ rfl rfl (by kernel_rfl) (fun _ => Nat.le_of_ble_eq_true rfl) ?_
  rintro ⟨n, b, l, r⟩ hp hr
  try dsimp only [rinner_c] at hp
  try simp only [rinner_c, Rng, RngL, inR, and_true, true_and] at hr
  repeat' (first | (with_reducible refine Unf.h ?_) | ((conv => whnf); first | (refine Side.mk ?_ ?_; focus (first | with_reducible rfl | exact True.intro | (refine congrArg (SV.int _) ?_; omega) | (intros; (try simp only [lenS, inR, cutS, loI, hiI, cutv2] at *); omega) | (dsimp only [resS, rinner_c, number_c]; omega))) | refine Got.mk (fun _ _ => ?_) | refine CallS.mk (c := number_c) ((BitVec.ofInt 64 n, 2)) ?_) | fail); all_goals try (conv => whnf)
  refine CallS.mk (c := rtext_c) ((110#8, [beN 2 (BitVec.ofInt 64 n), b.toList, l.toList, r.toList])) ?_
  repeat' (first | (with_reducible refine Unf.h ?_) | ((conv => whnf); (refine Side.mk ?_ ?_; focus (with_reducible rfl))) | fail); all_goals try (conv => whnf)
  refine Side.mk (by simp only [cutv2]; rfl) ?_
  repeat' (first | (with_reducible refine Unf.h ?_) | ((conv => whnf); first | (refine Side.mk ?_ ?_; focus ((dsimp only [resS, rinner_c, rtext_c]; (refine ⟨?_, ?_⟩; all_goals (repeat' apply And.intro); all_goals first | omega | assumption | (simp only [lenS, inR, cutS, loI, hiI, beN_len]; omega) | (simp; done) | (simp only [*, beN_len]; done) | (simp only [*, beN_len, List.map_cons, List.map_nil, eB]; done) | (simp [*, beN_len]; done))))) | refine RetE.mk () trivial ?_ | refine Got.mk (fun _ _ => ?_) | (with_reducible refine Unf.h ?_) | refine retK_r ?_) | fail); all_goals try (conv => whnf)
  exact Side.mk (congrArg (SO.row _ _ _) (by rw [num2]; rfl)) (by repeat' (first | (with_reducible refine Unf.h ?_) | ((conv => whnf); exact rfl) | fail); all_goals try (conv => whnf))
def same_c : Ctr where
  D := Bs × Bs
  args := fun (a, b) => [.fs 1 eB a, .fs 1 eB b]
  res := fun (a, b) _ => .dec (a = b) inferInstance
def same_H : Cfg := ⟨[], [(6, [3, 7], [], (.one 0 0 false (.one 1 0 false (.one 2 0 false (.one 3 1 false (.one 4 0 false (.one 5 0 false (.one 6 0 false (.one 7 1 false (.one 8 0 false .nil))))))))), [])], [], [], 26, 0, [], [], []⟩
theorem same_ok : same_c.Ok Tryz.prog 73 := by
  refine fn_ok same_H 0 rfl _ Tryz.func73 rfl rfl trivial rfl rfl (by kernel_rfl) (fun _ => Nat.le_of_ble_eq_true rfl) ?_
  rintro ⟨a, b⟩ hp hr
  try dsimp only [same_c] at hp
  try simp only [same_c, Rng, RngL, inR, and_true, true_and] at hr
  repeat' (first | (with_reducible refine Unf.h ?_) | ((conv => whnf); first | refine Fork.mkn (fun h => ?_) (fun h => ?_) | refine RetE.mk () trivial ?_ | refine retK_r ?_) | fail); all_goals try (conv => whnf)
  · exact Side.mk ⟨fun h => (by cases h), fun e => absurd (congrArg (fun l => ((List.length l : Nat) : Int)) e) h⟩ (by repeat' (first | (with_reducible refine Unf.h ?_) | ((conv => whnf); exact rfl) | fail); all_goals try (conv => whnf))
  have hl : a.length = b.length := by omega
  refine LoopS.mk (fun i : Nat => i ≤ a.length ∧ a.take i = b.take i) (fun i => [(0, .fs 1 eB a), (1, .fs 1 eB b), (5, .int .i64 i)]) (fun _ => []) 0 (fun i => a.length - i) 0 ⟨Nat.zero_le _, rfl⟩ ?_ ?_
  · repeat' (first | (with_reducible refine Unf.h ?_) | ((conv => whnf); first | (refine Side.mk ?_ ?_; focus (first | with_reducible rfl | (refine congrArg (SV.int _) ?_; omega))) | (with_reducible refine Unf.h ?_) | exact True.intro) | fail); all_goals try (conv => whnf)
  · rintro i ⟨hi, he⟩
    repeat' (first | (with_reducible first | refine Unf.h ?_ | refine loopK_n ?_) | ((conv => whnf); first | refine Fork.mkn (fun h => ?_) (fun h => ?_) | refine Fork.mk (fun h => ?_) (fun h => ?_) | (refine Side.mk ?_ ?_; focus ((intros; (try simp only [lenS, inR, cutS, loI, hiI] at *); omega))) | (refine Idx.mk ?_ ?_; focus (omega)) | refine RetE.mk () trivial ?_ | refine retK_r ?_) | fail); all_goals try (conv => whnf)
    · exact Side.mk ⟨fun h => (by cases h), fun e => absurd (by subst e; rfl) h⟩ (by repeat' (first | (with_reducible refine Unf.h ?_) | ((conv => whnf); exact rfl) | fail); all_goals try (conv => whnf))
    · refine ⟨i + 1, ⟨by omega, by omega, ?_⟩, by repeat' (first | (with_reducible refine Unf.h ?_) | ((conv => whnf); first | (refine Side.mk ?_ ?_; focus (first | with_reducible rfl | (refine congrArg (SV.int _) ?_; omega))) | (with_reducible refine Unf.h ?_) | exact True.intro) | fail); all_goals try (conv => whnf)⟩
      have h1 : i < a.length := by omega
      have h2 : i < b.length := by omega
      have h3 : a[i] = b[i] := by simpa using h
      rw [List.take_succ_eq_append_getElem h1, List.take_succ_eq_append_getElem h2, he, h3]
    · refine Side.mk ⟨fun _ => ?_, fun _ => rfl⟩ (by repeat' (first | (with_reducible refine Unf.h ?_) | ((conv => whnf); exact rfl) | fail); all_goals try (conv => whnf))
      have : i = a.length := by omega
      rw [this, List.take_length, hl, List.take_length] at he
      exact he
end Go.Proofs.YtdflndjlnkoliaaGreatDoor

namespace Go.Proofs.YtdflndjlnkoliaaGreatDoor
set_option linter.all false
open Go.RowKit
/-! bits of keys -/
def kb (k : H256) (i : Nat) : Bool := if h : i < 256 then (k[i / 8]'(by omega)).getLsbD (7 - i % 8) else false
theorem kb_out {k : H256} {i : Nat} (h : 256 ≤ i) : kb k i = false := by unfold kb; rw [dif_neg (by omega)]
theorem kb_byte (k : H256) (j n : Nat) (hj : j < 32) (hn : n < 8) : kb k (8 * j + (7 - n)) = k[j].getLsbD n := by
  unfold kb; rw [dif_pos (by omega)]
  simp only [show (8 * j + (7 - n)) / 8 = j by omega, show 7 - (8 * j + (7 - n)) % 8 = n by omega]
theorem kb_ext {a b : H256} (h : ∀ i, i < 256 → kb a i = kb b i) : a = b := by
  ext j hj : 1
  refine BitVec.eq_of_getLsbD_eq fun n hn => ?_
  rw [← kb_byte a j n hj hn, ← kb_byte b j n hj hn, h _ (by omega)]
@[irreducible] def setB (k : H256) (i : Nat) : H256 := if h : i < 256 then k.set (i / 8) (k[i / 8]'(by omega) ||| 128#8 >>> (i % 8)) (by omega) else k
theorem bit128 : ∀ m n : Fin 8, (128#8 >>> m.1).getLsbD n.1 = decide (n.1 = 7 - m.1) := by decide
theorem kb_setB (k : H256) (i j : Nat) (hi : i < 256) (hj : j < 256) : kb (setB k i) j = (kb k j || decide (i = j)) := by
  unfold setB kb
  rw [dif_pos hi, dif_pos hj, dif_pos hj]
  rw [Vector.getElem_set]
  by_cases h : i / 8 = j / 8
  · have hb := bit128 ⟨i % 8, by omega⟩ ⟨7 - j % 8, by omega⟩
    simp only at hb
    simp only [h, if_true, BitVec.getLsbD_or, hb]
    congr 1
    rw [decide_eq_decide]; omega
  · have hne : i ≠ j := fun e => h (by rw [e])
    simp [h, hne]
@[irreducible] def cutB (k : H256) (n : Nat) : H256 := Vector.ofFn fun j => k[j] &&& ~~~ (255#8 >>> min (n - 8 * j.1) 8)
theorem bit255 : ∀ m : Fin 9, ∀ n : Fin 8, (~~~ (255#8 >>> m.1)).getLsbD n.1 = decide (8 - m.1 ≤ n.1) := by decide
theorem kb_cutB (k : H256) (n i : Nat) : kb (cutB k n) i = (kb k i && decide (i < n)) := by
  by_cases hi : i < 256
  · unfold cutB kb
    rw [dif_pos hi, dif_pos hi]
    have hb := bit255 ⟨min (n - 8 * (i / 8)) 8, by omega⟩ ⟨7 - i % 8, by omega⟩
    simp only at hb
    simp only [Vector.getElem_ofFn, BitVec.getLsbD_and, hb]
    congr 1
    rw [decide_eq_decide]; omega
  · rw [kb_out (by omega), kb_out (by omega)]; rfl
theorem cutB_all (k : H256) : cutB k 256 = k := kb_ext fun i hi => by rw [kb_cutB]; simp [hi]
theorem cutB_cutB (k : H256) (n m : Nat) : cutB (cutB k n) m = cutB k (min n m) := kb_ext fun i hi => by
  rw [kb_cutB, kb_cutB, kb_cutB, Bool.and_assoc, ← Bool.decide_and]; congr 2; simp; omega
theorem cutB_succ (k : H256) (n : Nat) (hn : n < 256) : cutB k (n + 1) = if kb k n then setB (cutB k n) n else cutB k n := by
  refine kb_ext fun i hi => ?_
  by_cases hb : kb k n = true
  · rw [if_pos hb, kb_setB _ _ _ hn hi, kb_cutB, kb_cutB]
    by_cases he : n = i
    · subst he; simp [hb]
    · simp only [he, decide_false, Bool.or_false]; congr 1; rw [decide_eq_decide]; omega
  · rw [if_neg hb, kb_cutB, kb_cutB]
    by_cases he : n = i
    · subst he; simp at hb; simp [hb]
    · congr 1; rw [decide_eq_decide]; omega
abbrev zeroH : H256 := Vector.replicate 32 0#8
theorem kb_zero (i : Nat) : kb zeroH i = false := by
  unfold kb; split
  · simp
  · rfl
theorem cutB_zero (k : H256) : cutB k 0 = zeroH := kb_ext fun i hi => by rw [kb_cutB, kb_zero]; simp
/-- how many first bits two keys share -/
def shF (a b : H256) : Nat → Nat → Nat
  | 0, i => i
  | f + 1, i => if kb a i = kb b i then shF a b f (i + 1) else i
def shared (a b : H256) : Nat := shF a b 256 0
theorem shF_spec (a b : H256) : ∀ (f i : Nat), i ≤ shF a b f i ∧ shF a b f i ≤ i + f ∧ (∀ j, i ≤ j → j < shF a b f i → kb a j = kb b j) ∧ (shF a b f i < i + f → kb a (shF a b f i) ≠ kb b (shF a b f i))
  | 0, i => ⟨Nat.le_refl _, Nat.le_refl _, fun j h1 h2 => by simp only [shF] at h2; omega, fun h => by simp only [shF] at h; omega⟩
  | f + 1, i => by
    unfold shF
    split
    · rename_i h
      obtain ⟨h1, h2, h3, h4⟩ := shF_spec a b f (i + 1)
      refine ⟨by omega, by omega, fun j hj hk => ?_, fun hl => h4 (by omega)⟩
      rcases Nat.eq_or_lt_of_le hj with e | e
      · rw [← e]; exact h
      · exact h3 j e hk
    · rename_i h; exact ⟨Nat.le_refl _, by omega, fun j h1 h2 => by omega, fun _ => h⟩
theorem shared_le (a b : H256) : shared a b ≤ 256 := by have := (shF_spec a b 256 0).2.1; unfold shared; omega
theorem shared_eq {a b : H256} {i : Nat} (h : i < shared a b) : kb a i = kb b i := (shF_spec a b 256 0).2.2.1 i (Nat.zero_le _) h
theorem shared_ne {a b : H256} (h : shared a b < 256) : kb a (shared a b) ≠ kb b (shared a b) := (shF_spec a b 256 0).2.2.2 (by unfold shared at h; omega)
theorem shared_uniq {a b : H256} {n : Nat} (h1 : n ≤ 256) (h2 : ∀ i, i < n → kb a i = kb b i) (h3 : n < 256 → kb a n ≠ kb b n) : shared a b = n := by
  have l := shared_le a b
  rcases Nat.lt_trichotomy (shared a b) n with h | h | h
  · exact absurd (h2 _ h) (shared_ne (by omega))
  · exact h
  · exact absurd (shared_eq h) (h3 (by omega))
theorem shared_ge {a b : H256} {n : Nat} (h1 : n ≤ 256) : n ≤ shared a b ↔ cutB a n = cutB b n := by
  constructor
  · intro h
    refine kb_ext fun i hi => ?_
    rw [kb_cutB, kb_cutB]
    by_cases hin : i < n
    · rw [shared_eq (show i < shared a b by omega)]
    · simp [hin]
  · intro h
    refine Nat.le_of_not_lt fun hl => shared_ne (a := a) (b := b) (by omega) ?_
    have := congrArg (fun k => kb k (shared a b)) h
    simp only [kb_cutB] at this
    simpa [hl] using this
theorem shared_self (a : H256) : shared a a = 256 := shared_uniq (Nat.le_refl _) (fun _ _ => rfl) (fun h => absurd h (by omega))
theorem shared_all {a b : H256} (h : shared a b = 256) : a = b := kb_ext fun i hi => shared_eq (by omega)
/-! prefixes -/
structure Pfx where
  len : Int
  bits : H256
deriving DecidableEq
def ePfx (p : Pfx) : List SV := [.int .i64 p.len, .arr8 p.bits]
abbrev zeroP : Pfx := ⟨0, zeroH⟩
def cutP (k : H256) (n : Int) : Pfx := ⟨min (max n 0) 256, cutB k (min (max n 0) 256).toNat⟩
def formedP (p : Pfx) : Prop := 0 ≤ p.len ∧ p.len ≤ 256 ∧ cutB p.bits p.len.toNat = p.bits
instance (p : Pfx) : Decidable (formedP p) := inferInstanceAs (Decidable (_ ∧ _ ∧ _))
def holdsP (p : Pfx) (k : H256) : Prop := formedP p ∧ cutB k p.len.toNat = p.bits
instance (p : Pfx) (k : H256) : Decidable (holdsP p k) := inferInstanceAs (Decidable (_ ∧ _))
def withinP (p q : Pfx) : Prop := formedP q ∧ p.len ≤ q.len ∧ holdsP p q.bits
instance (p q : Pfx) : Decidable (withinP p q) := inferInstanceAs (Decidable (_ ∧ _ ∧ _))
def bitI (k : H256) (i : Int) : Int := if 0 ≤ i ∧ kb k i.toNat = true then 1 else 0
theorem bitI_nat (k : H256) (i : Nat) : bitI k (i : Int) = if kb k i then 1 else 0 := by simp [bitI]
theorem bitI_01 (k : H256) (i : Int) : bitI k i = 0 ∨ bitI k i = 1 := by unfold bitI; split <;> simp
def childOk (p : Pfx) (b : Int) : Prop := formedP p ∧ p.len < 256 ∧ 0 ≤ b ∧ b ≤ 1
instance (p : Pfx) (b : Int) : Decidable (childOk p b) := inferInstanceAs (Decidable (_ ∧ _ ∧ _ ∧ _))
def childP (p : Pfx) (b : Int) : Pfx := if childOk p b then ⟨p.len + 1, if b = 1 then setB p.bits p.len.toNat else p.bits⟩ else zeroP
def meetP (p q : Pfx) : Pfx := if formedP p ∧ formedP q then cutP p.bits (min (min (shared p.bits q.bits : Int) p.len) q.len) else zeroP
theorem formed_iff {p : Pfx} (h0 : 0 ≤ p.len) (h1 : p.len ≤ 256) : formedP p ↔ ∀ i, p.len ≤ (i : Nat) → kb p.bits i = false := by
  unfold formedP
  constructor
  · rintro ⟨_, _, h⟩ i hi
    have := congrArg (fun k => kb k i) h
    simp only [kb_cutB] at this
    rw [← this]
    simp; omega
  · intro h
    refine ⟨h0, h1, kb_ext fun i hi => ?_⟩
    rw [kb_cutB]
    by_cases hl : i < p.len.toNat
    · simp [hl]
    · rw [h i (by omega)]; rfl
theorem holds_shared {p : Pfx} {k : H256} : holdsP p k ↔ formedP p ∧ p.len ≤ (shared p.bits k : Int) := by
  unfold holdsP
  refine and_congr_right fun hf => ?_
  have h0 := hf.1; have h1 := hf.2.1
  have := shared_ge (a := p.bits) (b := k) (n := p.len.toNat) (by omega)
  rw [hf.2.2] at this
  constructor
  · intro h; have := this.2 h.symm; omega
  · intro h; exact (this.1 (by omega)).symm
theorem within_shared {p q : Pfx} : withinP p q ↔ formedP p ∧ formedP q ∧ p.len ≤ q.len ∧ p.len ≤ (shared p.bits q.bits : Int) := by
  unfold withinP; rw [holds_shared]
  constructor
  · rintro ⟨h1, h2, h3, h4⟩; exact ⟨h3, h1, h2, h4⟩
  · rintro ⟨h1, h2, h3, h4⟩; exact ⟨h2, h3, h1, h4⟩
theorem cutP_formed (k : H256) (n : Int) : formedP (cutP k n) := by
  refine ⟨by simp only [cutP]; omega, by simp only [cutP]; omega, ?_⟩
  simp only [cutP]; rw [cutB_cutB, Nat.min_self]
end Go.Proofs.YtdflndjlnkoliaaGreatDoor

namespace Go.Proofs.YtdflndjlnkoliaaGreatDoor
set_option linter.all false
open Go.RowKit
/-! prefixes, as the program reckons them -/
theorem u8and1 (x : BitVec 8) (n : Nat) : ((((x >>> n) &&& 1#8).toNat : Nat) : Int) = if x.getLsbD n then 1 else 0 := by
  have h : ((x >>> n) &&& 1#8).toNat = if x.getLsbD n then 1 else 0 := by
    rw [BitVec.toNat_and, BitVec.toNat_ushiftRight]
    show x.toNat >>> n &&& 1 = _
    rw [Nat.and_one_is_mod, BitVec.getLsbD, Nat.testBit, Nat.and_comm, Nat.and_one_is_mod]
    split <;> simp_all <;> omega
  rw [h]; split <;> rfl
def bit_c : Ctr where
  D := H256 × Int
  args := fun (k, i) => [.agg [.arr8 k], .int .i64 i]
  res := fun (k, i) _ => .int .i64 (bitI k i)
def bit_H : Cfg := ⟨[], [], [], [], 21, 0, [], [], []⟩
theorem bit_ok : bit_c.Ok Tryz.prog 101 := by
  refine fn_ok bit_H 0 rfl _ Tryz.func101 rfl rfl trivial rfl rfl (by kernel_rfl) (fun _ => Nat.le_of_ble_eq_true rfl) ?_
  rintro ⟨k, i⟩ hp hr
  try dsimp only [bit_c] at hp
  try simp only [bit_c, Rng, RngL, inR, and_true, true_and] at hr
  repeat' (first | (with_reducible refine Unf.h ?_) | ((conv => whnf); first | refine Fork.mk (fun h => ?_) (fun h => ?_) | (refine Side.mk ?_ ?_; focus (first | omega | (intros; (try simp only [lenS, inR, cutS, loI, hiI] at *); omega))) | (refine Idx.mk ?_ ?_; focus (omega)) | refine RetE.mk () trivial ?_ | refine retK_r ?_) | fail); all_goals try (conv => whnf)
  · exact Side.mk (congrArg (SV.int _) (by unfold bitI; rw [if_neg (by omega)])) (by repeat' (first | (with_reducible refine Unf.h ?_) | ((conv => whnf); exact rfl) | fail); all_goals try (conv => whnf))
  · exact Side.mk (congrArg (SV.int _) (by unfold bitI; rw [kb_out (by omega)]; simp)) (by repeat' (first | (with_reducible refine Unf.h ?_) | ((conv => whnf); exact rfl) | fail); all_goals try (conv => whnf))
  · refine Side.mk (congrArg (SV.int _) ?_) (by repeat' (first | (with_reducible refine Unf.h ?_) | ((conv => whnf); exact rfl) | fail); all_goals try (conv => whnf))
    have h1 : i.toNat < 256 := by omega
    rw [u8and1]
    unfold bitI kb
    rw [dif_pos h1]
    simp only [show (i / 8).toNat = i.toNat / 8 by omega, show (7 - i % 8).toNat = 7 - i.toNat % 8 by omega, show 0 ≤ i by omega, true_and]
def len8 (x : BitVec 8) : Nat := if x = 0#8 then 0 else x.toNat.log2 + 1
def lenT : List (BitVec 8) := (List.range 256).map fun i => BitVec.ofNat 8 (len8 (BitVec.ofNat 8 i))
theorem len8_lt (x : BitVec 8) : len8 x ≤ 8 := by
  unfold len8; split
  · omega
  · rename_i h
    have h0 : x.toNat ≠ 0 := fun e => h (BitVec.eq_of_toNat_eq (by simpa using e))
    have : x.toNat.log2 < 8 := (Nat.log2_lt h0).2 x.isLt
    omega
theorem tab_len {l : List (BitVec 8)} (h : l = lenT) (x : BitVec 8) (i : Nat) (hi : i < l.length) (e : i = x.toNat) : ((l[i].toNat : Nat) : Int) = len8 x := by
  subst h e
  have := len8_lt x
  simp [lenT]
  omega
def len8_c : Ctr where
  D := BitVec 8
  args := fun x => [.u8 x]
  res := fun x _ => .int .i64 (len8 x)
def len8_H : Cfg := ⟨[], [], [], [], 6, 0, [], [], []⟩
theorem len8_ok : len8_c.Ok Tryz.prog 199 := by
  refine fn_ok len8_H 0 rfl _ Tryz.func199 rfl rfl trivial rfl rfl (by kernel_rfl) (fun _ => Nat.le_of_ble_eq_true rfl) ?_
  intro (x : BitVec 8) hp hr
  try dsimp only [len8_c] at hp
  try simp only [len8_c, Rng, RngL, inR, and_true, true_and] at hr
  repeat' (first | (with_reducible refine Unf.h ?_) | fail); all_goals try (conv => whnf)
  refine Idx.mk ⟨by omega, Nat.lt_of_lt_of_eq (show _ < 256 by have := x.isLt; omega) (by kernel_rfl)⟩ ?_
  repeat' (first | (with_reducible refine Unf.h ?_) | ((conv => whnf); first | refine RetE.mk () trivial ?_ | refine retK_r ?_) | fail); all_goals try (conv => whnf)
  refine Side.mk (congrArg (SV.int _) (tab_len (by kernel_rfl) x _ _ (by omega))) (by repeat' (first | (with_reducible refine Unf.h ?_) | ((conv => whnf); exact rfl) | fail); all_goals try (conv => whnf))
def lz8_c : Ctr where
  D := BitVec 8
  args := fun x => [.u8 x]
  res := fun x _ => .int .i64 (8 - (len8 x : Int))
def lz8_H : Cfg := ⟨[(199, len8_c)], [], [], [], 6, 0, [], [], []⟩
theorem lz8_ok : lz8_c.Ok Tryz.prog 196 := by
  refine fn_ok lz8_H 0 rfl _ Tryz.func196 rfl rfl ⟨len8_ok, trivial⟩ rfl rfl (by kernel_rfl) (fun _ => Nat.le_of_ble_eq_true rfl) ?_
  intro (x : BitVec 8) hp hr
  try dsimp only [lz8_c] at hp
  try simp only [lz8_c, Rng, RngL, inR, and_true, true_and] at hr
  repeat' (first | (with_reducible refine Unf.h ?_) | ((conv => whnf); first | (refine Side.mk ?_ ?_; focus (first | with_reducible rfl | exact True.intro | (refine congrArg (SV.int _) ?_; omega) | (intros; (try simp only [lenS, inR, cutS, loI, hiI] at *); omega))) | refine RetE.mk () trivial ?_ | refine Got.mk (fun _ _ => ?_) | refine retK_r ?_ | exact rfl | refine CallS.mk (c := len8_c) (x) ?_) | fail); all_goals try (conv => whnf)
def cutUp (k : H256) (n j : Nat) : H256 := Vector.ofFn fun i => if i.1 < j then k[i] &&& ~~~ (255#8 >>> min (n - 8 * i.1) 8) else k[i]
theorem cutUp_zero (k : H256) (n : Nat) : cutUp k n 0 = k := by ext i hi : 1; simp [cutUp]
theorem cutUp_all (k : H256) (n : Nat) : cutUp k n 32 = cutB k n := by
  unfold cutUp cutB; ext i hi : 1; simp only [Vector.getElem_ofFn, hi, if_true]
theorem cutUp_same (k : H256) (n j : Nat) (h : 8 ≤ n - 8 * j) : cutUp k n j = cutUp k n (j + 1) := by
  ext i hi : 1
  simp only [cutUp, Vector.getElem_ofFn]
  by_cases h1 : i < j
  · rw [if_pos h1, if_pos (by omega)]
  · rw [if_neg h1]
    by_cases h2 : i < j + 1
    · rw [if_pos h2, show min (n - 8 * i) 8 = 8 by omega]
      have : ~~~ (255#8 >>> 8) = BitVec.allOnes 8 := by decide
      rw [this, BitVec.and_allOnes]
    · rw [if_neg h2]
theorem cutUp_step (k : H256) (n j q : Nat) (hq : q < 32) (e : q = j) (x : BitVec 8) (hx : x = (cutUp k n j)[q] &&& ~~~ (255#8 >>> min (n - 8 * j) 8)) : (cutUp k n j).set q x hq = cutUp k n (j + 1) := by
  subst e
  ext i hi : 1
  rw [Vector.getElem_set]
  split
  · rename_i h; subst h; rw [hx]; simp [cutUp]
  · simp only [cutUp, Vector.getElem_ofFn]
    by_cases h1 : i < q
    · rw [if_pos h1, if_pos (by omega)]
    · rw [if_neg h1, if_neg (by omega)]
def cutp_c : Ctr where
  D := H256 × Int
  args := fun (k, n) => [.agg [.arr8 k], .int .i64 n]
  res := fun (k, n) _ => .agg (ePfx (cutP k n))
def cutp_H : Cfg := ⟨[], [(7, [2], [8], (.one 0 0 false (.one 1 0 false (.one 2 1 false (.one 3 0 false (.one 4 0 false (.one 5 0 false (.one 6 0 false (.one 7 0 false (.one 8 2 false .nil))))))))), [])], [], [], 33, 0, [], [], []⟩
theorem cutp_ok : cutp_c.Ok Tryz.prog 140 := by
  refine fn_ok cutp_H 0 rfl _ Tryz.func140 rfl rfl trivial rfl rfl (by kernel_rfl) (fun _ => Nat.le_of_ble_eq_true rfl) ?_
  rintro ⟨k, n⟩ hp hr
  try dsimp only [cutp_c] at hp
  try simp only [cutp_c, Rng, RngL, inR, and_true, true_and] at hr
  repeat' (first | (with_reducible refine Unf.h ?_) | fail); all_goals try (conv => whnf)
  have hN : ∃ N : Nat, min (max n 0) 256 = (N : Int) ∧ N ≤ 256 := ⟨(min (max n 0) 256).toNat, by omega, by omega⟩
  obtain ⟨N, hN, hN'⟩ := hN
  rw [hN]
  refine LoopS.auto (fun j : Nat => j ≤ 32) (fun j => [(10, .int .i64 j)]) (fun j => [(1, .box 58 [.int .i64 0, .arr8 zeroH]), (0, .box 30 [.arr8 (cutUp k N j)])]) (fun j => 32 - j) 0 (by omega) ?_ ?_
  · repeat' (first | (with_reducible refine Unf.h ?_) | ((conv => whnf); first | (refine Side.mk ?_ ?_; focus (first | with_reducible rfl | (refine congrArg (SV.int _) ?_; omega) | (simp only [*, cutUp_zero]; done))) | (with_reducible refine Unf.h ?_) | exact True.intro) | fail); all_goals try (conv => whnf)
  · intro j hj
    repeat' (first | (with_reducible first | refine Unf.h ?_ | refine loopK_n ?_) | ((conv => whnf); first | refine Fork.mk (fun h => ?_) (fun h => ?_) | (refine Side.mk ?_ ?_; focus (first | omega | (intros; (try simp only [lenS, inR, cutS, loI, hiI] at *); omega))) | (refine Idx.mk ?_ ?_; focus (omega)) | refine RetE.mk () trivial ?_ | refine retK_r ?_) | fail); all_goals try (conv => whnf)
    · refine ⟨j + 1, ⟨by omega, by omega⟩, ?_⟩
      repeat' (first | (with_reducible refine Unf.h ?_) | ((conv => whnf); first | (refine Side.mk ?_ ?_; focus (first | with_reducible rfl | (refine congrArg (SV.int _) ?_; omega))) | (with_reducible refine Unf.h ?_)) | fail); all_goals try (conv => whnf)
      refine Side.mk (congrArg SV.arr8 (cutUp_step k N j _ _ (by omega) _ ?_)) (by repeat' (first | (with_reducible refine Unf.h ?_) | ((conv => whnf); exact True.intro) | fail); all_goals try (conv => whnf))
      rw [show (min (max ((N : Int) - 8 * j) 0) 8).toNat = min (N - 8 * j) 8 by omega]
    · refine ⟨j + 1, ⟨by omega, by omega⟩, ?_⟩
      rw [cutUp_same k N j (by omega)]
      repeat' (first | (with_reducible refine Unf.h ?_) | ((conv => whnf); first | (refine Side.mk ?_ ?_; focus (first | with_reducible rfl | (refine congrArg (SV.int _) ?_; omega))) | (with_reducible refine Unf.h ?_) | exact True.intro) | fail); all_goals try (conv => whnf)
    · have e : j = 32 := by omega
      subst e
      repeat' (first | (with_reducible refine Unf.h ?_) | ((conv => whnf); first | (refine Side.mk ?_ ?_; focus (first | (simp only [*, cutUp_all, cutP, hN]; done) | (simp [*, cutUp_all, cutP, hN]; done))) | exact rfl) | fail); all_goals try (conv => whnf)
end Go.Proofs.YtdflndjlnkoliaaGreatDoor

namespace Go.Proofs.YtdflndjlnkoliaaGreatDoor
set_option linter.all false
open Go.RowKit
theorem lz_spec : ∀ x : Fin 256, x.1 ≠ 0 → 1 ≤ len8 (BitVec.ofNat 8 x.1) ∧ ∀ q : Fin 8, (q.1 < 8 - len8 (BitVec.ofNat 8 x.1) → (BitVec.ofNat 8 x.1).getLsbD (7 - q.1) = false) ∧ (q.1 = 8 - len8 (BitVec.ofNat 8 x.1) → (BitVec.ofNat 8 x.1).getLsbD (7 - q.1) = true) := by decide +kernel
theorem shared_byte (a b : H256) (j : Nat) (hj : j < 32) (he : ∀ i, i < 8 * j → kb a i = kb b i) (hx : a[j] ^^^ b[j] ≠ 0#8) : shared a b = 8 * j + (8 - len8 (a[j] ^^^ b[j])) := by
  have hs := lz_spec ⟨(a[j] ^^^ b[j]).toNat, (a[j] ^^^ b[j]).isLt⟩ (fun e => hx (BitVec.eq_of_toNat_eq (by simpa using e)))
  simp only [BitVec.ofNat_toNat, BitVec.setWidth_eq] at hs
  obtain ⟨h1, h2⟩ := hs
  have byt : ∀ q, q < 8 → (a[j] ^^^ b[j]).getLsbD (7 - q) = (kb a (8 * j + q) ^^ kb b (8 * j + q)) := fun q hq => by
    have e1 := kb_byte a j (7 - q) hj (by omega)
    have e2 := kb_byte b j (7 - q) hj (by omega)
    rw [show 7 - (7 - q) = q by omega] at e1 e2
    rw [e1, e2, BitVec.getLsbD_xor]
  refine shared_uniq (by omega) (fun i hi => ?_) (fun _ => ?_)
  · by_cases h8 : i < 8 * j
    · exact he i h8
    · have := (h2 ⟨i - 8 * j, by omega⟩).1 (by simp only; omega)
      simp only at this
      rw [byt _ (by omega), show 8 * j + (i - 8 * j) = i by omega] at this
      cases ha : kb a i <;> cases hb : kb b i <;> simp [ha, hb] at this ⊢
  · have := (h2 ⟨8 - len8 (a[j] ^^^ b[j]), by omega⟩).2 rfl
    simp only at this
    rw [byt _ (by omega)] at this
    intro e
    rw [e] at this; simp at this
theorem kb_same_byte {a b : H256} (j : Nat) (hj : j < 32) (hx : a[j] ^^^ b[j] = 0#8) (i : Nat) (h1 : 8 * j ≤ i) (h2 : i < 8 * j + 8) : kb a i = kb b i := by
  have e : a[j] = b[j] := BitVec.xor_eq_zero_iff.1 hx
  have e1 := kb_byte a j (7 - (i - 8 * j)) hj (by omega)
  have e2 := kb_byte b j (7 - (i - 8 * j)) hj (by omega)
  rw [show 8 * j + (7 - (7 - (i - 8 * j))) = i by omega] at e1 e2
  rw [e1, e2, e]
def shared_c : Ctr where
  D := H256 × H256
  args := fun (a, b) => [.agg [.arr8 a], .agg [.arr8 b]]
  res := fun (a, b) _ => .int .i64 (shared a b)
def shared_H : Cfg := ⟨[(196, lz8_c)], [(4, [2, 5], [], (.one 0 0 false (.one 1 0 false (.one 2 1 false (.one 3 0 false (.one 4 0 false (.one 5 1 false (.one 6 0 false (.one 7 0 false .nil)))))))), [])], [], [], 25, 0, [], [], []⟩
theorem shared_ok : shared_c.Ok Tryz.prog 186 := by
  refine fn_ok shared_H 0 rfl _ Tryz.func186 rfl rfl ⟨lz8_ok, trivial⟩ rfl rfl (by kernel_rfl) (fun _ => Nat.le_of_ble_eq_true rfl) ?_
  rintro ⟨a, b⟩ hp hr
  try dsimp only [shared_c] at hp
  try simp only [shared_c, Rng, RngL, inR, and_true, true_and] at hr
  repeat' (first | (with_reducible refine Unf.h ?_) | fail); all_goals try (conv => whnf)
  refine LoopS.auto (fun j : Nat => j ≤ 32 ∧ ∀ i, i < 8 * j → kb a i = kb b i) (fun j => [(7, .int .i64 j)]) (fun j => [(1, .box 30 [.arr8 b]), (0, .box 30 [.arr8 a])]) (fun j => 32 - j) 0 ⟨by omega, fun i hi => by omega⟩ ?_ ?_
  · repeat' (first | (with_reducible refine Unf.h ?_) | ((conv => whnf); first | (refine Side.mk ?_ ?_; focus (first | with_reducible rfl | (refine congrArg (SV.int _) ?_; omega))) | (with_reducible refine Unf.h ?_) | exact True.intro) | fail); all_goals try (conv => whnf)
  · intro j hj
    obtain ⟨hj, he⟩ := hj
    repeat' (first | (with_reducible first | refine Unf.h ?_ | refine loopK_n ?_) | ((conv => whnf); first | refine Fork.mkn (fun h => ?_) (fun h => ?_) | refine Fork.mk (fun h => ?_) (fun h => ?_) | (refine Side.mk ?_ ?_; focus (first | omega | (intros; (try simp only [lenS, inR, cutS, loI, hiI] at *); omega))) | (refine Idx.mk ?_ ?_; focus (omega)) | refine RetE.mk () trivial ?_ | refine retK_r ?_) | fail); all_goals try (conv => whnf)
    · have hl := len8_lt (a[((j : Nat) : Int).toNat]'(by omega) ^^^ b[((j : Nat) : Int).toNat]'(by omega))
      refine CallS.mk (c := lz8_c) ((a[((j : Nat) : Int).toNat]'(by omega) ^^^ b[((j : Nat) : Int).toNat]'(by omega))) ?_
      repeat' (first | (with_reducible refine Unf.h ?_) | ((conv => whnf); first | (refine Side.mk ?_ ?_; focus (first | with_reducible rfl | exact True.intro | (intros; (try simp only [lenS, inR, cutS, loI, hiI] at *); omega))) | refine RetE.mk () trivial ?_ | refine Got.mk (fun _ _ => ?_) | refine retK_r ?_) | fail); all_goals try (conv => whnf)
      refine Side.mk (congrArg (SV.int _) ?_) (by repeat' (first | (with_reducible refine Unf.h ?_) | ((conv => whnf); exact rfl) | fail); all_goals try (conv => whnf))
      rw [shared_byte a b j (by omega) he h]
      have hl' : len8 (a[j]'(by omega) ^^^ b[j]'(by omega)) ≤ 8 := hl
      simp only [Int.toNat_natCast]
      omega
    · refine ⟨j + 1, ⟨by omega, by omega, fun i hi => ?_⟩, ?_⟩
      · by_cases h8 : i < 8 * j
        · exact he i h8
        · exact kb_same_byte j (by omega) h i (by omega) (by omega)
      · repeat' (first | (with_reducible refine Unf.h ?_) | ((conv => whnf); first | (refine Side.mk ?_ ?_; focus (first | with_reducible rfl | (refine congrArg (SV.int _) ?_; omega))) | (with_reducible refine Unf.h ?_) | exact True.intro) | fail); all_goals try (conv => whnf)
    · have e : j = 32 := by omega
      subst e
      have hs : shared a b = 256 := shared_uniq (Nat.le_refl _) (fun i hi => he i (by omega)) (fun h => absurd h (by omega))
      repeat' (first | (with_reducible refine Unf.h ?_) | ((conv => whnf); first | (refine Side.mk ?_ ?_; focus ((refine congrArg (SV.int _) ?_; omega))) | exact rfl) | fail); all_goals try (conv => whnf)
theorem pfx_eq {p q : Pfx} : p = q ↔ p.len = q.len ∧ p.bits.toList = q.bits.toList := by
  cases p; cases q; simp [Vector.toList_inj]
theorem iffF {p : Prop} (h : ¬ p) : (false = true ↔ p) := ⟨fun e => (by cases e), fun h' => absurd h' h⟩
theorem iffT {p : Prop} (h : p) : (true = true ↔ p) := ⟨fun _ => h, fun _ => rfl⟩
theorem formed_cut {p : Pfx} (h0 : 0 ≤ p.len) (h1 : p.len ≤ 256) : ((cutP p.bits p.len).len = p.len ∧ (cutP p.bits p.len).bits.toList = p.bits.toList) ↔ formedP p := by
  have e : min (max p.len 0) 256 = p.len := by omega
  simp only [cutP, formedP, e, Vector.toList_inj, h0, h1, true_and]
theorem holds_cut {p : Pfx} {k : H256} (hf : formedP p) : ((cutP k p.len).len = p.len ∧ (cutP k p.len).bits.toList = p.bits.toList) ↔ holdsP p k := by
  have e : min (max p.len 0) 256 = p.len := by have := hf.1; have := hf.2.1; omega
  simp only [cutP, holdsP, e, Vector.toList_inj, hf, true_and]
def formed_c : Ctr where
  D := Pfx
  args := fun p => [.agg (ePfx p)]
  res := fun p _ => .dec (formedP p) inferInstance
def formed_H : Cfg := ⟨[(140, cutp_c)], [(1, [1, 5, 10, 12, 14], [13], (.one 0 0 false (.one 1 1 false (.one 2 0 false (.one 3 0 false (.one 4 0 false (.one 5 1 false (.one 6 0 false (.one 7 0 false (.one 8 0 false (.one 9 0 false (.one 10 1 false (.one 11 0 false (.one 12 1 false (.one 14 1 false (.one 13 2 true (.one 15 0 false (.one 16 0 false (.one 17 0 false .nil)))))))))))))))))), [])], [], [], 20, 0, [], [], []⟩
theorem formed_ok : formed_c.Ok Tryz.prog 139 := by
  refine fn_ok formed_H 0 rfl _ Tryz.func139 rfl rfl ⟨cutp_ok, trivial⟩ rfl rfl (by kernel_rfl) (fun _ => Nat.le_of_ble_eq_true rfl) ?_
  intro (p : Pfx) hp hr
  try dsimp only [formed_c] at hp
  try simp only [formed_c, Rng, RngL, inR, and_true, true_and] at hr
  repeat' (first | (with_reducible refine Unf.h ?_) | ((conv => whnf); first | refine Fork.mk (fun h => ?_) (fun h => ?_) | refine RetE.mk () trivial ?_ | refine retK_r ?_) | fail); all_goals try (conv => whnf)
  · refine CallS.mk (c := cutp_c) ((p.bits, p.len)) ?_
    repeat' (first | (with_reducible refine Unf.h ?_) | ((conv => whnf); first | (refine Side.mk ?_ ?_; focus (first | with_reducible rfl | exact True.intro)) | refine RetE.mk () trivial ?_ | refine Got.mk (fun _ _ => ?_) | refine retK_r ?_) | fail); all_goals try (conv => whnf)
    exact Side.mk (formed_cut (by omega) (by omega)) (by repeat' (first | (with_reducible refine Unf.h ?_) | ((conv => whnf); exact rfl) | fail); all_goals try (conv => whnf))
  · exact Side.mk (iffF fun h' => by have := h'.2.1; omega) (by repeat' (first | (with_reducible refine Unf.h ?_) | ((conv => whnf); exact rfl) | fail); all_goals try (conv => whnf))
  · exact Side.mk (iffF fun h' => by have := h'.1; omega) (by repeat' (first | (with_reducible refine Unf.h ?_) | ((conv => whnf); exact rfl) | fail); all_goals try (conv => whnf))
def holds_c : Ctr where
  D := Pfx × H256
  args := fun (p, k) => [.agg (ePfx p), .agg [.arr8 k]]
  res := fun (p, k) _ => .dec (holdsP p k) inferInstance
def holds_H : Cfg := ⟨[(140, cutp_c), (139, formed_c)], [(1, [0, 3, 5, 7], [1, 6], (.one 0 1 false (.one 1 2 true (.one 2 0 false (.one 3 1 false (.one 4 0 false (.one 5 1 false (.one 7 1 false (.one 6 2 true (.one 8 0 false (.one 9 0 false (.one 10 0 false .nil))))))))))), [])], [], [], 15, 0, [], [], []⟩
theorem holds_ok : holds_c.Ok Tryz.prog 99 := by
  refine fn_ok holds_H 0 rfl _ Tryz.func99 rfl rfl ⟨cutp_ok, formed_ok, trivial⟩ rfl rfl (by kernel_rfl) (fun _ => Nat.le_of_ble_eq_true rfl) ?_
  rintro ⟨p, k⟩ hp hr
  try dsimp only [holds_c] at hp
  try simp only [holds_c, Rng, RngL, inR, and_true, true_and] at hr
  repeat' (first | (with_reducible refine Unf.h ?_) | ((conv => whnf); first | refine Fork.mk (fun h => ?_) (fun h => ?_) | (refine Side.mk ?_ ?_; focus (first | with_reducible rfl | exact True.intro)) | refine RetE.mk () trivial ?_ | refine Got.mk (fun _ _ => ?_) | refine retK_r ?_ | refine CallS.mk (c := formed_c) (p) ?_ | refine CallS.mk (c := cutp_c) ((k, p.len)) ?_) | fail); all_goals try (conv => whnf)
  · exact Side.mk (holds_cut h) (by repeat' (first | (with_reducible refine Unf.h ?_) | ((conv => whnf); exact rfl) | fail); all_goals try (conv => whnf))
  · exact Side.mk (iffF fun h' => h h'.1) (by repeat' (first | (with_reducible refine Unf.h ?_) | ((conv => whnf); exact rfl) | fail); all_goals try (conv => whnf))
def within_c : Ctr where
  D := Pfx × Pfx
  args := fun (p, q) => [.agg (ePfx p), .agg (ePfx q)]
  res := fun (p, q) _ => .dec (withinP p q) inferInstance
def within_H : Cfg := ⟨[(139, formed_c), (99, holds_c)], [], [], [], 20, 0, [], [], []⟩
theorem within_ok : within_c.Ok Tryz.prog 150 := by
  refine fn_ok within_H 0 rfl _ Tryz.func150 rfl rfl ⟨formed_ok, holds_ok, trivial⟩ rfl rfl (by kernel_rfl) (fun _ => Nat.le_of_ble_eq_true rfl) ?_
  rintro ⟨p, q⟩ hp hr
  try dsimp only [within_c] at hp
  try simp only [within_c, Rng, RngL, inR, and_true, true_and] at hr
  repeat' (first | (with_reducible refine Unf.h ?_) | ((conv => whnf); first | refine Fork.mk (fun h => ?_) (fun h => ?_) | (refine Side.mk ?_ ?_; focus (first | with_reducible rfl | exact True.intro)) | refine RetE.mk () trivial ?_ | refine Got.mk (fun _ _ => ?_) | refine retK_r ?_ | refine CallS.mk (c := formed_c) (q) ?_ | refine CallS.mk (c := holds_c) ((p, q.bits)) ?_) | fail); all_goals try (conv => whnf)
  · rename_i hf _ _
    exact Side.mk ⟨fun h' => ⟨hf, h, h'⟩, fun h' => h'.2.2⟩ (by repeat' (first | (with_reducible refine Unf.h ?_) | ((conv => whnf); exact rfl) | fail); all_goals try (conv => whnf))
  · exact Side.mk (iffF fun h' => h h'.2.1) (by repeat' (first | (with_reducible refine Unf.h ?_) | ((conv => whnf); exact rfl) | fail); all_goals try (conv => whnf))
  · exact Side.mk (iffF fun h' => h h'.1) (by repeat' (first | (with_reducible refine Unf.h ?_) | ((conv => whnf); exact rfl) | fail); all_goals try (conv => whnf))
def meet_c : Ctr where
  D := Pfx × Pfx
  args := fun (p, q) => [.agg (ePfx p), .agg (ePfx q)]
  res := fun (p, q) _ => .agg (ePfx (meetP p q))
def meet_H : Cfg := ⟨[(139, formed_c), (186, shared_c), (140, cutp_c)], [(3, [1, 3, 5, 8, 10], [6, 12, 13], (.one 0 0 false (.one 1 1 false (.one 2 0 false (.one 3 1 false (.one 4 0 false (.one 5 1 false (.one 7 0 false (.one 8 1 false (.one 9 0 false (.one 10 1 false (.one 6 2 true (.one 11 0 false (.one 12 2 false (.one 13 2 false .nil)))))))))))))), [])], [], [], 27, 0, [], [], []⟩
theorem meet_ok : meet_c.Ok Tryz.prog 163 := by
  refine fn_ok meet_H 0 rfl _ Tryz.func163 rfl rfl ⟨formed_ok, shared_ok, cutp_ok, trivial⟩ rfl rfl (by kernel_rfl) (fun _ => Nat.le_of_ble_eq_true rfl) ?_
  rintro ⟨p, q⟩ hp hr
  try dsimp only [meet_c] at hp
  try simp only [meet_c, Rng, RngL, inR, and_true, true_and] at hr
  repeat' (first | (with_reducible refine Unf.h ?_) | fail); all_goals try (conv => whnf)
  refine CallS.mk (c := formed_c) (p) ?_
  repeat' (first | (with_reducible refine Unf.h ?_) | ((conv => whnf); first | refine Fork.mkn (fun h => ?_) (fun h => ?_) | (refine Side.mk ?_ ?_; focus (first | with_reducible rfl | exact True.intro)) | refine RetE.mk () trivial ?_ | refine Got.mk (fun _ _ => ?_) | refine retK_r ?_) | fail); all_goals try (conv => whnf)
  · have e : meetP p q = zeroP := if_neg fun h' => h h'.1
    repeat' (first | (with_reducible refine Unf.h ?_) | ((conv => whnf); first | (refine Side.mk ?_ ?_; focus ((simp only [*, e]; done))) | exact rfl) | fail); all_goals try (conv => whnf)
  · refine CallS.mk (c := formed_c) (q) ?_
    repeat' (first | (with_reducible refine Unf.h ?_) | ((conv => whnf); first | refine Fork.mkn (fun h => ?_) (fun h => ?_) | (refine Side.mk ?_ ?_; focus (first | with_reducible rfl | exact True.intro)) | refine RetE.mk () trivial ?_ | refine Got.mk (fun _ _ => ?_) | refine retK_r ?_ | refine CallS.mk (c := shared_c) ((p.bits, q.bits)) ?_ | refine CallS.mk (c := cutp_c) ((p.bits, min (min (shared p.bits q.bits : Int) p.len) q.len)) ?_) | fail); all_goals try (conv => whnf)
    · have e : meetP p q = zeroP := if_neg fun h' => (by assumption : ¬ formedP q) h'.2
      repeat' (first | (with_reducible refine Unf.h ?_) | ((conv => whnf); first | (refine Side.mk ?_ ?_; focus ((simp only [*, e]; done))) | exact rfl) | fail); all_goals try (conv => whnf)
    · have hf : formedP p ∧ formedP q := ⟨by assumption, by assumption⟩
      have e : meetP p q = cutP p.bits (min (min (shared p.bits q.bits : Int) p.len) q.len) := if_pos hf
      repeat' (first | (with_reducible refine Unf.h ?_) | ((conv => whnf); first | (refine Side.mk ?_ ?_; focus ((simp only [*, e]; done))) | exact rfl) | fail); all_goals try (conv => whnf)
theorem setB_set (k : H256) (i q : Nat) (hq : q < 32) (e : q = i / 8) (hi : i < 256) (x : BitVec 8) (hx : x = k[q] ||| 128#8 >>> (i % 8)) : k.set q x hq = setB k i := by
  subst e hx; unfold setB; rw [dif_pos hi]
def child_c : Ctr where
  D := Pfx × Int
  args := fun (p, b) => [.agg (ePfx p), .int .i64 b]
  res := fun (p, b) _ => .tup [.agg (ePfx (childP p b)), .dec (childOk p b) inferInstance]
def child_H : Cfg := ⟨[(139, formed_c)], [(4, [1, 5, 7], [13], (.one 0 0 false (.one 1 1 false (.one 2 0 false (.one 3 0 false (.one 4 0 false (.one 5 1 false (.one 6 0 false (.one 7 1 false (.one 8 0 false (.one 9 0 false (.one 10 0 false (.one 11 0 false (.one 12 0 false (.one 13 2 false .nil)))))))))))))), [])], [], [], 43, 0, [], [], []⟩
theorem child_ok : child_c.Ok Tryz.prog 151 := by
  refine fn_ok child_H 0 rfl _ Tryz.func151 rfl rfl ⟨formed_ok, trivial⟩ rfl rfl (by kernel_rfl) (fun _ => Nat.le_of_ble_eq_true rfl) ?_
  rintro ⟨p, b⟩ hp hr
  try dsimp only [child_c] at hp
  try simp only [child_c, Rng, RngL, inR, and_true, true_and] at hr
  repeat' (first | (with_reducible refine Unf.h ?_) | ((conv => whnf); first | refine Fork.mkn (fun h => ?_) (fun h => ?_) | refine Fork.mk (fun h => ?_) (fun h => ?_) | (refine Side.mk ?_ ?_; focus (first | with_reducible rfl | exact True.intro)) | refine RetE.mk () trivial ?_ | refine Got.mk (fun _ _ => ?_) | refine retK_r ?_ | refine CallS.mk (c := formed_c) (p) ?_) | fail); all_goals try (conv => whnf)
  · have hn : ¬ childOk p b := fun h' => h h'.1
    have e : childP p b = zeroP := if_neg hn
    repeat' (first | (with_reducible refine Unf.h ?_) | ((conv => whnf); first | (refine Side.mk ?_ ?_; focus (first | (simp only [*, e, hn]; done) | (simp [*, e, hn]; done))) | exact rfl) | fail); all_goals try (conv => whnf)
  · have hn : ¬ childOk p b := fun h' => by have := h'.2.1; omega
    have e : childP p b = zeroP := if_neg hn
    repeat' (first | (with_reducible refine Unf.h ?_) | ((conv => whnf); first | (refine Side.mk ?_ ?_; focus (first | (simp only [*, e, hn]; done) | (simp [*, e, hn]; done))) | exact rfl) | fail); all_goals try (conv => whnf)
  · have hn : ¬ childOk p b := fun h' => by have := h'.2.2.1; omega
    have e : childP p b = zeroP := if_neg hn
    repeat' (first | (with_reducible refine Unf.h ?_) | ((conv => whnf); first | (refine Side.mk ?_ ?_; focus (first | (simp only [*, e, hn]; done) | (simp [*, e, hn]; done))) | exact rfl) | fail); all_goals try (conv => whnf)
  · have hn : ¬ childOk p b := fun h' => by have := h'.2.2.2; omega
    have e : childP p b = zeroP := if_neg hn
    repeat' (first | (with_reducible refine Unf.h ?_) | ((conv => whnf); first | (refine Side.mk ?_ ?_; focus (first | (simp only [*, e, hn]; done) | (simp [*, e, hn]; done))) | exact rfl) | fail); all_goals try (conv => whnf)
  all_goals have hf : formedP p := by assumption
  all_goals have h0 := hf.1
  all_goals have h1 := hf.2.1
  all_goals have hok : childOk p b := ⟨hf, by omega, by omega, by omega⟩
  all_goals have e : childP p b = ⟨p.len + 1, if b = 1 then setB p.bits p.len.toNat else p.bits⟩ := if_pos hok
  · repeat' (first | (with_reducible refine Unf.h ?_) | ((conv => whnf); first | (refine Side.mk ?_ ?_; focus (first | omega | (intros; (try simp only [lenS, inR, cutS, loI, hiI] at *); omega))) | (refine Idx.mk ?_ ?_; focus (omega)) | refine RetE.mk () trivial ?_ | refine retK_r ?_) | fail); all_goals try (conv => whnf)
    · refine Side.mk (congrArg (SV.int _) (by rw [e])) ?_
      repeat' (first | (with_reducible refine Unf.h ?_) | fail); all_goals try (conv => whnf)
      refine Side.mk (congrArg SV.arr8 ?_) ?_
      · rw [e, if_pos h]
        refine setB_set _ p.len.toNat _ (by omega) (by omega) (by omega) _ ?_
        rw [show (p.len % 8).toNat = p.len.toNat % 8 by omega]
      · repeat' (first | (with_reducible refine Unf.h ?_) | ((conv => whnf); first | (refine Side.mk ?_ ?_; focus ((refine ⟨fun h => ?_, fun h => ?_⟩ <;> first | rfl | (cases h; done) | omega | (exfalso; omega) | (simp only [Bool.false_eq_true] at h; done)))) | exact rfl) | fail); all_goals try (conv => whnf)
  · repeat' (first | (with_reducible refine Unf.h ?_) | ((conv => whnf); first | (refine Side.mk ?_ ?_; focus (first | (intros; (try simp only [lenS, inR, cutS, loI, hiI] at *); omega) | (refine ⟨fun h => ?_, fun h => ?_⟩ <;> first | rfl | (cases h; done) | omega | (exfalso; omega) | (simp only [Bool.false_eq_true] at h; done)) | (simp only [*]; done) | (simp [*]; done))) | refine RetE.mk () trivial ?_ | refine retK_r ?_ | exact rfl) | fail); all_goals try (conv => whnf)
end Go.Proofs.YtdflndjlnkoliaaGreatDoor

namespace Go.Proofs.YtdflndjlnkoliaaGreatDoor
set_option linter.all false
open Go.RowKit
/-! prefixes, as the document reckons them -/
theorem bit_div (x : BitVec 8) (n : Nat) : ((x.toNat / 2 ^ n : Nat) : Int) % 2 = if x.getLsbD n then 1 else 0 := by
  rw [BitVec.getLsbD, Nat.testBit_eq_decide_div_mod_eq]
  generalize x.toNat / 2 ^ n = m
  by_cases h : m % 2 = 1
  · simp only [h, decide_true, if_true]; omega
  · simp only [h, decide_false, Bool.false_eq_true, if_false]; omega
def rbit_c : Ctr where
  D := H256 × Int
  args := fun (k, i) => [.agg [.arr8 k], .int .i64 i]
  res := fun (k, i) _ => .int .i64 (bitI k i)
def rbit_H : Cfg := ⟨[], [], [], [], 29, 0, [], [], []⟩
theorem rbit_ok : rbit_c.Ok Tryz.prog 94 := by
  refine fn_ok rbit_H 0 rfl _ Tryz.func94 rfl rfl trivial rfl rfl (by kernel_rfl) (fun _ => Nat.le_of_ble_eq_true rfl) ?_
  rintro ⟨k, i⟩ hp hr
  try dsimp only [rbit_c] at hp
  try simp only [rbit_c, Rng, RngL, inR, and_true, true_and] at hr
  repeat' (first | (with_reducible refine Unf.h ?_) | ((conv => whnf); first | refine Fork.mk (fun h => ?_) (fun h => ?_) | (refine Side.mk ?_ ?_; focus (omega)) | (refine Idx.mk ?_ ?_; focus (omega)) | refine RetE.mk () trivial ?_ | refine retK_r ?_) | fail); all_goals try (conv => whnf)
  · exact Side.mk (congrArg (SV.int _) (by unfold bitI; rw [if_neg (by omega)])) (by repeat' (first | (with_reducible refine Unf.h ?_) | ((conv => whnf); exact rfl) | fail); all_goals try (conv => whnf))
  · exact Side.mk (congrArg (SV.int _) (by unfold bitI; rw [kb_out (by omega)]; simp)) (by repeat' (first | (with_reducible refine Unf.h ?_) | ((conv => whnf); exact rfl) | fail); all_goals try (conv => whnf))
  · have hi : (i / 8).toNat < 32 := by omega
    refine LoopS.auto (fun n : Nat => n ≤ 7 - i.toNat % 8) (fun n => [(6, .int .i64 n), (5, .int .i64 (((k[(i / 8).toNat]'hi).toNat / 2 ^ n : Nat) : Int))]) (fun n => [(0, .box 30 [.arr8 k])]) (fun n => 7 - i.toNat % 8 - n) 0 (by omega) ?_ ?_
    · repeat' (first | (with_reducible refine Unf.h ?_) | ((conv => whnf); first | (refine Side.mk ?_ ?_; focus (first | with_reducible rfl | (refine congrArg (SV.int _) ?_; omega))) | (with_reducible refine Unf.h ?_) | exact True.intro) | fail); all_goals try (conv => whnf)
    · intro n hn
      repeat' (first | (with_reducible first | refine Unf.h ?_ | refine loopK_n ?_) | ((conv => whnf); first | refine Fork.mk (fun h => ?_) (fun h => ?_) | (refine Side.mk ?_ ?_; focus (first | omega | (intros; (try simp only [lenS, inR, cutS, loI, hiI] at *); omega) | exact nnS (by decide))) | refine RetE.mk () trivial ?_ | refine retK_r ?_) | fail); all_goals try (conv => whnf)
      · refine ⟨n + 1, ⟨by omega, by omega⟩, ?_⟩
        have e : (((k[(i / 8).toNat]'hi).toNat / 2 ^ n : Nat) : Int) / 2 = (((k[(i / 8).toNat]'hi).toNat / 2 ^ (n + 1) : Nat) : Int) := by
          rw [Nat.pow_succ, ← Nat.div_div_eq_div_mul]; omega
        repeat' (first | (with_reducible refine Unf.h ?_) | ((conv => whnf); first | (refine Side.mk ?_ ?_; focus (first | with_reducible rfl | (refine congrArg (SV.int _) ?_; omega))) | (with_reducible refine Unf.h ?_) | exact True.intro) | fail); all_goals try (conv => whnf)
      · have e : n = 7 - i.toNat % 8 := by omega
        subst e
        all_goals try (conv => whnf)
        refine Side.mk (congrArg (SV.int _) ?_) (by repeat' (first | (with_reducible refine Unf.h ?_) | ((conv => whnf); exact rfl) | fail); all_goals try (conv => whnf))
        rw [bit_div]
        have h1 : i.toNat < 256 := by omega
        unfold bitI kb
        rw [dif_pos h1]
        simp only [show (i / 8).toNat = i.toNat / 8 by omega, show 0 ≤ i by omega, true_and]
def rshared_c : Ctr where
  D := H256 × H256
  args := fun (a, b) => [.agg [.arr8 a], .agg [.arr8 b]]
  res := fun (a, b) _ => .int .i64 (shared a b)
theorem bitI_eq {a b : H256} {n : Nat} : bitI a n = bitI b n ↔ kb a n = kb b n := by
  simp only [bitI_nat]
  cases kb a n <;> cases kb b n <;> simp
def rshared_H : Cfg := ⟨[(94, rbit_c)], [(2, [3, 6], [5, 8], (.one 0 0 false (.one 1 0 false (.one 2 0 false (.one 3 1 false (.one 4 0 false (.one 6 1 false (.one 7 0 false (.one 5 2 true (.one 8 2 false (.one 9 0 false (.one 10 0 false .nil))))))))))), [])], [], [], 20, 0, [], [], []⟩
theorem rshared_ok : rshared_c.Ok Tryz.prog 135 := by
  refine fn_ok rshared_H 0 rfl _ Tryz.func135 rfl rfl ⟨rbit_ok, trivial⟩ rfl rfl (by kernel_rfl) (fun _ => Nat.le_of_ble_eq_true rfl) ?_
  rintro ⟨a, b⟩ hp hr
  try dsimp only [rshared_c] at hp
  try simp only [rshared_c, Rng, RngL, inR, and_true, true_and] at hr
  repeat' (first | (with_reducible refine Unf.h ?_) | fail); all_goals try (conv => whnf)
  refine LoopS.auto (fun n : Nat => n ≤ 256 ∧ ∀ i, i < n → kb a i = kb b i) (fun n => [(5, .int .i64 n)]) (fun n => [(1, .box 30 [.arr8 b]), (0, .box 30 [.arr8 a])]) (fun n => 256 - n) 0 ⟨by omega, fun i hi => by omega⟩ ?_ ?_
  · repeat' (first | (with_reducible refine Unf.h ?_) | ((conv => whnf); first | (refine Side.mk ?_ ?_; focus (first | with_reducible rfl | (refine congrArg (SV.int _) ?_; omega))) | (with_reducible refine Unf.h ?_) | exact True.intro) | fail); all_goals try (conv => whnf)
  · intro n hn
    obtain ⟨hn, he⟩ := hn
    repeat' (first | (with_reducible refine Unf.h ?_) | ((conv => whnf); first | refine Fork.mk (fun h => ?_) (fun h => ?_) | refine RetE.mk () trivial ?_ | refine retK_r ?_) | fail); all_goals try (conv => whnf)
    · refine CallS.mk (c := rbit_c) ((a, (n : Int))) ?_
      repeat' (first | (with_reducible refine Unf.h ?_) | ((conv => whnf); first | (refine Side.mk ?_ ?_; focus (first | with_reducible rfl | exact True.intro)) | refine Got.mk (fun _ _ => ?_)) | fail); all_goals try (conv => whnf)
      refine CallS.mk (c := rbit_c) ((b, (n : Int))) ?_
      repeat' (first | (with_reducible first | refine Unf.h ?_ | refine loopK_n ?_) | ((conv => whnf); first | refine Fork.mk (fun h => ?_) (fun h => ?_) | (refine Side.mk ?_ ?_; focus (first | with_reducible rfl | exact True.intro | (intros; (try simp only [lenS, inR, cutS, loI, hiI] at *); omega))) | refine RetE.mk () trivial ?_ | refine Got.mk (fun _ _ => ?_) | refine retK_r ?_) | fail); all_goals try (conv => whnf)
      · have h := bitI_eq.1 h
        refine ⟨n + 1, ⟨by omega, by omega, fun i hi => ?_⟩, ?_⟩
        · by_cases h8 : i < n
          · exact he i h8
          · rw [show i = n by omega]; exact h
        · repeat' (first | (with_reducible refine Unf.h ?_) | ((conv => whnf); first | (refine Side.mk ?_ ?_; focus (first | with_reducible rfl | (refine congrArg (SV.int _) ?_; omega))) | (with_reducible refine Unf.h ?_) | exact True.intro) | fail); all_goals try (conv => whnf)
      · have hs : shared a b = n := shared_uniq hn he (fun _ => fun e => h (bitI_eq.2 e))
        repeat' (first | (with_reducible refine Unf.h ?_) | ((conv => whnf); first | (refine Side.mk ?_ ?_; focus ((refine congrArg (SV.int _) ?_; omega))) | exact rfl) | fail); all_goals try (conv => whnf)
    · have e : n = 256 := by omega
      subst e
      have hs : shared a b = 256 := shared_uniq (Nat.le_refl _) he (fun h => absurd h (by omega))
      repeat' (first | (with_reducible refine Unf.h ?_) | ((conv => whnf); first | (refine Side.mk ?_ ?_; focus ((refine congrArg (SV.int _) ?_; omega))) | exact rfl) | fail); all_goals try (conv => whnf)
def rset_c : Ctr where
  D := H256 × Nat
  pre := fun (_, i) => i < 256
  args := fun (k, i) => [.agg [.arr8 k], .int .i64 i]
  res := fun (k, i) _ => .agg [.arr8 (setB k i)]
theorem add_or : ∀ x : Fin 256, ∀ m : Fin 8, (BitVec.ofNat 8 x.1).getLsbD (7 - m.1) = false → BitVec.ofNat 8 x.1 + BitVec.ofInt 8 ((128 / 2 ^ m.1 : Nat) : Int) = BitVec.ofNat 8 x.1 ||| 128#8 >>> m.1 := by decide +kernel
def rset_H : Cfg := ⟨[(94, rbit_c)], [], [], [], 28, 0, [], [], []⟩
theorem rset_ok : rset_c.Ok Tryz.prog 166 := by
  refine fn_ok rset_H 0 rfl _ Tryz.func166 rfl rfl ⟨rbit_ok, trivial⟩ rfl rfl (by kernel_rfl) (fun _ => Nat.le_of_ble_eq_true rfl) ?_
  rintro ⟨k, i⟩ hp hr
  try dsimp only [rset_c] at hp
  try simp only [rset_c, Rng, RngL, inR, and_true, true_and] at hr
  repeat' (first | (with_reducible refine Unf.h ?_) | fail); all_goals try (conv => whnf)
  refine CallS.mk (c := rbit_c) ((k, (i : Int))) ?_
  repeat' (first | (with_reducible refine Unf.h ?_) | ((conv => whnf); first | refine Fork.mk (fun h => ?_) (fun h => ?_) | (refine Side.mk ?_ ?_; focus (first | with_reducible rfl | exact True.intro)) | refine RetE.mk () trivial ?_ | refine Got.mk (fun _ _ => ?_) | refine retK_r ?_) | fail); all_goals try (conv => whnf)
  · refine LoopS.auto (fun n : Nat => n ≤ i % 8) (fun n => [(6, .int .i64 n), (5, .int .i64 ((128 / 2 ^ n : Nat) : Int))]) (fun n => [(1, .box 30 [.arr8 zeroH]), (0, .box 30 [.arr8 k])]) (fun n => i % 8 - n) 0 (by omega) ?_ ?_
    · repeat' (first | (with_reducible refine Unf.h ?_) | ((conv => whnf); first | (refine Side.mk ?_ ?_; focus (first | with_reducible rfl | (refine congrArg (SV.int _) ?_; omega))) | (with_reducible refine Unf.h ?_) | exact True.intro) | fail); all_goals try (conv => whnf)
    · intro n hn
      repeat' (first | (with_reducible first | refine Unf.h ?_ | refine loopK_n ?_) | ((conv => whnf); first | refine Fork.mk (fun h => ?_) (fun h => ?_) | (refine Side.mk ?_ ?_; focus (first | omega | (intros; (try simp only [lenS, inR, cutS, loI, hiI] at *); omega) | exact nnS (by decide))) | (refine Idx.mk ?_ ?_; focus (omega)) | refine RetE.mk () trivial ?_ | refine retK_r ?_) | fail); all_goals try (conv => whnf)
      · refine ⟨n + 1, ⟨by omega, by omega⟩, ?_⟩
        have e : ((128 / 2 ^ n : Nat) : Int) / 2 = ((128 / 2 ^ (n + 1) : Nat) : Int) := by
          rw [Nat.pow_succ, ← Nat.div_div_eq_div_mul]; omega
        repeat' (first | (with_reducible refine Unf.h ?_) | ((conv => whnf); first | (refine Side.mk ?_ ?_; focus (first | with_reducible rfl | (refine congrArg (SV.int _) ?_; omega))) | (with_reducible refine Unf.h ?_) | exact True.intro) | fail); all_goals try (conv => whnf)
      · have e : n = i % 8 := by omega
        subst e
        all_goals try (conv => whnf)
        refine Side.mk (congrArg SV.arr8 (setB_set k i _ _ (by omega) hp _ ?_)) (by repeat' (first | (with_reducible refine Unf.h ?_) | ((conv => whnf); exact rfl) | fail); all_goals try (conv => whnf))
        have hb : kb k i = false := by
          cases hb : kb k i
          · rfl
          · have hz : bitI k (i : Int) = 0 := by assumption
            rw [bitI_nat, hb] at hz; simp at hz
        unfold kb at hb
        rw [dif_pos hp] at hb
        have := add_or ⟨(k[i / 8]'(by omega)).toNat, (k[i / 8]'(by omega)).isLt⟩ ⟨i % 8, by omega⟩
        simp only [BitVec.ofNat_toNat, BitVec.setWidth_eq] at this
        exact this hb
  · have hb : kb k i = true := by
      cases hb : kb k i
      · exfalso; apply h; rw [bitI_nat, hb]; rfl
      · rfl
    have e : setB k i = k := kb_ext fun j hj => by
      rw [kb_setB k i j hp hj]
      by_cases he : i = j
      · subst he; simp [hb]
      · simp [he]
    repeat' (first | (with_reducible refine Unf.h ?_) | ((conv => whnf); first | (refine Side.mk ?_ ?_; focus ((simp only [*, e]; done))) | exact rfl) | fail); all_goals try (conv => whnf)
def rcut_c : Ctr where
  D := H256 × Int
  args := fun (k, n) => [.agg [.arr8 k], .int .i64 n]
  res := fun (k, n) _ => .agg (ePfx (cutP k n))
def rcut_H : Cfg := ⟨[(94, rbit_c), (166, rset_c)], [], [], [], 30, 0, [], [], []⟩
theorem rcut_ok : rcut_c.Ok Tryz.prog 134 := by
  refine fn_ok rcut_H 0 rfl _ Tryz.func134 rfl rfl ⟨rbit_ok, rset_ok, trivial⟩ rfl rfl (by kernel_rfl) (fun _ => Nat.le_of_ble_eq_true rfl) ?_
  rintro ⟨k, n⟩ hp hr
  try dsimp only [rcut_c] at hp
  try simp only [rcut_c, Rng, RngL, inR, and_true, true_and] at hr
  repeat' (first | (with_reducible refine Unf.h ?_) | fail); all_goals try (conv => whnf)
  refine LoopS.auto (fun i : Nat => i ≤ 256 ∧ (i : Int) ≤ max n 0) (fun i => [(6, .int .i64 i)]) (fun i => [(2, .box 58 [.int .i64 i, .arr8 (cutB k i)]), (1, .box 58 [.int .i64 0, .arr8 zeroH]), (0, .box 30 [.arr8 k])]) (fun i => 256 - i) 0 (by omega) ?_ ?_
  · repeat' (first | (with_reducible refine Unf.h ?_) | ((conv => whnf); first | (refine Side.mk ?_ ?_; focus (first | with_reducible rfl | (refine congrArg (SV.int _) ?_; omega) | (simp only [*, cutB_zero]; done))) | (with_reducible refine Unf.h ?_) | exact True.intro) | fail); all_goals try (conv => whnf)
  · intro i hi
    repeat' (first | (with_reducible refine Unf.h ?_) | ((conv => whnf); first | refine Fork.mk (fun h => ?_) (fun h => ?_) | (refine Side.mk ?_ ?_; focus ((intros; (try simp only [lenS, inR, cutS, loI, hiI] at *); omega))) | refine RetE.mk () trivial ?_ | refine retK_r ?_) | fail); all_goals try (conv => whnf)
    · refine CallS.mk (c := rbit_c) ((k, (i : Int))) ?_
      repeat' (first | (with_reducible first | refine Unf.h ?_ | refine loopK_n ?_) | ((conv => whnf); first | refine Fork.mk (fun h => ?_) (fun h => ?_) | (refine Side.mk ?_ ?_; focus (first | with_reducible rfl | exact True.intro | (intros; (try simp only [lenS, inR, cutS, loI, hiI] at *); omega))) | refine Got.mk (fun _ _ => ?_)) | fail); all_goals try (conv => whnf)
      · have hb : kb k i = true := by
          rw [bitI_nat] at h
          cases hb : kb k i
          · rw [hb] at h; simp at h
          · rfl
        refine CallS.mk (c := rset_c) ((cutB k i, i)) ?_
        repeat' (first | (with_reducible first | refine Unf.h ?_ | refine loopK_n ?_) | ((conv => whnf); first | (refine Side.mk ?_ ?_; focus (first | with_reducible rfl | (intros; (try simp only [lenS, inR, cutS, loI, hiI] at *); omega) | (dsimp only [resS, rcut_c, rset_c]; omega))) | refine Got.mk (fun _ _ => ?_)) | fail); all_goals try (conv => whnf)
        refine ⟨i + 1, ⟨by omega, by omega, by omega⟩, ?_⟩
        rw [cutB_succ k i (by omega), if_pos hb]
        repeat' (first | (with_reducible refine Unf.h ?_) | ((conv => whnf); first | (refine Side.mk ?_ ?_; focus (first | with_reducible rfl | (refine congrArg (SV.int _) ?_; omega))) | (with_reducible refine Unf.h ?_) | exact True.intro) | fail); all_goals try (conv => whnf)
      · have hb : kb k i = false := by
          cases hb : kb k i
          · rfl
          · exfalso; apply h; rw [bitI_nat, hb]; rfl
        refine ⟨i + 1, ⟨by omega, by omega, by omega⟩, ?_⟩
        rw [cutB_succ k i (by omega), hb]
        repeat' (first | (with_reducible refine Unf.h ?_) | ((conv => whnf); first | (refine Side.mk ?_ ?_; focus (first | with_reducible rfl | (refine congrArg (SV.int _) ?_; omega) | (simp [*]; done))) | (with_reducible refine Unf.h ?_) | exact True.intro) | fail); all_goals try (conv => whnf)
    · have e1 : min (max n 0) 256 = (i : Int) := by omega
      repeat' (first | (with_reducible refine Unf.h ?_) | ((conv => whnf); first | (refine Side.mk ?_ ?_; focus ((simp only [*, cutP, e1, Int.toNat_natCast]; done))) | exact rfl) | fail); all_goals try (conv => whnf)
    · have e1 : min (max n 0) 256 = (i : Int) := by omega
      repeat' (first | (with_reducible refine Unf.h ?_) | ((conv => whnf); first | (refine Side.mk ?_ ?_; focus ((simp only [*, cutP, e1, Int.toNat_natCast]; done))) | exact rfl) | fail); all_goals try (conv => whnf)
def rformed_c : Ctr where
  D := Pfx
  args := fun p => [.agg (ePfx p)]
  res := fun p _ => .dec (formedP p) inferInstance
def rformed_H : Cfg := ⟨[(94, rbit_c)], [], [], [], 23, 0, [], [], []⟩
theorem rformed_ok : rformed_c.Ok Tryz.prog 136 := by
  refine fn_ok rformed_H 0 rfl _ Tryz.func136 rfl rfl ⟨rbit_ok, trivial⟩ rfl rfl (by kernel_rfl) (fun _ => Nat.le_of_ble_eq_true rfl) ?_
  intro (p : Pfx) hp hr
  try dsimp only [rformed_c] at hp
  try simp only [rformed_c, Rng, RngL, inR, and_true, true_and] at hr
  repeat' (first | (with_reducible refine Unf.h ?_) | ((conv => whnf); first | refine Fork.mk (fun h => ?_) (fun h => ?_) | refine RetE.mk () trivial ?_ | refine retK_r ?_) | fail); all_goals try (conv => whnf)
  · exact Side.mk (iffF fun h' => by have := h'.1; omega) (by repeat' (first | (with_reducible refine Unf.h ?_) | ((conv => whnf); exact rfl) | fail); all_goals try (conv => whnf))
  · exact Side.mk (iffF fun h' => by have := h'.2.1; omega) (by repeat' (first | (with_reducible refine Unf.h ?_) | ((conv => whnf); exact rfl) | fail); all_goals try (conv => whnf))
  · have h0 : 0 ≤ p.len := by omega
    have h1 : p.len ≤ 256 := by omega
    refine LoopS.auto (fun i : Nat => p.len.toNat ≤ i ∧ i ≤ 256 ∧ ∀ j : Nat, p.len ≤ j → j < i → kb p.bits j = false) (fun i => [(3, .int .i64 i)]) (fun i => [(0, .box 58 [.int .i64 p.len, .arr8 p.bits])]) (fun i => 256 - i) p.len.toNat ⟨by omega, by omega, fun j h1 h2 => by omega⟩ ?_ ?_
    · repeat' (first | (with_reducible refine Unf.h ?_) | ((conv => whnf); first | (refine Side.mk ?_ ?_; focus (first | with_reducible rfl | (refine congrArg (SV.int _) ?_; omega))) | (with_reducible refine Unf.h ?_) | exact True.intro) | fail); all_goals try (conv => whnf)
    · intro i hi
      obtain ⟨hi1, hi2, hi3⟩ := hi
      repeat' (first | (with_reducible refine Unf.h ?_) | ((conv => whnf); first | refine Fork.mk (fun h => ?_) (fun h => ?_) | refine RetE.mk () trivial ?_ | refine retK_r ?_) | fail); all_goals try (conv => whnf)
      · refine CallS.mk (c := rbit_c) ((p.bits, (i : Int))) ?_
        repeat' (first | (with_reducible first | refine Unf.h ?_ | refine loopK_n ?_) | ((conv => whnf); first | refine Fork.mk (fun h => ?_) (fun h => ?_) | (refine Side.mk ?_ ?_; focus (first | with_reducible rfl | exact True.intro | (intros; (try simp only [lenS, inR, cutS, loI, hiI] at *); omega))) | refine RetE.mk () trivial ?_ | refine Got.mk (fun _ _ => ?_) | refine retK_r ?_) | fail); all_goals try (conv => whnf)
        · refine Side.mk (iffF fun h' => ?_) (by repeat' (first | (with_reducible refine Unf.h ?_) | ((conv => whnf); exact rfl) | fail); all_goals try (conv => whnf))
          have := (formed_iff h0 h1).1 h' i (by omega)
          rw [bitI_nat, this] at h; simp at h
        · refine ⟨i + 1, ⟨by omega, by omega, by omega, fun j h1 h2 => ?_⟩, ?_⟩
          · by_cases hj : j < i
            · exact hi3 j h1 hj
            · rw [show j = i by omega]
              cases hb : kb p.bits i
              · rfl
              · exfalso; apply h; rw [bitI_nat, hb]; rfl
          · repeat' (first | (with_reducible refine Unf.h ?_) | ((conv => whnf); first | (refine Side.mk ?_ ?_; focus (first | with_reducible rfl | (refine congrArg (SV.int _) ?_; omega))) | (with_reducible refine Unf.h ?_) | exact True.intro) | fail); all_goals try (conv => whnf)
      · refine Side.mk (iffT ((formed_iff h0 h1).2 fun j hj => ?_)) (by repeat' (first | (with_reducible refine Unf.h ?_) | ((conv => whnf); exact rfl) | fail); all_goals try (conv => whnf))
        by_cases h256 : j < 256
        · exact hi3 j hj (by omega)
        · exact kb_out (by omega)
def rholds_c : Ctr where
  D := Pfx × H256
  args := fun (p, k) => [.agg (ePfx p), .agg [.arr8 k]]
  res := fun (p, k) _ => .dec (holdsP p k) inferInstance
def rholds_H : Cfg := ⟨[(135, rshared_c), (136, rformed_c)], [(1, [0, 4, 5, 8], [1, 6], (.one 0 1 false (.one 1 2 true (.one 2 0 false (.one 3 0 false (.one 4 1 false (.one 5 1 false (.one 7 0 false (.one 8 1 false (.one 6 2 true (.one 9 0 false (.one 10 0 false (.one 11 0 false .nil)))))))))))), [])], [], [], 16, 0, [], [], []⟩
theorem rholds_ok : rholds_c.Ok Tryz.prog 93 := by
  refine fn_ok rholds_H 0 rfl _ Tryz.func93 rfl rfl ⟨rshared_ok, rformed_ok, trivial⟩ rfl rfl (by kernel_rfl) (fun _ => Nat.le_of_ble_eq_true rfl) ?_
  rintro ⟨p, k⟩ hp hr
  try dsimp only [rholds_c] at hp
  try simp only [rholds_c, Rng, RngL, inR, and_true, true_and] at hr
  repeat' (first | (with_reducible refine Unf.h ?_) | ((conv => whnf); first | refine Fork.mk (fun h => ?_) (fun h => ?_) | (refine Side.mk ?_ ?_; focus (first | with_reducible rfl | exact True.intro)) | refine RetE.mk () trivial ?_ | refine Got.mk (fun _ _ => ?_) | refine retK_r ?_ | refine CallS.mk (c := rformed_c) (p) ?_ | refine CallS.mk (c := rshared_c) ((p.bits, k)) ?_) | fail); all_goals try (conv => whnf)
  · exact Side.mk ⟨fun h' => holds_shared.2 ⟨h, h'⟩, fun h' => (holds_shared.1 h').2⟩ (by repeat' (first | (with_reducible refine Unf.h ?_) | ((conv => whnf); exact rfl) | fail); all_goals try (conv => whnf))
  · exact Side.mk (iffF fun h' => h h'.1) (by repeat' (first | (with_reducible refine Unf.h ?_) | ((conv => whnf); exact rfl) | fail); all_goals try (conv => whnf))
def rwithin_c : Ctr where
  D := Pfx × Pfx
  args := fun (p, q) => [.agg (ePfx p), .agg (ePfx q)]
  res := fun (p, q) _ => .dec (withinP p q) inferInstance
def rchild_c : Ctr where
  D := Pfx × Int
  args := fun (p, b) => [.agg (ePfx p), .int .i64 b]
  res := fun (p, b) _ => .tup [.agg (ePfx (childP p b)), .dec (childOk p b) inferInstance]
def lessP (a b : H256) : Prop := shared a b < 256 ∧ kb a (shared a b) = false
instance (a b : H256) : Decidable (lessP a b) := inferInstanceAs (Decidable (_ ∧ _))
def rless_c : Ctr where
  D := H256 × H256
  args := fun (a, b) => [.agg [.arr8 a], .agg [.arr8 b]]
  res := fun (a, b) _ => .dec (lessP a b) inferInstance
def rless_H : Cfg := ⟨[(94, rbit_c), (135, rshared_c)], [], [], [], 17, 0, [], [], []⟩
theorem rless_ok : rless_c.Ok Tryz.prog 137 := by
  refine fn_ok rless_H 0 rfl _ Tryz.func137 rfl rfl ⟨rbit_ok, rshared_ok, trivial⟩ rfl rfl (by kernel_rfl) (fun _ => Nat.le_of_ble_eq_true rfl) ?_
  rintro ⟨a, b⟩ hp hr
  try dsimp only [rless_c] at hp
  try simp only [rless_c, Rng, RngL, inR, and_true, true_and] at hr
  repeat' (first | (with_reducible refine Unf.h ?_) | ((conv => whnf); first | refine Fork.mk (fun h => ?_) (fun h => ?_) | (refine Side.mk ?_ ?_; focus (first | with_reducible rfl | exact True.intro)) | refine RetE.mk () trivial ?_ | refine Got.mk (fun _ _ => ?_) | refine retK_r ?_ | refine CallS.mk (c := rshared_c) ((a, b)) ?_ | refine CallS.mk (c := rbit_c) ((a, (shared a b : Int))) ?_) | fail); all_goals try (conv => whnf)
  · refine Side.mk ⟨fun h' => ⟨by omega, ?_⟩, fun h' => ?_⟩ (by repeat' (first | (with_reducible refine Unf.h ?_) | ((conv => whnf); exact rfl) | fail); all_goals try (conv => whnf))
    · rw [bitI_nat] at h'
      cases hb : kb a (shared a b)
      · rfl
      · rw [hb] at h'; simp at h'
    · show bitI a (shared a b : Int) = 0
      rw [bitI_nat, h'.2]; rfl
  · exact Side.mk (iffF fun h' => h (by have := h'.1; omega)) (by repeat' (first | (with_reducible refine Unf.h ?_) | ((conv => whnf); exact rfl) | fail); all_goals try (conv => whnf))
end Go.Proofs.YtdflndjlnkoliaaGreatDoor

namespace Go.Proofs.YtdflndjlnkoliaaGreatDoor
set_option linter.all false
open Go.RowKit
/-! forests -/
abbrev Fo := List Nd
def zeroN : Nd := ⟨false, zeroH, zeroH, 0, zeroH, 0, 0, zeroH⟩
def nd (l : Fo) (i : Int) : Nd := if 0 ≤ i then l.getD i.toNat zeroN else zeroN
theorem nd_get (l : Fo) (i : Int) (h0 : 0 ≤ i) (h : i.toNat < l.length) : l[i.toNat] = nd l i := by
  unfold nd; rw [if_pos h0, List.getD_eq_getElem?_getD, List.getElem?_eq_getElem h]; rfl
theorem nd_app (l m : Fo) (i : Int) (h : i < l.length) : nd (l ++ m) i = nd l i := by
  unfold nd
  split
  · simp only [List.getD_eq_getElem?_getD]
    rw [List.getElem?_append_left (by omega)]
  · rfl
theorem nd_out (l : Fo) (i : Int) (h : i < 0 ∨ (l.length : Int) ≤ i) : nd l i = zeroN := by
  unfold nd
  split
  · rw [List.getD_eq_getElem?_getD, List.getElem?_eq_none (by omega)]; rfl
  · rfl
theorem nd_last (l : Fo) (n : Nd) : nd (l ++ [n]) (l.length : Int) = n := by
  unfold nd
  rw [if_pos (by omega)]
  simp [List.getD_eq_getElem?_getD]
def Nd.pfx (n : Nd) : Pfx := ⟨n.plen, n.bits⟩
def Nd.cover (n : Nd) : Pfx := if n.leaf then cutP n.key 256 else n.pfx
abbrev fo (l : Fo) : List Ob := [(0, .box 100 [.own 1]), (1, .row 192 132 eNd l)]
def size_c : Ctr where
  D := Fo
  args := fun _ => [.ptr 0 0]
  objs := fun l => fo l
  nn := 2
  res := fun l _ => .int .i64 l.length
  out := fun l _ => fo l
def size_H : Cfg := ⟨[], [], [], [], 10, 2, [], [], []⟩
theorem size_ok : size_c.Ok Tryz.prog 44 := by
  refine fn_ok size_H 2 rfl _ Tryz.func44 rfl rfl trivial rfl rfl (by kernel_rfl) (fun _ => Nat.le_of_ble_eq_true rfl) ?_
  intro (l : Fo) hp hr
  try dsimp only [size_c] at hp
  try simp only [size_c, Rng, RngL, inR, and_true, true_and] at hr
  repeat' (first | (with_reducible refine Unf.h ?_) | ((conv => whnf); first | (refine Side.mk ?_ ?_; focus (first | with_reducible rfl | (refine congrArg (SV.int _) ?_; omega))) | refine RetE.mk () trivial ?_ | refine retK_r ?_ | exact rfl) | fail); all_goals try (conv => whnf)
def sizeN_c : Ctr where
  D := Unit
  args := fun _ => [.nilp]
  res := fun _ _ => .int .i64 0
def sizeN_H : Cfg := ⟨[], [], [], [], 10, 0, [], [], []⟩
theorem sizeN_ok : sizeN_c.Ok Tryz.prog 44 := by
  refine fn_ok sizeN_H 0 rfl _ Tryz.func44 rfl rfl trivial rfl rfl (by kernel_rfl) (fun _ => Nat.le_of_ble_eq_true rfl) ?_
  intro (_ : Unit) hp hr
  repeat' (first | (with_reducible refine Unf.h ?_) | ((conv => whnf); first | (refine Side.mk ?_ ?_; focus ((refine congrArg (SV.int _) ?_; omega))) | refine RetE.mk () trivial ?_ | refine retK_r ?_ | exact rfl) | fail); all_goals try (conv => whnf)
def inF (l : Fo) (i : Int) : Prop := 0 ≤ i ∧ i < l.length
instance (l : Fo) (i : Int) : Decidable (inF l i) := inferInstanceAs (Decidable (_ ∧ _))
def node_c : Ctr where
  D := Fo × Int
  args := fun (_, i) => [.ptr 0 0, .int .i64 i]
  objs := fun (l, _) => fo l
  nn := 2
  res := fun (l, i) _ => .tup [.agg (eNd (nd l i)), .dec (inF l i) inferInstance]
  out := fun (l, _) _ => fo l
def node_H : Cfg := ⟨[(44, size_c)], [], [], [], 22, 2, [], [], []⟩
theorem node_ok : node_c.Ok Tryz.prog 98 := by
  refine fn_ok node_H 2 rfl _ Tryz.func98 rfl rfl ⟨size_ok, trivial⟩ rfl rfl (by kernel_rfl) (fun _ => Nat.le_of_ble_eq_true rfl) ?_
  rintro ⟨l, i⟩ hp hr
  try dsimp only [node_c] at hp
  try simp only [node_c, Rng, RngL, inR, and_true, true_and] at hr
  repeat' (first | (with_reducible refine Unf.h ?_) | ((conv => whnf); first | refine Fork.mk (fun h => ?_) (fun h => ?_) | (refine Side.mk ?_ ?_; focus (first | with_reducible rfl | exact True.intro | omega)) | (refine Idx.mk ?_ ?_; focus (omega)) | refine RetE.mk () trivial ?_ | refine Got.mk (fun _ _ => ?_) | refine retK_r ?_ | refine CallS.mk (c := size_c) (l) ?_) | fail); all_goals try (conv => whnf)
  · have e : nd l i = zeroN := nd_out l i (by omega)
    have hn : ¬ inF l i := fun h' => by have := h'.1; omega
    repeat' (first | (with_reducible refine Unf.h ?_) | ((conv => whnf); first | (refine Side.mk ?_ ?_; focus (first | with_reducible rfl | (simp only [*, e, zeroN, hn]; done) | (simp [*, e, zeroN, hn]; done))) | exact rfl) | fail); all_goals try (conv => whnf)
  · have e : nd l i = zeroN := nd_out l i (by omega)
    have hn : ¬ inF l i := fun h' => by have := h'.2; omega
    repeat' (first | (with_reducible refine Unf.h ?_) | ((conv => whnf); first | (refine Side.mk ?_ ?_; focus (first | with_reducible rfl | (simp only [*, e, zeroN, hn]; done) | (simp [*, e, zeroN, hn]; done))) | exact rfl) | fail); all_goals try (conv => whnf)
  · have e := nd_get l i (by omega) (by omega)
    have hn : inF l i := ⟨by omega, by omega⟩
    repeat' (first | (with_reducible refine Unf.h ?_) | ((conv => whnf); first | (refine Side.mk ?_ ?_; focus (first | with_reducible rfl | (refine ⟨fun h => ?_, fun h => ?_⟩ <;> first | rfl | (cases h; done) | omega | (exfalso; omega) | (simp only [Bool.false_eq_true] at h; done)) | (simp only [*, e, hn]; done))) | exact rfl) | fail); all_goals try (conv => whnf)
def is_c : Ctr where
  D := Fo × Int
  args := fun (_, i) => [.ptr 0 0, .int .i64 i]
  objs := fun (l, _) => fo l
  nn := 2
  res := fun (l, i) _ => .dec (-1 ≤ i ∧ i < l.length) inferInstance
  out := fun (l, _) _ => fo l
def is_H : Cfg := ⟨[], [], [], [], 20, 2, [], [], []⟩
theorem is_ok : is_c.Ok Tryz.prog 125 := by
  refine fn_ok is_H 2 rfl _ Tryz.func125 rfl rfl trivial rfl rfl (by kernel_rfl) (fun _ => Nat.le_of_ble_eq_true rfl) ?_
  rintro ⟨l, i⟩ hp hr
  try dsimp only [is_c] at hp
  try simp only [is_c, Rng, RngL, inR, and_true, true_and] at hr
  repeat' (first | (with_reducible refine Unf.h ?_) | ((conv => whnf); first | refine Fork.mk (fun h => ?_) (fun h => ?_) | (refine Side.mk ?_ ?_; focus (first | with_reducible rfl | omega | (refine ⟨fun h => ?_, fun h => ?_⟩ <;> first | rfl | (cases h; done) | omega | (exfalso; omega) | (simp only [Bool.false_eq_true] at h; done)))) | refine RetE.mk () trivial ?_ | refine retK_r ?_ | exact rfl) | fail); all_goals try (conv => whnf)
def isN_c : Ctr where
  D := Int
  args := fun i => [.nilp, .int .i64 i]
  res := fun _ _ => .bool false
def isN_H : Cfg := ⟨[], [], [], [], 20, 0, [], [], []⟩
theorem isN_ok : isN_c.Ok Tryz.prog 125 := by
  refine fn_ok isN_H 0 rfl _ Tryz.func125 rfl rfl trivial rfl rfl (by kernel_rfl) (fun _ => Nat.le_of_ble_eq_true rfl) ?_
  intro (i : Int) hp hr
  try dsimp only [isN_c] at hp
  try simp only [isN_c, Rng, RngL, inR, and_true, true_and] at hr
  repeat' (first | (with_reducible refine Unf.h ?_) | ((conv => whnf); first | (refine Side.mk ?_ ?_; focus (with_reducible rfl)) | refine RetE.mk () trivial ?_ | refine retK_r ?_ | exact rfl) | fail); all_goals try (conv => whnf)
def cover_c : Ctr where
  D := Nd
  args := fun n => [.agg (eNd n)]
  res := fun n _ => .agg (ePfx n.cover)
def cover_H : Cfg := ⟨[(140, cutp_c)], [], [], [], 10, 0, [], [], []⟩
theorem cover_ok : cover_c.Ok Tryz.prog 162 := by
  refine fn_ok cover_H 0 rfl _ Tryz.func162 rfl rfl ⟨cutp_ok, trivial⟩ rfl rfl (by kernel_rfl) (fun _ => Nat.le_of_ble_eq_true rfl) ?_
  intro (n : Nd) hp hr
  try dsimp only [cover_c] at hp
  try simp only [cover_c, Rng, RngL, inR, and_true, true_and] at hr
  obtain ⟨leaf, key, value, plen, bits, left, right, hash⟩ := n
  cases leaf
  · have e : Nd.cover ⟨false, key, value, plen, bits, left, right, hash⟩ = ⟨plen, bits⟩ := rfl
    repeat' (first | (with_reducible refine Unf.h ?_) | ((conv => whnf); first | (refine Side.mk ?_ ?_; focus ((simp only [*, e]; done))) | refine RetE.mk () trivial ?_ | refine retK_r ?_ | exact rfl) | fail); all_goals try (conv => whnf)
  · have e : Nd.cover ⟨true, key, value, plen, bits, left, right, hash⟩ = cutP key 256 := rfl
    repeat' (first | (with_reducible refine Unf.h ?_) | ((conv => whnf); first | (refine Side.mk ?_ ?_; focus (first | with_reducible rfl | exact True.intro | (simp only [*, e]; done))) | refine RetE.mk () trivial ?_ | refine Got.mk (fun _ _ => ?_) | refine retK_r ?_ | exact rfl | refine CallS.mk (c := cutp_c) ((key, 256)) ?_) | fail); all_goals try (conv => whnf)
def underP (l : Fo) (p : Pfx) (b i : Int) : Prop := inF l i ∧ childOk p b ∧ withinP (childP p b) (nd l i).cover
instance (l : Fo) (p : Pfx) (b i : Int) : Decidable (underP l p b i) := inferInstanceAs (Decidable (_ ∧ _ ∧ _))
def under_c : Ctr where
  D := Fo × Pfx × Int × Int
  args := fun (_, p, b, i) => [.ptr 0 0, .agg (ePfx p), .int .i64 b, .int .i64 i]
  objs := fun (l, _) => fo l
  nn := 2
  res := fun (l, p, b, i) _ => .dec (underP l p b i) inferInstance
  out := fun (l, _) _ => fo l
def under_H : Cfg := ⟨[(98, node_c), (151, child_c), (162, cover_c), (150, within_c)], [(3, [5, 6], [7, 8], (.one 0 0 false (.one 1 0 false (.one 2 0 false (.one 3 0 false (.one 4 0 false (.one 5 1 false (.one 6 1 false (.one 7 2 true (.one 8 2 false (.one 9 0 false (.one 10 0 false .nil))))))))))), [])], [], [], 35, 2, [], [], []⟩
theorem under_ok : under_c.Ok Tryz.prog 167 := by
  refine fn_ok under_H 2 rfl _ Tryz.func167 rfl rfl ⟨node_ok, child_ok, cover_ok, within_ok, trivial⟩ rfl rfl (by kernel_rfl) (fun _ => Nat.le_of_ble_eq_true rfl) ?_
  rintro ⟨l, p, b, i⟩ hp hr
  try dsimp only [under_c] at hp
  try simp only [under_c, Rng, RngL, inR, and_true, true_and] at hr
  repeat' (first | (with_reducible refine Unf.h ?_) | ((conv => whnf); first | refine Fork.mk (fun h => ?_) (fun h => ?_) | (refine Side.mk ?_ ?_; focus (first | with_reducible rfl | exact True.intro)) | refine RetE.mk () trivial ?_ | refine Got.mk (fun _ _ => ?_) | refine retK_r ?_ | refine CallS.mk (c := node_c) ((l, i)) ?_ | refine CallS.mk (c := child_c) ((p, b)) ?_ | refine CallS.mk (c := cover_c) (nd l i) ?_ | refine CallS.mk (c := within_c) ((childP p b, (nd l i).cover)) ?_) | fail); all_goals try (conv => whnf)
  · rename_i h1 _ _ _ _
    exact Side.mk ⟨fun h' => ⟨h1, h, h'⟩, fun h' => h'.2.2⟩ (by repeat' (first | (with_reducible refine Unf.h ?_) | ((conv => whnf); first | (refine Side.mk ?_ ?_; focus (with_reducible rfl)) | exact rfl) | fail); all_goals try (conv => whnf))
  · exact Side.mk (iffF fun h' => h h'.2.1) (by repeat' (first | (with_reducible refine Unf.h ?_) | ((conv => whnf); first | (refine Side.mk ?_ ?_; focus (with_reducible rfl)) | exact rfl) | fail); all_goals try (conv => whnf))
  · exact Side.mk (iffF fun h' => h h'.1) (by repeat' (first | (with_reducible refine Unf.h ?_) | ((conv => whnf); first | (refine Side.mk ?_ ?_; focus (with_reducible rfl)) | exact rfl) | fail); all_goals try (conv => whnf))
/-- the node that is added -/
def mk (l : Fo) (n : Nd) : Nd := if n.leaf then ⟨true, n.key, n.value, 0, zeroH, -1, -1, sha (leafT n.key n.value)⟩ else ⟨false, zeroH, zeroH, n.plen, n.bits, n.left, n.right, sha (innerT n.plen n.bits (nd l n.left).hash (nd l n.right).hash)⟩
def addable (l : Fo) (n : Nd) : Prop := n.leaf = true ∨ inF l n.left ∧ inF l n.right
def add_c : Ctr where
  D := Fo × Nd
  pre := fun (l, n) => l.length ≤ 10000000 ∧ addable l n
  args := fun (_, n) => [.ptr 0 0, .agg (eNd n)]
  objs := fun (l, _) => fo l
  nn := 2
  res := fun (l, _) _ => .int .i64 l.length
  out := fun (l, n) _ => [(0, .box 100 [.own 2]), (2, .row 192 132 eNd (l ++ [mk l n]))]
  mm := 1
def add_H : Cfg := ⟨[(161, ttext_c), (114, sum_c)], [(4, [1, 3], [5, 7], (.one 0 0 false (.one 1 1 false (.one 2 0 false (.one 3 1 false (.one 4 0 false (.one 5 2 true (.one 6 0 false (.one 7 2 false .nil)))))))), [5]), (5, [1, 3, 5], [7, 9, 11], (.one 0 0 false (.one 1 1 false (.one 2 0 false (.one 3 1 false (.one 4 0 false (.one 5 1 false (.one 6 0 false (.one 7 2 true (.one 8 0 false (.one 9 2 true (.one 10 0 false (.one 11 2 false .nil)))))))))))), [5]), (6, [3, 5, 8, 12, 14, 17], [18, 19], (.one 0 0 false (.one 1 0 false (.one 2 0 false (.one 3 1 false (.one 4 0 false (.one 5 1 false (.one 6 0 false (.one 7 0 false (.one 8 1 false (.one 9 0 false (.one 10 0 false (.one 11 0 false (.one 12 1 false (.one 13 0 false (.one 14 1 false (.one 15 0 false (.one 16 0 false (.one 17 1 false (.one 18 2 true (.one 19 2 false .nil)))))))))))))))))))), [6]), (8, [4, 5], [6, 7, 10], (.one 0 0 false (.one 1 0 false (.one 2 0 false (.one 3 0 false (.one 4 1 false (.one 5 1 false (.one 6 2 true (.one 7 2 false (.one 8 0 false (.one 9 0 false (.one 10 2 false .nil))))))))))), [])], [], [], 68, 2, [], [], []⟩
theorem add_ok : add_c.Ok Tryz.prog 127 := by
  refine fn_ok add_H 2 rfl _ Tryz.func127 rfl rfl ⟨ttext_ok, sum_ok, trivial⟩ rfl rfl (by kernel_rfl) (fun _ => Nat.le_of_ble_eq_true rfl) ?_
  rintro ⟨l, n⟩ hp hr
  try dsimp only [add_c] at hp
  try simp only [add_c, Rng, RngL, inR, and_true, true_and] at hr
  obtain ⟨hlen, ha⟩ := hp
  obtain ⟨leaf, key, value, plen, bits, left, right, hash⟩ := n
  cases leaf
  · have ha' : inF l left ∧ inF l right := by simpa [addable] using ha
    obtain ⟨⟨hl0, hl1⟩, hr0, hr1⟩ := ha'
    clear ha
    have e1 := nd_get l left hl0 (by omega)
    have e2 := nd_get l right hr0 (by omega)
    repeat' (first | (with_reducible refine Unf.h ?_) | ((conv => whnf); first | (refine Side.mk ?_ ?_; focus ((dsimp only; omega))) | (refine Idx.mk ?_ ?_; focus ((simp only [lenS, inR, cutS, loI, hiI]; omega)))) | fail); all_goals try (conv => whnf)
    refine CallS.mk (c := ttext_c) ((⟨false, zeroH, zeroH, plen, bits, left, right, zeroH⟩, (nd l left).hash, (nd l right).hash)) ?_
    repeat' (first | (with_reducible refine Unf.h ?_) | ((conv => whnf); first | (refine Side.mk ?_ ?_; focus (first | with_reducible rfl | exact True.intro | (simp only [*, e1, e2]; done))) | refine Got.mk (fun _ _ => ?_) | refine CallS.mk (c := sum_c) (innerT plen bits (nd l left).hash (nd l right).hash) ?_) | fail); all_goals try (conv => whnf)
    refine Side.mk rfl ?_
    repeat' (first | (with_reducible refine Unf.h ?_) | ((conv => whnf); first | (refine Side.mk ?_ ?_; focus (exact True.intro)) | refine Got.mk (fun _ _ => ?_)) | fail); all_goals try (conv => whnf)
    refine Ex.mk [⟨false, zeroH, zeroH, plen, bits, left, right, sha (innerT plen bits (nd l left).hash (nd l right).hash)⟩] rfl ?_
    repeat' (first | (with_reducible refine Unf.h ?_) | ((conv => whnf); first | (refine Side.mk ?_ ?_; focus (first | (intros; (try simp only [lenS, inR, cutS, loI, hiI] at *); omega) | (dsimp only [resS, add_c]; (simp [*]; done)))) | refine RetE.mk () trivial ?_ | refine retK_r ?_) | fail); all_goals try (conv => whnf)
    refine Side.mk rfl ?_
    repeat' (first | (with_reducible refine Unf.h ?_) | ((conv => whnf); exact rfl) | fail); all_goals try (conv => whnf)
  · repeat' (first | (with_reducible refine Unf.h ?_) | fail); all_goals try (conv => whnf)
    refine CallS.mk (c := ttext_c) ((⟨true, key, value, 0, zeroH, -1, -1, zeroH⟩, zeroH, zeroH)) ?_
    repeat' (first | (with_reducible refine Unf.h ?_) | ((conv => whnf); first | (refine Side.mk ?_ ?_; focus (first | with_reducible rfl | exact True.intro)) | refine Got.mk (fun _ _ => ?_) | refine CallS.mk (c := sum_c) (leafT key value) ?_) | fail); all_goals try (conv => whnf)
    refine Side.mk rfl ?_
    repeat' (first | (with_reducible refine Unf.h ?_) | ((conv => whnf); first | (refine Side.mk ?_ ?_; focus (exact True.intro)) | refine Got.mk (fun _ _ => ?_)) | fail); all_goals try (conv => whnf)
    refine Ex.mk [⟨true, key, value, 0, zeroH, -1, -1, sha (leafT key value)⟩] rfl ?_
    repeat' (first | (with_reducible refine Unf.h ?_) | ((conv => whnf); first | (refine Side.mk ?_ ?_; focus (first | (intros; (try simp only [lenS, inR, cutS, loI, hiI] at *); omega) | (dsimp only [resS, add_c]; (simp [*]; done)))) | refine RetE.mk () trivial ?_ | refine retK_r ?_) | fail); all_goals try (conv => whnf)
    refine Side.mk rfl ?_
    repeat' (first | (with_reducible refine Unf.h ?_) | ((conv => whnf); exact rfl) | fail); all_goals try (conv => whnf)
end Go.Proofs.YtdflndjlnkoliaaGreatDoor

namespace Go.Proofs.YtdflndjlnkoliaaGreatDoor
set_option linter.all false
open Go.RowKit
def closed (l : Fo) : Prop := ∀ i : Int, inF l i → (nd l i).leaf = true ∨ (0 ≤ (nd l i).left ∧ (nd l i).left < i) ∧ (0 ≤ (nd l i).right ∧ (nd l i).right < i)
def isT (l : Fo) (t : Int) : Prop := -1 ≤ t ∧ t < l.length
instance (l : Fo) (t : Int) : Decidable (isT l t) := inferInstanceAs (Decidable (_ ∧ _))
def goes (l : Fo) (k : H256) (t : Int) : Prop := t ≠ -1 ∧ (nd l t).leaf = false ∧ holdsP (nd l t).pfx k
instance (l : Fo) (k : H256) (t : Int) : Decidable (goes l k t) := inferInstanceAs (Decidable (_ ∧ _ ∧ _))
def nxt (l : Fo) (k : H256) (t : Int) : Int := if bitI k (nd l t).plen = 1 then (nd l t).right else (nd l t).left
def path (l : Fo) (k : H256) (t : Int) : List Int × Int := if h : goes l k t ∧ -1 ≤ nxt l k t ∧ nxt l k t < t then (t :: (path l k (nxt l k t)).1, (path l k (nxt l k t)).2) else ([], t)
termination_by (t + 1).toNat
decreasing_by all_goals omega
theorem nxt_ok {l : Fo} {k : H256} {t : Int} (hc : closed l) (ht : isT l t) (hg : goes l k t) : 0 ≤ nxt l k t ∧ nxt l k t < t := by
  rcases hc t ⟨by have := ht.1; have := hg.1; omega, ht.2⟩ with h | h
  · rw [hg.2.1] at h; cases h
  · unfold nxt; split
    · exact h.2
    · exact h.1
theorem path_go {l : Fo} {k : H256} {t : Int} (hc : closed l) (ht : isT l t) (hg : goes l k t) : path l k t = (t :: (path l k (nxt l k t)).1, (path l k (nxt l k t)).2) := by
  have := nxt_ok hc ht hg
  rw [path, dif_pos ⟨hg, by omega, by omega⟩]
theorem path_stop {l : Fo} {k : H256} {t : Int} (hg : ¬ goes l k t) : path l k t = ([], t) := by
  rw [path, dif_neg fun h => hg h.1]
theorem path_len {l : Fo} {k : H256} : ∀ (n : Nat) (t : Int), (t + 1).toNat ≤ n → (path l k t).1.length ≤ (t + 1).toNat
  | n, t, hn => by
    rw [path]
    split
    · rename_i h
      match n with
      | 0 => omega
      | n + 1 =>
        have := path_len (l := l) (k := k) n (nxt l k t) (by omega)
        simp only [List.length_cons]; omega
    · simp
def path_c : Ctr where
  D := Fo × Int × H256
  pre := fun (l, t, _) => l.length ≤ 10000000 ∧ closed l ∧ isT l t
  args := fun (_, t, k) => [.ptr 0 0, .int .i64 t, .agg [.arr8 k]]
  objs := fun (l, _) => fo l
  nn := 2
  res := fun (l, t, k) _ => .tup [.own 2, .int .i64 (path l k t).2]
  out := fun (l, t, k) _ => fo l ++ [(2, .row 3 1 eI (path l k t).1)]
  mm := 1
def path_H : Cfg := ⟨[(99, holds_c), (101, bit_c)], [(2, [6, 10, 17, 21, 22], [23], (.one 0 0 false (.one 1 0 false (.one 2 0 false (.one 3 0 false (.one 4 0 false (.one 5 0 false (.one 6 1 false (.one 7 0 false (.one 8 0 false (.one 9 0 false (.one 10 1 false (.one 11 0 false (.one 12 0 false (.one 13 0 false (.one 14 0 false (.one 15 0 false (.one 16 0 false (.one 17 1 false (.one 18 0 false (.one 19 0 false (.one 20 0 false (.one 21 1 false (.one 22 1 false (.one 23 2 false (.one 24 0 false .nil))))))))))))))))))))))))), [])], [], [], 58, 2, [], [], []⟩
theorem path_ok : path_c.Ok Tryz.prog 126 := by
  refine fn_ok path_H 2 rfl _ Tryz.func126 rfl rfl ⟨holds_ok, bit_ok, trivial⟩ rfl rfl (by kernel_rfl) (fun _ => Nat.le_of_ble_eq_true rfl) ?_
  rintro ⟨l, t, k⟩ hp hr
  try dsimp only [path_c] at hp
  try simp only [path_c, Rng, RngL, inR, and_true, true_and] at hr
  obtain ⟨hlen, hc, ht⟩ := hp
  repeat' (first | (with_reducible refine Unf.h ?_) | fail); all_goals try (conv => whnf)
  refine LoopS.autoN (I := Int × List Int) (fun p => isT l p.1 ∧ p.2.length + (path l k p.1).1.length ≤ 10000001 ∧ p.2 ++ (path l k p.1).1 = (path l k t).1 ∧ (path l k p.1).2 = (path l k t).2) (fun p => [(1, .int .i64 p.1), (8, .own 3)]) (fun p => [(2, .box 30 [.arr8 k]), (0, .box 100 [.own 1]), (1, .row 192 132 eNd l), (3, .row 3 1 eI p.2)]) 4 (fun p => (p.1 + 1).toNat) (t, []) ⟨ht, ?_, rfl, rfl⟩ ?_ ?_
  · have := path_len (l := l) (k := k) _ t (Nat.le_refl _)
    have := ht.2
    simp only [List.length_nil]; omega
  · repeat' (first | (with_reducible refine Unf.h ?_) | ((conv => whnf); first | (refine Side.mk ?_ ?_; focus (with_reducible rfl)) | (with_reducible refine Unf.h ?_) | exact True.intro) | fail); all_goals try (conv => whnf)
  · intro p hq
    obtain ⟨hp1, hpl, hp2, hp3⟩ := hq
    have hp0 := hp1.1
    have hpn := hp1.2
    repeat' (first | (with_reducible refine Unf.h ?_) | ((conv => whnf); first | refine Fork.mkn (fun h => ?_) (fun h => ?_) | (refine Side.mk ?_ ?_; focus (omega)) | (refine Idx.mk ?_ ?_; focus (omega)) | refine RetE.mk () trivial ?_ | refine retK_r ?_) | fail); all_goals try (conv => whnf)
    · have hin : p.1.toNat < l.length := by omega
      have en := nd_get l p.1 (by omega) hin
      cases hb : (l[p.1.toNat]'hin).leaf
      · rw [en] at hb
        repeat' (first | (with_reducible refine Unf.h ?_) | ((conv => whnf); first | refine Fork.mk (fun h => ?_) (fun h => ?_) | (refine Side.mk ?_ ?_; focus (first | with_reducible rfl | exact True.intro | omega | (intros; (try simp only [lenS, inR, cutS, loI, hiI, en, Nd.pfx] at *); omega) | (simp only [*, en, Nd.pfx]; done))) | (refine Idx.mk ?_ ?_; focus (omega)) | refine RetE.mk () trivial ?_ | refine Got.mk (fun _ _ => ?_) | refine Ex.mk [_] rfl ?_ | (with_reducible refine Unf.h ?_) | refine retK_r ?_ | refine CallS.mk (c := holds_c) (((nd l p.1).pfx, k)) ?_) | fail); all_goals try (conv => whnf)
        · have hg : goes l k p.1 := ⟨by assumption, hb, h⟩
          have hx := nxt_ok hc hp1 hg
          have hgo := path_go hc hp1 hg
          rw [hgo] at hp2 hp3 hpl
          simp only [List.length_cons] at hpl
          have hnew : (nxt l k p.1 + 1).toNat < (p.1 + 1).toNat ∧ isT l (nxt l k p.1) ∧ (p.2 ++ [p.1]).length + (path l k (nxt l k p.1)).1.length ≤ 10000001 ∧ (p.2 ++ [p.1]) ++ (path l k (nxt l k p.1)).1 = (path l k t).1 ∧ (path l k (nxt l k p.1)).2 = (path l k t).2 :=
            ⟨by omega, ⟨by omega, by omega⟩, by simp only [List.length_append, List.length_cons, List.length_nil]; omega, by rw [← hp2]; simp, hp3⟩
          refine CallS.mk (c := bit_c) ((k, (nd l p.1).plen)) ?_
          repeat' (first | (with_reducible first | refine Unf.h ?_ | refine loopK_n ?_) | ((conv => whnf); first | refine Fork.mk (fun h => ?_) (fun h => ?_) | (refine Side.mk ?_ ?_; focus (first | with_reducible rfl | exact True.intro | (simp only [*, en]; done))) | refine Got.mk (fun _ _ => ?_)) | fail); all_goals try (conv => whnf)
          · have hn : nxt l k p.1 = (nd l p.1).right := if_pos h
            refine ⟨(nxt l k p.1, p.2 ++ [p.1]), hnew, ?_⟩
            repeat' (first | (with_reducible refine Unf.h ?_) | ((conv => whnf); first | (refine Side.mk ?_ ?_; focus (first | with_reducible rfl | (simp only [*, hn, en]; done))) | (with_reducible refine Unf.h ?_) | exact True.intro) | fail); all_goals try (conv => whnf)
          · have hn : nxt l k p.1 = (nd l p.1).left := if_neg h
            refine ⟨(nxt l k p.1, p.2 ++ [p.1]), hnew, ?_⟩
            repeat' (first | (with_reducible refine Unf.h ?_) | ((conv => whnf); first | (refine Side.mk ?_ ?_; focus (first | with_reducible rfl | (simp only [*, hn, en]; done))) | (with_reducible refine Unf.h ?_) | exact True.intro) | fail); all_goals try (conv => whnf)
        · have hg : ¬ goes l k p.1 := fun h' => h h'.2.2
          rw [path_stop hg] at hp2 hp3
          simp only [List.append_nil] at hp2
          repeat' (first | (with_reducible refine Unf.h ?_) | ((conv => whnf); first | (refine Side.mk ?_ ?_; focus (first | with_reducible rfl | (refine congrArg (SV.int _) ?_; omega) | (simp only [*, hp2, hp3]; done))) | exact rfl) | fail); all_goals try (conv => whnf)
      · rw [en] at hb
        have hg : ¬ goes l k p.1 := fun h' => by rw [h'.2.1] at hb; cases hb
        rw [path_stop hg] at hp2 hp3
        simp only [List.append_nil] at hp2
        repeat' (first | (with_reducible refine Unf.h ?_) | ((conv => whnf); first | (refine Side.mk ?_ ?_; focus (first | with_reducible rfl | (refine congrArg (SV.int _) ?_; omega) | (simp only [*, hp2, hp3]; done))) | refine RetE.mk () trivial ?_ | (with_reducible refine Unf.h ?_) | refine retK_r ?_ | exact rfl) | fail); all_goals try (conv => whnf)
    · have hg : ¬ goes l k p.1 := fun h' => h'.1 h
      rw [path_stop hg] at hp2 hp3
      simp only [List.append_nil] at hp2
      clear h
      repeat' (first | (with_reducible refine Unf.h ?_) | ((conv => whnf); first | (refine Side.mk ?_ ?_; focus (first | with_reducible rfl | (refine congrArg (SV.int _) ?_; omega) | (simp only [*, hp2, hp3]; done))) | exact rfl) | fail); all_goals try (conv => whnf)
end Go.Proofs.YtdflndjlnkoliaaGreatDoor

namespace Go.Proofs.YtdflndjlnkoliaaGreatDoor
set_option linter.all false
open Go.RowKit
/-- the node over two that meet nowhere -/
def joinN (l : Fo) (a b : Int) : Nd :=
  let m := meetP (nd l a).cover (nd l b).cover
  if bitI (nd l a).cover.bits m.len = 1 then ⟨false, zeroH, zeroH, m.len, m.bits, b, a, zeroH⟩ else ⟨false, zeroH, zeroH, m.len, m.bits, a, b, zeroH⟩
def join_c : Ctr where
  D := Fo × Int × Int
  pre := fun (l, a, b) => l.length ≤ 10000000 ∧ inF l a ∧ inF l b
  args := fun (_, a, b) => [.ptr 0 0, .int .i64 a, .int .i64 b]
  objs := fun (l, _) => fo l
  nn := 2
  res := fun (l, _) _ => .int .i64 l.length
  out := fun (l, a, b) _ => [(0, .box 100 [.own 2]), (2, .row 192 132 eNd (l ++ [mk l (joinN l a b)]))]
  mm := 1
def join_H : Cfg := ⟨[(162, cover_c), (163, meet_c), (101, bit_c), (127, add_c)], [(1, [3, 6, 11, 14], [7, 15, 16, 17, 18, 19], (.one 0 0 false (.one 1 0 false (.one 2 0 false (.one 3 1 false (.one 4 0 false (.one 5 0 false (.one 6 1 false (.one 8 0 false (.one 9 0 false (.one 10 0 false (.one 11 1 false (.one 12 0 false (.one 13 0 false (.one 14 1 false (.alt 7 true (.alt 15 true (.alt 16 true (.one 17 2 true (.one 18 2 false (.one 19 2 false .nil))) (.one 17 2 true (.one 16 2 true (.one 18 2 false (.one 19 2 false .nil))))) (.alt 16 true (.alt 15 true (.one 17 2 true (.one 18 2 false (.one 19 2 false .nil))) (.one 17 2 true (.one 15 2 false (.one 18 2 false (.one 19 2 false .nil))))) (.one 17 2 true (.alt 15 true (.one 16 2 true (.one 18 2 false (.one 19 2 false .nil))) (.one 16 2 true (.one 15 2 false (.one 18 2 false (.one 19 2 false .nil)))))))) (.alt 16 true (.alt 7 true (.alt 15 true (.one 17 2 true (.one 18 2 false (.one 19 2 false .nil))) (.one 17 2 true (.one 15 2 false (.one 18 2 false (.one 19 2 false .nil))))) (.one 17 2 true (.one 7 2 true (.one 15 2 false (.one 18 2 false (.one 19 2 false .nil)))))) (.one 17 2 true (.alt 7 true (.alt 15 true (.one 16 2 true (.one 18 2 false (.one 19 2 false .nil))) (.one 16 2 true (.one 15 2 false (.one 18 2 false (.one 19 2 false .nil))))) (.one 16 2 true (.one 7 2 true (.one 15 2 false (.one 18 2 false (.one 19 2 false .nil))))))))))))))))))))))), [])], [], [], 43, 2, [], [1], []⟩
theorem join_ok : join_c.Ok Tryz.prog 128 := by
  refine fn_ok join_H 2 rfl _ Tryz.func128 rfl rfl ⟨cover_ok, meet_ok, bit_ok, add_ok, trivial⟩ rfl rfl (by kernel_rfl) (fun _ => Nat.le_of_ble_eq_true rfl) ?_
  rintro ⟨l, a, b⟩ hp hr
  try dsimp only [join_c] at hp
  try simp only [join_c, Rng, RngL, inR, and_true, true_and] at hr
  obtain ⟨hlen, ⟨ha0, ha1⟩, hb0, hb1⟩ := hp
  have ea := nd_get l a ha0 (by omega)
  have eb := nd_get l b hb0 (by omega)
  repeat' (first | (with_reducible refine Unf.h ?_) | fail); all_goals try (conv => whnf)
  refine CutS.auto (I := Unit) (fun _ => True) (fun _ => [(7, .ptr 2 0), (8, .ptr 3 0)]) (fun _ => [(0, .box 100 [.own 1]), (1, .row 192 132 eNd l), (2, .box 58 (ePfx (nd l a).cover)), (3, .box 58 (ePfx (nd l b).cover))]) 4 ?_ ?_
  · repeat' (first | (with_reducible refine Unf.h ?_) | ((conv => whnf); first | refine Both.mk ?_ ?_ | (refine Side.mk ?_ ?_; focus (omega)) | (refine Idx.mk ?_ ?_; focus (omega))) | fail); all_goals try (conv => whnf)
    all_goals refine CallS.mk (c := cover_c) ((nd l a)) ?_
    all_goals (repeat' (first | (with_reducible refine Unf.h ?_) | ((conv => whnf); first | refine Both.mk ?_ ?_ | (refine Side.mk ?_ ?_; focus (first | exact True.intro | (simp only [*, ea]; done))) | refine Got.mk (fun _ _ => ?_)) | fail); all_goals try (conv => whnf))
    all_goals refine CallS.mk (c := cover_c) ((nd l b)) ?_
    all_goals (repeat' (first | (with_reducible first | refine Unf.h ?_ | refine cutK_n ?_) | ((conv => whnf); first | refine Both.mk ?_ ?_ | (refine Side.mk ?_ ?_; focus (first | exact True.intro | (simp only [*, eb]; done))) | refine Got.mk (fun _ _ => ?_)) | fail); all_goals try (conv => whnf))
    all_goals (refine ⟨(), trivial, ?_⟩)
    all_goals (repeat' (first | (with_reducible refine Unf.h ?_) | ((conv => whnf); first | (refine Side.mk ?_ ?_; focus (with_reducible rfl)) | (with_reducible refine Unf.h ?_) | exact True.intro) | fail); all_goals try (conv => whnf))
  · intro _ _
    repeat' (first | (with_reducible refine Unf.h ?_) | ((conv => whnf); first | refine Fork.mk (fun h => ?_) (fun h => ?_) | (refine Side.mk ?_ ?_; focus (first | with_reducible rfl | exact True.intro)) | refine Got.mk (fun _ _ => ?_) | refine CallS.mk (c := meet_c) (((nd l a).cover, (nd l b).cover)) ?_ | refine CallS.mk (c := bit_c) (((nd l a).cover.bits, (meetP (nd l a).cover (nd l b).cover).len)) ?_) | fail); all_goals try (conv => whnf)
    · have hj : joinN l a b = ⟨false, zeroH, zeroH, (meetP (nd l a).cover (nd l b).cover).len, (meetP (nd l a).cover (nd l b).cover).bits, b, a, zeroH⟩ := if_pos h
      have hadd : addable l (joinN l a b) := .inr (by rw [hj]; exact ⟨⟨hb0, hb1⟩, ha0, ha1⟩)
      refine CallS.mk (c := add_c) ((l, joinN l a b)) ?_
      repeat' (first | (with_reducible refine Unf.h ?_) | ((conv => whnf); first | (refine Side.mk ?_ ?_; focus (first | with_reducible rfl | (refine congrArg (SV.int _) ?_; omega) | (simp only [*, hj]; done) | (dsimp only [resS, join_c, add_c]; (refine ⟨?_, ?_⟩; all_goals (repeat' apply And.intro); all_goals first | omega | assumption | (simp only [lenS, inR, cutS, loI, hiI, hj]; omega) | (simp; done) | (simp only [*, hj]; done) | (simp only [*, hj, List.map_cons, List.map_nil, eB]; done) | (simp [*, hj]; done))))) | refine RetE.mk () trivial ?_ | refine Got.mk (fun _ _ => ?_) | refine retK_r ?_ | exact rfl) | fail); all_goals try (conv => whnf)
    · have hj : joinN l a b = ⟨false, zeroH, zeroH, (meetP (nd l a).cover (nd l b).cover).len, (meetP (nd l a).cover (nd l b).cover).bits, a, b, zeroH⟩ := if_neg h
      have hadd : addable l (joinN l a b) := .inr (by rw [hj]; exact ⟨⟨ha0, ha1⟩, hb0, hb1⟩)
      refine CallS.mk (c := add_c) ((l, joinN l a b)) ?_
      repeat' (first | (with_reducible refine Unf.h ?_) | ((conv => whnf); first | (refine Side.mk ?_ ?_; focus (first | with_reducible rfl | (refine congrArg (SV.int _) ?_; omega) | (simp only [*, hj]; done) | (dsimp only [resS, join_c, add_c]; (refine ⟨?_, ?_⟩; all_goals (repeat' apply And.intro); all_goals first | omega | assumption | (simp only [lenS, inR, cutS, loI, hiI, hj]; omega) | (simp; done) | (simp only [*, hj]; done) | (simp only [*, hj, List.map_cons, List.map_nil, eB]; done) | (simp [*, hj]; done))))) | refine RetE.mk () trivial ?_ | refine Got.mk (fun _ _ => ?_) | refine retK_r ?_ | exact rfl) | fail); all_goals try (conv => whnf)
end Go.Proofs.YtdflndjlnkoliaaGreatDoor

namespace Go.Proofs.YtdflndjlnkoliaaGreatDoor
set_option linter.all false
open Go.RowKit
/-! a key put -/
abbrev leafN (k v : H256) : Nd := ⟨true, k, v, 0, zeroH, 0, 0, zeroH⟩
def turnN (k : H256) (n : Nd) (m : Int) : Nd := if bitI k n.plen = 1 then ⟨n.leaf, n.key, n.value, n.plen, n.bits, n.left, m, n.hash⟩ else ⟨n.leaf, n.key, n.value, n.plen, n.bits, m, n.right, n.hash⟩
def upS (k : H256) (a : Int) (s : Fo × Int) : Fo × Int := (s.1 ++ [mk s.1 (turnN k (nd s.1 a) s.2)], s.1.length)
def upF (k : H256) : List Int → Fo × Int → Fo × Int
  | [], s => s
  | a :: r, s => upS k a (upF k r s)
def meets (l : Fo) (k : H256) (e : Int) : Prop := e ≠ -1 ∧ ¬ ((nd l e).leaf = true ∧ (nd l e).key = k)
instance (l : Fo) (k : H256) (e : Int) : Decidable (meets l k e) := inferInstanceAs (Decidable (_ ∧ ¬ (_ ∧ _)))
def startF (l : Fo) (k v : H256) (e : Int) : Fo × Int :=
  let l1 := l ++ [mk l (leafN k v)]
  if meets l k e then (l1 ++ [mk l1 (joinN l1 e l.length)], l1.length) else (l1, l.length)
def putF (l : Fo) (t : Int) (k v : H256) : Fo × Int := upF k (path l k t).1 (startF l k v (path l k t).2)
theorem path_mem {l : Fo} {k : H256} (hc : closed l) : ∀ (n : Nat) (t : Int), (t + 1).toNat ≤ n → isT l t → (∀ a ∈ (path l k t).1, inF l a ∧ (nd l a).leaf = false) ∧ isT l (path l k t).2
  | n, t, hn, ht => by
    by_cases hg : goes l k t
    · have hx := nxt_ok hc ht hg
      rw [path_go hc ht hg]
      match n with
      | 0 => have := ht.1; omega
      | n + 1 =>
        have ih := path_mem (k := k) hc n (nxt l k t) (by omega) ⟨by omega, by have := ht.2; omega⟩
        refine ⟨fun a ha => ?_, ih.2⟩
        rcases List.mem_cons.1 ha with rfl | ha
        · exact ⟨⟨by have := ht.1; have := hg.1; omega, ht.2⟩, hg.2.1⟩
        · exact ih.1 a ha
    · rw [path_stop hg]; exact ⟨fun a ha => (by cases ha), ht⟩
theorem startF_ok {l : Fo} {k v : H256} {e : Int} : ∃ m, (startF l k v e).1 = l ++ m ∧ 1 ≤ m.length ∧ m.length ≤ 2 ∧ (startF l k v e).2 = l.length + m.length - 1 := by
  unfold startF
  simp only
  split
  · exact ⟨_, List.append_assoc _ _ _, by simp, by simp, by simp; omega⟩
  · exact ⟨_, rfl, by simp, by simp, by simp⟩
theorem upF_ok {l : Fo} {k : H256} {s : Fo × Int} (h : ∃ m, s.1 = l ++ m ∧ 1 ≤ m.length ∧ s.2 = l.length + m.length - 1) : ∀ r : List Int, ∃ m, (upF k r s).1 = l ++ m ∧ 1 ≤ m.length ∧ (upF k r s).2 = l.length + m.length - 1 ∧ (upF k r s).1.length = s.1.length + r.length
  | [] => by obtain ⟨m, h1, h2, h3⟩ := h; exact ⟨m, h1, h2, h3, rfl⟩
  | a :: r => by
    obtain ⟨m, h1, h2, h3, h4⟩ := upF_ok h r
    refine ⟨m ++ [mk (upF k r s).1 (turnN k (nd (upF k r s).1 a) (upF k r s).2)], ?_, by simp, ?_, ?_⟩
    · show (upF k r s).1 ++ _ = _
      conv => lhs; rw [h1]
      rw [List.append_assoc, h1]
    · show ((upF k r s).1.length : Int) = _
      rw [h1]; simp; omega
    · show ((upF k r s).1 ++ _).length = _
      simp only [List.length_append, List.length_cons, List.length_nil]; omega
def put_c : Ctr where
  D := Fo × Int × H256 × H256
  pre := fun (l, t, _, _) => l.length ≤ 400000 ∧ closed l ∧ isT l t
  args := fun (_, t, k, v) => [.ptr 0 0, .int .i64 t, .agg [.arr8 k], .agg [.arr8 v]]
  objs := fun (l, _) => fo l
  nn := 2
  res := fun (l, t, k, v) _ => .tup [.int .i64 (putF l t k v).2, .int .i64 0]
  out := fun (l, t, k, v) _ => [(0, .box 100 [.own 2]), (2, .row 192 132 eNd (putF l t k v).1)]
  mm := 1
def put_H : Cfg := ⟨[(125, is_c), (126, path_c), (127, add_c), (128, join_c), (101, bit_c)], [(7, [6, 10, 15, 19, 20], [], (.one 0 0 false (.one 1 0 false (.one 2 0 false (.one 3 0 false (.one 4 0 false (.one 5 0 false (.one 6 1 false (.one 7 0 false (.one 8 0 false (.one 9 0 false (.one 10 1 false (.one 11 0 false (.one 12 0 false (.one 13 0 false (.one 14 0 false (.one 15 1 false (.one 16 0 false (.one 17 0 false (.one 18 0 false (.one 19 1 false (.one 20 1 false (.one 21 0 false (.one 22 0 false (.one 23 0 false (.one 24 0 false .nil))))))))))))))))))))))))), []), (12, [3, 7, 9], [10, 11], (.one 0 0 false (.one 1 0 false (.one 2 0 false (.one 3 1 false (.one 4 0 false (.one 5 0 false (.one 6 0 false (.one 7 1 false (.one 8 0 false (.one 9 1 false (.one 10 2 true (.one 11 2 false .nil)))))))))))), [])], [65], [], 101, 2, [], [7], []⟩
theorem put_ok : put_c.Ok Tryz.prog 88 := by
  refine fn_ok put_H 2 rfl _ Tryz.func88 rfl rfl ⟨is_ok, path_ok, add_ok, join_ok, bit_ok, trivial⟩ rfl rfl (by kernel_rfl) (fun _ => Nat.le_of_ble_eq_true rfl) ?_
  rintro ⟨l, t, k, v⟩ hp hr
  try dsimp only [put_c] at hp
  try simp only [put_c, Rng, RngL, inR, and_true, true_and] at hr
  obtain ⟨hlen, hc, ht⟩ := hp
  have hpl := path_len (l := l) (k := k) _ t (Nat.le_refl _)
  have ht1 := ht.1
  have ht2 := ht.2
  obtain ⟨hpm, hpe⟩ := path_mem (k := k) hc _ t (Nat.le_refl _) ht
  have hl1 : addable l (leafN k v) := .inl rfl
  have hpre1 : path_c.pre (l, t, k) := ⟨by omega, hc, ht⟩
  have hpre2 : add_c.pre (l, leafN k v) := ⟨by omega, hl1⟩
  repeat' (first | (with_reducible refine Unf.h ?_) | ((conv => whnf); first | refine Fork.mkn (fun h => ?_) (fun h => ?_) | refine Fork.mk (fun h => ?_) (fun h => ?_) | (refine Side.mk ?_ ?_; focus (first | with_reducible rfl | exact True.intro | assumption | omega | (intros; (try simp only [lenS, inR, cutS, loI, hiI] at *); omega))) | refine RetE.mk () trivial ?_ | refine Got.mk (fun _ _ => ?_) | refine retK_r ?_ | exact rfl | refine CallS.mk (c := is_c) ((l, t)) ?_ | refine CallS.mk (c := path_c) ((l, t, k)) ?_ | refine CallS.mk (c := add_c) ((l, leafN k v)) ?_) | fail); all_goals try (conv => whnf)
  rename_i hfull _ _
  generalize hA : (path l k t).1 = A at *
  generalize he : (path l k t).2 = e at *
  clear h
  have hml : (l ++ [mk l (leafN k v)]).length = l.length + 1 := by simp
  have hl1e : startF l k v e = if meets l k e then ((l ++ [mk l (leafN k v)]) ++ [mk (l ++ [mk l (leafN k v)]) (joinN (l ++ [mk l (leafN k v)]) e l.length)], ((l ++ [mk l (leafN k v)]).length : Int)) else (l ++ [mk l (leafN k v)], (l.length : Int)) := rfl
  have hpe1 := hpe.1
  have hpe2 := hpe.2
  generalize hl1d : l ++ [mk l (leafN k v)] = l1 at *
  have hnd : ∀ i : Int, i < l.length → nd l1 i = nd l i := fun i hi => by rw [← hl1d]; exact nd_app _ _ _ hi
  refine CutS.auto (I := Unit) (fun _ => True) (fun _ => [(12, .int .i64 (startF l k v e).2), (10, .own 5)]) (fun _ => [(0, .box 100 [.own 4]), (4, .row 192 132 eNd (startF l k v e).1), (2, .box 30 [.arr8 k]), (3, .box 30 [.arr8 v]), (5, .row 3 1 eI A)]) 6 ?_ ?_
  · repeat' (first | (with_reducible refine Unf.h ?_) | fail); all_goals try (conv => whnf)
    refine CutS.auto (I := Unit) (fun _ => True) (fun _ => [(65, .dec (meets l k e) inferInstance), (10, .own 5)]) (fun _ => [(0, .box 100 [.own 4]), (4, .row 192 132 eNd l1), (2, .box 30 [.arr8 k]), (3, .box 30 [.arr8 v]), (5, .row 3 1 eI A)]) 6 ?_ ?_
    · repeat' (first | (with_reducible first | refine Unf.h ?_ | refine cutK_n ?_) | ((conv => whnf); first | refine Fork.mkn (fun h => ?_) (fun h => ?_) | (refine Side.mk ?_ ?_; focus (omega)) | (refine Idx.mk ?_ ?_; focus (omega))) | fail); all_goals try (conv => whnf)
      · have hin : e.toNat < l1.length := by omega
        have en : l1[e.toNat]'hin = nd l e := by rw [nd_get _ e (by omega) hin, hnd _ hpe2]
        cases hb : (l1[e.toNat]'hin).leaf
        · rw [en] at hb
          have hm : meets l k e := ⟨by assumption, fun h' => by rw [h'.1] at hb; cases hb⟩
          repeat' (first | (with_reducible first | refine Unf.h ?_ | refine cutK_n ?_) | ((conv => whnf); (with_reducible refine Unf.h ?_)) | fail); all_goals try (conv => whnf)
          refine ⟨(), trivial, ?_⟩
          repeat' (first | (with_reducible refine Unf.h ?_) | ((conv => whnf); first | (refine Side.mk ?_ ?_; focus (first | with_reducible rfl | (refine ⟨fun h => ?_, fun h => ?_⟩ <;> first | rfl | (cases h; done) | omega | (exfalso; omega) | (simp only [Bool.false_eq_true] at h; done)))) | (with_reducible refine Unf.h ?_) | exact True.intro) | fail); all_goals try (conv => whnf)
        · rw [en] at hb
          have hm : (¬ (nd l e).key.toList = k.toList) ↔ meets l k e := ⟨fun h' => ⟨by assumption, fun hh => h' (by rw [hh.2])⟩, fun h' hk => h'.2 ⟨hb, Vector.toList_inj.1 hk⟩⟩
          repeat' (first | (with_reducible first | refine Unf.h ?_ | refine cutK_n ?_) | ((conv => whnf); first | (refine Side.mk ?_ ?_; focus (omega)) | (refine Idx.mk ?_ ?_; focus (omega)) | (with_reducible refine Unf.h ?_)) | fail); all_goals try (conv => whnf)
          refine ⟨(), trivial, ?_⟩
          repeat' (first | (with_reducible refine Unf.h ?_) | ((conv => whnf); first | (refine Side.mk ?_ ?_; focus (first | with_reducible rfl | (simp only [*]; done))) | (with_reducible refine Unf.h ?_) | exact True.intro) | fail); all_goals try (conv => whnf)
      · have hm : ¬ meets l k e := fun h' => h'.1 (by assumption)
        all_goals try (conv => whnf)
        refine ⟨(), trivial, ?_⟩
        repeat' (first | ((conv => whnf); (with_reducible refine Unf.h ?_)) | fail); all_goals try (conv => whnf)
        refine Side.mk (iffF hm) ?_
        repeat' (first | (with_reducible refine Unf.h ?_) | ((conv => whnf); first | (refine Side.mk ?_ ?_; focus (with_reducible rfl)) | exact True.intro) | fail); all_goals try (conv => whnf)
    · intro _ _
      repeat' (first | (with_reducible first | refine Unf.h ?_ | refine cutK_n ?_) | ((conv => whnf); refine Fork.mk (fun h => ?_) (fun h => ?_)) | fail); all_goals try (conv => whnf)
      · have hj : join_c.pre (l1, e, (l.length : Int)) := ⟨by omega, ⟨by have := (show meets l k e by assumption).1; omega, by omega⟩, by omega, by omega⟩
        refine CallS.mk (c := join_c) ((l1, e, (l.length : Int))) ?_
        repeat' (first | (with_reducible first | refine Unf.h ?_ | refine cutK_n ?_) | ((conv => whnf); first | (refine Side.mk ?_ ?_; focus (first | with_reducible rfl | assumption)) | refine Got.mk (fun _ _ => ?_)) | fail); all_goals try (conv => whnf)
        have hs : startF l k v e = _ := hl1e.trans (if_pos (by assumption))
        refine ⟨(), trivial, ?_⟩
        repeat' (first | (with_reducible refine Unf.h ?_) | ((conv => whnf); first | (refine Side.mk ?_ ?_; focus (first | with_reducible rfl | (simp only [*, hs]; done))) | (with_reducible refine Unf.h ?_) | exact True.intro) | fail); all_goals try (conv => whnf)
      · have hs : startF l k v e = _ := hl1e.trans (if_neg (by assumption))
        all_goals try (conv => whnf)
        refine ⟨(), trivial, ?_⟩
        repeat' (first | (with_reducible refine Unf.h ?_) | ((conv => whnf); first | (refine Side.mk ?_ ?_; focus (first | with_reducible rfl | (simp only [*, hs]; done))) | (with_reducible refine Unf.h ?_) | exact True.intro) | fail); all_goals try (conv => whnf)
  · intro _ _
    generalize hS : startF l k v e = s0 at *
    have hs0 : ∃ m, s0.1 = l ++ m ∧ 1 ≤ m.length ∧ s0.2 = l.length + m.length - 1 := by
      obtain ⟨m, h1, h2, h3, h4⟩ := startF_ok (l := l) (k := k) (v := v) (e := e)
      rw [hS] at h1 h4
      exact ⟨m, h1, h2, h4⟩
    have hs0l : s0.1.length ≤ l.length + 2 := by
      obtain ⟨m, h1, h2, h3, h4⟩ := startF_ok (l := l) (k := k) (v := v) (e := e)
      rw [hS] at h1
      rw [h1, List.length_append]; omega
    repeat' (first | (with_reducible refine Unf.h ?_) | ((conv => whnf); (refine Side.mk ?_ ?_; focus ((intros; (try simp only [lenS, inR, cutS, loI, hiI] at *); omega)))) | fail); all_goals try (conv => whnf)
    refine LoopS.auto (fun n : Nat => n ≤ A.length) (fun n => [(13, .int .i64 ((n : Int) - 1)), (12, .int .i64 (upF k (A.drop n) s0).2), (10, .own 5)]) (fun n => [(0, .box 100 [.own 4]), (4, .row 192 132 eNd (upF k (A.drop n) s0).1), (2, .box 30 [.arr8 k]), (3, .box 30 [.arr8 v]), (5, .row 3 1 eI A)]) (fun n => n) A.length (Nat.le_refl _) ?_ ?_
    · repeat' (first | (with_reducible refine Unf.h ?_) | ((conv => whnf); first | (refine Side.mk ?_ ?_; focus (first | with_reducible rfl | (simp only [*, List.drop_length, upF]; done))) | (with_reducible refine Unf.h ?_) | exact True.intro) | fail); all_goals try (conv => whnf)
    · intro n hn
      obtain ⟨m, h1, h2, h3, h4⟩ := upF_ok (k := k) hs0 (A.drop n)
      have h1l : (upF k (A.drop n) s0).1.length = l.length + m.length := by rw [h1]; simp
      have hdl : (A.drop n).length ≤ A.length := by simp
      repeat' (first | (with_reducible refine Unf.h ?_) | ((conv => whnf); first | refine Fork.mk (fun h => ?_) (fun h => ?_) | (refine Side.mk ?_ ?_; focus (omega)) | (refine Idx.mk ?_ ?_; focus (omega)) | refine RetE.mk () trivial ?_ | refine retK_r ?_) | fail); all_goals try (conv => whnf)
      · have hidx : ((n : Int) - 1).toNat < A.length := by omega
        obtain ⟨⟨ha0, ha1⟩, hal⟩ := hpm _ (List.getElem_mem hidx)
        have hdrop : A.drop (n - 1) = A[((n : Int) - 1).toNat]'hidx :: A.drop n := by
          have := List.drop_eq_getElem_cons (l := A) (i := n - 1) (by omega)
          rw [this]
          congr 1
          · congr 1; omega
          · congr 1; omega
        have hup : upF k (A.drop (n - 1)) s0 = upS k (A[((n : Int) - 1).toNat]'hidx) (upF k (A.drop n) s0) := by rw [hdrop]; rfl
        generalize hav : A[((n : Int) - 1).toNat]'hidx = av at *
        generalize hL : upF k (A.drop n) s0 = sn at *
        have hbd : av.toNat < sn.1.length := by omega
        have hea : (sn.1)[av.toNat]'hbd = nd sn.1 av := nd_get _ av ha0 _
        have hla : nd sn.1 av = nd l av := by rw [h1]; exact nd_app _ _ _ ha1
        have hch : inF sn.1 (nd sn.1 av).left ∧ inF sn.1 (nd sn.1 av).right := by
          rw [hla]
          rcases hc av ⟨ha0, ha1⟩ with hx | hx
          · rw [hal] at hx; cases hx
          · exact ⟨⟨hx.1.1, by omega⟩, hx.2.1, by omega⟩
        have hM : inF sn.1 sn.2 := ⟨by omega, by omega⟩
        have hadd : add_c.pre (sn.1, turnN k (nd sn.1 av) sn.2) := ⟨by omega, .inr (by unfold turnN; split; exact ⟨hch.1, hM⟩; exact ⟨hM, hch.2⟩)⟩
        have hle : inR sn.2 := ⟨by have := hM.1; omega, by have := hM.2; omega⟩
        have hupe : upS k av sn = (sn.1 ++ [mk sn.1 (turnN k (nd sn.1 av) sn.2)], (sn.1.length : Int)) := rfl
        rw [hupe] at hup
        clear h1 hla hS hl1e hs0 hA hpm hav hL hupe hdrop
        repeat' (first | (with_reducible refine Unf.h ?_) | ((conv => whnf); first | (refine Side.mk ?_ ?_; focus (omega)) | (refine Idx.mk ?_ ?_; focus (omega))) | fail); all_goals try (conv => whnf)
        refine CallS.mk (c := bit_c) ((k, (nd sn.1 av).plen)) ?_
        repeat' (first | (with_reducible refine Unf.h ?_) | ((conv => whnf); first | refine Fork.mk (fun h => ?_) (fun h => ?_) | (refine Side.mk ?_ ?_; focus (first | with_reducible rfl | exact True.intro | (simp only [*, hea]; done))) | refine Got.mk (fun _ _ => ?_)) | fail); all_goals try (conv => whnf)
        · have ht2 : turnN k (nd sn.1 av) sn.2 = _ := if_pos h
          refine CallS.mk (c := add_c) ((sn.1, turnN k (nd sn.1 av) sn.2)) ?_
          rw [ht2] at hadd hup ⊢
          repeat' (first | (with_reducible first | refine Unf.h ?_ | refine loopK_n ?_) | ((conv => whnf); first | (refine Side.mk ?_ ?_; focus (first | with_reducible rfl | assumption | (intros; (try simp only [lenS, inR, cutS, loI, hiI, hea] at *); omega) | (simp only [*, hea]; done))) | refine Got.mk (fun _ _ => ?_)) | fail); all_goals try (conv => whnf)
          refine ⟨n - 1, ⟨by omega, by omega⟩, ?_⟩
          repeat' (first | (with_reducible refine Unf.h ?_) | ((conv => whnf); first | (refine Side.mk ?_ ?_; focus (first | with_reducible rfl | (refine congrArg (SV.int _) ?_; omega) | (simp only [*, hup]; done))) | (with_reducible refine Unf.h ?_) | exact True.intro) | fail); all_goals try (conv => whnf)
        · have ht2 : turnN k (nd sn.1 av) sn.2 = _ := if_neg h
          refine CallS.mk (c := add_c) ((sn.1, turnN k (nd sn.1 av) sn.2)) ?_
          rw [ht2] at hadd hup ⊢
          repeat' (first | (with_reducible first | refine Unf.h ?_ | refine loopK_n ?_) | ((conv => whnf); first | (refine Side.mk ?_ ?_; focus (first | with_reducible rfl | assumption | (intros; (try simp only [lenS, inR, cutS, loI, hiI, hea] at *); omega) | (simp only [*, hea]; done))) | refine Got.mk (fun _ _ => ?_)) | fail); all_goals try (conv => whnf)
          refine ⟨n - 1, ⟨by omega, by omega⟩, ?_⟩
          repeat' (first | (with_reducible refine Unf.h ?_) | ((conv => whnf); first | (refine Side.mk ?_ ?_; focus (first | with_reducible rfl | (refine congrArg (SV.int _) ?_; omega) | (simp only [*, hup]; done))) | (with_reducible refine Unf.h ?_) | exact True.intro) | fail); all_goals try (conv => whnf)
      · have hn0 : n = 0 := by omega
        subst hn0
        have hfin : putF l t k v = upF k (A.drop 0) s0 := by unfold putF; rw [hA, he, hS]; rfl
        repeat' (first | (with_reducible refine Unf.h ?_) | ((conv => whnf); first | (refine Side.mk ?_ ?_; focus (first | with_reducible rfl | (simp only [*, hfin]; done))) | exact rfl) | fail); all_goals try (conv => whnf)
end Go.Proofs.YtdflndjlnkoliaaGreatDoor

namespace Go.Proofs.YtdflndjlnkoliaaGreatDoor
set_option linter.all false
open Go.RowKit
/-! the first law's fixed fact -/
def awake11_c : Ctr where
  D := Unit
  args := fun _ => []
  res := fun _ _ => .bool true
abbrev key1 : H256 := (Vector.replicate 32 0#8).setIfInBounds 0 1#8
abbrev key2 : H256 := (Vector.replicate 32 0#8).setIfInBounds 0 2#8
theorem path_none (k : H256) : path [] k (-1) = ([], -1) := path_stop fun h => h.1 rfl
theorem put_none (k v : H256) : putF [] (-1) k v = ([mk [] (leafN k v)], 0) := by
  unfold putF
  rw [path_none]
  show startF [] k v (-1) = _
  unfold startF
  rw [if_neg (fun h => h.1 rfl)]; rfl
theorem closed_nil : closed [] := fun i hi => by have := hi.1; have := hi.2; simp at this; omega
def texts_c : Ctr where
  D := Nd × H256 × H256
  args := fun (n, l, r) => [.agg (eNd n), .agg [.arr8 l], .agg [.arr8 r]]
  res := fun _ _ => .bool true
end Go.Proofs.YtdflndjlnkoliaaGreatDoor

namespace Go.Proofs.YtdflndjlnkoliaaGreatDoor
set_option linter.all false
open Go.RowKit
/-! trees, with no program in sight -/
inductive PT where
  | leaf (k v : H256)
  | node (p : Pfx) (a b : PT)
def PT.hash : PT → H256
  | .leaf k v => sha (leafT k v)
  | .node p a b => sha (innerT p.len p.bits a.hash b.hash)
def PT.cover : PT → Pfx
  | .leaf k _ => cutP k 256
  | .node p _ _ => p
def PT.depth : PT → Nat
  | .leaf _ _ => 0
  | .node _ a b => max a.depth b.depth + 1
/-- a forest's node stands for a tree -/
def den (l : Fo) : Int → PT → Prop
  | t, .leaf k v => inF l t ∧ nd l t = ⟨true, k, v, 0, zeroH, -1, -1, sha (leafT k v)⟩
  | t, .node p a b => inF l t ∧ ∃ x y, nd l t = ⟨false, zeroH, zeroH, p.len, p.bits, x, y, sha (innerT p.len p.bits a.hash b.hash)⟩ ∧ den l x a ∧ den l y b
theorem den_in {l : Fo} {t : Int} {T : PT} (h : den l t T) : inF l t := by cases T <;> exact h.1
theorem den_hash {l : Fo} {t : Int} {T : PT} (h : den l t T) : (nd l t).hash = T.hash := by
  cases T with
  | leaf k v => rw [h.2]; rfl
  | node p a b => obtain ⟨_, x, y, e, _⟩ := h; rw [e]; rfl
theorem den_cover {l : Fo} {t : Int} {T : PT} (h : den l t T) : (nd l t).cover = T.cover := by
  cases T with
  | leaf k v => rw [h.2]; rfl
  | node p a b => obtain ⟨_, x, y, e, _⟩ := h; rw [e]; rfl
theorem inF_app {l m : Fo} {t : Int} (h : inF l t) : inF (l ++ m) t := ⟨h.1, by rw [List.length_append]; have := h.2; omega⟩
theorem den_app {l m : Fo} : ∀ {T : PT} {t : Int}, den l t T → den (l ++ m) t T
  | .leaf k v, t, h => ⟨inF_app h.1, by rw [nd_app _ _ _ h.1.2]; exact h.2⟩
  | .node p a b, t, h => by
    obtain ⟨h0, x, y, e, ha, hb⟩ := h
    exact ⟨inF_app h0, x, y, by rw [nd_app _ _ _ h0.2]; exact e, den_app ha, den_app hb⟩
theorem inF_last (l : Fo) (n : Nd) : inF (l ++ [n]) (l.length : Int) := ⟨by omega, by simp; omega⟩
theorem den_leaf (l : Fo) (k v : H256) : den (l ++ [mk l (leafN k v)]) (l.length : Int) (.leaf k v) := ⟨inF_last _ _, nd_last _ _⟩
theorem den_node {l : Fo} {n : Nd} {a b : PT} (hl : n.leaf = false) (ha : den l n.left a) (hb : den l n.right b) : den (l ++ [mk l n]) (l.length : Int) (.node n.pfx a b) := by
  refine ⟨inF_last _ _, n.left, n.right, ?_, den_app ha, den_app hb⟩
  rw [nd_last]
  unfold mk
  rw [hl, if_neg (by decide), den_hash ha, den_hash hb]
  rfl
def PT.join (a b : PT) : PT :=
  let m := meetP a.cover b.cover
  if bitI a.cover.bits m.len = 1 then .node m b a else .node m a b
def PT.ins (k v : H256) : PT → PT
  | .leaf k' v' => if k' = k then .leaf k v else PT.join (.leaf k' v') (.leaf k v)
  | .node p a b => if holdsP p k then (if bitI k p.len = 1 then .node p a (PT.ins k v b) else .node p (PT.ins k v a) b) else PT.join (.node p a b) (.leaf k v)
theorem join_depth (a b : PT) : (PT.join a b).depth = max a.depth b.depth + 1 := by
  unfold PT.join; simp only; split
  · simp [PT.depth, Nat.max_comm]
  · rfl
theorem ins_depth (k v : H256) : ∀ T : PT, (T.ins k v).depth ≤ T.depth + 1
  | .leaf k' v' => by
    unfold PT.ins; split
    · simp [PT.depth]
    · rw [join_depth]; simp [PT.depth]
  | .node p a b => by
    unfold PT.ins
    have ha := ins_depth k v a
    have hb := ins_depth k v b
    split
    · split
      · simp only [PT.depth]; omega
      · simp only [PT.depth]; omega
    · rw [join_depth]; simp only [PT.depth]; omega
theorem closed_app {l : Fo} {n : Nd} (hc : closed l) (ha : addable l n) : closed (l ++ [mk l n]) := by
  intro i hi
  by_cases h : i < l.length
  · rw [nd_app _ _ _ h]; exact hc i ⟨hi.1, h⟩
  · have e : i = (l.length : Int) := by have := hi.2; simp at this; omega
    subst e
    rw [nd_last]
    unfold mk
    by_cases hl : n.leaf = true
    · rw [if_pos hl]; exact .inl rfl
    · rw [if_neg hl]
      rcases ha with ha | ⟨h1, h2⟩
      · exact absurd ha hl
      · exact .inr ⟨⟨h1.1, h1.2⟩, h2.1, h2.2⟩
theorem joinN_add {l : Fo} {a b : Int} (ha : inF l a) (hb : inF l b) : addable l (joinN l a b) := by
  refine .inr ?_
  unfold joinN; simp only
  split
  · exact ⟨hb, ha⟩
  · exact ⟨ha, hb⟩
theorem closed_start {l : Fo} {k v : H256} {e : Int} (hc : closed l) (he : isT l e) : closed (startF l k v e).1 := by
  unfold startF
  have h1 := closed_app (n := leafN k v) hc (.inl rfl)
  simp only
  split
  · rename_i hm
    refine closed_app h1 (joinN_add ?_ (inF_last _ _))
    exact inF_app ⟨by have := hm.1; have := he.1; omega, he.2⟩
  · exact h1
theorem closed_up {l : Fo} {k : H256} {s : Fo × Int} (hc : closed l) (h : ∃ m, s.1 = l ++ m ∧ 1 ≤ m.length ∧ s.2 = l.length + m.length - 1) (hs : closed s.1) : ∀ r : List Int, (∀ a ∈ r, inF l a ∧ (nd l a).leaf = false) → closed (upF k r s).1
  | [], _ => hs
  | a :: r, hr => by
    have ih := closed_up (k := k) hc h hs r fun x hx => hr x (by simp [hx])
    obtain ⟨m, h1, h2, h3, _⟩ := upF_ok (k := k) h r
    obtain ⟨ha, hal⟩ := hr a (by simp)
    refine closed_app ih (.inr ?_)
    have hnd : nd (upF k r s).1 a = nd l a := by rw [h1]; exact nd_app _ _ _ ha.2
    have hM : inF (upF k r s).1 (upF k r s).2 := ⟨by omega, by rw [h1, List.length_append]; omega⟩
    have hch : inF (upF k r s).1 (nd l a).left ∧ inF (upF k r s).1 (nd l a).right := by
      rcases hc a ha with hx | hx
      · rw [hal] at hx; cases hx
      · rw [h1]
        have := ha.2
        exact ⟨inF_app ⟨hx.1.1, by omega⟩, inF_app ⟨hx.2.1, by omega⟩⟩
    rw [hnd]
    unfold turnN; split
    · exact ⟨hch.1, hM⟩
    · exact ⟨hM, hch.2⟩
theorem start_ok' (l : Fo) (k v : H256) (e : Int) : ∃ m, (startF l k v e).1 = l ++ m ∧ 1 ≤ m.length ∧ (startF l k v e).2 = l.length + m.length - 1 := by
  obtain ⟨m, h1, h2, _, h4⟩ := startF_ok (l := l) (k := k) (v := v) (e := e)
  exact ⟨m, h1, h2, h4⟩
/-- what a Put leaves -/
theorem put_ok' {l : Fo} {t : Int} {k v : H256} (hc : closed l) (ht : isT l t) : closed (putF l t k v).1 ∧ (∃ m, (putF l t k v).1 = l ++ m) ∧ inF (putF l t k v).1 (putF l t k v).2 ∧ (putF l t k v).1.length ≤ l.length + 2 + (path l k t).1.length := by
  obtain ⟨hpm, hpe⟩ := path_mem (k := k) hc _ t (Nat.le_refl _) ht
  have hs := start_ok' l k v (path l k t).2
  obtain ⟨m, h1, h2, h3, h4⟩ := upF_ok (k := k) hs (path l k t).1
  refine ⟨closed_up hc hs (closed_start hc hpe) _ hpm, ⟨m, h1⟩, ⟨?_, ?_⟩, ?_⟩
  · show 0 ≤ (upF k _ _).2; omega
  · show (upF k _ _).2 < _
    have : (putF l t k v).1 = l ++ m := h1
    rw [this, List.length_append]; omega
  · have : (putF l t k v).1.length = _ := h4
    obtain ⟨m', g1, g2, g3, g4⟩ := startF_ok (l := l) (k := k) (v := v) (e := (path l k t).2)
    rw [this, g1, List.length_append]; omega
theorem path_den {l : Fo} {k : H256} : ∀ {T : PT} {t : Int}, den l t T → (path l k t).1.length ≤ T.depth
  | .leaf k' v', t, h => by
    rw [path_stop fun hg => by have := hg.2.1; rw [h.2] at this; exact absurd this (by simp)]; simp
  | .node p a b, t, h => by
    obtain ⟨h0, x, y, e, ha, hb⟩ := h
    rw [path]
    split
    · have hn : nxt l k t = y ∨ nxt l k t = x := by
        unfold nxt; rw [e]; simp only; split
        · exact .inl rfl
        · exact .inr rfl
      simp only [List.length_cons, PT.depth]
      rcases hn with hn | hn <;> rw [hn]
      · have := path_den (k := k) hb; omega
      · have := path_den (k := k) ha; omega
    · simp
theorem start_den {l : Fo} {k v : H256} {t : Int} {T : PT} (h : den l t T) (hT : (∃ v', T = .leaf k v') → False) : den (startF l k v t).1 (startF l k v t).2 (PT.join T (.leaf k v)) := by
  have hin := den_in h
  have hm : meets l k t := by
    refine ⟨by have := hin.1; omega, fun hh => ?_⟩
    cases T with
    | leaf k' v' => rw [h.2] at hh; exact hT ⟨v', by rw [← hh.2]⟩
    | node p a b => obtain ⟨_, x, y, e, _⟩ := h; rw [e] at hh; exact absurd hh.1 (by simp)
  have h1 := den_app (m := [mk l (leafN k v)]) h
  have h2 := den_leaf l k v
  unfold startF
  simp only
  rw [if_pos hm]
  have c1 := den_cover h1
  have c2 := den_cover h2
  unfold joinN PT.join
  simp only [c1, c2]
  split
  · exact den_node (n := ⟨false, zeroH, zeroH, _, _, _, _, zeroH⟩) rfl h2 h1
  · exact den_node (n := ⟨false, zeroH, zeroH, _, _, _, _, zeroH⟩) rfl h1 h2
/-- a Put, as trees have it -/
theorem put_den {l : Fo} {k v : H256} (hc : closed l) : ∀ {T : PT} {t : Int}, den l t T → den (putF l t k v).1 (putF l t k v).2 (T.ins k v)
  | .leaf k' v', t, h => by
    have hp : path l k t = ([], t) := path_stop fun hg => by have := hg.2.1; rw [h.2] at this; exact absurd this (by simp)
    unfold putF
    rw [hp]
    show den (startF l k v t).1 (startF l k v t).2 _
    unfold PT.ins
    by_cases hk : k' = k
    · rw [if_pos hk]
      subst hk
      have hm : ¬ meets l k' t := fun hm => hm.2 ⟨by rw [h.2], by rw [h.2]⟩
      unfold startF
      simp only
      rw [if_neg hm]
      exact den_leaf l k' v
    · rw [if_neg hk]
      exact start_den h fun ⟨v2, e⟩ => hk (by cases e; rfl)
  | .node p a b, t, h => by
    have hd := h
    obtain ⟨h0, x, y, e, ha, hb⟩ := h
    have hpfx : (nd l t).pfx = p := by rw [e]; rfl
    unfold PT.ins
    by_cases hh : holdsP p k
    · rw [if_pos hh]
      have ht : isT l t := ⟨by have := h0.1; omega, h0.2⟩
      have hg : goes l k t := ⟨by have := h0.1; omega, by rw [e], by rw [hpfx]; exact hh⟩
      have hput : putF l t k v = upS k t (putF l (nxt l k t) k v) := by
        unfold putF
        rw [path_go hc ht hg]; rfl
      have hx := nxt_ok hc ht hg
      obtain ⟨hc', ⟨m, hm⟩, hin', _⟩ := put_ok' (k := k) (v := v) hc (show isT l (nxt l k t) from ⟨by omega, by have := h0.2; omega⟩)
      have hnd : nd (putF l (nxt l k t) k v).1 t = nd l t := by rw [hm]; exact nd_app _ _ _ h0.2
      rw [hput]
      show den (_ ++ [mk _ _]) _ _
      rw [hnd, e]
      by_cases hbit : bitI k p.len = 1
      · have hn : nxt l k t = y := by unfold nxt; rw [e]; exact if_pos hbit
        rw [if_pos hbit]
        have ih := put_den (k := k) (v := v) hc hb
        rw [hn] at hm ⊢
        have hta : turnN k ⟨false, zeroH, zeroH, p.len, p.bits, x, y, sha (innerT p.len p.bits a.hash b.hash)⟩ (putF l y k v).2 = ⟨false, zeroH, zeroH, p.len, p.bits, x, (putF l y k v).2, sha (innerT p.len p.bits a.hash b.hash)⟩ := if_pos hbit
        rw [hta]
        exact den_node (n := ⟨false, zeroH, zeroH, p.len, p.bits, x, (putF l y k v).2, _⟩) rfl (by rw [hm]; exact den_app ha) ih
      · have hn : nxt l k t = x := by unfold nxt; rw [e]; exact if_neg hbit
        rw [if_neg hbit]
        have ih := put_den (k := k) (v := v) hc ha
        rw [hn] at hm ⊢
        have hta : turnN k ⟨false, zeroH, zeroH, p.len, p.bits, x, y, sha (innerT p.len p.bits a.hash b.hash)⟩ (putF l x k v).2 = ⟨false, zeroH, zeroH, p.len, p.bits, (putF l x k v).2, y, sha (innerT p.len p.bits a.hash b.hash)⟩ := if_neg hbit
        rw [hta]
        exact den_node (n := ⟨false, zeroH, zeroH, p.len, p.bits, (putF l x k v).2, y, _⟩) rfl ih (by rw [hm]; exact den_app hb)
    · rw [if_neg hh]
      have hp : path l k t = ([], t) := path_stop fun hg => hh (by rw [← hpfx]; exact hg.2.2)
      unfold putF
      rw [hp]
      exact start_den hd fun ⟨v', e⟩ => by cases e
end Go.Proofs.YtdflndjlnkoliaaGreatDoor

namespace Go.Proofs.YtdflndjlnkoliaaGreatDoor
set_option linter.all false
open Go.RowKit
/-! a forest that is built -/
abbrev KV := H256 × H256
def eKV (p : KV) : List SV := [.arr8 p.1, .arr8 p.2]
def builtF (ps : List KV) : Fo × Int := ps.foldl (fun s p => putF s.1 s.2 p.1 p.2) ([], -1)
def treesF (ps : List KV) : Option PT := ps.foldl (fun o p => some (match o with | none => .leaf p.1 p.2 | some T => T.ins p.1 p.2)) none
theorem builtF_snoc (ps : List KV) (p : KV) : builtF (ps ++ [p]) = putF (builtF ps).1 (builtF ps).2 p.1 p.2 := by unfold builtF; rw [List.foldl_append]; rfl
theorem treesF_snoc (ps : List KV) (p : KV) : treesF (ps ++ [p]) = some (match treesF ps with | none => .leaf p.1 p.2 | some T => T.ins p.1 p.2) := by unfold treesF; rw [List.foldl_append]; rfl
/-- the tree at a number -/
def treeAt (l : Fo) (t : Int) : Option PT → Prop
  | none => t = -1
  | some T => den l t T
theorem treeAt_is {l : Fo} {t : Int} : ∀ {o : Option PT}, treeAt l t o → isT l t
  | none, h => by have : t = -1 := h; exact ⟨by omega, by omega⟩
  | some T, h => ⟨by have := (den_in h).1; omega, (den_in h).2⟩
theorem treeAt_app {l m : Fo} {t : Int} : ∀ {o : Option PT}, treeAt l t o → treeAt (l ++ m) t o
  | none, h => h
  | some T, h => den_app h
def depthO : Option PT → Nat
  | none => 0
  | some T => T.depth
theorem put_none' (l : Fo) (k v : H256) : putF l (-1) k v = (l ++ [mk l (leafN k v)], (l.length : Int)) := by
  unfold putF
  rw [path_stop fun h => h.1 rfl]
  show startF l k v (-1) = _
  unfold startF
  rw [if_neg (fun h => h.1 rfl)]
theorem treeAt_put {l : Fo} {t : Int} {k v : H256} (hc : closed l) : ∀ {o : Option PT}, treeAt l t o → treeAt (putF l t k v).1 (putF l t k v).2 (some (match o with | none => .leaf k v | some T => T.ins k v))
  | none, h => by
    have : t = -1 := h
    subst this
    rw [put_none']
    exact den_leaf l k v
  | some T, h => put_den hc h
theorem path_treeAt {l : Fo} {t : Int} {k : H256} : ∀ {o : Option PT}, treeAt l t o → (path l k t).1.length ≤ depthO o
  | none, h => by
    have : t = -1 := h
    subst this
    rw [path_stop fun h => h.1 rfl]; simp
  | some T, h => path_den h
theorem depthO_ins (k v : H256) : ∀ o : Option PT, depthO (some (match o with | none => .leaf k v | some T => T.ins k v)) ≤ depthO o + 1
  | none => by simp [depthO, PT.depth]
  | some T => ins_depth k v T
structure BuiltOk (ps : List KV) : Prop where
  closed : closed (builtF ps).1
  tree : treeAt (builtF ps).1 (builtF ps).2 (treesF ps)
  depth : depthO (treesF ps) ≤ ps.length
  size : (builtF ps).1.length ≤ ps.length * (ps.length + 2)
theorem builtOk_aux : ∀ (n : Nat) (ps : List KV), ps.length = n → BuiltOk ps
  | 0, ps, h => by
    obtain rfl := List.eq_nil_of_length_eq_zero h
    exact ⟨closed_nil, rfl, Nat.le_refl _, Nat.le_refl _⟩
  | n + 1, ps, h => by
    have hne : ps ≠ [] := fun e => by subst e; cases h
    obtain ⟨qs, p, rfl⟩ : ∃ qs p, ps = qs ++ [p] := ⟨ps.dropLast, ps.getLast hne, (List.dropLast_concat_getLast hne).symm⟩
    have hq : qs.length = n := by simpa using h
    obtain ⟨h1, h2, h3, h4⟩ := builtOk_aux n qs hq
    have ht := treeAt_is h2
    obtain ⟨g1, g2, g3, g4⟩ := put_ok' (k := p.1) (v := p.2) h1 ht
    refine ⟨?_, ?_, ?_, ?_⟩
    · rw [builtF_snoc]; exact g1
    · rw [builtF_snoc, treesF_snoc]; exact treeAt_put h1 h2
    · rw [treesF_snoc]
      refine Nat.le_trans (depthO_ins _ _ _) ?_
      simp; omega
    · rw [builtF_snoc]
      refine Nat.le_trans g4 ?_
      have := path_treeAt (k := p.1) h2
      have e : (qs ++ [p]).length = n + 1 := by simp [hq]
      rw [e]
      rw [hq] at h3 h4
      have : (n + 1) * (n + 1 + 2) = n * (n + 2) + (2 * n + 3) := by
        simp [Nat.add_mul, Nat.mul_add]; omega
      omega
theorem builtOk (ps : List KV) : BuiltOk ps := builtOk_aux _ ps rfl
theorem built_size {ps : List KV} (h : ps.length ≤ 25) : (builtF ps).1.length ≤ 675 := by
  refine Nat.le_trans (builtOk ps).size ?_
  exact Nat.le_trans (Nat.mul_le_mul h (show ps.length + 2 ≤ 27 by omega)) (by decide)
theorem built_take (ps : List KV) (i : Nat) (h : i < ps.length) : builtF (ps.take (i + 1)) = putF (builtF (ps.take i)).1 (builtF (ps.take i)).2 ps[i].1 ps[i].2 := by
  rw [List.take_succ_eq_append_getElem h, builtF_snoc]
def built_c : Ctr where
  D := List KV
  pre := fun ps => ps.length ≤ 25
  args := fun ps => [.fs 64 eKV ps]
  res := fun ps _ => .tup [.ptr 0 0, .int .i64 (builtF ps).2]
  out := fun ps _ => fo (builtF ps).1
  mm := 2
end Go.Proofs.YtdflndjlnkoliaaGreatDoor

namespace Go.Proofs.YtdflndjlnkoliaaGreatDoor
set_option linter.all false
open Go.RowKit
/-! epochs of news, and what is sealed -/
abbrev Ver := Vr H256 (BitVec 8)
abbrev Nws := Bs × Ver
def fourB (n : Int) : Bs := [BitVec.ofInt 8 (n / 2 ^ 24), BitVec.ofInt 8 (n / 2 ^ 16), BitVec.ofInt 8 (n / 2 ^ 8), BitVec.ofInt 8 n]
def keyL (x : Bs) : H256 := sha (txt 107#8 [x])
def saltL (seed : H256) (x : Bs) (n : Int) : H256 := sha (txt 122#8 [seed.toList, x, fourB n])
def verT (x : Bs) (v : Ver) : Bs := txt 99#8 [x, fourB v.num, fourB v.ep, v.salt.toList, v.before.toList, v.val]
def cmL (x : Bs) (v : Ver) : H256 := sha (verT x v)
def kvN (p : Nws) : KV := (keyL p.1, cmL p.1 p.2)
def kvs (es : List (List Nws)) : List KV := es.flatten.map kvN
theorem kvs_snoc (es : List (List Nws)) (n : List Nws) : kvs (es ++ [n]) = kvs es ++ n.map kvN := by unfold kvs; simp
/-- what is sealed -/
def verN (seed : H256) (es : List (List Nws)) (u : Bs × Bs) : Nws := (u.1, newV cmL zeroH (saltL seed u.1 ((chR es u.1).length + 1)) u.1 (chR es u.1) (es.length + 1) u.2)
def okU (es : List (List Nws)) (u : Bs × Bs) : Prop := okG cmL zeroH u.1 (chR es u.1) (es.length + 1) u.2
/-! the people of a directory -/
def peo (es : List (List Nws)) : List (Bs × List Ver) := es.foldl giveLb []
theorem peo_snoc (es : List (List Nws)) (n : List Nws) : peo (es ++ [n]) = giveLb (peo es) n := by unfold peo; rw [List.foldl_append]; rfl
def apartE (es : List (List Nws)) : Prop := ∀ n ∈ es, (n.map Prod.fst).Nodup
theorem peo_chR : ∀ (k : Nat) (es : List (List Nws)), es.length = k → apartE es → ∀ x, (getLb (peo es) x).getD [] = chR es x
  | 0, es, h, _, x => by obtain rfl := List.eq_nil_of_length_eq_zero h; rfl
  | k + 1, es, h, ha, x => by
    have hne : es ≠ [] := fun e => by subst e; cases h
    obtain ⟨qs, p, rfl⟩ : ∃ qs p, es = qs ++ [p] := ⟨es.dropLast, es.getLast hne, (List.dropLast_concat_getLast hne).symm⟩
    have ih := peo_chR k qs (by simpa using h) fun n hn => ha n (by simp [hn])
    rw [peo_snoc]
    exact give_chR (ha p (by simp)) ih x
theorem giveLb_nodup : ∀ (n : List Nws) (ps : List (Bs × List Ver)), (ps.map Prod.fst).Nodup → ((giveLb ps n).map Prod.fst).Nodup
  | [], ps, h => h
  | p :: r, ps, h => giveLb_nodup r _ (setLb_nodup h)
theorem peo_nodup : ∀ (k : Nat) (es : List (List Nws)), es.length = k → ((peo es).map Prod.fst).Nodup
  | 0, es, h => by obtain rfl := List.eq_nil_of_length_eq_zero h; exact List.nodup_nil
  | k + 1, es, h => by
    have hne : es ≠ [] := fun e => by subst e; cases h
    obtain ⟨qs, p, rfl⟩ : ∃ qs p, es = qs ++ [p] := ⟨es.dropLast, es.getLast hne, (List.dropLast_concat_getLast hne).symm⟩
    rw [peo_snoc]
    exact giveLb_nodup p _ (peo_nodup k qs (by simpa using h))
/-! what is sealed: the document's way and the program's are one -/
instance (es : List (List Nws)) (u : Bs × Bs) : Decidable (okU es u) := inferInstanceAs (Decidable (okG ..))
def sealF (seed : H256) (es : List (List Nws)) (us : List (Bs × Bs)) : List (List Nws) × Int :=
  if 16 < us.length then (es, 3) else if (∀ u ∈ us, okU es u) ∧ (us.map Prod.fst).Nodup then (es ++ [us.map (verN seed es)], 0) else (es, 1)
theorem verN_fst (seed : H256) (es : List (List Nws)) (us : List (Bs × Bs)) : (us.map (verN seed es)).map Prod.fst = us.map Prod.fst := by
  rw [List.map_map]; rfl
theorem sealF_apart {seed : H256} {es : List (List Nws)} {us : List (Bs × Bs)} (h : apartE es) : apartE (sealF seed es us).1 := by
  unfold sealF
  split
  · exact h
  · split
    · rename_i hc
      intro n hn
      rcases List.mem_append.1 hn with hn | hn
      · exact h n hn
      · obtain rfl := List.mem_singleton.1 hn
        rw [verN_fst]; exact hc.2
    · exact h
theorem sealF_len {seed : H256} {es : List (List Nws)} {us : List (Bs × Bs)} : (sealF seed es us).1.length ≤ es.length + 1 := by
  unfold sealF
  split
  · simp
  · split <;> simp
end Go.Proofs.YtdflndjlnkoliaaGreatDoor

namespace Go.Proofs.YtdflndjlnkoliaaGreatDoor
set_option linter.all false
open Go.RowKit
/-! no forest; what is no tree -/
def putN_c : Ctr where
  D := Int × H256 × H256
  args := fun (t, k, v) => [.nilp, .int .i64 t, .agg [.arr8 k], .agg [.arr8 v]]
  res := fun _ _ => .tup [.int .i64 0, .int .i64 1]
def putN_H : Cfg := ⟨[(125, isN_c), (126, path_c), (127, add_c), (128, join_c), (101, bit_c)], [(7, [6, 10, 15, 19, 20], [], (.one 0 0 false (.one 1 0 false (.one 2 0 false (.one 3 0 false (.one 4 0 false (.one 5 0 false (.one 6 1 false (.one 7 0 false (.one 8 0 false (.one 9 0 false (.one 10 1 false (.one 11 0 false (.one 12 0 false (.one 13 0 false (.one 14 0 false (.one 15 1 false (.one 16 0 false (.one 17 0 false (.one 18 0 false (.one 19 1 false (.one 20 1 false (.one 21 0 false (.one 22 0 false (.one 23 0 false (.one 24 0 false .nil))))))))))))))))))))))))), []), (12, [3, 7, 9], [10, 11], (.one 0 0 false (.one 1 0 false (.one 2 0 false (.one 3 1 false (.one 4 0 false (.one 5 0 false (.one 6 0 false (.one 7 1 false (.one 8 0 false (.one 9 1 false (.one 10 2 true (.one 11 2 false .nil)))))))))))), [])], [], [], 101, 0, [], [], []⟩
theorem putN_ok : putN_c.Ok Tryz.prog 88 := by
  refine fn_ok putN_H 0 rfl _ Tryz.func88 rfl rfl ⟨isN_ok, path_ok, add_ok, join_ok, bit_ok, trivial⟩ rfl rfl (by kernel_rfl) (fun _ => Nat.le_of_ble_eq_true rfl) ?_
  rintro ⟨t, k, v⟩ hp hr
  try dsimp only [putN_c] at hp
  try simp only [putN_c, Rng, RngL, inR, and_true, true_and] at hr
  repeat' (first | (with_reducible refine Unf.h ?_) | ((conv => whnf); first | (refine Side.mk ?_ ?_; focus (first | with_reducible rfl | exact True.intro)) | refine RetE.mk () trivial ?_ | refine Got.mk (fun _ _ => ?_) | refine retK_r ?_ | exact rfl | refine CallS.mk (c := isN_c) (t) ?_) | fail); all_goals try (conv => whnf)
def putX_c : Ctr where
  D := Fo × Int × H256 × H256
  pre := fun (l, t, _, _) => ¬ isT l t
  args := fun (_, t, k, v) => [.ptr 0 0, .int .i64 t, .agg [.arr8 k], .agg [.arr8 v]]
  objs := fun (l, _) => fo l
  nn := 2
  res := fun _ _ => .tup [.int .i64 0, .int .i64 1]
  out := fun (l, _) _ => fo l
def putX_H : Cfg := ⟨[(125, is_c), (126, path_c), (127, add_c), (128, join_c), (101, bit_c)], [(7, [6, 10, 15, 19, 20], [], (.one 0 0 false (.one 1 0 false (.one 2 0 false (.one 3 0 false (.one 4 0 false (.one 5 0 false (.one 6 1 false (.one 7 0 false (.one 8 0 false (.one 9 0 false (.one 10 1 false (.one 11 0 false (.one 12 0 false (.one 13 0 false (.one 14 0 false (.one 15 1 false (.one 16 0 false (.one 17 0 false (.one 18 0 false (.one 19 1 false (.one 20 1 false (.one 21 0 false (.one 22 0 false (.one 23 0 false (.one 24 0 false .nil))))))))))))))))))))))))), []), (12, [3, 7, 9], [10, 11], (.one 0 0 false (.one 1 0 false (.one 2 0 false (.one 3 1 false (.one 4 0 false (.one 5 0 false (.one 6 0 false (.one 7 1 false (.one 8 0 false (.one 9 1 false (.one 10 2 true (.one 11 2 false .nil)))))))))))), [])], [], [], 101, 2, [], [], []⟩
theorem putX_ok : putX_c.Ok Tryz.prog 88 := by
  refine fn_ok putX_H 2 rfl _ Tryz.func88 rfl rfl ⟨is_ok, path_ok, add_ok, join_ok, bit_ok, trivial⟩ rfl rfl (by kernel_rfl) (fun _ => Nat.le_of_ble_eq_true rfl) ?_
  rintro ⟨l, t, k, v⟩ hp hr
  try dsimp only [putX_c] at hp
  try simp only [putX_c, Rng, RngL, inR, and_true, true_and] at hr
  repeat' (first | (with_reducible refine Unf.h ?_) | ((conv => whnf); first | refine Fork.mkn (fun h => ?_) (fun h => ?_) | (refine Side.mk ?_ ?_; focus (first | with_reducible rfl | exact True.intro)) | refine RetE.mk () trivial ?_ | refine Got.mk (fun _ _ => ?_) | refine retK_r ?_ | exact rfl | refine CallS.mk (c := is_c) ((l, t)) ?_) | fail); all_goals try (conv => whnf)
  exact absurd (show isT l t by assumption) hp
def rootF (l : Fo) (t : Int) : H256 := if t = -1 then emptyH else (nd l t).hash
def root_c : Ctr where
  D := Fo × Int
  pre := fun (l, t) => isT l t
  args := fun (_, t) => [.ptr 0 0, .int .i64 t]
  objs := fun (l, _) => fo l
  nn := 2
  res := fun (l, t) _ => .tup [.agg [.arr8 (rootF l t)], .int .i64 0]
  out := fun (l, _) _ => fo l
def root_H : Cfg := ⟨[(125, is_c), (129, hempty_c)], [], [], [], 24, 2, [], [], []⟩
theorem root_ok : root_c.Ok Tryz.prog 89 := by
  refine fn_ok root_H 2 rfl _ Tryz.func89 rfl rfl ⟨is_ok, hempty_ok, trivial⟩ rfl rfl (by kernel_rfl) (fun _ => Nat.le_of_ble_eq_true rfl) ?_
  rintro ⟨l, t⟩ hp hr
  try dsimp only [root_c] at hp
  try simp only [root_c, Rng, RngL, inR, and_true, true_and] at hr
  obtain ⟨ht0, ht1⟩ := hp
  repeat' (first | (with_reducible refine Unf.h ?_) | ((conv => whnf); first | refine Fork.mkn (fun h => ?_) (fun h => ?_) | refine Fork.mk (fun h => ?_) (fun h => ?_) | (refine Side.mk ?_ ?_; focus (first | with_reducible rfl | exact True.intro | omega)) | (refine Idx.mk ?_ ?_; focus (omega)) | refine RetE.mk () trivial ?_ | refine Got.mk (fun _ _ => ?_) | refine retK_r ?_ | exact rfl | refine CallS.mk (c := is_c) ((l, t)) ?_ | refine CallS.mk (c := hempty_c) (()) ?_) | fail); all_goals try (conv => whnf)
  · refine Side.mk (congrArg SV.arr8 (if_pos h).symm) (by repeat' (first | (with_reducible refine Unf.h ?_) | ((conv => whnf); first | (refine Side.mk ?_ ?_; focus (with_reducible rfl)) | exact rfl) | fail); all_goals try (conv => whnf))
  · refine Side.mk (congrArg SV.arr8 ?_) (by repeat' (first | (with_reducible refine Unf.h ?_) | ((conv => whnf); first | (refine Side.mk ?_ ?_; focus (with_reducible rfl)) | exact rfl) | fail); all_goals try (conv => whnf))
    rw [nd_get l t (by omega) (by omega)]
    exact (if_neg h).symm
def rootX_c : Ctr where
  D := Fo × Int
  pre := fun (l, t) => ¬ isT l t
  args := fun (_, t) => [.ptr 0 0, .int .i64 t]
  objs := fun (l, _) => fo l
  nn := 2
  res := fun _ _ => .tup [.agg [.arr8 zeroH], .int .i64 1]
  out := fun (l, _) _ => fo l
def rootX_H : Cfg := ⟨[(125, is_c), (129, hempty_c)], [], [], [], 24, 2, [], [], []⟩
theorem rootX_ok : rootX_c.Ok Tryz.prog 89 := by
  refine fn_ok rootX_H 2 rfl _ Tryz.func89 rfl rfl ⟨is_ok, hempty_ok, trivial⟩ rfl rfl (by kernel_rfl) (fun _ => Nat.le_of_ble_eq_true rfl) ?_
  rintro ⟨l, t⟩ hp hr
  try dsimp only [rootX_c] at hp
  try simp only [rootX_c, Rng, RngL, inR, and_true, true_and] at hr
  repeat' (first | (with_reducible refine Unf.h ?_) | ((conv => whnf); first | refine Fork.mkn (fun h => ?_) (fun h => ?_) | refine Fork.mk (fun h => ?_) (fun h => ?_) | (refine Side.mk ?_ ?_; focus (first | with_reducible rfl | exact True.intro | omega)) | (refine Idx.mk ?_ ?_; focus (omega)) | refine RetE.mk () trivial ?_ | refine Got.mk (fun _ _ => ?_) | refine retK_r ?_ | exact rfl | refine CallS.mk (c := is_c) ((l, t)) ?_) | fail); all_goals try (conv => whnf)
  all_goals exact absurd (show isT l t by assumption) hp
def rootN_c : Ctr where
  D := Int
  args := fun t => [.nilp, .int .i64 t]
  res := fun _ _ => .tup [.agg [.arr8 zeroH], .int .i64 1]
def rootN_H : Cfg := ⟨[(125, isN_c), (129, hempty_c)], [], [], [], 24, 0, [], [], []⟩
theorem rootN_ok : rootN_c.Ok Tryz.prog 89 := by
  refine fn_ok rootN_H 0 rfl _ Tryz.func89 rfl rfl ⟨isN_ok, hempty_ok, trivial⟩ rfl rfl (by kernel_rfl) (fun _ => Nat.le_of_ble_eq_true rfl) ?_
  intro (t : Int) hp hr
  try dsimp only [rootN_c] at hp
  try simp only [rootN_c, Rng, RngL, inR, and_true, true_and] at hr
  repeat' (first | (with_reducible refine Unf.h ?_) | ((conv => whnf); first | (refine Side.mk ?_ ?_; focus (first | with_reducible rfl | exact True.intro)) | refine RetE.mk () trivial ?_ | refine Got.mk (fun _ _ => ?_) | refine retK_r ?_ | exact rfl | refine CallS.mk (c := isN_c) (t) ?_) | fail); all_goals try (conv => whnf)
def getN_c : Ctr where
  D := Int × H256
  args := fun (t, k) => [.nilp, .int .i64 t, .agg [.arr8 k]]
  res := fun _ _ => .tup [.agg [.arr8 zeroH], .bool false]
def addN_c : Ctr where
  D := Nd
  args := fun n => [.nilp, .agg (eNd n)]
  res := fun _ _ => .tup [.int .i64 0, .int .i64 1]
def addN_H : Cfg := ⟨[(167, under_c), (127, add_c)], [], [], [], 40, 0, [], [], []⟩
theorem addN_ok : addN_c.Ok Tryz.prog 143 := by
  refine fn_ok addN_H 0 rfl _ Tryz.func143 rfl rfl ⟨under_ok, add_ok, trivial⟩ rfl rfl (by kernel_rfl) (fun _ => Nat.le_of_ble_eq_true rfl) ?_
  intro (n : Nd) hp hr
  try dsimp only [addN_c] at hp
  try simp only [addN_c, Rng, RngL, inR, and_true, true_and] at hr
  repeat' (first | (with_reducible refine Unf.h ?_) | ((conv => whnf); first | (refine Side.mk ?_ ?_; focus (with_reducible rfl)) | refine RetE.mk () trivial ?_ | refine retK_r ?_ | exact rfl) | fail); all_goals try (conv => whnf)
def listN_c : Ctr where
  D := Int
  args := fun t => [.nilp, .int .i64 t]
  res := fun _ _ => .nils
end Go.Proofs.YtdflndjlnkoliaaGreatDoor

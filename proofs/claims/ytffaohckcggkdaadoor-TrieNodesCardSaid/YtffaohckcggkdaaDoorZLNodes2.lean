import Derived.Test.YtffaohckcggkdaaDoorZLNodes1
import Derived.Test.YtffaohckcggkdaaDoorLaw
namespace Go.Proofs.YtffaohckcggkdaaDoor
set_option linter.all false
open Go.RowKit
/-! the keys and values of a tree, rising -/
def PT.list : PT → List KV
  | .leaf k v => [(k, v)]
  | .node _ a b => a.list ++ b.list
theorem list_pos : ∀ T : PT, 0 < T.list.length
  | .leaf _ _ => by simp [PT.list]
  | .node _ a b => by have := list_pos a; simp only [PT.list, List.length_append]; omega
theorem wf_child {p : Pfx} {a : PT} {c : Int} (h0 : formedP p ∧ p.len < 256) (hc : c = 0 ∨ c = 1) (hw : withinP (childP p c) a.cover) {k : H256} (hk : holdsP a.cover k) : holdsP p k ∧ kb k p.len.toNat = decide (c = 1) := by
  have hco := wf_ok h0 c hc
  obtain ⟨w1, w2, w3, w4⟩ := within_agree.1 hw
  have hk2 := (holds_agree.1 hk).2
  have : agree (childP p c).len.toNat (childP p c).bits k := w4.trans (hk2.mono (by have := w1.1; omega))
  obtain ⟨g1, g2⟩ := (child_agree hco k).1 this
  exact ⟨holds_agree.2 ⟨h0.1, g1⟩, g2⟩
theorem leaf_holds (k v : H256) : holdsP (PT.leaf k v).cover k := by
  have := cover_formed (T := .leaf k v) trivial
  rw [leaf_cover] at this ⊢
  exact holds_agree.2 ⟨this, fun _ _ => rfl⟩
theorem wf_held : ∀ {T : PT}, T.wf → ∀ x ∈ T.list, holdsP T.cover x.1
  | .leaf k v, _, x, hx => by
    obtain rfl : x = (k, v) := by simpa [PT.list] using hx
    exact leaf_holds k v
  | .node p a b, h, x, hx => by
    obtain ⟨h0, h1, h2, h3, h4⟩ := h
    rcases List.mem_append.1 hx with hx | hx
    · exact (wf_child h0 (.inl rfl) h1 (wf_held h3 x hx)).1
    · exact (wf_child h0 (.inr rfl) h2 (wf_held h4 x hx)).1
theorem wf_left {p : Pfx} {a b : PT} (h : (PT.node p a b).wf) {x : KV} (hx : x ∈ a.list) : holdsP p x.1 ∧ kb x.1 p.len.toNat = false := wf_child h.1 (.inl rfl) h.2.1 (wf_held h.2.2.2.1 x hx)
theorem wf_right {p : Pfx} {a b : PT} (h : (PT.node p a b).wf) {x : KV} (hx : x ∈ b.list) : holdsP p x.1 ∧ kb x.1 p.len.toNat = true := wf_child h.1 (.inr rfl) h.2.2.1 (wf_held h.2.2.2.2 x hx)
theorem shared_at {x y : H256} {n : Nat} (hn : n < 256) (h : agree n x y) (hne : kb x n ≠ kb y n) : shared x y = n := shared_uniq (by omega) h (fun _ => hne)
theorem less_at {x y : H256} {n : Nat} (hn : n < 256) (h : agree n x y) (hx : kb x n = false) (hy : kb y n = true) : lessP x y := by
  have := shared_at hn h (by rw [hx, hy]; simp)
  exact ⟨by omega, by rw [this]; exact hx⟩
theorem less_asymm {x y : H256} (h : lessP x y) : ¬ lessP y x := fun g => by
  have hn := shared_ne h.1
  have e : shared y x = shared x y := shared_at h.1 (fun i hi => (shared_eq hi).symm) (fun e => hn e.symm)
  have h2 := h.2
  have g2 := g.2
  rw [e] at g2
  exact hn (by rw [h2, g2])
theorem less_irrefl (x : H256) : ¬ lessP x x := fun h => less_asymm h h
theorem not_less_at {x y : H256} {n : Nat} (hn : n < 256) (h : agree n x y) (hx : kb x n = false) (hy : kb y n = true) : ¬ lessP y x := less_asymm (less_at hn h hx hy)
theorem ne_at {x y : H256} {n : Nat} (hx : kb x n = false) (hy : kb y n = true) : x ≠ y := fun e => by rw [e, hy] at hx; cases hx
abbrev sortedL (l : List KV) : Prop := l.Pairwise fun x y => lessP x.1 y.1
theorem holds_agree2 {p : Pfx} {x y : H256} (hx : holdsP p x) (hy : holdsP p y) : agree p.len.toNat x y := ((holds_agree.1 hx).2).symm.trans (holds_agree.1 hy).2
theorem node_less {p : Pfx} {a b : PT} (h : (PT.node p a b).wf) {x y : KV} (hx : x ∈ a.list) (hy : y ∈ b.list) : lessP x.1 y.1 := by
  obtain ⟨x1, x2⟩ := wf_left h hx
  obtain ⟨y1, y2⟩ := wf_right h hy
  have := h.1.1.1
  have := h.1.2
  exact less_at (by omega) (holds_agree2 x1 y1) x2 y2
theorem wf_sorted : ∀ {T : PT}, T.wf → sortedL T.list
  | .leaf k v, _ => by simp [PT.list]
  | .node p a b, h => List.pairwise_append.2 ⟨wf_sorted h.2.2.2.1, wf_sorted h.2.2.2.2, fun _ hx _ hy => node_less h hx hy⟩
/-! putting into lists -/
def putL (k v : H256) : List KV → List KV
  | [] => [(k, v)]
  | x :: r => if lessP x.1 k then x :: putL k v r else (k, v) :: (x :: r).filter fun y => decide (y.1 ≠ k)
theorem putL_cons (k v : H256) (x : KV) (r : List KV) : putL k v (x :: r) = if lessP x.1 k then x :: putL k v r else (k, v) :: (x :: r).filter fun y => decide (y.1 ≠ k) := rfl
theorem putL_less {k v : H256} : ∀ {l m : List KV}, (∀ x ∈ l, lessP x.1 k) → putL k v (l ++ m) = l ++ putL k v m
  | [], _, _ => rfl
  | x :: r, m, h => by
    show putL k v (x :: (r ++ m)) = x :: (r ++ putL k v m)
    rw [putL_cons, if_pos (h x (by simp)), putL_less fun y hy => h y (by simp [hy])]
theorem filter_ne {k : H256} {l : List KV} (h : ∀ x ∈ l, x.1 ≠ k) : l.filter (fun y => decide (y.1 ≠ k)) = l := List.filter_eq_self.2 fun x hx => by simpa using h x hx
theorem putL_gt {k v : H256} : ∀ {l m : List KV}, (∀ x ∈ m, ¬ lessP x.1 k ∧ x.1 ≠ k) → putL k v (l ++ m) = putL k v l ++ m
  | [], [], _ => rfl
  | [], x :: m, h => by
    show putL k v (x :: m) = (k, v) :: x :: m
    rw [putL_cons, if_neg (h x (by simp)).1, filter_ne fun y hy => (h y hy).2]
  | x :: r, m, h => by
    show putL k v (x :: (r ++ m)) = _
    rw [putL_cons, putL_cons]
    split
    · rw [putL_gt h]; rfl
    · have e : (x :: (r ++ m)).filter (fun y => decide (y.1 ≠ k)) = (x :: r).filter (fun y => decide (y.1 ≠ k)) ++ m := by
        rw [show x :: (r ++ m) = (x :: r) ++ m from rfl, List.filter_append, filter_ne fun y hy => (h y hy).2]
      rw [e]; rfl
theorem meet_len {p q : Pfx} (fp : formedP p) (fq : formedP q) (h1 : (shared p.bits q.bits : Int) < p.len) (h2 : (shared p.bits q.bits : Int) < q.len) : (meetP p q).len = shared p.bits q.bits := by
  unfold meetP
  rw [if_pos ⟨fp, fq⟩]
  have := fp.2.1
  unfold cutP; simp only; omega
theorem join_list {T : PT} {k v : H256} (h : T.wf) (hn : ¬ holdsP T.cover k) : (PT.join T (.leaf k v)).list = putL k v T.list := by
  have fT := cover_formed h
  have e : (PT.leaf k v).cover = ⟨256, k⟩ := leaf_cover k v
  have hs : (shared T.cover.bits k : Int) < T.cover.len := by
    rcases Int.lt_or_le (shared T.cover.bits k : Int) T.cover.len with h1 | h1
    · exact h1
    · exact absurd (holds_shared.2 ⟨fT, h1⟩) hn
  have hlen := fT.2.1
  have fL : formedP (PT.leaf k v).cover := cover_formed (T := .leaf k v) trivial
  have hm : (meetP T.cover (PT.leaf k v).cover).len = shared T.cover.bits k := by
    have := meet_len (p := T.cover) (q := (PT.leaf k v).cover) fT fL (by rw [e]; exact hs) (by rw [e]; show (shared T.cover.bits k : Int) < 256; omega)
    rw [this, e]
  have hne := shared_ne (a := T.cover.bits) (b := k) (by omega)
  have ag : ∀ x ∈ T.list, agree (shared T.cover.bits k) x.1 k ∧ kb x.1 (shared T.cover.bits k) = kb T.cover.bits (shared T.cover.bits k) := fun x hx => by
    have hx2 := (holds_agree.1 (wf_held h x hx)).2
    exact ⟨((hx2.mono (by omega)).symm).trans (fun i hi => shared_eq hi), (hx2 _ (by omega)).symm⟩
  unfold PT.join
  simp only [hm]
  by_cases hb : bitI T.cover.bits (shared T.cover.bits k : Int) = 1
  · rw [if_pos hb]
    have hb1 : kb T.cover.bits (shared T.cover.bits k) = true := (bitI_kb (by omega)).1 hb
    have hb2 : kb k (shared T.cover.bits k) = false := by cases hc : kb k (shared T.cover.bits k); rfl; rw [hb1, hc] at hne; exact absurd rfl hne
    have := putL_gt (k := k) (v := v) (l := []) (m := T.list) fun x hx => by
      obtain ⟨g1, g2⟩ := ag x hx
      exact ⟨not_less_at (by omega) g1.symm hb2 (g2.trans hb1), (ne_at hb2 (g2.trans hb1)).symm⟩
    exact this.symm
  · rw [if_neg hb]
    have hb1 : kb T.cover.bits (shared T.cover.bits k) = false := by cases hc : kb T.cover.bits (shared T.cover.bits k); rfl; exact absurd ((bitI_kb (n := (shared T.cover.bits k : Int)) (by omega)).2 hc) hb
    have hb2 : kb k (shared T.cover.bits k) = true := by cases hc : kb k (shared T.cover.bits k); rw [hb1, hc] at hne; exact absurd rfl hne; rfl
    have := putL_less (k := k) (v := v) (l := T.list) (m := []) fun x hx => by
      obtain ⟨g1, g2⟩ := ag x hx
      exact less_at (by omega) g1 (g2.trans hb1) hb2
    rw [List.append_nil] at this
    exact this.symm
theorem ins_list {k v : H256} : ∀ {T : PT}, T.wf → (T.ins k v).list = putL k v T.list
  | .leaf k' v', h => by
    unfold PT.ins
    by_cases hk : k' = k
    · rw [if_pos hk]
      subst hk
      show [(k', v)] = putL k' v [(k', v')]
      unfold putL
      rw [if_neg (less_irrefl _)]; simp
    · rw [if_neg hk]
      refine join_list h fun hh => hk ?_
      rw [leaf_cover] at hh
      have := (holds_shared.1 hh).2
      have := shared_le k' k
      exact shared_all (show shared k' k = 256 by simp only at *; omega)
  | .node p a b, h => by
    have h0 := h.1
    unfold PT.ins
    by_cases hh : holdsP p k
    · rw [if_pos hh]
      have hp0 := h0.1.1
      have hp1 := h0.2
      by_cases hb : bitI k p.len = 1
      · rw [if_pos hb]
        have hkb := (bitI_kb hp0).1 hb
        show a.list ++ (b.ins k v).list = putL k v (a.list ++ b.list)
        rw [ins_list h.2.2.2.2, putL_less fun x hx => by
          obtain ⟨x1, x2⟩ := wf_left h hx
          exact less_at (by omega) (holds_agree2 x1 hh) x2 hkb]
      · rw [if_neg hb]
        have hkb : kb k p.len.toNat = false := by cases hc : kb k p.len.toNat; rfl; exact absurd ((bitI_kb hp0).2 hc) hb
        show (a.ins k v).list ++ b.list = putL k v (a.list ++ b.list)
        rw [ins_list h.2.2.2.1, putL_gt fun x hx => by
          obtain ⟨x1, x2⟩ := wf_right h hx
          exact ⟨not_less_at (by omega) (holds_agree2 hh x1) hkb x2, (ne_at hkb x2).symm⟩]
    · rw [if_neg hh]
      exact join_list h hh
def listO : Option PT → List KV
  | none => []
  | some T => T.list
def allL (ps : List KV) : List KV := ps.foldl (fun l p => putL p.1 p.2 l) []
theorem allL_snoc (ps : List KV) (p : KV) : allL (ps ++ [p]) = putL p.1 p.2 (allL ps) := by unfold allL; rw [List.foldl_append]; rfl
theorem all_trees_aux : ∀ (n : Nat) (ps : List KV), ps.length = n → allL ps = listO (treesF ps)
  | 0, ps, h => by
    obtain rfl := List.eq_nil_of_length_eq_zero h
    rfl
  | n + 1, ps, h => by
    have hne : ps ≠ [] := fun e => by subst e; cases h
    obtain ⟨qs, p, rfl⟩ : ∃ qs p, ps = qs ++ [p] := ⟨ps.dropLast, ps.getLast hne, (List.dropLast_concat_getLast hne).symm⟩
    have ih := all_trees_aux n qs (by simpa using h)
    have hw := built_wf qs
    rw [allL_snoc, treesF_snoc, ih]
    cases hq : treesF qs with
    | none => rfl
    | some T => rw [hq] at hw; exact (ins_list hw).symm
theorem all_trees (ps : List KV) : allL ps = listO (treesF ps) := all_trees_aux _ ps rfl
theorem sortedO {o : Option PT} (h : wfO o) : sortedL (listO o) := by
  cases o with
  | none => simp [listO]
  | some T => exact wf_sorted h
/-! what a list says of its tree -/
theorem over_spec {p : Pfx} {a b : PT} (h : (PT.node p a b).wf) {x y : KV} (hx : x ∈ a.list) (hy : y ∈ b.list) : shared x.1 y.1 = p.len.toNat ∧ cutP x.1 (shared x.1 y.1 : Int) = p := by
  obtain ⟨x1, x2⟩ := wf_left h hx
  obtain ⟨y1, y2⟩ := wf_right h hy
  have h0 := h.1.1.1
  have h1 := h.1.2
  have e : shared x.1 y.1 = p.len.toNat := shared_at (by omega) (holds_agree2 x1 y1) (by rw [x2, y2]; simp)
  refine ⟨e, ?_⟩
  rw [e]
  have e2 : (p.len.toNat : Int) = p.len := by omega
  rw [e2]
  unfold cutP
  rw [show min (max p.len 0) 256 = p.len by omega, x1.2]
theorem list_first (T : PT) : ∃ x, T.list[0]? = some x ∧ x ∈ T.list := ⟨T.list[0]'(list_pos T), List.getElem?_eq_getElem _, List.getElem_mem _⟩
theorem list_last (T : PT) : ∃ x, T.list[T.list.length - 1]? = some x ∧ x ∈ T.list := ⟨T.list[T.list.length - 1]'(by have := list_pos T; omega), List.getElem?_eq_getElem _, List.getElem_mem _⟩
/-- one list, one tree -/
theorem wf_inj : ∀ {T U : PT}, T.wf → U.wf → T.list = U.list → T = U
  | .leaf k v, .leaf k' v', _, _, h => by simp only [PT.list, List.cons.injEq, Prod.mk.injEq, and_true] at h; rw [h.1, h.2]
  | .leaf k v, .node p a b, _, _, h => by
    have h1 := congrArg List.length h
    simp only [PT.list, List.length_append, List.length_cons, List.length_nil] at h1
    have := list_pos a; have := list_pos b; omega
  | .node p a b, .leaf k v, _, _, h => by
    have h1 := congrArg List.length h
    simp only [PT.list, List.length_append, List.length_cons, List.length_nil] at h1
    have := list_pos a; have := list_pos b; omega
  | .node p a b, .node q c d, hT, hU, h => by
    have h' : a.list ++ b.list = c.list ++ d.list := h
    obtain ⟨x, x1, x2⟩ := list_first a
    obtain ⟨y, y1, y2⟩ := list_last b
    obtain ⟨x', x1', x2'⟩ := list_first c
    obtain ⟨y', y1', y2'⟩ := list_last d
    have la := list_pos a
    have lb := list_pos b
    have lc := list_pos c
    have ld := list_pos d
    have hlen := congrArg List.length h'
    simp only [List.length_append] at hlen
    have ex : x = x' := by
      have := congrArg (fun l : List KV => l[0]?) h'
      rw [List.getElem?_append_left la, List.getElem?_append_left lc, x1, x1'] at this
      exact Option.some.inj this
    have ey : y = y' := by
      have := congrArg (fun l : List KV => l[a.list.length + b.list.length - 1]?) h'
      rw [List.getElem?_append_right (by omega), List.getElem?_append_right (by omega)] at this
      rw [show a.list.length + b.list.length - 1 - a.list.length = b.list.length - 1 by omega, show a.list.length + b.list.length - 1 - c.list.length = d.list.length - 1 by omega, y1, y1'] at this
      exact Option.some.inj this
    subst ex ey
    have o1 := (over_spec hT x2 y2).2
    have o2 := (over_spec hU x2' y2').2
    have hpq : p = q := o1.symm.trans o2
    subst hpq
    have f1 : (a.list ++ b.list).filter (fun z => !kb z.1 p.len.toNat) = a.list := by
      rw [List.filter_append, List.filter_eq_self.2 fun z hz => by rw [(wf_left hT hz).2]; rfl, List.filter_eq_nil_iff.2 fun z hz => by rw [(wf_right hT hz).2]; simp, List.append_nil]
    have f2 : (c.list ++ d.list).filter (fun z => !kb z.1 p.len.toNat) = c.list := by
      rw [List.filter_append, List.filter_eq_self.2 fun z hz => by rw [(wf_left hU hz).2]; rfl, List.filter_eq_nil_iff.2 fun z hz => by rw [(wf_right hU hz).2]; simp, List.append_nil]
    have hac : a.list = c.list := by rw [← f1, h', f2]
    have hbd : b.list = d.list := by rw [hac] at h'; exact List.append_cancel_left h'
    rw [wf_inj hT.2.2.2.1 hU.2.2.2.1 hac, wf_inj hT.2.2.2.2 hU.2.2.2.2 hbd]
/-! lists with the same members -/
theorem sorted_uniq : ∀ {l m : List KV}, sortedL l → sortedL m → (∀ x, x ∈ l ↔ x ∈ m) → l = m
  | [], [], _, _, _ => rfl
  | [], y :: m, _, _, h => by have := (h y).2 (by simp); simp at this
  | x :: l, [], _, _, h => by have := (h x).1 (by simp); simp at this
  | x :: l, y :: m, hl, hm, h => by
    obtain ⟨l1, l2⟩ := List.pairwise_cons.1 hl
    obtain ⟨m1, m2⟩ := List.pairwise_cons.1 hm
    have e : x = y := by
      rcases List.mem_cons.1 ((h x).1 (by simp)) with h1 | h1
      · exact h1
      · rcases List.mem_cons.1 ((h y).2 (by simp)) with h2 | h2
        · exact h2.symm
        · exact absurd (l1 y h2) (less_asymm (m1 x h1))
    subst e
    congr 1
    refine sorted_uniq l2 m2 fun z => ⟨fun hz => ?_, fun hz => ?_⟩
    · rcases List.mem_cons.1 ((h z).1 (by simp [hz])) with h1 | h1
      · subst h1; exact absurd (l1 z hz) (less_irrefl _)
      · exact h1
    · rcases List.mem_cons.1 ((h z).2 (by simp [hz])) with h1 | h1
      · subst h1; exact absurd (m1 z hz) (less_irrefl _)
      · exact h1
theorem mem_putL {k v : H256} {x : KV} : ∀ {l : List KV}, sortedL l → (x ∈ putL k v l ↔ x = (k, v) ∨ x ∈ l ∧ x.1 ≠ k)
  | [], _ => by simp [putL]
  | y :: r, h => by
    obtain ⟨h1, h2⟩ := List.pairwise_cons.1 h
    unfold putL
    split
    · rename_i hy
      have hyk : y.1 ≠ k := fun e => by rw [e] at hy; exact less_irrefl _ hy
      rw [List.mem_cons, mem_putL h2, List.mem_cons]
      constructor
      · rintro (h | h | h)
        · exact .inr ⟨.inl h, by rw [h]; exact hyk⟩
        · exact .inl h
        · exact .inr ⟨.inr h.1, h.2⟩
      · rintro (h | ⟨h | h, g⟩)
        · exact .inr (.inl h)
        · exact .inl h
        · exact .inr (.inr ⟨h, g⟩)
    · rw [List.mem_cons, List.mem_filter]; simp
/-- pairs of which each key has one value -/
def funcL (l : List KV) : Prop := ∀ x ∈ l, ∀ y ∈ l, x.1 = y.1 → x = y
theorem mem_allL (S : List KV) (hS : funcL S) {x : KV} : ∀ (n : Nat) (ps : List KV), ps.length = n → (∀ y ∈ ps, y ∈ S) → (x ∈ allL ps ↔ x ∈ ps)
  | 0, ps, h, _ => by
    obtain rfl := List.eq_nil_of_length_eq_zero h
    rfl
  | n + 1, ps, h, hs => by
    have hne : ps ≠ [] := fun e => by subst e; cases h
    obtain ⟨qs, p, rfl⟩ : ∃ qs p, ps = qs ++ [p] := ⟨ps.dropLast, ps.getLast hne, (List.dropLast_concat_getLast hne).symm⟩
    have ih := mem_allL S hS (x := x) n qs (by simpa using h) fun y hy => hs y (by simp [hy])
    rw [allL_snoc, mem_putL (by rw [all_trees]; exact sortedO (built_wf qs)), ih]
    constructor
    · rintro (h | h)
      · rw [h]; simp
      · simp [h.1]
    · intro h
      rcases List.mem_append.1 h with h | h
      · by_cases he : x.1 = p.1
        · exact .inl (hS x (hs x (by simp [h])) p (hs p (by simp)) he)
        · exact .inr ⟨h, he⟩
      · obtain rfl : x = p := by simpa using h
        exact .inl rfl
theorem order_law {ps qs : List KV} (hS : funcL ps) (h : ∀ x, x ∈ qs ↔ x ∈ ps) : treesF qs = treesF ps := by
  have e : allL qs = allL ps := by
    refine sorted_uniq ?_ ?_ fun x => ?_
    · rw [all_trees]; exact sortedO (built_wf qs)
    · rw [all_trees]; exact sortedO (built_wf ps)
    · rw [mem_allL ps hS (x := x) _ ps rfl fun _ h => h, mem_allL ps hS (x := x) _ qs rfl fun y hy => (h y).1 hy]; exact h x
  rw [all_trees, all_trees] at e
  have w1 := built_wf qs
  have w2 := built_wf ps
  cases h3 : treesF qs with
  | none =>
    cases h4 : treesF ps with
    | none => rfl
    | some T => rw [h3, h4] at e; have := list_pos T; rw [show listO (some T) = T.list from rfl, show listO none = ([] : List KV) from rfl] at e; rw [← e] at this; simp at this
  | some U =>
    cases h4 : treesF ps with
    | none => rw [h3, h4] at e; have := list_pos U; rw [show listO (some U) = U.list from rfl, show listO none = ([] : List KV) from rfl] at e; rw [e] at this; simp at this
    | some T =>
      rw [h3] at w1 e
      rw [h4] at w2 e
      rw [wf_inj w1 w2 e]
end Go.Proofs.YtffaohckcggkdaaDoor

namespace Go.Proofs.YtffaohckcggkdaaDoor
set_option linter.all false
open Go.RowKit
/-! a node that is added from without -/
def mayP (l : Fo) (n : Nd) : Prop := underP l n.pfx 0 n.left ∧ underP l n.pfx 1 n.right
instance (l : Fo) (n : Nd) : Decidable (mayP l n) := inferInstanceAs (Decidable (_ ∧ _))
theorem may_add {l : Fo} {n : Nd} (h : n.leaf = true ∨ mayP l n) : addable l n := h.imp id fun h => ⟨h.1.1, h.2.1⟩
def addA_c : Ctr where
  D := Fo × Nd
  pre := fun (l, n) => l.length ≤ 1000000 ∧ (n.leaf = true ∨ mayP l n)
  args := fun (_, n) => [.ptr 0 0, .agg (eNd n)]
  objs := fun (l, _) => fo l
  nn := 2
  res := fun (l, _) _ => .tup [.int .i64 l.length, .int .i64 0]
  out := fun (l, n) _ => [(0, .box 85 [.own 2]), (2, .row 51 132 eNd (l ++ [mk l n]))]
  mm := 1
def addA_H : Cfg := ⟨[(68, under_c), (69, add_c)], [], [], [], 40, 2, [], []⟩
theorem addA_ok : addA_c.Ok Tryd.prog 35 := by
  refine fn_ok addA_H 2 rfl _ Tryd.func35 rfl rfl ⟨under_ok, add_ok, trivial⟩ rfl rfl (by kernel_rfl) (fun _ => Nat.le_of_ble_eq_true rfl) ?_
  rintro ⟨l, n⟩ hp hr
  try dsimp only [addA_c] at hp
  try simp only [addA_c, Rng, RngL, inR, and_true, true_and] at hr
  obtain ⟨hlen, ha⟩ := hp
  have hadd : add_c.pre (l, n) := ⟨by omega, may_add ha⟩
  obtain ⟨leaf, key, value, plen, bits, left, right, hash⟩ := n
  cases leaf
  · have hm : mayP l ⟨false, key, value, plen, bits, left, right, hash⟩ := ha.resolve_left (by simp)
    repeat' (first | (with_reducible refine Unf.h ?_) | fail); all_goals try (conv => whnf)
    refine CallS.mk (c := under_c) ((l, ⟨plen, bits⟩, 0, left)) ?_
    repeat' (first | (with_reducible refine Unf.h ?_) | ((conv => whnf); first | refine Fork.mkn (fun h => ?_) (fun h => ?_) | (refine Side.mk ?_ ?_; focus (first | with_reducible rfl | exact True.intro)) | refine RetE.mk () trivial ?_ | refine Got.mk (fun _ _ => ?_) | refine retK_r ?_) | fail); all_goals try (conv => whnf)
    · exact absurd hm.1 h
    · refine CallS.mk (c := under_c) ((l, ⟨plen, bits⟩, 1, right)) ?_
      repeat' (first | (with_reducible refine Unf.h ?_) | ((conv => whnf); first | refine Fork.mkn (fun h => ?_) (fun h => ?_) | refine Fork.mk (fun h => ?_) (fun h => ?_) | (refine Side.mk ?_ ?_; focus (first | with_reducible rfl | exact True.intro | assumption | omega)) | refine RetE.mk () trivial ?_ | refine Got.mk (fun _ _ => ?_) | refine retK_r ?_ | exact rfl | refine CallS.mk (c := add_c) ((l, ⟨false, key, value, plen, bits, left, right, hash⟩)) ?_) | fail); all_goals try (conv => whnf)
      exact absurd hm.2 h
  · repeat' (first | (with_reducible refine Unf.h ?_) | ((conv => whnf); first | refine Fork.mk (fun h => ?_) (fun h => ?_) | (refine Side.mk ?_ ?_; focus (first | with_reducible rfl | assumption | omega)) | refine RetE.mk () trivial ?_ | refine Got.mk (fun _ _ => ?_) | refine retK_r ?_ | exact rfl | refine CallS.mk (c := add_c) ((l, ⟨true, key, value, plen, bits, left, right, hash⟩)) ?_) | fail); all_goals try (conv => whnf)
def addX_c : Ctr where
  D := Fo × Nd
  pre := fun (l, n) => n.leaf = false ∧ ¬ mayP l n
  args := fun (_, n) => [.ptr 0 0, .agg (eNd n)]
  objs := fun (l, _) => fo l
  nn := 2
  res := fun (l, _) _ => .tup [.int .i64 0, .int .i64 1]
  out := fun (l, n) _ => fo l
def addX_H : Cfg := ⟨[(68, under_c), (69, add_c)], [], [], [], 40, 2, [], []⟩
theorem addX_ok : addX_c.Ok Tryd.prog 35 := by
  refine fn_ok addX_H 2 rfl _ Tryd.func35 rfl rfl ⟨under_ok, add_ok, trivial⟩ rfl rfl (by kernel_rfl) (fun _ => Nat.le_of_ble_eq_true rfl) ?_
  rintro ⟨l, n⟩ hp hr
  try dsimp only [addX_c] at hp
  try simp only [addX_c, Rng, RngL, inR, and_true, true_and] at hr
  obtain ⟨leaf, key, value, plen, bits, left, right, hash⟩ := n
  obtain ⟨hl, hm⟩ := hp
  cases hl
  repeat' (first | (with_reducible refine Unf.h ?_) | fail); all_goals try (conv => whnf)
  refine CallS.mk (c := under_c) ((l, ⟨plen, bits⟩, 0, left)) ?_
  repeat' (first | (with_reducible refine Unf.h ?_) | ((conv => whnf); first | refine Fork.mkn (fun h => ?_) (fun h => ?_) | (refine Side.mk ?_ ?_; focus (first | with_reducible rfl | exact True.intro)) | refine RetE.mk () trivial ?_ | refine Got.mk (fun _ _ => ?_) | refine retK_r ?_ | exact rfl) | fail); all_goals try (conv => whnf)
  refine CallS.mk (c := under_c) ((l, ⟨plen, bits⟩, 1, right)) ?_
  repeat' (first | (with_reducible refine Unf.h ?_) | ((conv => whnf); first | refine Fork.mkn (fun h => ?_) (fun h => ?_) | refine Fork.mk (fun h => ?_) (fun h => ?_) | (refine Side.mk ?_ ?_; focus (first | with_reducible rfl | exact True.intro)) | refine RetE.mk () trivial ?_ | refine Got.mk (fun _ _ => ?_) | refine retK_r ?_ | exact rfl) | fail); all_goals try (conv => whnf)
  all_goals exact absurd (show mayP l ⟨false, key, value, plen, bits, left, right, hash⟩ from ⟨by assumption, by assumption⟩) hm
def preP (l : Fo) (n : Nd) : Prop := (inF l n.left ∧ inF l n.right) ∧ formedP n.pfx ∧ n.plen < 256
instance (l : Fo) (n : Nd) : Decidable (preP l n) := inferInstanceAs (Decidable (_ ∧ _ ∧ _))
theorem pre_ok {l : Fo} {n : Nd} (h : preP l n) (b : Int) (hb : b = 0 ∨ b = 1) : childOk n.pfx b := ⟨h.2.1, h.2.2, by omega, by omega⟩
theorem may_of {l : Fo} {n : Nd} (h : preP l n) : mayP l n ↔ withinP (childP n.pfx 0) (nd l n.left).cover ∧ withinP (childP n.pfx 1) (nd l n.right).cover :=
  ⟨fun h' => ⟨h'.1.2.2, h'.2.2.2⟩, fun h' => ⟨⟨h.1.1, pre_ok h 0 (.inl rfl), h'.1⟩, h.1.2, pre_ok h 1 (.inr rfl), h'.2⟩⟩
theorem may_pre {l : Fo} {n : Nd} (h : mayP l n) : preP l n := ⟨⟨h.1.1, h.2.1⟩, h.1.2.1.1, h.1.2.1.2.1⟩
theorem cover_leaf {n : Nd} (h : n.leaf = true) : n.cover = cutP n.key 256 := by unfold Nd.cover; rw [if_pos h]
theorem cover_inner {n : Nd} (h : n.leaf = false) : n.cover = ⟨n.plen, n.bits⟩ := by unfold Nd.cover; rw [if_neg (by rw [h]; decide)]; rfl
def adds_c : Ctr where
  D := List KV × Nd
  args := fun (ps, n) => [.fs 64 eKV ps, .agg (eNd n)]
  res := fun _ _ => .bool true
def adds_H : Cfg := ⟨[(25, awake11_c), (32, built_c), (33, size_c), (34, node_c), (36, rformed_c), (37, rchild_c), (38, rcut_c), (39, rwithin_c), (35, addA_c), (35, addX_c)], [(11, [1, 3], [4, 5, 6, 7], (.one 0 0 false (.one 1 1 false (.one 2 0 false (.one 3 1 false (.alt 4 true (.one 5 2 true (.one 6 2 true (.one 7 2 false .nil))) (.one 5 2 true (.one 4 2 true (.one 6 2 true (.one 7 2 false .nil))))))))), [])], [65], [], 139, 0, [], [7]⟩
set_option maxHeartbeats 1000000 in
theorem adds_ok : adds_c.Ok Tryd.prog 7 := by
  refine fn_ok adds_H 0 rfl _ Tryd.func7 rfl rfl ⟨awake11_ok, built_ok, size_ok, node_ok, rformed_ok, rchild_ok, rcut_ok, rwithin_ok, addA_ok, addX_ok, trivial⟩ rfl rfl (by kernel_rfl) (fun _ => Nat.le_of_ble_eq_true rfl) ?_
  rintro ⟨ps, n⟩ hp hr
  try dsimp only [adds_c] at hp
  try simp only [adds_c, Rng, RngL, inR, and_true, true_and] at hr
  repeat' (first | (with_reducible refine Unf.h ?_) | ((conv => whnf); first | refine Fork.mk (fun h => ?_) (fun h => ?_) | (refine Side.mk ?_ ?_; focus (first | with_reducible rfl | exact True.intro)) | refine RetE.mk () trivial ?_ | refine Got.mk (fun _ _ => ?_) | refine retK_r ?_ | exact rfl | refine CallS.mk (c := awake11_c) (()) ?_) | fail); all_goals try (conv => whnf)
  have hs : (builtF ps).1.length ≤ 675 := built_size (by omega)
  have hpre : built_c.pre ps := by show ps.length ≤ 25; omega
  refine CallS.mk (c := built_c) (ps) ?_
  repeat' (first | (with_reducible refine Unf.h ?_) | ((conv => whnf); first | (refine Side.mk ?_ ?_; focus (first | with_reducible rfl | exact True.intro | assumption)) | refine Got.mk (fun _ _ => ?_) | refine CallS.mk (c := size_c) ((builtF ps).1) ?_) | fail); all_goals try (conv => whnf)
  generalize (builtF ps).1 = l at *
  refine CallS.mk (c := node_c) ((l, n.left)) ?_
  repeat' (first | (with_reducible refine Unf.h ?_) | ((conv => whnf); first | (refine Side.mk ?_ ?_; focus (first | with_reducible rfl | exact True.intro)) | refine Got.mk (fun _ _ => ?_)) | fail); all_goals try (conv => whnf)
  refine CallS.mk (c := node_c) ((l, n.right)) ?_
  repeat' (first | (with_reducible refine Unf.h ?_) | ((conv => whnf); first | (refine Side.mk ?_ ?_; focus (first | with_reducible rfl | exact True.intro)) | refine Got.mk (fun _ _ => ?_)) | fail); all_goals try (conv => whnf)
  refine CutS.auto (I := Unit) (fun _ => True) (fun _ => [(12, .dec (preP l n) inferInstance)]) (fun _ => [(1, .box 85 [.own 2]), (2, .row 51 132 eNd l), (0, .box 51 (eNd n)), (3, .box 51 (eNd (nd l n.left))), (4, .box 51 (eNd (nd l n.right)))]) 5 ?_ ?_
  · repeat' (first | (with_reducible first | refine Unf.h ?_ | refine cutK_n ?_) | ((conv => whnf); first | refine Fork.mk (fun h => ?_) (fun h => ?_) | (refine Side.mk ?_ ?_; focus (first | with_reducible rfl | exact True.intro)) | refine Got.mk (fun _ _ => ?_) | refine CallS.mk (c := rformed_c) (⟨n.plen, n.bits⟩) ?_) | fail); all_goals try (conv => whnf)
    all_goals refine ⟨(), trivial, ?_⟩
    all_goals repeat' (first | (with_reducible refine Unf.h ?_) | ((conv => whnf); first | (refine Side.mk ?_ ?_; focus (first | with_reducible rfl | (simp [*, preP, Nd.pfx]; done))) | (with_reducible refine Unf.h ?_) | exact True.intro) | fail); all_goals try (conv => whnf)
  intro _ _
  repeat' (first | (with_reducible refine Unf.h ?_) | fail); all_goals try (conv => whnf)
  refine CutS.auto (I := Unit) (fun _ => True) (fun _ => [(12, .dec (mayP l n) inferInstance)]) (fun _ => [(1, .box 85 [.own 2]), (2, .row 51 132 eNd l), (0, .box 51 (eNd n)), (3, .box 51 (eNd (nd l n.left))), (4, .box 51 (eNd (nd l n.right)))]) 5 ?_ ?_
  · repeat' (first | (with_reducible first | refine Unf.h ?_ | refine cutK_n ?_) | ((conv => whnf); refine Fork.mk (fun h => ?_) (fun h => ?_)) | fail); all_goals try (conv => whnf)
    · refine CallS.mk (c := rchild_c) ((⟨n.plen, n.bits⟩, 0)) ?_
      repeat' (first | (with_reducible refine Unf.h ?_) | ((conv => whnf); first | (refine Side.mk ?_ ?_; focus (first | with_reducible rfl | exact True.intro)) | refine Got.mk (fun _ _ => ?_)) | fail); all_goals try (conv => whnf)
      refine CallS.mk (c := rchild_c) ((⟨n.plen, n.bits⟩, 1)) ?_
      repeat' (first | (with_reducible refine Unf.h ?_) | ((conv => whnf); first | refine Both.mk ?_ ?_ | (refine Side.mk ?_ ?_; focus (first | with_reducible rfl | exact True.intro)) | refine Got.mk (fun _ _ => ?_)) | fail); all_goals try (conv => whnf)
      all_goals
        have hm : mayP l n ↔ withinP (childP ⟨n.plen, n.bits⟩ 0) (nd l n.left).cover ∧ withinP (childP ⟨n.plen, n.bits⟩ 1) (nd l n.right).cover := may_of h
        cases hla : (nd l n.left).leaf
        · have ca := cover_inner hla
          cases hlb : (nd l n.right).leaf
          · have cb := cover_inner hlb
            repeat' (first | (with_reducible refine Unf.h ?_) | fail); all_goals try (conv => whnf)
            rw [hlb]
            repeat' (first | (with_reducible refine Unf.h ?_) | fail); all_goals try (conv => whnf)
            refine CallS.mk (c := rwithin_c) ((childP ⟨n.plen, n.bits⟩ 0, (nd l n.left).cover)) ?_
            repeat' (first | (with_reducible first | refine Unf.h ?_ | refine cutK_n ?_) | ((conv => whnf); first | refine Fork.mk (fun h => ?_) (fun h => ?_) | (refine Side.mk ?_ ?_; focus (first | with_reducible rfl | exact True.intro | (simp only [*, ca]; done))) | refine Got.mk (fun _ _ => ?_)) | fail); all_goals try (conv => whnf)
            · refine CallS.mk (c := rwithin_c) ((childP ⟨n.plen, n.bits⟩ 1, (nd l n.right).cover)) ?_
              repeat' (first | (with_reducible first | refine Unf.h ?_ | refine cutK_n ?_) | ((conv => whnf); first | (refine Side.mk ?_ ?_; focus (first | with_reducible rfl | exact True.intro | (simp only [*, cb]; done))) | refine Got.mk (fun _ _ => ?_)) | fail); all_goals try (conv => whnf)
              refine ⟨(), trivial, ?_⟩
              repeat' (first | ((conv => whnf); (with_reducible refine Unf.h ?_)) | fail); all_goals try (conv => whnf)
              refine Side.mk ⟨fun h' => hm.2 ⟨h, h'⟩, fun h' => (hm.1 h').2⟩ ?_
              repeat' (first | (with_reducible refine Unf.h ?_) | ((conv => whnf); first | (refine Side.mk ?_ ?_; focus (with_reducible rfl)) | exact True.intro) | fail); all_goals try (conv => whnf)
            · refine ⟨(), trivial, ?_⟩
              repeat' (first | ((conv => whnf); (with_reducible refine Unf.h ?_)) | fail); all_goals try (conv => whnf)
              refine Side.mk (iffF fun h' => h (hm.1 h').1) ?_
              repeat' (first | (with_reducible refine Unf.h ?_) | ((conv => whnf); first | (refine Side.mk ?_ ?_; focus (with_reducible rfl)) | exact True.intro) | fail); all_goals try (conv => whnf)
          · have cb := cover_leaf hlb
            repeat' (first | (with_reducible refine Unf.h ?_) | fail); all_goals try (conv => whnf)
            rw [hlb]
            repeat' (first | (with_reducible refine Unf.h ?_) | fail); all_goals try (conv => whnf)
            refine CallS.mk (c := rcut_c) (((nd l n.right).key, 256)) ?_
            repeat' (first | (with_reducible refine Unf.h ?_) | ((conv => whnf); first | (refine Side.mk ?_ ?_; focus (first | with_reducible rfl | exact True.intro)) | refine Got.mk (fun _ _ => ?_)) | fail); all_goals try (conv => whnf)
            refine CallS.mk (c := rwithin_c) ((childP ⟨n.plen, n.bits⟩ 0, (nd l n.left).cover)) ?_
            repeat' (first | (with_reducible first | refine Unf.h ?_ | refine cutK_n ?_) | ((conv => whnf); first | refine Fork.mk (fun h => ?_) (fun h => ?_) | (refine Side.mk ?_ ?_; focus (first | with_reducible rfl | exact True.intro | (simp only [*, ca]; done))) | refine Got.mk (fun _ _ => ?_)) | fail); all_goals try (conv => whnf)
            · refine CallS.mk (c := rwithin_c) ((childP ⟨n.plen, n.bits⟩ 1, (nd l n.right).cover)) ?_
              repeat' (first | (with_reducible first | refine Unf.h ?_ | refine cutK_n ?_) | ((conv => whnf); first | (refine Side.mk ?_ ?_; focus (first | with_reducible rfl | exact True.intro | (simp only [*, cb]; done))) | refine Got.mk (fun _ _ => ?_)) | fail); all_goals try (conv => whnf)
              refine ⟨(), trivial, ?_⟩
              repeat' (first | ((conv => whnf); (with_reducible refine Unf.h ?_)) | fail); all_goals try (conv => whnf)
              refine Side.mk ⟨fun h' => hm.2 ⟨h, h'⟩, fun h' => (hm.1 h').2⟩ ?_
              repeat' (first | (with_reducible refine Unf.h ?_) | ((conv => whnf); first | (refine Side.mk ?_ ?_; focus (with_reducible rfl)) | exact True.intro) | fail); all_goals try (conv => whnf)
            · refine ⟨(), trivial, ?_⟩
              repeat' (first | ((conv => whnf); (with_reducible refine Unf.h ?_)) | fail); all_goals try (conv => whnf)
              refine Side.mk (iffF fun h' => h (hm.1 h').1) ?_
              repeat' (first | (with_reducible refine Unf.h ?_) | ((conv => whnf); first | (refine Side.mk ?_ ?_; focus (with_reducible rfl)) | exact True.intro) | fail); all_goals try (conv => whnf)
        · have ca := cover_leaf hla
          cases hlb : (nd l n.right).leaf
          · have cb := cover_inner hlb
            repeat' (first | (with_reducible refine Unf.h ?_) | fail); all_goals try (conv => whnf)
            refine CallS.mk (c := rcut_c) (((nd l n.left).key, 256)) ?_
            repeat' (first | (with_reducible refine Unf.h ?_) | ((conv => whnf); first | (refine Side.mk ?_ ?_; focus (first | with_reducible rfl | exact True.intro)) | refine Got.mk (fun _ _ => ?_)) | fail); all_goals try (conv => whnf)
            rw [hlb]
            repeat' (first | (with_reducible refine Unf.h ?_) | fail); all_goals try (conv => whnf)
            refine CallS.mk (c := rwithin_c) ((childP ⟨n.plen, n.bits⟩ 0, (nd l n.left).cover)) ?_
            repeat' (first | (with_reducible first | refine Unf.h ?_ | refine cutK_n ?_) | ((conv => whnf); first | refine Fork.mk (fun h => ?_) (fun h => ?_) | (refine Side.mk ?_ ?_; focus (first | with_reducible rfl | exact True.intro | (simp only [*, ca]; done))) | refine Got.mk (fun _ _ => ?_)) | fail); all_goals try (conv => whnf)
            · refine CallS.mk (c := rwithin_c) ((childP ⟨n.plen, n.bits⟩ 1, (nd l n.right).cover)) ?_
              repeat' (first | (with_reducible first | refine Unf.h ?_ | refine cutK_n ?_) | ((conv => whnf); first | (refine Side.mk ?_ ?_; focus (first | with_reducible rfl | exact True.intro | (simp only [*, cb]; done))) | refine Got.mk (fun _ _ => ?_)) | fail); all_goals try (conv => whnf)
              refine ⟨(), trivial, ?_⟩
              repeat' (first | ((conv => whnf); (with_reducible refine Unf.h ?_)) | fail); all_goals try (conv => whnf)
              refine Side.mk ⟨fun h' => hm.2 ⟨h, h'⟩, fun h' => (hm.1 h').2⟩ ?_
              repeat' (first | (with_reducible refine Unf.h ?_) | ((conv => whnf); first | (refine Side.mk ?_ ?_; focus (with_reducible rfl)) | exact True.intro) | fail); all_goals try (conv => whnf)
            · refine ⟨(), trivial, ?_⟩
              repeat' (first | ((conv => whnf); (with_reducible refine Unf.h ?_)) | fail); all_goals try (conv => whnf)
              refine Side.mk (iffF fun h' => h (hm.1 h').1) ?_
              repeat' (first | (with_reducible refine Unf.h ?_) | ((conv => whnf); first | (refine Side.mk ?_ ?_; focus (with_reducible rfl)) | exact True.intro) | fail); all_goals try (conv => whnf)
          · have cb := cover_leaf hlb
            repeat' (first | (with_reducible refine Unf.h ?_) | fail); all_goals try (conv => whnf)
            refine CallS.mk (c := rcut_c) (((nd l n.left).key, 256)) ?_
            repeat' (first | (with_reducible refine Unf.h ?_) | ((conv => whnf); first | (refine Side.mk ?_ ?_; focus (first | with_reducible rfl | exact True.intro)) | refine Got.mk (fun _ _ => ?_)) | fail); all_goals try (conv => whnf)
            rw [hlb]
            repeat' (first | (with_reducible refine Unf.h ?_) | fail); all_goals try (conv => whnf)
            refine CallS.mk (c := rcut_c) (((nd l n.right).key, 256)) ?_
            repeat' (first | (with_reducible refine Unf.h ?_) | ((conv => whnf); first | (refine Side.mk ?_ ?_; focus (first | with_reducible rfl | exact True.intro)) | refine Got.mk (fun _ _ => ?_)) | fail); all_goals try (conv => whnf)
            refine CallS.mk (c := rwithin_c) ((childP ⟨n.plen, n.bits⟩ 0, (nd l n.left).cover)) ?_
            repeat' (first | (with_reducible first | refine Unf.h ?_ | refine cutK_n ?_) | ((conv => whnf); first | refine Fork.mk (fun h => ?_) (fun h => ?_) | (refine Side.mk ?_ ?_; focus (first | with_reducible rfl | exact True.intro | (simp only [*, ca]; done))) | refine Got.mk (fun _ _ => ?_)) | fail); all_goals try (conv => whnf)
            · refine CallS.mk (c := rwithin_c) ((childP ⟨n.plen, n.bits⟩ 1, (nd l n.right).cover)) ?_
              repeat' (first | (with_reducible first | refine Unf.h ?_ | refine cutK_n ?_) | ((conv => whnf); first | (refine Side.mk ?_ ?_; focus (first | with_reducible rfl | exact True.intro | (simp only [*, cb]; done))) | refine Got.mk (fun _ _ => ?_)) | fail); all_goals try (conv => whnf)
              refine ⟨(), trivial, ?_⟩
              repeat' (first | ((conv => whnf); (with_reducible refine Unf.h ?_)) | fail); all_goals try (conv => whnf)
              refine Side.mk ⟨fun h' => hm.2 ⟨h, h'⟩, fun h' => (hm.1 h').2⟩ ?_
              repeat' (first | (with_reducible refine Unf.h ?_) | ((conv => whnf); first | (refine Side.mk ?_ ?_; focus (with_reducible rfl)) | exact True.intro) | fail); all_goals try (conv => whnf)
            · refine ⟨(), trivial, ?_⟩
              repeat' (first | ((conv => whnf); (with_reducible refine Unf.h ?_)) | fail); all_goals try (conv => whnf)
              refine Side.mk (iffF fun h' => h (hm.1 h').1) ?_
              repeat' (first | (with_reducible refine Unf.h ?_) | ((conv => whnf); first | (refine Side.mk ?_ ?_; focus (with_reducible rfl)) | exact True.intro) | fail); all_goals try (conv => whnf)
    · refine ⟨(), trivial, ?_⟩
      have hm : ¬ mayP l n := fun h' => h (may_pre h')
      repeat' (first | (with_reducible refine Unf.h ?_) | ((conv => whnf); first | (refine Side.mk ?_ ?_; focus (first | with_reducible rfl | (simp only [*]; done))) | (with_reducible refine Unf.h ?_) | exact True.intro) | fail); all_goals try (conv => whnf)
  intro _ _
  by_cases hl : n.leaf = true
  · have hpre : addA_c.pre (l, n) := ⟨by omega, .inl hl⟩
    repeat' (first | (with_reducible refine Unf.h ?_) | fail); all_goals try (conv => whnf)
    refine Or2.l (CallS.mk (c := addA_c) ((l, n)) ?_)
    repeat' (first | (with_reducible refine Unf.h ?_) | ((conv => whnf); first | (refine Side.mk ?_ ?_; focus (first | with_reducible rfl | assumption)) | refine Got.mk (fun _ _ => ?_)) | fail); all_goals try (conv => whnf)
    rw [hl]
    repeat' (first | (with_reducible refine Unf.h ?_) | ((conv => whnf); first | refine Fork.mk (fun h => ?_) (fun h => ?_) | (refine Side.mk ?_ ?_; focus (first | with_reducible rfl | exact True.intro | omega | (intros; (try simp only [lenS, inR, cutS, loI, hiI, hl] at *); omega) | (simp [*, hl]; done))) | refine RetE.mk () trivial ?_ | refine Got.mk (fun _ _ => ?_) | (with_reducible refine Unf.h ?_) | refine retK_r ?_ | exact rfl | refine CallS.mk (c := size_c) (l ++ [mk l n]) ?_) | fail); all_goals try (conv => whnf)
  · by_cases hm : mayP l n
    · have hpre : addA_c.pre (l, n) := ⟨by omega, .inr hm⟩
      have hl : n.leaf = false := by simpa using hl
      repeat' (first | (with_reducible refine Unf.h ?_) | fail); all_goals try (conv => whnf)
      refine Or2.l (CallS.mk (c := addA_c) ((l, n)) ?_)
      repeat' (first | (with_reducible refine Unf.h ?_) | ((conv => whnf); first | (refine Side.mk ?_ ?_; focus (first | with_reducible rfl | assumption)) | refine Got.mk (fun _ _ => ?_)) | fail); all_goals try (conv => whnf)
      rw [hl]
      repeat' (first | (with_reducible refine Unf.h ?_) | ((conv => whnf); first | refine Fork.mkn (fun h => ?_) (fun h => ?_) | refine Fork.mk (fun h => ?_) (fun h => ?_) | (refine Side.mk ?_ ?_; focus (first | with_reducible rfl | exact True.intro | omega | (intros; (try simp only [lenS, inR, cutS, loI, hiI, hl] at *); omega) | (simp [*, hl]; done))) | refine RetE.mk () trivial ?_ | refine Got.mk (fun _ _ => ?_) | (with_reducible refine Unf.h ?_) | refine retK_r ?_ | exact rfl | refine CallS.mk (c := size_c) (l ++ [mk l n]) ?_) | fail); all_goals try (conv => whnf)
      all_goals exact absurd hm (by assumption)
    · have hl : n.leaf = false := by simpa using hl
      have hpre : addX_c.pre (l, n) := ⟨hl, hm⟩
      repeat' (first | (with_reducible refine Unf.h ?_) | fail); all_goals try (conv => whnf)
      refine Or2.r (CallS.mk (c := addX_c) ((l, n)) ?_)
      repeat' (first | (with_reducible refine Unf.h ?_) | ((conv => whnf); first | (refine Side.mk ?_ ?_; focus (first | with_reducible rfl | assumption)) | refine Got.mk (fun _ _ => ?_)) | fail); all_goals try (conv => whnf)
      rw [hl]
      repeat' (first | (with_reducible refine Unf.h ?_) | ((conv => whnf); first | refine Fork.mkn (fun h => ?_) (fun h => ?_) | refine Fork.mk (fun h => ?_) (fun h => ?_) | (refine Side.mk ?_ ?_; focus (first | with_reducible rfl | exact True.intro | omega | (simp [*, hl]; done))) | refine RetE.mk () trivial ?_ | refine Got.mk (fun _ _ => ?_) | (with_reducible refine Unf.h ?_) | refine retK_r ?_ | exact rfl | refine CallS.mk (c := size_c) (l) ?_) | fail); all_goals try (conv => whnf)
      all_goals exact absurd (show mayP l n by assumption) hm
end Go.Proofs.YtffaohckcggkdaaDoor

namespace Go.Proofs.YtffaohckcggkdaaDoor
set_option linter.all false
open Go.RowKit
/-! all nodes of a forest -/
def allDen (l : Fo) : Prop := ∀ i : Int, inF l i → ∃ T : PT, T.wf ∧ den l i T
theorem allDen_snoc {l : Fo} {m : Nd} {T : PT} (h : allDen l) (hd : den (l ++ [m]) (l.length : Int) T) (hw : T.wf) : allDen (l ++ [m]) := fun i hi => by
  by_cases hlt : i < l.length
  · obtain ⟨U, h1, h2⟩ := h i ⟨hi.1, hlt⟩
    exact ⟨U, h1, den_app h2⟩
  · have e : i = (l.length : Int) := by have := hi.2; simp at this; omega
    subst e
    exact ⟨T, hw, hd⟩
theorem start_all {l : Fo} {k v : H256} {t : Int} {T : PT} (h : allDen l) (hd : den (startF l k v t).1 (startF l k v t).2 T) (hw : T.wf) : allDen (startF l k v t).1 := by
  have h1 : allDen (l ++ [mk l (leafN k v)]) := allDen_snoc h (den_leaf l k v) trivial
  unfold startF at hd ⊢
  simp only at hd ⊢
  split at hd
  · rename_i hm
    rw [if_pos hm]
    exact allDen_snoc h1 hd hw
  · rename_i hm
    rw [if_neg hm]
    exact h1
theorem put_all {l : Fo} {k v : H256} (hc : closed l) (h : allDen l) : ∀ {T : PT} {t : Int}, den l t T → T.wf → allDen (putF l t k v).1
  | .leaf k' v', t, hd, hw => by
    have hp : path l k t = ([], t) := path_stop fun hg => by have := hg.2.1; rw [hd.2] at this; exact absurd this (by simp)
    have hput := put_den (k := k) (v := v) hc hd
    have hwf := (ins_wf k v hw).1
    have e : putF l t k v = startF l k v t := by unfold putF; rw [hp]; rfl
    rw [e] at hput ⊢
    exact start_all h hput hwf
  | .node p a b, t, hd, hw => by
    have hput := put_den (k := k) (v := v) hc hd
    have hwf := (ins_wf k v hw).1
    obtain ⟨h0, x, y, e, ha, hb⟩ := hd
    have hpfx : (nd l t).pfx = p := by rw [e]; rfl
    by_cases hh : holdsP p k
    · have ht : isT l t := ⟨by have := h0.1; omega, h0.2⟩
      have hg : goes l k t := ⟨by have := h0.1; omega, by rw [e], by rw [hpfx]; exact hh⟩
      have hu : putF l t k v = upS k t (putF l (nxt l k t) k v) := by
        unfold putF
        rw [path_go hc ht hg]; rfl
      have ih : allDen (putF l (nxt l k t) k v).1 := by
        by_cases hbit : bitI k p.len = 1
        · have hn : nxt l k t = y := by unfold nxt; rw [e]; exact if_pos hbit
          rw [hn]; exact put_all hc h hb hw.2.2.2.2
        · have hn : nxt l k t = x := by unfold nxt; rw [e]; exact if_neg hbit
          rw [hn]; exact put_all hc h ha hw.2.2.2.1
      rw [hu] at hput ⊢
      exact allDen_snoc ih hput hwf
    · have hp : path l k t = ([], t) := path_stop fun hg => hh (by rw [← hpfx]; exact hg.2.2)
      have e2 : putF l t k v = startF l k v t := by unfold putF; rw [hp]; rfl
      rw [e2] at hput ⊢
      exact start_all h hput hwf
theorem built_all : ∀ (n : Nat) (ps : List KV), ps.length = n → allDen (builtF ps).1
  | 0, ps, h => by
    obtain rfl := List.eq_nil_of_length_eq_zero h
    intro i hi
    have := hi.1; have := hi.2; simp [builtF] at this; omega
  | n + 1, ps, h => by
    have hne : ps ≠ [] := fun e => by subst e; cases h
    obtain ⟨qs, p, rfl⟩ : ∃ qs p, ps = qs ++ [p] := ⟨ps.dropLast, ps.getLast hne, (List.dropLast_concat_getLast hne).symm⟩
    have ih := built_all n qs (by simpa using h)
    have hb := builtOk qs
    have hw := built_wf qs
    have ht := hb.tree
    rw [builtF_snoc]
    cases hq : treesF qs with
    | none =>
      rw [hq] at ht
      have e : (builtF qs).2 = -1 := ht
      rw [e, put_none']
      exact allDen_snoc ih (den_leaf _ _ _) trivial
    | some T =>
      rw [hq] at ht hw
      exact put_all hb.closed ih ht hw
/-! a node added anew is the same -/
theorem again_leaf {l : Fo} (k v : H256) : mk l ⟨true, k, v, 0, zeroH, -1, -1, sha (leafT k v)⟩ = ⟨true, k, v, 0, zeroH, -1, -1, sha (leafT k v)⟩ := rfl
theorem again_node {l : Fo} {p : Pfx} {a b : PT} {x y : Int} (ha : den l x a) (hb : den l y b) : mk l ⟨false, zeroH, zeroH, p.len, p.bits, x, y, sha (innerT p.len p.bits a.hash b.hash)⟩ = ⟨false, zeroH, zeroH, p.len, p.bits, x, y, sha (innerT p.len p.bits a.hash b.hash)⟩ := by
  have h1 := den_hash ha
  have h2 := den_hash hb
  unfold mk
  simp only [h1, h2]
  rfl
theorem may_node {l : Fo} {p : Pfx} {a b : PT} {x y : Int} {h : H256} (hw : (PT.node p a b).wf) (ha : den l x a) (hb : den l y b) : mayP l ⟨false, zeroH, zeroH, p.len, p.bits, x, y, h⟩ :=
  ⟨⟨den_in ha, wf_ok hw.1 0 (.inl rfl), by show withinP (childP p 0) (nd l x).cover; rw [den_cover ha]; exact hw.2.1⟩, den_in hb, wf_ok hw.1 1 (.inr rfl), by show withinP (childP p 1) (nd l y).cover; rw [den_cover hb]; exact hw.2.2.1⟩
def nodeV_c : Ctr where
  D := Fo × Int × Nd
  pre := fun (l, i, n) => inF l i ∧ nd l i = n
  args := fun (_, i, _) => [.ptr 0 0, .int .i64 i]
  objs := fun (l, _, _) => fo l
  nn := 2
  res := fun (_, _, n) _ => .tup [.agg (eNd n), .bool true]
  out := fun (l, _, _) _ => fo l
def nodeV_H : Cfg := ⟨[(33, size_c)], [], [], [], 22, 2, [], []⟩
theorem nodeV_ok : nodeV_c.Ok Tryd.prog 34 := by
  refine fn_ok nodeV_H 2 rfl _ Tryd.func34 rfl rfl ⟨size_ok, trivial⟩ rfl rfl (by kernel_rfl) (fun _ => Nat.le_of_ble_eq_true rfl) ?_
  rintro ⟨l, i, n⟩ hp hr
  try dsimp only [nodeV_c] at hp
  try simp only [nodeV_c, Rng, RngL, inR, and_true, true_and] at hr
  obtain ⟨⟨h0, h1⟩, hn⟩ := hp
  have e := (nd_get l i (by omega) (by omega)).trans hn
  repeat' (first | (with_reducible refine Unf.h ?_) | ((conv => whnf); first | refine Fork.mk (fun h => ?_) (fun h => ?_) | (refine Side.mk ?_ ?_; focus (first | with_reducible rfl | exact True.intro | omega | (simp only [*, e]; done))) | (refine Idx.mk ?_ ?_; focus (omega)) | refine RetE.mk () trivial ?_ | refine Got.mk (fun _ _ => ?_) | refine retK_r ?_ | exact rfl | refine CallS.mk (c := size_c) (l) ?_) | fail); all_goals try (conv => whnf)
def nodeX_c : Ctr where
  D := Fo × Int
  pre := fun (l, i) => ¬ inF l i
  args := fun (_, i) => [.ptr 0 0, .int .i64 i]
  objs := fun (l, _) => fo l
  nn := 2
  res := fun _ _ => .tup [.agg (eNd zeroN), .bool false]
  out := fun (l, _) _ => fo l
def nodeX_H : Cfg := ⟨[(33, size_c)], [], [], [], 22, 2, [], []⟩
theorem nodeX_ok : nodeX_c.Ok Tryd.prog 34 := by
  refine fn_ok nodeX_H 2 rfl _ Tryd.func34 rfl rfl ⟨size_ok, trivial⟩ rfl rfl (by kernel_rfl) (fun _ => Nat.le_of_ble_eq_true rfl) ?_
  rintro ⟨l, i⟩ hp hr
  try dsimp only [nodeX_c] at hp
  try simp only [nodeX_c, Rng, RngL, inR, and_true, true_and] at hr
  repeat' (first | (with_reducible refine Unf.h ?_) | ((conv => whnf); first | refine Fork.mk (fun h => ?_) (fun h => ?_) | (refine Side.mk ?_ ?_; focus (first | with_reducible rfl | exact True.intro | omega | (simp only [*, zeroN]; done))) | (refine Idx.mk ?_ ?_; focus (omega)) | refine RetE.mk () trivial ?_ | refine Got.mk (fun _ _ => ?_) | refine retK_r ?_ | exact rfl | refine CallS.mk (c := size_c) (l) ?_) | fail); all_goals try (conv => whnf)
  exact absurd (show inF l i from ⟨by omega, by omega⟩) hp
def nodes_c : Ctr where
  D := List KV
  args := fun ps => [.fs 64 eKV ps]
  res := fun _ _ => .bool true
def nodes_H : Cfg := ⟨[(25, awake11_c), (32, built_c), (33, size_c), (34, nodeV_c), (34, nodeX_c), (34, node_c), (35, addA_c), (27, ttext_c), (24, refsum_c)], [(13, [18, 19, 24, 25, 27, 29, 36, 40, 45], [30, 31], (.one 0 0 false (.one 1 0 false (.one 2 0 false (.one 3 0 false (.one 4 0 false (.one 5 0 false (.one 6 0 false (.one 7 0 false (.one 8 0 false (.one 9 0 false (.one 10 0 false (.one 11 0 false (.one 12 0 false (.one 13 0 false (.one 14 0 false (.one 15 0 false (.one 16 0 false (.one 17 0 false (.one 18 1 false (.one 19 1 false (.one 20 0 false (.one 21 0 false (.one 22 0 false (.one 23 0 false (.one 24 1 false (.one 25 1 false (.one 26 0 false (.one 27 1 false (.one 28 0 false (.one 29 1 false (.one 30 2 true (.one 31 2 true (.one 32 0 false (.one 33 0 false (.one 34 0 false (.one 35 0 false (.one 36 1 false (.one 37 0 false (.one 38 0 false (.one 39 0 false (.one 40 1 false (.one 41 0 false (.one 42 0 false (.one 43 0 false (.one 44 0 false (.one 45 1 false (.one 46 0 false (.one 47 0 false (.one 48 0 false (.one 49 0 false (.one 50 0 false .nil))))))))))))))))))))))))))))))))))))))))))))))))))), [])], [], [], 149, 0, [], []⟩
theorem nodes_ok : nodes_c.Ok Tryd.prog 6 := by
  refine fn_ok nodes_H 0 rfl _ Tryd.func6 rfl rfl ⟨awake11_ok, built_ok, size_ok, nodeV_ok, nodeX_ok, node_ok, addA_ok, ttext_ok, refsum_ok, trivial⟩ rfl rfl (by kernel_rfl) (fun _ => Nat.le_of_ble_eq_true rfl) ?_
  intro (ps : List KV) hp hr
  try dsimp only [nodes_c] at hp
  try simp only [nodes_c, Rng, RngL, inR, and_true, true_and] at hr
  repeat' (first | (with_reducible refine Unf.h ?_) | ((conv => whnf); first | refine Fork.mk (fun h => ?_) (fun h => ?_) | (refine Side.mk ?_ ?_; focus (first | with_reducible rfl | exact True.intro)) | refine RetE.mk () trivial ?_ | refine Got.mk (fun _ _ => ?_) | refine retK_r ?_ | exact rfl | refine CallS.mk (c := awake11_c) (()) ?_) | fail); all_goals try (conv => whnf)
  have hs : (builtF ps).1.length ≤ 675 := built_size (by omega)
  have hpre : built_c.pre ps := by show ps.length ≤ 25; omega
  have hall := built_all _ ps rfl
  have hcl := (builtOk ps).closed
  refine CallS.mk (c := built_c) (ps) ?_
  repeat' (first | (with_reducible refine Unf.h ?_) | ((conv => whnf); first | (refine Side.mk ?_ ?_; focus (first | with_reducible rfl | exact True.intro | assumption)) | refine Got.mk (fun _ _ => ?_) | refine CallS.mk (c := size_c) ((builtF ps).1) ?_) | fail); all_goals try (conv => whnf)
  generalize (builtF ps).1 = F at *
  refine LoopS.autoN (I := Nat × Fo) (fun (i, l) => i ≤ F.length ∧ l = F ++ F.take i) (fun (i, _) => [(6, .int .i64 i)]) (fun (_, l) => [(0, .box 85 [.own 1]), (1, .row 51 132 eNd l)]) 2 (fun (i, _) => F.length - i) (0, F) ⟨Nat.zero_le _, by simp⟩ ?_ ?_
  · repeat' (first | (with_reducible refine Unf.h ?_) | ((conv => whnf); first | (refine Side.mk ?_ ?_; focus (first | with_reducible rfl | (refine congrArg (SV.int _) ?_; omega))) | (with_reducible refine Unf.h ?_) | exact True.intro) | fail); all_goals try (conv => whnf)
    all_goals all_goals (conv => whnf)
  · rintro ⟨i, l⟩ ⟨hi, hl⟩
    by_cases hlt : i < F.length
    · have hin : inF F (i : Int) := ⟨by omega, by omega⟩
      obtain ⟨T, hw, hd⟩ := hall _ hin
      have hd' : den l (i : Int) T := by rw [hl]; exact den_app hd
      have hll : l.length = F.length + i := by rw [hl, List.length_append, List.length_take]; omega
      have hF : F.take (i + 1) = F.take i ++ [nd F (i : Int)] := by
        rw [List.take_succ_eq_append_getElem hlt, ← nd_get F (i : Int) (by omega) (by omega)]; rfl
      have hno : ¬ inF l (-1) := fun h' => by have := h'.1; omega
      have hpreX : nodeX_c.pre (l, -1) := hno
      cases T with
      | leaf k v =>
        have hN := hd.2
        have hpre1 : nodeV_c.pre (l, (i : Int), ⟨true, k, v, 0, zeroH, -1, -1, sha (leafT k v)⟩) := hd'
        have hpre2 : addA_c.pre (l, ⟨true, k, v, 0, zeroH, -1, -1, sha (leafT k v)⟩) := ⟨by omega, .inl rfl⟩
        have hm : mk l ⟨true, k, v, 0, zeroH, -1, -1, sha (leafT k v)⟩ = ⟨true, k, v, 0, zeroH, -1, -1, sha (leafT k v)⟩ := again_leaf k v
        rw [hN] at hF
        have hpre3 : nodeV_c.pre (l ++ [⟨true, k, v, 0, zeroH, -1, -1, sha (leafT k v)⟩], (l.length : Int), ⟨true, k, v, 0, zeroH, -1, -1, sha (leafT k v)⟩) := ⟨inF_last _ _, nd_last _ _⟩
        have hnew : F.length - (i + 1) < F.length - i ∧ i + 1 ≤ F.length ∧ l ++ [⟨true, k, v, 0, zeroH, -1, -1, sha (leafT k v)⟩] = F ++ F.take (i + 1) := ⟨by omega, by omega, by rw [hF, hl, List.append_assoc]⟩
        have hT : ndT ⟨true, k, v, 0, zeroH, -1, -1, sha (leafT k v)⟩ zeroN.hash zeroN.hash = leafT k v := rfl
        have hTl := leafT_len k v
        clear hl hF hN
        repeat' (first | (with_reducible refine Unf.h ?_) | ((conv => whnf); first | refine Fork.mk (fun h => ?_) (fun h => ?_) | (refine Side.mk ?_ ?_; focus (omega))) | fail); all_goals try (conv => whnf)
        refine Or2.l (CallS.mk (c := nodeV_c) ((l, (i : Int), ⟨true, k, v, 0, zeroH, -1, -1, sha (leafT k v)⟩)) ?_)
        repeat' (first | (with_reducible refine Unf.h ?_) | ((conv => whnf); first | (refine Side.mk ?_ ?_; focus (first | with_reducible rfl | assumption)) | refine Got.mk (fun _ _ => ?_)) | fail); all_goals try (conv => whnf)
        refine Or2.r (Or2.l (CallS.mk (c := nodeX_c) ((l, -1)) ?_))
        repeat' (first | (with_reducible refine Unf.h ?_) | ((conv => whnf); first | (refine Side.mk ?_ ?_; focus (first | with_reducible rfl | assumption)) | refine Got.mk (fun _ _ => ?_)) | fail); all_goals try (conv => whnf)
        refine Or2.r (Or2.l (CallS.mk (c := nodeX_c) ((l, -1)) ?_))
        repeat' (first | (with_reducible refine Unf.h ?_) | ((conv => whnf); first | (refine Side.mk ?_ ?_; focus (first | with_reducible rfl | assumption)) | refine Got.mk (fun _ _ => ?_)) | fail); all_goals try (conv => whnf)
        refine CallS.mk (c := addA_c) ((l, ⟨true, k, v, 0, zeroH, -1, -1, sha (leafT k v)⟩)) ?_
        repeat' (first | (with_reducible refine Unf.h ?_) | ((conv => whnf); first | (refine Side.mk ?_ ?_; focus (first | with_reducible rfl | assumption)) | refine Got.mk (fun _ _ => ?_)) | fail); all_goals try (conv => whnf)
        refine Or2.l (CallS.mk (c := nodeV_c) ((l ++ [⟨true, k, v, 0, zeroH, -1, -1, sha (leafT k v)⟩], (l.length : Int), ⟨true, k, v, 0, zeroH, -1, -1, sha (leafT k v)⟩)) ?_)
        repeat' (first | (with_reducible refine Unf.h ?_) | ((conv => whnf); first | refine Fork.mkn (fun h => ?_) (fun h => ?_) | (refine Side.mk ?_ ?_; focus (first | with_reducible rfl | assumption | omega | (intros; (try simp only [lenS, inR, cutS, loI, hiI, hm] at *); omega) | (simp only [*, hm]; done))) | refine RetE.mk () trivial ?_ | refine Got.mk (fun _ _ => ?_) | refine retK_r ?_ | exact rfl) | fail); all_goals try (conv => whnf)
        all_goals first
          | exact absurd (show _ ∧ _ ∧ _ ∧ _ ∧ _ ∧ _ ∧ _ ∧ _ from ⟨Iff.rfl, rfl, rfl, rfl, rfl, rfl, rfl, rfl⟩) (by assumption)
          | skip
        refine CallS.mk (c := ttext_c) ((⟨true, k, v, 0, zeroH, -1, -1, sha (leafT k v)⟩, zeroN.hash, zeroN.hash)) ?_
        repeat' (first | (with_reducible refine Unf.h ?_) | ((conv => whnf); first | (refine Side.mk ?_ ?_; focus (first | with_reducible rfl | exact True.intro)) | refine Got.mk (fun _ _ => ?_)) | fail); all_goals try (conv => whnf)
        refine CallS.mk (c := refsum_c) ((leafT k v)) ?_
        repeat' (first | (with_reducible first | refine Unf.h ?_ | refine loopK_n ?_) | ((conv => whnf); first | refine Fork.mkn (fun h => ?_) (fun h => ?_) | (refine Side.mk ?_ ?_; focus (first | assumption | (intros; (try simp only [lenS, inR, cutS, loI, hiI, hT] at *); omega) | (simp only [*, hT]; done))) | refine RetE.mk () trivial ?_ | refine Got.mk (fun _ _ => ?_) | refine retK_r ?_) | fail); all_goals try (conv => whnf)
        · exact absurd rfl h
        · refine ⟨(i + 1, l ++ [⟨true, k, v, 0, zeroH, -1, -1, sha (leafT k v)⟩]), hnew, ?_⟩
          repeat' (first | (with_reducible refine Unf.h ?_) | ((conv => whnf); first | (refine Side.mk ?_ ?_; focus (first | with_reducible rfl | (refine congrArg (SV.int _) ?_; omega))) | (with_reducible refine Unf.h ?_) | exact True.intro) | fail); all_goals try (conv => whnf)
        · exfalso; omega
      | node p a b =>
        obtain ⟨_, x, y, hN, ha, hb⟩ := hd
        obtain ⟨_, x', y', hN', ha', hb'⟩ := hd'
        have hnn : nd l (i : Int) = nd F (i : Int) := by rw [hl]; exact nd_app _ _ _ hin.2
        have exy : x' = x ∧ y' = y := by rw [hN, hN'] at hnn; injection hnn with e1 e2 e3 e4 e5 e6 e7; exact ⟨e6, e7⟩
        obtain ⟨rfl, rfl⟩ := exy
        have hlt2 := hcl _ hin
        rw [hN] at hlt2
        have hlt3 : (0 ≤ x' ∧ x' < (i : Int)) ∧ (0 ≤ y' ∧ y' < (i : Int)) := hlt2.resolve_left (by simp)
        have hpre1 : nodeV_c.pre (l, (i : Int), ⟨false, zeroH, zeroH, p.len, p.bits, x', y', sha (innerT p.len p.bits a.hash b.hash)⟩) := ⟨by refine ⟨by omega, by omega⟩, hN'⟩
        have hpre2 : addA_c.pre (l, ⟨false, zeroH, zeroH, p.len, p.bits, x', y', sha (innerT p.len p.bits a.hash b.hash)⟩) := ⟨by omega, .inr (may_node hw ha' hb')⟩
        have hm : mk l ⟨false, zeroH, zeroH, p.len, p.bits, x', y', sha (innerT p.len p.bits a.hash b.hash)⟩ = ⟨false, zeroH, zeroH, p.len, p.bits, x', y', sha (innerT p.len p.bits a.hash b.hash)⟩ := again_node ha' hb'
        rw [hN] at hF
        have hpre3 : nodeV_c.pre (l ++ [⟨false, zeroH, zeroH, p.len, p.bits, x', y', sha (innerT p.len p.bits a.hash b.hash)⟩], (l.length : Int), ⟨false, zeroH, zeroH, p.len, p.bits, x', y', sha (innerT p.len p.bits a.hash b.hash)⟩) := ⟨inF_last _ _, nd_last _ _⟩
        have hnew : F.length - (i + 1) < F.length - i ∧ i + 1 ≤ F.length ∧ l ++ [⟨false, zeroH, zeroH, p.len, p.bits, x', y', sha (innerT p.len p.bits a.hash b.hash)⟩] = F ++ F.take (i + 1) := ⟨by omega, by omega, by rw [hF, hl, List.append_assoc]⟩
        have hpre4 : nodeV_c.pre (l, x', nd l x') := ⟨den_in ha', rfl⟩
        have hpre5 : nodeV_c.pre (l, y', nd l y') := ⟨den_in hb', rfl⟩
        have ea := den_hash ha'
        have eb := den_hash hb'
        have hT : ndT ⟨false, zeroH, zeroH, p.len, p.bits, x', y', sha (innerT p.len p.bits a.hash b.hash)⟩ a.hash b.hash = innerT p.len p.bits a.hash b.hash := rfl
        have hTl := innerT_len p.len p.bits a.hash b.hash
        clear hl hF hN hN' hnn
        repeat' (first | (with_reducible refine Unf.h ?_) | ((conv => whnf); first | refine Fork.mk (fun h => ?_) (fun h => ?_) | (refine Side.mk ?_ ?_; focus (omega))) | fail); all_goals try (conv => whnf)
        refine Or2.l (CallS.mk (c := nodeV_c) ((l, (i : Int), ⟨false, zeroH, zeroH, p.len, p.bits, x', y', sha (innerT p.len p.bits a.hash b.hash)⟩)) ?_)
        repeat' (first | (with_reducible refine Unf.h ?_) | ((conv => whnf); first | (refine Side.mk ?_ ?_; focus (first | with_reducible rfl | assumption)) | refine Got.mk (fun _ _ => ?_)) | fail); all_goals try (conv => whnf)
        refine Or2.l (CallS.mk (c := nodeV_c) ((l, x', nd l x')) ?_)
        repeat' (first | (with_reducible refine Unf.h ?_) | ((conv => whnf); first | (refine Side.mk ?_ ?_; focus (first | with_reducible rfl | assumption)) | refine Got.mk (fun _ _ => ?_)) | fail); all_goals try (conv => whnf)
        refine Or2.l (CallS.mk (c := nodeV_c) ((l, y', nd l y')) ?_)
        repeat' (first | (with_reducible refine Unf.h ?_) | ((conv => whnf); first | (refine Side.mk ?_ ?_; focus (first | with_reducible rfl | assumption)) | refine Got.mk (fun _ _ => ?_)) | fail); all_goals try (conv => whnf)
        refine CallS.mk (c := addA_c) ((l, ⟨false, zeroH, zeroH, p.len, p.bits, x', y', sha (innerT p.len p.bits a.hash b.hash)⟩)) ?_
        repeat' (first | (with_reducible refine Unf.h ?_) | ((conv => whnf); first | (refine Side.mk ?_ ?_; focus (first | with_reducible rfl | assumption)) | refine Got.mk (fun _ _ => ?_)) | fail); all_goals try (conv => whnf)
        refine Or2.l (CallS.mk (c := nodeV_c) ((l ++ [⟨false, zeroH, zeroH, p.len, p.bits, x', y', sha (innerT p.len p.bits a.hash b.hash)⟩], (l.length : Int), ⟨false, zeroH, zeroH, p.len, p.bits, x', y', sha (innerT p.len p.bits a.hash b.hash)⟩)) ?_)
        repeat' (first | (with_reducible refine Unf.h ?_) | ((conv => whnf); first | refine Fork.mkn (fun h => ?_) (fun h => ?_) | (refine Side.mk ?_ ?_; focus (first | with_reducible rfl | assumption | omega | (intros; (try simp only [lenS, inR, cutS, loI, hiI, hm] at *); omega) | (simp only [*, hm]; done))) | refine RetE.mk () trivial ?_ | refine Got.mk (fun _ _ => ?_) | refine retK_r ?_ | exact rfl) | fail); all_goals try (conv => whnf)
        all_goals first
          | exact absurd (show _ ∧ _ ∧ _ ∧ _ ∧ _ ∧ _ ∧ _ ∧ _ from ⟨Iff.rfl, rfl, rfl, rfl, rfl, rfl, rfl, rfl⟩) (by assumption)
          | skip
        refine CallS.mk (c := ttext_c) ((⟨false, zeroH, zeroH, p.len, p.bits, x', y', sha (innerT p.len p.bits a.hash b.hash)⟩, a.hash, b.hash)) ?_
        repeat' (first | (with_reducible refine Unf.h ?_) | ((conv => whnf); first | (refine Side.mk ?_ ?_; focus (first | with_reducible rfl | exact True.intro | (simp only [*, hT, ea, eb]; done))) | refine Got.mk (fun _ _ => ?_)) | fail); all_goals try (conv => whnf)
        refine CallS.mk (c := refsum_c) ((innerT p.len p.bits a.hash b.hash)) ?_
        repeat' (first | (with_reducible first | refine Unf.h ?_ | refine loopK_n ?_) | ((conv => whnf); first | refine Fork.mkn (fun h => ?_) (fun h => ?_) | refine Fork.mk (fun h => ?_) (fun h => ?_) | (refine Side.mk ?_ ?_; focus (first | assumption | (intros; (try simp only [lenS, inR, cutS, loI, hiI, hT] at *); omega) | (simp only [*, hT]; done))) | refine RetE.mk () trivial ?_ | refine Got.mk (fun _ _ => ?_) | refine retK_r ?_ | exact rfl) | fail); all_goals try (conv => whnf)
        · exact absurd rfl h
        · refine ⟨(i + 1, l ++ [⟨false, zeroH, zeroH, p.len, p.bits, x', y', sha (innerT p.len p.bits a.hash b.hash)⟩]), hnew, ?_⟩
          repeat' (first | (with_reducible refine Unf.h ?_) | ((conv => whnf); first | (refine Side.mk ?_ ?_; focus (first | with_reducible rfl | (refine congrArg (SV.int _) ?_; omega))) | (with_reducible refine Unf.h ?_) | exact True.intro) | fail); all_goals try (conv => whnf)
        · exfalso; omega
    · have e : F.take i = F := List.take_of_length_le (by omega)
      rw [e] at hl
      have hll : l.length = 2 * F.length := by rw [hl, List.length_append]; omega
      have hno1 : nodeX_c.pre (l, -1) := fun h' => by have := h'.1; omega
      have hno2 : nodeX_c.pre (l, 2 * (F.length : Int)) := fun h' => by have := h'.2; omega
      clear hl e
      repeat' (first | (with_reducible refine Unf.h ?_) | ((conv => whnf); first | refine Fork.mk (fun h => ?_) (fun h => ?_) | (refine Side.mk ?_ ?_; focus ((intros; (try simp only [lenS, inR, cutS, loI, hiI] at *); omega)))) | fail); all_goals try (conv => whnf)
      · exfalso; omega
      refine Or2.r (Or2.l (CallS.mk (c := nodeX_c) ((l, 2 * (F.length : Int))) ?_))
      repeat' (first | (with_reducible refine Unf.h ?_) | ((conv => whnf); first | (refine Side.mk ?_ ?_; focus (first | with_reducible rfl | assumption)) | refine Got.mk (fun _ _ => ?_)) | fail); all_goals try (conv => whnf)
      refine Or2.r (Or2.l (CallS.mk (c := nodeX_c) ((l, -1)) ?_))
      repeat' (first | (with_reducible refine Unf.h ?_) | ((conv => whnf); first | (refine Side.mk ?_ ?_; focus (first | with_reducible rfl | exact True.intro | assumption | (intros; (try simp only [lenS, inR, cutS, loI, hiI] at *); omega) | (simp [*]; done))) | refine RetE.mk () trivial ?_ | refine Got.mk (fun _ _ => ?_) | refine retK_r ?_ | exact rfl | refine CallS.mk (c := size_c) (l) ?_) | fail); all_goals try (conv => whnf)
end Go.Proofs.YtffaohckcggkdaaDoor

/- MY OWN ENGINE: the variables that the rows of this seat list. -/
namespace Go.Proofs.YtffaohckcggkdaaDoor
set_option linter.all false
open Go.RowKit Go.ChangeShapes Go.WideShapes Go.ChangeAt
theorem Tryd.own : ownKnob Tryd.prog.godebug = none := by kernel_rfl
theorem Tryd.laidOut : laidOutB Tryd.prog = true := by kernel_rfl
def laidL {H : Type} : List (String × DataW H) := [("rolodex/hash.begin", Rows.laid_rolodex_hash_begin), ("rolodex/hash.rounds", Rows.laid_rolodex_hash_rounds)]
theorem gBegin : Tryd.prog.globalNamed "rolodex/hash.begin" = some 0 := by kernel_rfl
theorem gRounds : Tryd.prog.globalNamed "rolodex/hash.rounds" = some 1 := by kernel_rfl
theorem tBegin : (Tryd.prog.globals[0]?).map (·.type) = some 135 := by kernel_rfl
theorem tRounds : (Tryd.prog.globals[1]?).map (·.type) = some 138 := by kernel_rfl
theorem dBegin : (Rows.laid_rolodex_hash_begin : DataW Unit) = .agg (gv0.toList.map fun b => .lit (.int .u32 (b.toNat : Int))) := by kernel_rfl
theorem dRounds : (Rows.laid_rolodex_hash_rounds : DataW Unit) = .agg (gv1.toList.map fun b => .lit (.int .u32 (b.toNat : Int))) := by kernel_rfl
theorem glob_of_laid {W : World} (h : laidMetH Tryd.prog laidL W) : Glob Tryd.prog W none0 := by
  rw [MakeChecks.laidMetH_plain _ _ _ (by kernel_rfl)] at h
  obtain ⟨ps, ⟨g0, t0, cs0, f0, p0, q0, hg0, ht0, hv0, hd0, ⟨g1, t1, cs1, f1, p1, q1, hg1, ht1, hv1, hd1, _, _⟩, _⟩, _, _⟩ := h
  obtain rfl := Option.some.inj (gBegin.symm.trans hg0)
  obtain rfl := Option.some.inj (gRounds.symm.trans hg1)
  obtain rfl := Option.some.inj (tBegin.symm.trans ht0)
  obtain rfl := Option.some.inj (tRounds.symm.trans ht1)
  rw [dBegin] at hd0
  rw [dRounds] at hd1
  intro g ps hm
  have hm' : (g, ps) = (0, [SV.arr32 gv0]) ∨ (g, ps) = (1, [SV.arr32 gv1]) := by
    have e : TabC.gl Tryd.prog = [(0, [SV.arr32 gv0]), (1, [SV.arr32 gv1])] := rfl
    rw [e] at hm
    simpa using hm
  rcases hm' with e | e
  · cases e
    exact glob_arr32 (i := ⟨.ar 8 110, 8, 32⟩) (j := ⟨.int .u32, 1, 4⟩) hg0 hv0 rfl rfl rfl rfl rfl rfl hd0
  · cases e
    exact glob_arr32 (i := ⟨.ar 64 110, 64, 256⟩) (j := ⟨.int .u32, 1, 4⟩) hg1 hv1 rfl rfl rfl rfl rfl rfl hd1
theorem door_met (os : Os) (args : Array Value) : laidMetH Tryd.prog laidL ((World.doorLaid Tryd.prog 400 os).forCall (fun _ _ => 0) ⟨#[], args, []⟩).memory :=
  laidMetH_of_parts3 (fuel := 8) (laidMet_of_run' 8 (by kernel_rfl) (by kernel_rfl)) (by kernel_rfl) (by kernel_rfl)
/-! what the arguments are -/
section
variable {H : Type} {enc : TypeId × Value → H} {W : World} {spare : Nat → Bool} {held : Bool}
theorem o_hash : Opens Tryd.prog enc W spare held 25 (fun v : H256 => [.arr8 v]) := o_arr8 (i := ⟨.ar 32 5, 32, 32⟩) (j := ⟨.int .u8, 1, 1⟩) rfl rfl rfl rfl rfl rfl
theorem o_int : Opens Tryd.prog enc W spare held 3 (fun n : Int => [.int .i64 n]) := o_i64 (i := ⟨.int .i64, 1, 8⟩) rfl rfl
theorem o_boolT : Opens Tryd.prog enc W spare held 4 (fun b : Bool => [.bool b]) := o_bool (i := ⟨.bool, 1, 1⟩) rfl rfl
theorem o_pfx : Opens Tryd.prog enc W spare held 27 ePfx :=
  (o_struct (i := ⟨.st [(0, 3), (1, 25)], 33, 40⟩) rfl rfl (o_field (off := 0) (off2 := 1) (j := ⟨.int .i64, 1, 8⟩) rfl o_int (fun _ => rfl) rfl (o_last (j := ⟨.ar 32 5, 32, 32⟩) rfl o_hash (fun _ => rfl))) (fun _ => rfl) (by kernel_rfl)).map (fun p => (⟨p.1, p.2⟩ : Pfx)) (fun _ => rfl)
theorem o_node : Opens Tryd.prog enc W spare held 51 eNd :=
  (o_struct (i := ⟨.st [(0, 4), (1, 25), (33, 25), (65, 27), (98, 3), (99, 3), (100, 25)], 132, 160⟩) rfl rfl
    (o_field (off := 0) (off2 := 1) (j := ⟨.bool, 1, 1⟩) rfl o_boolT (fun _ => rfl) rfl
    (o_field (off := 1) (off2 := 33) (j := ⟨.ar 32 5, 32, 32⟩) rfl o_hash (fun _ => rfl) rfl
    (o_field (off := 33) (off2 := 65) (j := ⟨.ar 32 5, 32, 32⟩) rfl o_hash (fun _ => rfl) rfl
    (o_field (off := 65) (off2 := 98) (j := ⟨.st [(0, 3), (1, 25)], 33, 40⟩) rfl o_pfx (fun _ => rfl) rfl
    (o_field (off := 98) (off2 := 99) (j := ⟨.int .i64, 1, 8⟩) rfl o_int (fun _ => rfl) rfl
    (o_field (off := 99) (off2 := 100) (j := ⟨.int .i64, 1, 8⟩) rfl o_int (fun _ => rfl) rfl
    (o_last (j := ⟨.ar 32 5, 32, 32⟩) rfl o_hash (fun _ => rfl)))))))) (fun _ => rfl) (by kernel_rfl)).map (fun p => (⟨p.1, p.2.1, p.2.2.1, p.2.2.2.1.len, p.2.2.2.1.bits, p.2.2.2.2.1, p.2.2.2.2.2.1, p.2.2.2.2.2.2⟩ : Nd)) (fun _ => rfl)
end
end Go.Proofs.YtffaohckcggkdaaDoor

namespace Go.Proofs.YtffaohckcggkdaaDoor
set_option linter.all false
open Go.RowKit Go.ChangeShapes Go.WideShapes Go.ChangeAt
section
variable {H : Type} {enc : TypeId × Value → H} {W : World} {spare : Nat → Bool} {held : Bool}
theorem o_pair : Opens Tryd.prog enc W spare held 56 eKV :=
  (o_struct (i := ⟨.st [(0, 25), (32, 25)], 64, 64⟩) rfl rfl
    (o_field (off := 0) (off2 := 32) (j := ⟨.ar 32 5, 32, 32⟩) rfl o_hash (fun _ => rfl) rfl
    (o_last (j := ⟨.ar 32 5, 32, 32⟩) rfl o_hash (fun _ => rfl))) (fun _ => rfl) (by kernel_rfl)).map (fun p => ((p.1, p.2) : KV)) (fun _ => rfl)
theorem o_pairs : Opens Tryd.prog enc W spare held 22 (fun l : List KV => [.fs 64 eKV l]) :=
  o_slice (i := ⟨.sl 56, 1, 24⟩) (j := ⟨.st [(0, 25), (32, 25)], 64, 64⟩) rfl rfl rfl rfl rfl o_pair (fun _ => rfl)
end
end Go.Proofs.YtffaohckcggkdaaDoor

import Derived.Test.YtffaohckcggkdaaDoorZLPRight1
import Derived.Test.YtffaohckcggkdaaDoorLaw
namespace Go.Proofs.YtffaohckcggkdaaDoor
set_option linter.all false
open Go.RowKit
/-! the keys and values of a tree, rising -/
def PT.list : PT → List KV
  | .leaf k v => [(k, v)]
  | .node _ a b => a.list ++ b.list
theorem list_pos : ∀ T : PT, 0 < T.list.length
  | .leaf _ _ => by simp [PT.list]
  | .node _ a b => by have := list_pos a; simp only [PT.list, List.length_append]; omega
theorem wf_child {p : Pfx} {a : PT} {c : Int} (h0 : formedP p ∧ p.len < 256) (hc : c = 0 ∨ c = 1) (hw : withinP (childP p c) a.cover) {k : H256} (hk : holdsP a.cover k) : holdsP p k ∧ kb k p.len.toNat = decide (c = 1) := by
  have hco := wf_ok h0 c hc
  obtain ⟨w1, w2, w3, w4⟩ := within_agree.1 hw
  have hk2 := (holds_agree.1 hk).2
  have : agree (childP p c).len.toNat (childP p c).bits k := w4.trans (hk2.mono (by have := w1.1; omega))
  obtain ⟨g1, g2⟩ := (child_agree hco k).1 this
  exact ⟨holds_agree.2 ⟨h0.1, g1⟩, g2⟩
theorem leaf_holds (k v : H256) : holdsP (PT.leaf k v).cover k := by
  have := cover_formed (T := .leaf k v) trivial
  rw [leaf_cover] at this ⊢
  exact holds_agree.2 ⟨this, fun _ _ => rfl⟩
theorem wf_held : ∀ {T : PT}, T.wf → ∀ x ∈ T.list, holdsP T.cover x.1
  | .leaf k v, _, x, hx => by
    obtain rfl : x = (k, v) := by simpa [PT.list] using hx
    exact leaf_holds k v
  | .node p a b, h, x, hx => by
    obtain ⟨h0, h1, h2, h3, h4⟩ := h
    rcases List.mem_append.1 hx with hx | hx
    · exact (wf_child h0 (.inl rfl) h1 (wf_held h3 x hx)).1
    · exact (wf_child h0 (.inr rfl) h2 (wf_held h4 x hx)).1
theorem wf_left {p : Pfx} {a b : PT} (h : (PT.node p a b).wf) {x : KV} (hx : x ∈ a.list) : holdsP p x.1 ∧ kb x.1 p.len.toNat = false := wf_child h.1 (.inl rfl) h.2.1 (wf_held h.2.2.2.1 x hx)
theorem wf_right {p : Pfx} {a b : PT} (h : (PT.node p a b).wf) {x : KV} (hx : x ∈ b.list) : holdsP p x.1 ∧ kb x.1 p.len.toNat = true := wf_child h.1 (.inr rfl) h.2.2.1 (wf_held h.2.2.2.2 x hx)
theorem shared_at {x y : H256} {n : Nat} (hn : n < 256) (h : agree n x y) (hne : kb x n ≠ kb y n) : shared x y = n := shared_uniq (by omega) h (fun _ => hne)
theorem less_at {x y : H256} {n : Nat} (hn : n < 256) (h : agree n x y) (hx : kb x n = false) (hy : kb y n = true) : lessP x y := by
  have := shared_at hn h (by rw [hx, hy]; simp)
  exact ⟨by omega, by rw [this]; exact hx⟩
theorem less_asymm {x y : H256} (h : lessP x y) : ¬ lessP y x := fun g => by
  have hn := shared_ne h.1
  have e : shared y x = shared x y := shared_at h.1 (fun i hi => (shared_eq hi).symm) (fun e => hn e.symm)
  have h2 := h.2
  have g2 := g.2
  rw [e] at g2
  exact hn (by rw [h2, g2])
theorem less_irrefl (x : H256) : ¬ lessP x x := fun h => less_asymm h h
theorem not_less_at {x y : H256} {n : Nat} (hn : n < 256) (h : agree n x y) (hx : kb x n = false) (hy : kb y n = true) : ¬ lessP y x := less_asymm (less_at hn h hx hy)
theorem ne_at {x y : H256} {n : Nat} (hx : kb x n = false) (hy : kb y n = true) : x ≠ y := fun e => by rw [e, hy] at hx; cases hx
abbrev sortedL (l : List KV) : Prop := l.Pairwise fun x y => lessP x.1 y.1
theorem holds_agree2 {p : Pfx} {x y : H256} (hx : holdsP p x) (hy : holdsP p y) : agree p.len.toNat x y := ((holds_agree.1 hx).2).symm.trans (holds_agree.1 hy).2
theorem node_less {p : Pfx} {a b : PT} (h : (PT.node p a b).wf) {x y : KV} (hx : x ∈ a.list) (hy : y ∈ b.list) : lessP x.1 y.1 := by
  obtain ⟨x1, x2⟩ := wf_left h hx
  obtain ⟨y1, y2⟩ := wf_right h hy
  have := h.1.1.1
  have := h.1.2
  exact less_at (by omega) (holds_agree2 x1 y1) x2 y2
theorem wf_sorted : ∀ {T : PT}, T.wf → sortedL T.list
  | .leaf k v, _ => by simp [PT.list]
  | .node p a b, h => List.pairwise_append.2 ⟨wf_sorted h.2.2.2.1, wf_sorted h.2.2.2.2, fun _ hx _ hy => node_less h hx hy⟩
/-! putting into lists -/
def putL (k v : H256) : List KV → List KV
  | [] => [(k, v)]
  | x :: r => if lessP x.1 k then x :: putL k v r else (k, v) :: (x :: r).filter fun y => decide (y.1 ≠ k)
theorem putL_cons (k v : H256) (x : KV) (r : List KV) : putL k v (x :: r) = if lessP x.1 k then x :: putL k v r else (k, v) :: (x :: r).filter fun y => decide (y.1 ≠ k) := rfl
theorem putL_less {k v : H256} : ∀ {l m : List KV}, (∀ x ∈ l, lessP x.1 k) → putL k v (l ++ m) = l ++ putL k v m
  | [], _, _ => rfl
  | x :: r, m, h => by
    show putL k v (x :: (r ++ m)) = x :: (r ++ putL k v m)
    rw [putL_cons, if_pos (h x (by simp)), putL_less fun y hy => h y (by simp [hy])]
theorem filter_ne {k : H256} {l : List KV} (h : ∀ x ∈ l, x.1 ≠ k) : l.filter (fun y => decide (y.1 ≠ k)) = l := List.filter_eq_self.2 fun x hx => by simpa using h x hx
theorem putL_gt {k v : H256} : ∀ {l m : List KV}, (∀ x ∈ m, ¬ lessP x.1 k ∧ x.1 ≠ k) → putL k v (l ++ m) = putL k v l ++ m
  | [], [], _ => rfl
  | [], x :: m, h => by
    show putL k v (x :: m) = (k, v) :: x :: m
    rw [putL_cons, if_neg (h x (by simp)).1, filter_ne fun y hy => (h y hy).2]
  | x :: r, m, h => by
    show putL k v (x :: (r ++ m)) = _
    rw [putL_cons, putL_cons]
    split
    · rw [putL_gt h]; rfl
    · have e : (x :: (r ++ m)).filter (fun y => decide (y.1 ≠ k)) = (x :: r).filter (fun y => decide (y.1 ≠ k)) ++ m := by
        rw [show x :: (r ++ m) = (x :: r) ++ m from rfl, List.filter_append, filter_ne fun y hy => (h y hy).2]
      rw [e]; rfl
theorem meet_len {p q : Pfx} (fp : formedP p) (fq : formedP q) (h1 : (shared p.bits q.bits : Int) < p.len) (h2 : (shared p.bits q.bits : Int) < q.len) : (meetP p q).len = shared p.bits q.bits := by
  unfold meetP
  rw [if_pos ⟨fp, fq⟩]
  have := fp.2.1
  unfold cutP; simp only; omega
theorem join_list {T : PT} {k v : H256} (h : T.wf) (hn : ¬ holdsP T.cover k) : (PT.join T (.leaf k v)).list = putL k v T.list := by
  have fT := cover_formed h
  have e : (PT.leaf k v).cover = ⟨256, k⟩ := leaf_cover k v
  have hs : (shared T.cover.bits k : Int) < T.cover.len := by
    rcases Int.lt_or_le (shared T.cover.bits k : Int) T.cover.len with h1 | h1
    · exact h1
    · exact absurd (holds_shared.2 ⟨fT, h1⟩) hn
  have hlen := fT.2.1
  have fL : formedP (PT.leaf k v).cover := cover_formed (T := .leaf k v) trivial
  have hm : (meetP T.cover (PT.leaf k v).cover).len = shared T.cover.bits k := by
    have := meet_len (p := T.cover) (q := (PT.leaf k v).cover) fT fL (by rw [e]; exact hs) (by rw [e]; show (shared T.cover.bits k : Int) < 256; omega)
    rw [this, e]
  have hne := shared_ne (a := T.cover.bits) (b := k) (by omega)
  have ag : ∀ x ∈ T.list, agree (shared T.cover.bits k) x.1 k ∧ kb x.1 (shared T.cover.bits k) = kb T.cover.bits (shared T.cover.bits k) := fun x hx => by
    have hx2 := (holds_agree.1 (wf_held h x hx)).2
    exact ⟨((hx2.mono (by omega)).symm).trans (fun i hi => shared_eq hi), (hx2 _ (by omega)).symm⟩
  unfold PT.join
  simp only [hm]
  by_cases hb : bitI T.cover.bits (shared T.cover.bits k : Int) = 1
  · rw [if_pos hb]
    have hb1 : kb T.cover.bits (shared T.cover.bits k) = true := (bitI_kb (by omega)).1 hb
    have hb2 : kb k (shared T.cover.bits k) = false := by cases hc : kb k (shared T.cover.bits k); rfl; rw [hb1, hc] at hne; exact absurd rfl hne
    have := putL_gt (k := k) (v := v) (l := []) (m := T.list) fun x hx => by
      obtain ⟨g1, g2⟩ := ag x hx
      exact ⟨not_less_at (by omega) g1.symm hb2 (g2.trans hb1), (ne_at hb2 (g2.trans hb1)).symm⟩
    exact this.symm
  · rw [if_neg hb]
    have hb1 : kb T.cover.bits (shared T.cover.bits k) = false := by cases hc : kb T.cover.bits (shared T.cover.bits k); rfl; exact absurd ((bitI_kb (n := (shared T.cover.bits k : Int)) (by omega)).2 hc) hb
    have hb2 : kb k (shared T.cover.bits k) = true := by cases hc : kb k (shared T.cover.bits k); rw [hb1, hc] at hne; exact absurd rfl hne; rfl
    have := putL_less (k := k) (v := v) (l := T.list) (m := []) fun x hx => by
      obtain ⟨g1, g2⟩ := ag x hx
      exact less_at (by omega) g1 (g2.trans hb1) hb2
    rw [List.append_nil] at this
    exact this.symm
theorem ins_list {k v : H256} : ∀ {T : PT}, T.wf → (T.ins k v).list = putL k v T.list
  | .leaf k' v', h => by
    unfold PT.ins
    by_cases hk : k' = k
    · rw [if_pos hk]
      subst hk
      show [(k', v)] = putL k' v [(k', v')]
      unfold putL
      rw [if_neg (less_irrefl _)]; simp
    · rw [if_neg hk]
      refine join_list h fun hh => hk ?_
      rw [leaf_cover] at hh
      have := (holds_shared.1 hh).2
      have := shared_le k' k
      exact shared_all (show shared k' k = 256 by simp only at *; omega)
  | .node p a b, h => by
    have h0 := h.1
    unfold PT.ins
    by_cases hh : holdsP p k
    · rw [if_pos hh]
      have hp0 := h0.1.1
      have hp1 := h0.2
      by_cases hb : bitI k p.len = 1
      · rw [if_pos hb]
        have hkb := (bitI_kb hp0).1 hb
        show a.list ++ (b.ins k v).list = putL k v (a.list ++ b.list)
        rw [ins_list h.2.2.2.2, putL_less fun x hx => by
          obtain ⟨x1, x2⟩ := wf_left h hx
          exact less_at (by omega) (holds_agree2 x1 hh) x2 hkb]
      · rw [if_neg hb]
        have hkb : kb k p.len.toNat = false := by cases hc : kb k p.len.toNat; rfl; exact absurd ((bitI_kb hp0).2 hc) hb
        show (a.ins k v).list ++ b.list = putL k v (a.list ++ b.list)
        rw [ins_list h.2.2.2.1, putL_gt fun x hx => by
          obtain ⟨x1, x2⟩ := wf_right h hx
          exact ⟨not_less_at (by omega) (holds_agree2 hh x1) hkb x2, (ne_at hkb x2).symm⟩]
    · rw [if_neg hh]
      exact join_list h hh
def listO : Option PT → List KV
  | none => []
  | some T => T.list
def allL (ps : List KV) : List KV := ps.foldl (fun l p => putL p.1 p.2 l) []
theorem allL_snoc (ps : List KV) (p : KV) : allL (ps ++ [p]) = putL p.1 p.2 (allL ps) := by unfold allL; rw [List.foldl_append]; rfl
theorem all_trees_aux : ∀ (n : Nat) (ps : List KV), ps.length = n → allL ps = listO (treesF ps)
  | 0, ps, h => by
    obtain rfl := List.eq_nil_of_length_eq_zero h
    rfl
  | n + 1, ps, h => by
    have hne : ps ≠ [] := fun e => by subst e; cases h
    obtain ⟨qs, p, rfl⟩ : ∃ qs p, ps = qs ++ [p] := ⟨ps.dropLast, ps.getLast hne, (List.dropLast_concat_getLast hne).symm⟩
    have ih := all_trees_aux n qs (by simpa using h)
    have hw := built_wf qs
    rw [allL_snoc, treesF_snoc, ih]
    cases hq : treesF qs with
    | none => rfl
    | some T => rw [hq] at hw; exact (ins_list hw).symm
theorem all_trees (ps : List KV) : allL ps = listO (treesF ps) := all_trees_aux _ ps rfl
theorem sortedO {o : Option PT} (h : wfO o) : sortedL (listO o) := by
  cases o with
  | none => simp [listO]
  | some T => exact wf_sorted h
/-! what a list says of its tree -/
theorem over_spec {p : Pfx} {a b : PT} (h : (PT.node p a b).wf) {x y : KV} (hx : x ∈ a.list) (hy : y ∈ b.list) : shared x.1 y.1 = p.len.toNat ∧ cutP x.1 (shared x.1 y.1 : Int) = p := by
  obtain ⟨x1, x2⟩ := wf_left h hx
  obtain ⟨y1, y2⟩ := wf_right h hy
  have h0 := h.1.1.1
  have h1 := h.1.2
  have e : shared x.1 y.1 = p.len.toNat := shared_at (by omega) (holds_agree2 x1 y1) (by rw [x2, y2]; simp)
  refine ⟨e, ?_⟩
  rw [e]
  have e2 : (p.len.toNat : Int) = p.len := by omega
  rw [e2]
  unfold cutP
  rw [show min (max p.len 0) 256 = p.len by omega, x1.2]
theorem list_first (T : PT) : ∃ x, T.list[0]? = some x ∧ x ∈ T.list := ⟨T.list[0]'(list_pos T), List.getElem?_eq_getElem _, List.getElem_mem _⟩
theorem list_last (T : PT) : ∃ x, T.list[T.list.length - 1]? = some x ∧ x ∈ T.list := ⟨T.list[T.list.length - 1]'(by have := list_pos T; omega), List.getElem?_eq_getElem _, List.getElem_mem _⟩
/-- one list, one tree -/
theorem wf_inj : ∀ {T U : PT}, T.wf → U.wf → T.list = U.list → T = U
  | .leaf k v, .leaf k' v', _, _, h => by simp only [PT.list, List.cons.injEq, Prod.mk.injEq, and_true] at h; rw [h.1, h.2]
  | .leaf k v, .node p a b, _, _, h => by
    have h1 := congrArg List.length h
    simp only [PT.list, List.length_append, List.length_cons, List.length_nil] at h1
    have := list_pos a; have := list_pos b; omega
  | .node p a b, .leaf k v, _, _, h => by
    have h1 := congrArg List.length h
    simp only [PT.list, List.length_append, List.length_cons, List.length_nil] at h1
    have := list_pos a; have := list_pos b; omega
  | .node p a b, .node q c d, hT, hU, h => by
    have h' : a.list ++ b.list = c.list ++ d.list := h
    obtain ⟨x, x1, x2⟩ := list_first a
    obtain ⟨y, y1, y2⟩ := list_last b
    obtain ⟨x', x1', x2'⟩ := list_first c
    obtain ⟨y', y1', y2'⟩ := list_last d
    have la := list_pos a
    have lb := list_pos b
    have lc := list_pos c
    have ld := list_pos d
    have hlen := congrArg List.length h'
    simp only [List.length_append] at hlen
    have ex : x = x' := by
      have := congrArg (fun l : List KV => l[0]?) h'
      rw [List.getElem?_append_left la, List.getElem?_append_left lc, x1, x1'] at this
      exact Option.some.inj this
    have ey : y = y' := by
      have := congrArg (fun l : List KV => l[a.list.length + b.list.length - 1]?) h'
      rw [List.getElem?_append_right (by omega), List.getElem?_append_right (by omega)] at this
      rw [show a.list.length + b.list.length - 1 - a.list.length = b.list.length - 1 by omega, show a.list.length + b.list.length - 1 - c.list.length = d.list.length - 1 by omega, y1, y1'] at this
      exact Option.some.inj this
    subst ex ey
    have o1 := (over_spec hT x2 y2).2
    have o2 := (over_spec hU x2' y2').2
    have hpq : p = q := o1.symm.trans o2
    subst hpq
    have f1 : (a.list ++ b.list).filter (fun z => !kb z.1 p.len.toNat) = a.list := by
      rw [List.filter_append, List.filter_eq_self.2 fun z hz => by rw [(wf_left hT hz).2]; rfl, List.filter_eq_nil_iff.2 fun z hz => by rw [(wf_right hT hz).2]; simp, List.append_nil]
    have f2 : (c.list ++ d.list).filter (fun z => !kb z.1 p.len.toNat) = c.list := by
      rw [List.filter_append, List.filter_eq_self.2 fun z hz => by rw [(wf_left hU hz).2]; rfl, List.filter_eq_nil_iff.2 fun z hz => by rw [(wf_right hU hz).2]; simp, List.append_nil]
    have hac : a.list = c.list := by rw [← f1, h', f2]
    have hbd : b.list = d.list := by rw [hac] at h'; exact List.append_cancel_left h'
    rw [wf_inj hT.2.2.2.1 hU.2.2.2.1 hac, wf_inj hT.2.2.2.2 hU.2.2.2.2 hbd]
/-! lists with the same members -/
theorem sorted_uniq : ∀ {l m : List KV}, sortedL l → sortedL m → (∀ x, x ∈ l ↔ x ∈ m) → l = m
  | [], [], _, _, _ => rfl
  | [], y :: m, _, _, h => by have := (h y).2 (by simp); simp at this
  | x :: l, [], _, _, h => by have := (h x).1 (by simp); simp at this
  | x :: l, y :: m, hl, hm, h => by
    obtain ⟨l1, l2⟩ := List.pairwise_cons.1 hl
    obtain ⟨m1, m2⟩ := List.pairwise_cons.1 hm
    have e : x = y := by
      rcases List.mem_cons.1 ((h x).1 (by simp)) with h1 | h1
      · exact h1
      · rcases List.mem_cons.1 ((h y).2 (by simp)) with h2 | h2
        · exact h2.symm
        · exact absurd (l1 y h2) (less_asymm (m1 x h1))
    subst e
    congr 1
    refine sorted_uniq l2 m2 fun z => ⟨fun hz => ?_, fun hz => ?_⟩
    · rcases List.mem_cons.1 ((h z).1 (by simp [hz])) with h1 | h1
      · subst h1; exact absurd (l1 z hz) (less_irrefl _)
      · exact h1
    · rcases List.mem_cons.1 ((h z).2 (by simp [hz])) with h1 | h1
      · subst h1; exact absurd (m1 z hz) (less_irrefl _)
      · exact h1
theorem mem_putL {k v : H256} {x : KV} : ∀ {l : List KV}, sortedL l → (x ∈ putL k v l ↔ x = (k, v) ∨ x ∈ l ∧ x.1 ≠ k)
  | [], _ => by simp [putL]
  | y :: r, h => by
    obtain ⟨h1, h2⟩ := List.pairwise_cons.1 h
    unfold putL
    split
    · rename_i hy
      have hyk : y.1 ≠ k := fun e => by rw [e] at hy; exact less_irrefl _ hy
      rw [List.mem_cons, mem_putL h2, List.mem_cons]
      constructor
      · rintro (h | h | h)
        · exact .inr ⟨.inl h, by rw [h]; exact hyk⟩
        · exact .inl h
        · exact .inr ⟨.inr h.1, h.2⟩
      · rintro (h | ⟨h | h, g⟩)
        · exact .inr (.inl h)
        · exact .inl h
        · exact .inr (.inr ⟨h, g⟩)
    · rw [List.mem_cons, List.mem_filter]; simp
/-- pairs of which each key has one value -/
def funcL (l : List KV) : Prop := ∀ x ∈ l, ∀ y ∈ l, x.1 = y.1 → x = y
theorem mem_allL (S : List KV) (hS : funcL S) {x : KV} : ∀ (n : Nat) (ps : List KV), ps.length = n → (∀ y ∈ ps, y ∈ S) → (x ∈ allL ps ↔ x ∈ ps)
  | 0, ps, h, _ => by
    obtain rfl := List.eq_nil_of_length_eq_zero h
    rfl
  | n + 1, ps, h, hs => by
    have hne : ps ≠ [] := fun e => by subst e; cases h
    obtain ⟨qs, p, rfl⟩ : ∃ qs p, ps = qs ++ [p] := ⟨ps.dropLast, ps.getLast hne, (List.dropLast_concat_getLast hne).symm⟩
    have ih := mem_allL S hS (x := x) n qs (by simpa using h) fun y hy => hs y (by simp [hy])
    rw [allL_snoc, mem_putL (by rw [all_trees]; exact sortedO (built_wf qs)), ih]
    constructor
    · rintro (h | h)
      · rw [h]; simp
      · simp [h.1]
    · intro h
      rcases List.mem_append.1 h with h | h
      · by_cases he : x.1 = p.1
        · exact .inl (hS x (hs x (by simp [h])) p (hs p (by simp)) he)
        · exact .inr ⟨h, he⟩
      · obtain rfl : x = p := by simpa using h
        exact .inl rfl
theorem order_law {ps qs : List KV} (hS : funcL ps) (h : ∀ x, x ∈ qs ↔ x ∈ ps) : treesF qs = treesF ps := by
  have e : allL qs = allL ps := by
    refine sorted_uniq ?_ ?_ fun x => ?_
    · rw [all_trees]; exact sortedO (built_wf qs)
    · rw [all_trees]; exact sortedO (built_wf ps)
    · rw [mem_allL ps hS (x := x) _ ps rfl fun _ h => h, mem_allL ps hS (x := x) _ qs rfl fun y hy => (h y).1 hy]; exact h x
  rw [all_trees, all_trees] at e
  have w1 := built_wf qs
  have w2 := built_wf ps
  cases h3 : treesF qs with
  | none =>
    cases h4 : treesF ps with
    | none => rfl
    | some T => rw [h3, h4] at e; have := list_pos T; rw [show listO (some T) = T.list from rfl, show listO none = ([] : List KV) from rfl] at e; rw [← e] at this; simp at this
  | some U =>
    cases h4 : treesF ps with
    | none => rw [h3, h4] at e; have := list_pos U; rw [show listO (some U) = U.list from rfl, show listO none = ([] : List KV) from rfl] at e; rw [e] at this; simp at this
    | some T =>
      rw [h3] at w1 e
      rw [h4] at w2 e
      rw [wf_inj w1 w2 e]
end Go.Proofs.YtffaohckcggkdaaDoor

namespace Go.Proofs.YtffaohckcggkdaaDoor
set_option linter.all false
open Go.RowKit
/-! the chapter's lists -/
def putI (k v : H256) : Bool → List KV → List KV
  | true, r => r.filter fun y => decide (y.1 ≠ k)
  | false, r => putL k v r
theorem putL_len (k v : H256) : ∀ l : List KV, (putL k v l).length ≤ l.length + 1
  | [] => by simp [putL]
  | x :: r => by
    rw [putL_cons]; split
    · have := putL_len k v r; simp only [List.length_cons]; omega
    · have := List.length_filter_le (fun y : KV => decide (y.1 ≠ k)) (x :: r); simp only [List.length_cons] at *; omega
theorem putI_less {k v : H256} {x : KV} {r : List KV} (h : lessP x.1 k) : putI k v false (x :: r) = x :: putI k v false r := by
  show putL k v (x :: r) = x :: putL k v r
  rw [putL_cons, if_pos h]
theorem putI_ge {k v : H256} {x : KV} {r : List KV} (h : ¬ lessP x.1 k) : putI k v false (x :: r) = (k, v) :: putI k v true (x :: r) := by
  show putL k v (x :: r) = (k, v) :: (x :: r).filter (fun y => decide (y.1 ≠ k))
  rw [putL_cons, if_neg h]
theorem putI_same {k v : H256} {x : KV} {r : List KV} (h : x.1 = k) : putI k v true (x :: r) = putI k v true r := by
  show (x :: r).filter (fun y => decide (y.1 ≠ k)) = r.filter (fun y => decide (y.1 ≠ k))
  rw [List.filter_cons_of_neg (by simp [h])]
theorem putI_other {k v : H256} {x : KV} {r : List KV} (h : ¬ x.1 = k) : putI k v true (x :: r) = x :: putI k v true r := by
  show (x :: r).filter (fun y => decide (y.1 ≠ k)) = x :: r.filter (fun y => decide (y.1 ≠ k))
  rw [List.filter_cons_of_pos (by simp [h])]
def rput_c : Ctr where
  D := List KV × H256 × H256
  pre := fun (l, _, _) => l.length ≤ 1000000
  args := fun (l, k, v) => [.fs 64 eKV l, .agg [.arr8 k], .agg [.arr8 v]]
  res := fun (l, k, v) _ => .fs 64 eKV (putL k v l)
def rput_H : Cfg := ⟨[(78, rless_c)], [(6, [7, 8], [9], (.one 0 0 false (.one 1 0 false (.one 2 0 false (.one 3 0 false (.one 4 0 false (.one 5 0 false (.one 6 0 false (.one 7 1 false (.one 8 1 false (.one 9 2 false (.one 10 0 false (.one 11 0 false .nil)))))))))))), []), (9, [4, 5], [], (.one 0 0 false (.one 1 0 false (.one 2 0 false (.one 3 0 false (.one 4 1 false (.one 5 1 false (.one 6 0 false .nil))))))), [])], [], [], 57, 0, [], []⟩
theorem rput_ok : rput_c.Ok Tryd.prog 49 := by
  refine fn_ok rput_H 0 rfl _ Tryd.func49 rfl rfl ⟨rless_ok, trivial⟩ rfl rfl (by kernel_rfl) (fun _ => Nat.le_of_ble_eq_true rfl) ?_
  rintro ⟨l, k, v⟩ hp hr
  try dsimp only [rput_c] at hp
  try simp only [rput_c, Rng, RngL, inR, and_true, true_and] at hr
  repeat' (first | (with_reducible refine Unf.h ?_) | fail); all_goals try (conv => whnf)
  refine LoopS.autoN (I := Nat × List KV × Bool) (fun (i, o, b) => i ≤ l.length ∧ (b = false → o.length ≤ i) ∧ o.length ≤ i + 1 ∧ o ++ putI k v b (l.drop i) = putL k v l) (fun (i, o, b) => [(9, .int .i64 i), (8, .bool b), (7, .own 2)]) (fun (i, o, b) => [(0, .box 25 [.arr8 k]), (1, .box 25 [.arr8 v]), (2, .row 56 64 eKV o)]) 3 (fun (i, _, _) => l.length - i) (0, [], false) ⟨Nat.zero_le _, by simp, by simp, rfl⟩ ?_ ?_
  · repeat' (first | (with_reducible refine Unf.h ?_) | ((conv => whnf); first | (refine Side.mk ?_ ?_; focus (first | with_reducible rfl | (refine congrArg (SV.int _) ?_; omega))) | (with_reducible refine Unf.h ?_) | exact True.intro) | fail); all_goals try (conv => whnf)
  · rintro ⟨i, o, b⟩ ⟨h1, h2, h3, h4⟩
    by_cases hi : i < l.length
    · have hic : (i : Int).toNat < l.length := by omega
      rw [List.drop_eq_getElem_cons hi] at h4
      have es : l[i]'hi = l[(i : Int).toNat]'hic := by congr 1
      rw [es] at h4
      generalize hx : l[(i : Int).toNat]'hic = x at *
      have inv : ∀ (o' : List KV) (b' : Bool), (b' = false → o'.length ≤ i + 1) → o'.length ≤ i + 2 → o' ++ putI k v b' (l.drop (i + 1)) = putL k v l → l.length - (i + 1) < l.length - i ∧ i + 1 ≤ l.length ∧ (b' = false → o'.length ≤ i + 1) ∧ o'.length ≤ i + 1 + 1 ∧ o' ++ putI k v b' (l.drop (i + 1)) = putL k v l := fun o' b' g1 g2 g3 => ⟨by omega, by omega, g1, by omega, g3⟩
      cases b
      · have h2 := h2 rfl
        repeat' (first | (with_reducible first | refine Unf.h ?_ | refine loopK_n ?_) | ((conv => whnf); first | refine Fork.mkn (fun h => ?_) (fun h => ?_) | refine Fork.mk (fun h => ?_) (fun h => ?_) | (refine Side.mk ?_ ?_; focus (first | with_reducible rfl | exact True.intro | (intros; (try simp only [lenS, inR, cutS, loI, hiI, hx] at *); omega) | (simp only [*, hx]; done))) | (refine Idx.mk ?_ ?_; focus (omega)) | refine Got.mk (fun _ _ => ?_) | refine Ex.mk [_] rfl ?_ | refine CallS.mk (c := rless_c) ((x.1, k)) ?_) | fail); all_goals try (conv => whnf)
        · refine ⟨[(k, v)], rfl, ?_⟩
          rw [putI_ge h] at h4
          repeat' (first | (with_reducible first | refine Unf.h ?_ | refine loopK_n ?_) | ((conv => whnf); first | refine Fork.mkn (fun h => ?_) (fun h => ?_) | (refine Side.mk ?_ ?_; focus ((intros; (try simp only [lenS, inR, cutS, loI, hiI, hx] at *); omega))) | (refine Idx.mk ?_ ?_; focus (omega)) | refine Ex.mk [_] rfl ?_) | fail); all_goals try (conv => whnf)
          · have hne : ¬ x.1 = k := fun e => h (by rw [hx, e])
            rw [putI_other hne] at h4
            refine ⟨(i + 1, o ++ [(k, v)] ++ [x], true), inv _ _ (by simp) (by simp; omega) (by rw [← h4]; simp), ?_⟩
            repeat' (first | (with_reducible refine Unf.h ?_) | ((conv => whnf); first | (refine Side.mk ?_ ?_; focus (first | with_reducible rfl | (refine congrArg (SV.int _) ?_; omega) | (simp only [*, hx]; done))) | (with_reducible refine Unf.h ?_) | exact True.intro) | fail); all_goals try (conv => whnf)
          · have he : x.1 = k := by rw [hx] at h; exact Vector.toList_inj.1 h
            rw [putI_same he] at h4
            refine ⟨(i + 1, o ++ [(k, v)], true), inv _ _ (by simp) (by simp; omega) (by rw [← h4]; simp), ?_⟩
            repeat' (first | (with_reducible refine Unf.h ?_) | ((conv => whnf); first | (refine Side.mk ?_ ?_; focus (first | with_reducible rfl | (refine congrArg (SV.int _) ?_; omega))) | (with_reducible refine Unf.h ?_) | exact True.intro) | fail); all_goals try (conv => whnf)
        · have hl : lessP x.1 k := by assumption
          rw [putI_less hl] at h4
          refine ⟨(i + 1, o ++ [x], false), inv _ _ (by simp; omega) (by simp; omega) (by rw [← h4]; simp), ?_⟩
          repeat' (first | (with_reducible refine Unf.h ?_) | ((conv => whnf); first | (refine Side.mk ?_ ?_; focus (first | with_reducible rfl | (refine congrArg (SV.int _) ?_; omega) | (simp only [*, hx]; done))) | (with_reducible refine Unf.h ?_) | exact True.intro) | fail); all_goals try (conv => whnf)
        · have hl : lessP x.1 k := by assumption
          rw [hx] at h
          rw [Vector.toList_inj.1 h] at hl
          exact absurd hl (less_irrefl _)
        · exfalso; omega
      · clear h2
        repeat' (first | (with_reducible first | refine Unf.h ?_ | refine loopK_n ?_) | ((conv => whnf); first | refine Fork.mkn (fun h => ?_) (fun h => ?_) | refine Fork.mk (fun h => ?_) (fun h => ?_) | (refine Side.mk ?_ ?_; focus (first | omega | (intros; (try simp only [lenS, inR, cutS, loI, hiI, hx] at *); omega))) | (refine Idx.mk ?_ ?_; focus (omega)) | refine RetE.mk () trivial ?_ | refine Ex.mk [_] rfl ?_ | refine retK_r ?_ | exact rfl) | fail); all_goals try (conv => whnf)
        · have hne : ¬ x.1 = k := fun e => h (by rw [hx, e])
          rw [putI_other hne] at h4
          refine ⟨(i + 1, o ++ [x], true), inv _ _ (by simp) (by simp; omega) (by rw [← h4]; simp), ?_⟩
          repeat' (first | (with_reducible refine Unf.h ?_) | ((conv => whnf); first | (refine Side.mk ?_ ?_; focus (first | with_reducible rfl | (refine congrArg (SV.int _) ?_; omega) | (simp only [*, hx]; done))) | (with_reducible refine Unf.h ?_) | exact True.intro) | fail); all_goals try (conv => whnf)
        · rw [hx] at h
          rw [putI_same (Vector.toList_inj.1 h)] at h4
          refine ⟨(i + 1, o, true), inv _ _ (by simp) (by omega) h4, ?_⟩
          repeat' (first | (with_reducible refine Unf.h ?_) | ((conv => whnf); first | (refine Side.mk ?_ ?_; focus (first | with_reducible rfl | (refine congrArg (SV.int _) ?_; omega))) | (with_reducible refine Unf.h ?_) | exact True.intro) | fail); all_goals try (conv => whnf)
        all_goals (exfalso; omega)
    · have e : l.drop i = [] := List.drop_eq_nil_of_le (by omega)
      rw [e] at h4
      cases b
      · replace h4 : putL k v l = o ++ [(k, v)] := h4.symm
        repeat' (first | (with_reducible refine Unf.h ?_) | ((conv => whnf); first | refine Fork.mk (fun h => ?_) (fun h => ?_) | (refine Idx.mk ?_ ?_; focus (omega))) | fail); all_goals try (conv => whnf)
        · exfalso; omega
        · refine ⟨[(k, v)], rfl, ?_⟩
          repeat' (first | (with_reducible refine Unf.h ?_) | ((conv => whnf); first | (refine Side.mk ?_ ?_; focus (first | (intros; (try simp only [lenS, inR, cutS, loI, hiI, h4] at *); omega) | (simp only [*, h4]; done))) | refine RetE.mk () trivial ?_ | refine retK_r ?_ | exact rfl) | fail); all_goals try (conv => whnf)
      · replace h4 : o ++ [] = putL k v l := h4
        rw [List.append_nil] at h4
        repeat' (first | (with_reducible first | refine Unf.h ?_ | refine loopK_n ?_) | ((conv => whnf); first | refine Fork.mkn (fun h => ?_) (fun h => ?_) | refine Fork.mk (fun h => ?_) (fun h => ?_) | (refine Side.mk ?_ ?_; focus (first | omega | (simp only [*, h4]; done))) | (refine Idx.mk ?_ ?_; focus (omega)) | refine RetE.mk () trivial ?_ | refine Ex.mk [_] rfl ?_ | refine retK_r ?_ | exact rfl) | fail); all_goals try (conv => whnf)
        all_goals (exfalso; omega)
def rall_c : Ctr where
  D := List KV
  pre := fun l => l.length ≤ 100000
  args := fun l => [.fs 64 eKV l]
  res := fun l _ => .fs 64 eKV (allL l)
theorem allL_take (l : List KV) (i : Nat) (h : i < l.length) : allL (l.take (i + 1)) = putL l[i].1 l[i].2 (allL (l.take i)) := by
  rw [List.take_succ_eq_append_getElem h, allL_snoc]
theorem allL_len : ∀ (n : Nat) (l : List KV), l.length = n → (allL l).length ≤ n
  | 0, l, h => by obtain rfl := List.eq_nil_of_length_eq_zero h; exact Nat.le_refl _
  | n + 1, l, h => by
    have hne : l ≠ [] := fun e => by subst e; cases h
    obtain ⟨qs, p, rfl⟩ : ∃ qs p, l = qs ++ [p] := ⟨l.dropLast, l.getLast hne, (List.dropLast_concat_getLast hne).symm⟩
    have ih := allL_len n qs (by simpa using h)
    have := putL_len p.1 p.2 (allL qs)
    rw [allL_snoc]; omega
def rall_H : Cfg := ⟨[(49, rput_c)], [(5, [5, 10], [11], (.one 0 0 false (.one 1 0 false (.one 2 0 false (.one 3 0 false (.one 4 0 false (.one 5 1 false (.one 6 0 false (.one 7 0 false (.one 8 0 false (.one 9 0 false (.one 10 1 false (.one 11 2 false (.one 12 0 false .nil))))))))))))), [])], [], [], 24, 0, [], []⟩
theorem rall_ok : rall_c.Ok Tryd.prog 15 := by
  refine fn_ok rall_H 0 rfl _ Tryd.func15 rfl rfl ⟨rput_ok, trivial⟩ rfl rfl (by kernel_rfl) (fun _ => Nat.le_of_ble_eq_true rfl) ?_
  intro (l : List KV) hp hr
  try dsimp only [rall_c] at hp
  try simp only [rall_c, Rng, RngL, inR, and_true, true_and] at hr
  repeat' (first | (with_reducible refine Unf.h ?_) | fail); all_goals try (conv => whnf)
  refine LoopS.auto (fun i : Nat => i ≤ l.length) (fun i => [(4, .int .i64 i), (3, .fs 64 eKV (allL (l.take i)))]) (fun _ => []) (fun i => l.length - i) 0 (by omega) ?_ ?_
  · repeat' (first | (with_reducible refine Unf.h ?_) | ((conv => whnf); first | (refine Side.mk ?_ ?_; focus (first | with_reducible rfl | (refine congrArg (SV.int _) ?_; omega) | (simp only [*, allL, List.take_zero, List.foldl_nil]; done))) | (with_reducible refine Unf.h ?_) | exact True.intro) | fail); all_goals try (conv => whnf)
  · intro i hi
    have hl := allL_len _ (l.take i) rfl
    rw [List.length_take] at hl
    by_cases hlt : i < l.length
    · have hic : (i : Int).toNat < l.length := by omega
      have es : l[i]'hlt = l[(i : Int).toNat]'hic := by congr 1
      have hs := allL_take l i hlt
      rw [es] at hs
      generalize hx : l[(i : Int).toNat]'hic = x at *
      have hpre : rput_c.pre (allL (l.take i), x.1, x.2) := by show _ ≤ _; omega
      repeat' (first | (with_reducible first | refine Unf.h ?_ | refine loopK_n ?_) | ((conv => whnf); first | refine Fork.mk (fun h => ?_) (fun h => ?_) | (refine Side.mk ?_ ?_; focus (first | with_reducible rfl | assumption | omega | (intros; (try simp only [lenS, inR, cutS, loI, hiI, hx] at *); omega) | (simp only [*, hx]; done))) | (refine Idx.mk ?_ ?_; focus (omega)) | refine RetE.mk () trivial ?_ | refine Got.mk (fun _ _ => ?_) | refine retK_r ?_ | exact rfl | refine CallS.mk (c := rput_c) ((allL (l.take i), x.1, x.2)) ?_) | fail); all_goals try (conv => whnf)
      refine ⟨i + 1, ⟨by omega, by omega⟩, ?_⟩
      repeat' (first | (with_reducible refine Unf.h ?_) | ((conv => whnf); first | (refine Side.mk ?_ ?_; focus (first | with_reducible rfl | (refine congrArg (SV.int _) ?_; omega) | (simp only [*, hs]; done))) | (with_reducible refine Unf.h ?_) | exact True.intro) | fail); all_goals try (conv => whnf)
    · have e : l.take i = l := List.take_of_length_le (by omega)
      repeat' (first | (with_reducible refine Unf.h ?_) | ((conv => whnf); first | refine Fork.mk (fun h => ?_) (fun h => ?_) | (refine Side.mk ?_ ?_; focus ((simp only [*, e]; done))) | (refine Idx.mk ?_ ?_; focus (omega)) | refine RetE.mk () trivial ?_ | refine retK_r ?_ | exact rfl) | fail); all_goals try (conv => whnf)
      exfalso; omega
end Go.Proofs.YtffaohckcggkdaaDoor

namespace Go.Proofs.YtffaohckcggkdaaDoor
set_option linter.all false
open Go.RowKit
/-! the chapter's trees -/
def getO (l : List KV) (k : H256) : Option KV := l.find? fun x => decide (x.1 = k)
def valO : Option KV → H256
  | none => zeroH
  | some x => x.2
theorem getO_cons (x : KV) (r : List KV) (k : H256) : getO (x :: r) k = if x.1 = k then some x else getO r k := by
  unfold getO
  by_cases h : x.1 = k
  · rw [if_pos h, List.find?_cons_of_pos (by simp [h])]
  · rw [if_neg h, List.find?_cons_of_neg (by simp [h])]
def rget_c : Ctr where
  D := List KV × H256
  args := fun (l, k) => [.fs 64 eKV l, .agg [.arr8 k]]
  res := fun (l, k) _ => .tup [.agg [.arr8 (valO (getO l k))], .dec ((getO l k).isSome = true) inferInstance]
def rget_H : Cfg := ⟨[], [(4, [4, 5], [], (.one 0 0 false (.one 1 0 false (.one 2 0 false (.one 3 0 false (.one 4 1 false (.one 5 1 false (.one 6 0 false .nil))))))), [])], [], [], 26, 0, [], []⟩
theorem rget_ok : rget_c.Ok Tryd.prog 19 := by
  refine fn_ok rget_H 0 rfl _ Tryd.func19 rfl rfl trivial rfl rfl (by kernel_rfl) (fun _ => Nat.le_of_ble_eq_true rfl) ?_
  rintro ⟨l, k⟩ hp hr
  try dsimp only [rget_c] at hp
  try simp only [rget_c, Rng, RngL, inR, and_true, true_and] at hr
  repeat' (first | (with_reducible refine Unf.h ?_) | fail); all_goals try (conv => whnf)
  refine LoopS.auto (fun i : Nat => i ≤ l.length ∧ getO (l.drop i) k = getO l k) (fun i => [(6, .int .i64 i)]) (fun _ => [(0, .box 25 [.arr8 k]), (1, .box 25 [.arr8 zeroH])]) (fun i => l.length - i) 0 ⟨by omega, rfl⟩ ?_ ?_
  · repeat' (first | (with_reducible refine Unf.h ?_) | ((conv => whnf); first | (refine Side.mk ?_ ?_; focus (first | with_reducible rfl | (refine congrArg (SV.int _) ?_; omega))) | (with_reducible refine Unf.h ?_) | exact True.intro) | fail); all_goals try (conv => whnf)
  · rintro i ⟨hi, hg⟩
    by_cases hlt : i < l.length
    · have hic : (i : Int).toNat < l.length := by omega
      have es : l[i]'hlt = l[(i : Int).toNat]'hic := by congr 1
      rw [List.drop_eq_getElem_cons hlt, es] at hg
      generalize hx : l[(i : Int).toNat]'hic = x at *
      rw [getO_cons] at hg
      repeat' (first | (with_reducible first | refine Unf.h ?_ | refine loopK_n ?_) | ((conv => whnf); first | refine Fork.mk (fun h => ?_) (fun h => ?_) | (refine Side.mk ?_ ?_; focus (first | omega | (intros; (try simp only [lenS, inR, cutS, loI, hiI, hx] at *); omega))) | (refine Idx.mk ?_ ?_; focus (omega)) | refine RetE.mk () trivial ?_ | refine retK_r ?_ | exact rfl) | fail); all_goals try (conv => whnf)
      · rw [hx] at h
        rw [if_pos (Vector.toList_inj.1 h)] at hg
        have e1 : valO (getO l k) = x.2 := by rw [← hg]; rfl
        have e2 : (getO l k).isSome = true := by rw [← hg]; rfl
        repeat' (first | (with_reducible refine Unf.h ?_) | ((conv => whnf); first | (refine Side.mk ?_ ?_; focus (first | (refine ⟨fun h => ?_, fun h => ?_⟩ <;> first | rfl | (cases h; done) | omega | (exfalso; omega) | (simp only [Bool.false_eq_true] at h; done)) | (simp only [*, e1, e2, hx]; done))) | exact rfl) | fail); all_goals try (conv => whnf)
      · rw [hx] at h
        rw [if_neg fun e => h (by rw [e])] at hg
        refine ⟨i + 1, ⟨by omega, by omega, hg⟩, ?_⟩
        repeat' (first | (with_reducible refine Unf.h ?_) | ((conv => whnf); first | (refine Side.mk ?_ ?_; focus (first | with_reducible rfl | (refine congrArg (SV.int _) ?_; omega))) | (with_reducible refine Unf.h ?_) | exact True.intro) | fail); all_goals try (conv => whnf)
    · rw [List.drop_eq_nil_of_le (by omega)] at hg
      have e1 : valO (getO l k) = zeroH := by rw [← hg]; rfl
      have e2 : ¬ (getO l k).isSome = true := by rw [← hg]; simp [getO]
      repeat' (first | (with_reducible first | refine Unf.h ?_ | refine loopK_n ?_) | ((conv => whnf); first | refine Fork.mk (fun h => ?_) (fun h => ?_) | (refine Side.mk ?_ ?_; focus (first | omega | (simp only [*, e1, e2]; done))) | (refine Idx.mk ?_ ?_; focus (omega)) | refine RetE.mk () trivial ?_ | refine retK_r ?_ | exact rfl) | fail); all_goals try (conv => whnf)
      all_goals (exfalso; omega)
/-! the longest prefix that holds all -/
def rover_c : Ctr where
  D := Pfx × PT × PT
  pre := fun (p, a, b) => (PT.node p a b).wf
  args := fun (_, a, b) => [.fs 64 eKV (a.list ++ b.list)]
  res := fun (p, _, _) _ => .agg (ePfx p)
theorem app_first {a b : PT} (i : Nat) (hi : i = 0) (h : i < (a.list ++ b.list).length) : (a.list ++ b.list)[i] ∈ a.list := by
  subst hi
  rw [List.getElem_append_left (list_pos a)]; exact List.getElem_mem _
theorem app_last {a b : PT} (i : Nat) (hi : i = a.list.length + b.list.length - 1) (h : i < (a.list ++ b.list).length) : (a.list ++ b.list)[i] ∈ b.list := by
  have := list_pos b
  rw [List.getElem_append_right (by omega)]; exact List.getElem_mem _
def rover_H : Cfg := ⟨[(71, rshared_c), (38, rcut_c)], [(1, [3, 10], [11, 12, 13, 14], (.one 0 0 false (.one 1 0 false (.one 2 0 false (.one 3 1 false (.one 4 0 false (.one 5 0 false (.one 6 0 false (.one 7 0 false (.one 8 0 false (.one 9 0 false (.one 10 1 false (.alt 11 true (.one 12 2 true (.one 13 2 true (.one 14 2 false .nil))) (.one 12 2 true (.one 11 2 true (.one 13 2 true (.one 14 2 false .nil)))))))))))))))), []), (2, [0, 1, 2], [3, 4, 5], (.one 0 1 false (.one 1 1 false (.one 2 1 false (.one 3 2 true (.one 4 2 false (.one 5 2 false .nil)))))), [])], [], [], 21, 0, [], [1]⟩
theorem rover_ok : rover_c.Ok Tryd.prog 58 := by
  refine fn_ok rover_H 0 rfl _ Tryd.func58 rfl rfl ⟨rshared_ok, rcut_ok, trivial⟩ rfl rfl (by kernel_rfl) (fun _ => Nat.le_of_ble_eq_true rfl) ?_
  rintro ⟨p, a, b⟩ hp hr
  try dsimp only [rover_c] at hp
  try simp only [rover_c, Rng, RngL, inR, and_true, true_and] at hr
  have la := list_pos a
  have lb := list_pos b
  have hlen : (a.list ++ b.list).length = a.list.length + b.list.length := List.length_append
  have h0 : (0 : Int).toNat < (a.list ++ b.list).length := by show 0 < _; omega
  have h1 : (((a.list ++ b.list).length : Int) - 1).toNat < (a.list ++ b.list).length := by omega
  have hx : (a.list ++ b.list)[(0 : Int).toNat]'h0 ∈ a.list := app_first _ rfl h0
  have hy : (a.list ++ b.list)[(((a.list ++ b.list).length : Int) - 1).toNat]'h1 ∈ b.list := app_last _ (by omega) h1
  have ho := (over_spec hp hx hy).2
  repeat' (first | (with_reducible refine Unf.h ?_) | fail); all_goals try (conv => whnf)
  refine CutS.auto (I := Unit) (fun _ => True) (fun _ => [(3, .ptr 1 0), (4, .ptr 2 0)]) (fun _ => [(1, .box 25 [.arr8 ((a.list ++ b.list)[(0 : Int).toNat]'h0).1]), (2, .box 25 [.arr8 ((a.list ++ b.list)[(((a.list ++ b.list).length : Int) - 1).toNat]'h1).1]), (0, .box 27 [.int .i64 0, .arr8 zeroH])]) 3 ?_ ?_
  · repeat' (first | (with_reducible first | refine Unf.h ?_ | refine cutK_n ?_) | ((conv => whnf); first | refine Both.mk ?_ ?_ | (refine Side.mk ?_ ?_; focus ((intros; (try simp only [lenS, inR, cutS, loI, hiI] at *); omega))) | (refine Idx.mk ?_ ?_; focus (omega))) | fail); all_goals try (conv => whnf)
    all_goals (refine ⟨(), trivial, ?_⟩)
    all_goals repeat' (first | (with_reducible refine Unf.h ?_) | ((conv => whnf); first | (refine Side.mk ?_ ?_; focus (with_reducible rfl)) | (with_reducible refine Unf.h ?_) | exact True.intro) | fail); all_goals try (conv => whnf)
  · intro _ _
    generalize (a.list ++ b.list)[(0 : Int).toNat]'h0 = x at *
    generalize (a.list ++ b.list)[(((a.list ++ b.list).length : Int) - 1).toNat]'h1 = y at *
    repeat' (first | (with_reducible refine Unf.h ?_) | ((conv => whnf); first | (refine Side.mk ?_ ?_; focus (first | with_reducible rfl | exact True.intro | (simp only [*, ho]; done))) | refine RetE.mk () trivial ?_ | refine Got.mk (fun _ _ => ?_) | refine retK_r ?_ | exact rfl | refine CallS.mk (c := rshared_c) ((x.1, y.1)) ?_ | refine CallS.mk (c := rcut_c) ((x.1, (shared x.1 y.1 : Int))) ?_) | fail); all_goals try (conv => whnf)
/-! how many keys have a 0 behind -/
def rpart_c : Ctr where
  D := Pfx × PT × PT
  pre := fun (p, a, b) => (PT.node p a b).wf
  args := fun (p, a, b) => [.fs 64 eKV (a.list ++ b.list), .agg (ePfx p)]
  res := fun (_, a, _) _ => .int .i64 a.list.length
theorem part_bit {p : Pfx} {a b : PT} (hp : (PT.node p a b).wf) (i : Nat) (h : i < (a.list ++ b.list).length) : bitI ((a.list ++ b.list)[i]).1 p.len = 0 ↔ i < a.list.length := by
  have h0 := hp.1.1.1
  by_cases hi : i < a.list.length
  · rw [List.getElem_append_left hi]
    have := (wf_left hp (List.getElem_mem hi)).2
    have hn : ¬ bitI (a.list[i]).1 p.len = 1 := fun h' => by rw [(bitI_kb h0).1 h'] at this; cases this
    rcases bitI_01 (a.list[i]).1 p.len with e | e
    · simp [e, hi]
    · exact absurd e hn
  · rw [List.getElem_append_right (by omega)]
    have hm := (wf_right hp (List.getElem_mem (show i - a.list.length < b.list.length by rw [List.length_append] at h; omega))).2
    rw [(bitI_kb h0).2 hm]; simp [hi]
def rpart_H : Cfg := ⟨[(57, rbit_c)], [(2, [9, 11], [12], (.one 0 0 false (.one 1 0 false (.one 2 0 false (.one 3 0 false (.one 4 0 false (.one 5 0 false (.one 6 0 false (.one 7 0 false (.one 8 0 false (.one 9 1 false (.one 10 0 false (.one 11 1 false (.one 12 2 false (.one 13 0 false (.one 14 0 false .nil))))))))))))))), [])], [], [], 24, 0, [], []⟩
theorem rpart_ok : rpart_c.Ok Tryd.prog 59 := by
  refine fn_ok rpart_H 0 rfl _ Tryd.func59 rfl rfl ⟨rbit_ok, trivial⟩ rfl rfl (by kernel_rfl) (fun _ => Nat.le_of_ble_eq_true rfl) ?_
  rintro ⟨p, a, b⟩ hp hr
  try dsimp only [rpart_c] at hp
  try simp only [rpart_c, Rng, RngL, inR, and_true, true_and] at hr
  have lb := list_pos b
  have hlen : (a.list ++ b.list).length = a.list.length + b.list.length := List.length_append
  have hbit := part_bit hp
  generalize hl : a.list ++ b.list = l at *
  repeat' (first | (with_reducible refine Unf.h ?_) | fail); all_goals try (conv => whnf)
  refine LoopS.auto (fun i : Nat => i ≤ a.list.length) (fun i => [(5, .int .i64 i)]) (fun _ => [(0, .box 27 (ePfx p))]) (fun i => a.list.length - i) 0 (by omega) ?_ ?_
  · repeat' (first | (with_reducible refine Unf.h ?_) | ((conv => whnf); first | (refine Side.mk ?_ ?_; focus (first | with_reducible rfl | (refine congrArg (SV.int _) ?_; omega))) | (with_reducible refine Unf.h ?_) | exact True.intro) | fail); all_goals try (conv => whnf)
  · intro i hi
    have hic : (i : Int).toNat < l.length := by omega
    have hb := hbit (i : Int).toNat hic
    repeat' (first | (with_reducible first | refine Unf.h ?_ | refine loopK_n ?_) | ((conv => whnf); first | refine Fork.mk (fun h => ?_) (fun h => ?_) | (refine Side.mk ?_ ?_; focus (first | with_reducible rfl | exact True.intro | (refine congrArg (SV.int _) ?_; omega) | (intros; (try simp only [lenS, inR, cutS, loI, hiI] at *); omega) | (simp only [*]; done))) | (refine Idx.mk ?_ ?_; focus (omega)) | refine RetE.mk () trivial ?_ | refine Got.mk (fun _ _ => ?_) | refine retK_r ?_ | exact rfl | refine CallS.mk (c := rbit_c) (((l[(i : Int).toNat]'hic).1, p.len)) ?_) | fail); all_goals try (conv => whnf)
    · have := hb.1 (by assumption)
      refine ⟨i + 1, ⟨by omega, by omega⟩, ?_⟩
      repeat' (first | (with_reducible refine Unf.h ?_) | ((conv => whnf); first | (refine Side.mk ?_ ?_; focus (first | with_reducible rfl | (refine congrArg (SV.int _) ?_; omega))) | (with_reducible refine Unf.h ?_) | exact True.intro) | fail); all_goals try (conv => whnf)
  /-! the root of a list -/
def PT.text : PT → Bs
  | .leaf k v => leafT k v
  | .node p a b => innerT p.len p.bits a.hash b.hash
theorem hash_text (T : PT) : T.hash = sha T.text := by cases T <;> rfl
theorem text_len (T : PT) : T.text.length ≤ 1000000000 := by
  cases T with
  | leaf k v => exact leafT_len k v
  | node p a b => exact innerT_len p.len p.bits a.hash b.hash
def hashO : Option PT → H256
  | none => emptyH
  | some T => T.hash
def rtop_c (n : Nat) : Ctr where
  D := PT
  pre := fun T => T.wf ∧ T.depth ≤ n
  args := fun T => [.fs 64 eKV T.list]
  res := fun T _ => .fs 1 eB T.text
def rroot_c (n : Nat) : Ctr where
  D := Option PT
  pre := fun o => wfO o ∧ depthO o < n
  args := fun o => [.fs 64 eKV (listO o)]
  res := fun o _ => .agg [.arr8 (hashO o)]
def rtop_H (n : Nat): Cfg := ⟨[(28, rleaf_c), (58, rover_c), (59, rpart_c), (18, (rroot_c n)), (29, rinner_c)], [(5, [0], [4, 8, 9], (.one 0 1 false (.one 1 0 false (.one 2 0 false (.one 3 0 false (.one 5 0 false (.one 6 0 false (.one 7 0 false (.one 4 2 true (.one 8 2 true (.one 9 2 false (.one 10 0 false .nil))))))))))), [])], [], [], 27, 0, [], []⟩
theorem rtop_ok (n : Nat) (h : (rroot_c n).Ok Tryd.prog 18): (rtop_c n).Ok Tryd.prog 52 := by
  refine fn_ok (rtop_H n) 0 rfl _ Tryd.func52 rfl rfl ⟨rleaf_ok, rover_ok, rpart_ok, h, rinner_ok, trivial⟩ rfl rfl (by kernel_rfl) (fun _ => Nat.le_of_ble_eq_true rfl) ?_
  intro (T : PT) hp hr
  try dsimp only [rtop_c] at hp
  try simp only [rtop_c, Rng, RngL, inR, and_true, true_and] at hr
  obtain ⟨hw, hd⟩ := hp
  cases T with
  | leaf k v =>
    have e : (PT.leaf k v).list = [(k, v)] := rfl
    have e2 : (PT.leaf k v).text = leafT k v := rfl
    repeat' (first | (with_reducible refine Unf.h ?_) | ((conv => whnf); first | refine Fork.mk (fun h => ?_) (fun h => ?_) | (refine Side.mk ?_ ?_; focus (first | exact True.intro | (simp only [*, e, e2]; done) | (simp [*, e, e2]; done))) | (refine Idx.mk ?_ ?_; focus (omega)) | refine RetE.mk () trivial ?_ | refine Got.mk (fun _ _ => ?_) | refine retK_r ?_ | exact rfl | refine CallS.mk (c := rleaf_c) ((k, v)) ?_) | fail); all_goals try (conv => whnf)
    exact absurd rfl h
  | node p a b =>
    have e : (PT.node p a b).list = a.list ++ b.list := rfl
    rw [e] at hr
    show Vc _ _ _ (argE [.fs 64 eKV (a.list ++ b.list)] 0) _ _ _
    have hlen : (a.list ++ b.list).length = a.list.length + b.list.length := List.length_append
    have la := list_pos a
    have lb := list_pos b
    have h0 := hw.1.1.1
    have h1 := hw.1.2
    have hpa : (rroot_c n).pre (some a) := ⟨hw.2.2.2.1, by simp only [PT.depth] at hd; show a.depth < n; omega⟩
    have hpb : (rroot_c n).pre (some b) := ⟨hw.2.2.2.2, by simp only [PT.depth] at hd; show b.depth < n; omega⟩
    have ca : cutL (a.list ++ b.list) none (some (a.list.length : Int)) = a.list := by simp [cutL, loI, hiI]
    have cb : cutL (a.list ++ b.list) (some (a.list.length : Int)) none = b.list := by simp [cutL, loI, hiI]
    have e2 : (PT.node p a b).text = innerT p.len p.bits a.hash b.hash := rfl
    repeat' (first | (with_reducible refine Unf.h ?_) | ((conv => whnf); first | refine Fork.mk (fun h => ?_) (fun h => ?_) | (refine Side.mk ?_ ?_; focus (first | with_reducible rfl | assumption | (intros; (try simp only [lenS, inR, cutS, loI, hiI] at *); omega))) | (refine Idx.mk ?_ ?_; focus (omega)) | refine Got.mk (fun _ _ => ?_) | refine CallS.mk (c := rover_c) ((p, a, b)) ?_ | refine CallS.mk (c := rpart_c) ((p, a, b)) ?_) | fail); all_goals try (conv => whnf)
    · exfalso; omega
    · refine CallS.mk (c := rroot_c n) (some a) ?_
      repeat' (first | (with_reducible refine Unf.h ?_) | ((conv => whnf); first | (refine Side.mk ?_ ?_; focus (first | assumption | (simp only [*, ca, listO]; done))) | refine Got.mk (fun _ _ => ?_)) | fail); all_goals try (conv => whnf)
      refine CallS.mk (c := rroot_c n) (some b) ?_
      repeat' (first | (with_reducible refine Unf.h ?_) | ((conv => whnf); first | (refine Side.mk ?_ ?_; focus (first | with_reducible rfl | exact True.intro | assumption | (simp only [*, cb, listO, hashO, e2]; done))) | refine RetE.mk () trivial ?_ | refine Got.mk (fun _ _ => ?_) | refine retK_r ?_ | exact rfl | refine CallS.mk (c := rinner_c) ((p.len, p.bits, a.hash, b.hash)) ?_) | fail); all_goals try (conv => whnf)
      all_goals all_goals (conv => whnf)
def rroot_H (n : Nat): Cfg := ⟨[(31, rempty_c), (52, (rtop_c n)), (24, refsum_c)], [], [], [], 10, 0, [], []⟩
theorem rroot_ok (n : Nat) (h : (rtop_c n).Ok Tryd.prog 52): (rroot_c (n + 1)).Ok Tryd.prog 18 := by
  refine fn_ok (rroot_H n) 0 rfl _ Tryd.func18 rfl rfl ⟨rempty_ok, h, refsum_ok, trivial⟩ rfl rfl (by kernel_rfl) (fun _ => Nat.le_of_ble_eq_true rfl) ?_
  intro (o : Option PT) hp hr
  try dsimp only [rroot_c] at hp
  try simp only [rroot_c, Rng, RngL, inR, and_true, true_and] at hr
  obtain ⟨hw, hd⟩ := hp
  cases o with
  | none =>
    repeat' (first | (with_reducible refine Unf.h ?_) | ((conv => whnf); first | refine Fork.mk (fun h => ?_) (fun h => ?_) | (refine Side.mk ?_ ?_; focus (first | exact True.intro | (simp only [*, hashO]; done))) | refine RetE.mk () trivial ?_ | refine Got.mk (fun _ _ => ?_) | refine retK_r ?_ | exact rfl | refine CallS.mk (c := rempty_c) (()) ?_) | fail); all_goals try (conv => whnf)
    exact absurd rfl h
  | some T =>
    have e := hash_text T
    have lt := list_pos T
    have hpre : (rtop_c n).pre T := ⟨hw, by have : T.depth < n + 1 := hd; omega⟩
    have htl := text_len T
    repeat' (first | (with_reducible refine Unf.h ?_) | ((conv => whnf); first | refine Fork.mk (fun h => ?_) (fun h => ?_) | (refine Side.mk ?_ ?_; focus (first | with_reducible rfl | assumption | (simp only [*, hashO, listO, e]; done))) | refine RetE.mk () trivial ?_ | refine Got.mk (fun _ _ => ?_) | refine retK_r ?_ | exact rfl | refine CallS.mk (T) ?_ | refine CallS.mk (c := refsum_c) (T.text) ?_) | fail); all_goals try (conv => whnf)
    have : T.list.length = 0 := by have h' : (T.list.length : Int) = 0 := h; omega
    omega
theorem rroot_all : ∀ n, (rroot_c n).Ok Tryd.prog 18
  | 0 => fun o hp => absurd hp.2 (Nat.not_lt_zero _)
  | n + 1 => rroot_ok n (rtop_ok n (rroot_all n))
theorem rroot1000_ok : (rroot_c 1000).Ok Tryd.prog 18 := rroot_all 1000
end Go.Proofs.YtffaohckcggkdaaDoor

namespace Go.Proofs.YtffaohckcggkdaaDoor
set_option linter.all false
open Go.RowKit
/-! no forest; what is no tree -/
def putN_c : Ctr where
  D := Int × H256 × H256
  args := fun (t, k, v) => [.nilp, .int .i64 t, .agg [.arr8 k], .agg [.arr8 v]]
  res := fun _ _ => .tup [.int .i64 0, .int .i64 1]
def putN_H : Cfg := ⟨[(72, isN_c), (74, path_c), (69, add_c), (75, join_c), (54, bit_c)], [(7, [6, 10, 15, 19, 20], [], (.one 0 0 false (.one 1 0 false (.one 2 0 false (.one 3 0 false (.one 4 0 false (.one 5 0 false (.one 6 1 false (.one 7 0 false (.one 8 0 false (.one 9 0 false (.one 10 1 false (.one 11 0 false (.one 12 0 false (.one 13 0 false (.one 14 0 false (.one 15 1 false (.one 16 0 false (.one 17 0 false (.one 18 0 false (.one 19 1 false (.one 20 1 false (.one 21 0 false (.one 22 0 false (.one 23 0 false (.one 24 0 false .nil))))))))))))))))))))))))), []), (12, [3, 7, 9], [10, 11], (.one 0 0 false (.one 1 0 false (.one 2 0 false (.one 3 1 false (.one 4 0 false (.one 5 0 false (.one 6 0 false (.one 7 1 false (.one 8 0 false (.one 9 1 false (.one 10 2 true (.one 11 2 false .nil)))))))))))), [])], [], [], 101, 0, [], []⟩
theorem putN_ok : putN_c.Ok Tryd.prog 44 := by
  refine fn_ok putN_H 0 rfl _ Tryd.func44 rfl rfl ⟨isN_ok, path_ok, add_ok, join_ok, bit_ok, trivial⟩ rfl rfl (by kernel_rfl) (fun _ => Nat.le_of_ble_eq_true rfl) ?_
  rintro ⟨t, k, v⟩ hp hr
  try dsimp only [putN_c] at hp
  try simp only [putN_c, Rng, RngL, inR, and_true, true_and] at hr
  repeat' (first | (with_reducible refine Unf.h ?_) | ((conv => whnf); first | (refine Side.mk ?_ ?_; focus (first | with_reducible rfl | exact True.intro)) | refine RetE.mk () trivial ?_ | refine Got.mk (fun _ _ => ?_) | refine retK_r ?_ | exact rfl | refine CallS.mk (c := isN_c) (t) ?_) | fail); all_goals try (conv => whnf)
def putX_c : Ctr where
  D := Fo × Int × H256 × H256
  pre := fun (l, t, _, _) => ¬ isT l t
  args := fun (_, t, k, v) => [.ptr 0 0, .int .i64 t, .agg [.arr8 k], .agg [.arr8 v]]
  objs := fun (l, _) => fo l
  nn := 2
  res := fun _ _ => .tup [.int .i64 0, .int .i64 1]
  out := fun (l, _) _ => fo l
def putX_H : Cfg := ⟨[(72, is_c), (74, path_c), (69, add_c), (75, join_c), (54, bit_c)], [(7, [6, 10, 15, 19, 20], [], (.one 0 0 false (.one 1 0 false (.one 2 0 false (.one 3 0 false (.one 4 0 false (.one 5 0 false (.one 6 1 false (.one 7 0 false (.one 8 0 false (.one 9 0 false (.one 10 1 false (.one 11 0 false (.one 12 0 false (.one 13 0 false (.one 14 0 false (.one 15 1 false (.one 16 0 false (.one 17 0 false (.one 18 0 false (.one 19 1 false (.one 20 1 false (.one 21 0 false (.one 22 0 false (.one 23 0 false (.one 24 0 false .nil))))))))))))))))))))))))), []), (12, [3, 7, 9], [10, 11], (.one 0 0 false (.one 1 0 false (.one 2 0 false (.one 3 1 false (.one 4 0 false (.one 5 0 false (.one 6 0 false (.one 7 1 false (.one 8 0 false (.one 9 1 false (.one 10 2 true (.one 11 2 false .nil)))))))))))), [])], [], [], 101, 2, [], []⟩
theorem putX_ok : putX_c.Ok Tryd.prog 44 := by
  refine fn_ok putX_H 2 rfl _ Tryd.func44 rfl rfl ⟨is_ok, path_ok, add_ok, join_ok, bit_ok, trivial⟩ rfl rfl (by kernel_rfl) (fun _ => Nat.le_of_ble_eq_true rfl) ?_
  rintro ⟨l, t, k, v⟩ hp hr
  try dsimp only [putX_c] at hp
  try simp only [putX_c, Rng, RngL, inR, and_true, true_and] at hr
  repeat' (first | (with_reducible refine Unf.h ?_) | ((conv => whnf); first | refine Fork.mkn (fun h => ?_) (fun h => ?_) | (refine Side.mk ?_ ?_; focus (first | with_reducible rfl | exact True.intro)) | refine RetE.mk () trivial ?_ | refine Got.mk (fun _ _ => ?_) | refine retK_r ?_ | exact rfl | refine CallS.mk (c := is_c) ((l, t)) ?_) | fail); all_goals try (conv => whnf)
  exact absurd (show isT l t by assumption) hp
def rootF (l : Fo) (t : Int) : H256 := if t = -1 then emptyH else (nd l t).hash
def root_c : Ctr where
  D := Fo × Int
  pre := fun (l, t) => isT l t
  args := fun (_, t) => [.ptr 0 0, .int .i64 t]
  objs := fun (l, _) => fo l
  nn := 2
  res := fun (l, t) _ => .tup [.agg [.arr8 (rootF l t)], .int .i64 0]
  out := fun (l, _) _ => fo l
def root_H : Cfg := ⟨[(72, is_c), (30, hempty_c)], [], [], [], 24, 2, [], []⟩
theorem root_ok : root_c.Ok Tryd.prog 40 := by
  refine fn_ok root_H 2 rfl _ Tryd.func40 rfl rfl ⟨is_ok, hempty_ok, trivial⟩ rfl rfl (by kernel_rfl) (fun _ => Nat.le_of_ble_eq_true rfl) ?_
  rintro ⟨l, t⟩ hp hr
  try dsimp only [root_c] at hp
  try simp only [root_c, Rng, RngL, inR, and_true, true_and] at hr
  obtain ⟨ht0, ht1⟩ := hp
  repeat' (first | (with_reducible refine Unf.h ?_) | ((conv => whnf); first | refine Fork.mkn (fun h => ?_) (fun h => ?_) | refine Fork.mk (fun h => ?_) (fun h => ?_) | (refine Side.mk ?_ ?_; focus (first | with_reducible rfl | exact True.intro | omega)) | (refine Idx.mk ?_ ?_; focus (omega)) | refine RetE.mk () trivial ?_ | refine Got.mk (fun _ _ => ?_) | refine retK_r ?_ | exact rfl | refine CallS.mk (c := is_c) ((l, t)) ?_ | refine CallS.mk (c := hempty_c) (()) ?_) | fail); all_goals try (conv => whnf)
  · refine Side.mk (congrArg SV.arr8 (if_pos h).symm) (by repeat' (first | (with_reducible refine Unf.h ?_) | ((conv => whnf); first | (refine Side.mk ?_ ?_; focus (with_reducible rfl)) | exact rfl) | fail); all_goals try (conv => whnf))
  · refine Side.mk (congrArg SV.arr8 ?_) (by repeat' (first | (with_reducible refine Unf.h ?_) | ((conv => whnf); first | (refine Side.mk ?_ ?_; focus (with_reducible rfl)) | exact rfl) | fail); all_goals try (conv => whnf))
    rw [nd_get l t (by omega) (by omega)]
    exact (if_neg h).symm
def rootX_c : Ctr where
  D := Fo × Int
  pre := fun (l, t) => ¬ isT l t
  args := fun (_, t) => [.ptr 0 0, .int .i64 t]
  objs := fun (l, _) => fo l
  nn := 2
  res := fun _ _ => .tup [.agg [.arr8 zeroH], .int .i64 1]
  out := fun (l, _) _ => fo l
def rootX_H : Cfg := ⟨[(72, is_c), (30, hempty_c)], [], [], [], 24, 2, [], []⟩
theorem rootX_ok : rootX_c.Ok Tryd.prog 40 := by
  refine fn_ok rootX_H 2 rfl _ Tryd.func40 rfl rfl ⟨is_ok, hempty_ok, trivial⟩ rfl rfl (by kernel_rfl) (fun _ => Nat.le_of_ble_eq_true rfl) ?_
  rintro ⟨l, t⟩ hp hr
  try dsimp only [rootX_c] at hp
  try simp only [rootX_c, Rng, RngL, inR, and_true, true_and] at hr
  repeat' (first | (with_reducible refine Unf.h ?_) | ((conv => whnf); first | refine Fork.mkn (fun h => ?_) (fun h => ?_) | refine Fork.mk (fun h => ?_) (fun h => ?_) | (refine Side.mk ?_ ?_; focus (first | with_reducible rfl | exact True.intro | omega)) | (refine Idx.mk ?_ ?_; focus (omega)) | refine RetE.mk () trivial ?_ | refine Got.mk (fun _ _ => ?_) | refine retK_r ?_ | exact rfl | refine CallS.mk (c := is_c) ((l, t)) ?_) | fail); all_goals try (conv => whnf)
  all_goals exact absurd (show isT l t by assumption) hp
def rootN_c : Ctr where
  D := Int
  args := fun t => [.nilp, .int .i64 t]
  res := fun _ _ => .tup [.agg [.arr8 zeroH], .int .i64 1]
def rootN_H : Cfg := ⟨[(72, isN_c), (30, hempty_c)], [], [], [], 24, 0, [], []⟩
theorem rootN_ok : rootN_c.Ok Tryd.prog 40 := by
  refine fn_ok rootN_H 0 rfl _ Tryd.func40 rfl rfl ⟨isN_ok, hempty_ok, trivial⟩ rfl rfl (by kernel_rfl) (fun _ => Nat.le_of_ble_eq_true rfl) ?_
  intro (t : Int) hp hr
  try dsimp only [rootN_c] at hp
  try simp only [rootN_c, Rng, RngL, inR, and_true, true_and] at hr
  repeat' (first | (with_reducible refine Unf.h ?_) | ((conv => whnf); first | (refine Side.mk ?_ ?_; focus (first | with_reducible rfl | exact True.intro)) | refine RetE.mk () trivial ?_ | refine Got.mk (fun _ _ => ?_) | refine retK_r ?_ | exact rfl | refine CallS.mk (c := isN_c) (t) ?_) | fail); all_goals try (conv => whnf)
def getN_c : Ctr where
  D := Int × H256
  args := fun (t, k) => [.nilp, .int .i64 t, .agg [.arr8 k]]
  res := fun _ _ => .tup [.agg [.arr8 zeroH], .bool false]
def getN_H : Cfg := ⟨[(72, isN_c), (74, path_c)], [(4, [6, 10, 16, 20, 21], [], (.one 0 0 false (.one 1 0 false (.one 2 0 false (.one 3 0 false (.one 4 0 false (.one 5 0 false (.one 6 1 false (.one 7 0 false (.one 8 0 false (.one 9 0 false (.one 10 1 false (.one 11 0 false (.one 12 0 false (.one 13 0 false (.one 14 0 false (.one 15 0 false (.one 16 1 false (.one 17 0 false (.one 18 0 false (.one 19 0 false (.one 20 1 false (.one 21 1 false (.one 22 0 false (.one 23 0 false .nil)))))))))))))))))))))))), [])], [], [], 55, 0, [], []⟩
theorem getN_ok : getN_c.Ok Tryd.prog 45 := by
  refine fn_ok getN_H 0 rfl _ Tryd.func45 rfl rfl ⟨isN_ok, path_ok, trivial⟩ rfl rfl (by kernel_rfl) (fun _ => Nat.le_of_ble_eq_true rfl) ?_
  rintro ⟨t, k⟩ hp hr
  try dsimp only [getN_c] at hp
  try simp only [getN_c, Rng, RngL, inR, and_true, true_and] at hr
  repeat' (first | (with_reducible refine Unf.h ?_) | ((conv => whnf); first | (refine Side.mk ?_ ?_; focus (first | with_reducible rfl | exact True.intro)) | refine RetE.mk () trivial ?_ | refine Got.mk (fun _ _ => ?_) | refine retK_r ?_ | exact rfl | refine CallS.mk (c := isN_c) (t) ?_) | fail); all_goals try (conv => whnf)
def addN_c : Ctr where
  D := Nd
  args := fun n => [.nilp, .agg (eNd n)]
  res := fun _ _ => .tup [.int .i64 0, .int .i64 1]
def addN_H : Cfg := ⟨[(68, under_c), (69, add_c)], [], [], [], 40, 0, [], []⟩
theorem addN_ok : addN_c.Ok Tryd.prog 35 := by
  refine fn_ok addN_H 0 rfl _ Tryd.func35 rfl rfl ⟨under_ok, add_ok, trivial⟩ rfl rfl (by kernel_rfl) (fun _ => Nat.le_of_ble_eq_true rfl) ?_
  intro (n : Nd) hp hr
  try dsimp only [addN_c] at hp
  try simp only [addN_c, Rng, RngL, inR, and_true, true_and] at hr
  repeat' (first | (with_reducible refine Unf.h ?_) | ((conv => whnf); first | (refine Side.mk ?_ ?_; focus (with_reducible rfl)) | refine RetE.mk () trivial ?_ | refine retK_r ?_ | exact rfl) | fail); all_goals try (conv => whnf)
def listN_c : Ctr where
  D := Int
  args := fun t => [.nilp, .int .i64 t]
  res := fun _ _ => .nils
def listN_H : Cfg := ⟨[(72, isN_c)], [], [], [], 28, 0, [], []⟩
theorem listN_ok : listN_c.Ok Tryd.prog 43 := by
  refine fn_ok listN_H 0 rfl _ Tryd.func43 rfl rfl ⟨isN_ok, trivial⟩ rfl rfl (by kernel_rfl) (fun _ => Nat.le_of_ble_eq_true rfl) ?_
  intro (t : Int) hp hr
  try dsimp only [listN_c] at hp
  try simp only [listN_c, Rng, RngL, inR, and_true, true_and] at hr
  repeat' (first | (with_reducible refine Unf.h ?_) | ((conv => whnf); first | (refine Side.mk ?_ ?_; focus (first | with_reducible rfl | exact True.intro | (dsimp only [resS, listN_c]; done))) | refine RetE.mk () trivial ?_ | refine Got.mk (fun _ _ => ?_) | refine retK_r ?_ | exact rfl | refine CallS.mk (c := isN_c) (t) ?_) | fail); all_goals try (conv => whnf)
end Go.Proofs.YtffaohckcggkdaaDoor

namespace Go.Proofs.YtffaohckcggkdaaDoor
set_option linter.all false
open Go.RowKit
/-! proofs: their texts -/
structure Stp where
  len : Int
  bits : H256
  other : H256
def eStp (s : Stp) : List SV := [.int .i64 s.len, .arr8 s.bits, .arr8 s.other]
def Stp.pfx (s : Stp) : Pfx := ⟨s.len, s.bits⟩
structure Prf where
  steps : List Stp
  fin : Int
  key : H256
  value : H256
  plen : Int
  bits : H256
  left : H256
  right : H256
def ePrf (p : Prf) : List SV := [.fs 65 eStp p.steps, .int .i64 p.fin, .arr8 p.key, .arr8 p.value, .int .i64 p.plen, .arr8 p.bits, .arr8 p.left, .arr8 p.right]
def Prf.pfx (p : Prf) : Pfx := ⟨p.plen, p.bits⟩
def finOk (p : Prf) : Prop := 0 ≤ p.fin ∧ p.fin ≤ 2
instance (p : Prf) : Decidable (finOk p) := inferInstanceAs (Decidable (_ ∧ _))
def endT (p : Prf) : Bs := if p.fin = 0 then txt 101#8 [] else if p.fin = 1 then leafT p.key p.value else innerT p.plen p.bits p.left p.right
def stepT (k : H256) (s : Stp) (t : Bs) : Bs := if bitI k s.len = 1 then innerT s.len s.bits s.other (sha t) else innerT s.len s.bits (sha t) s.other
def topT (p : Prf) (k : H256) : List Stp → Bs
  | [] => endT p
  | s :: r => stepT k s (topT p k r)
def txsT (p : Prf) (k : H256) : List Stp → List Bs
  | [] => [endT p]
  | s :: r => txsT p k r ++ [stepT k s (topT p k r)]
theorem txsT_len (p : Prf) (k : H256) : ∀ l : List Stp, (txsT p k l).length = l.length + 1
  | [] => rfl
  | s :: r => by simp [txsT, txsT_len p k r]
theorem txsT_last (p : Prf) (k : H256) : ∀ l : List Stp, (txsT p k l)[l.length]? = some (topT p k l)
  | [] => rfl
  | s :: r => by
    unfold txsT
    rw [List.getElem?_append_right (by rw [txsT_len]; simp), txsT_len]; simp [topT]
theorem endT_len (p : Prf) : (endT p).length ≤ 1000000000 := by
  unfold endT; split
  · exact txt_small _ _ (by simp) (by simp)
  · split
    · exact leafT_len _ _
    · exact innerT_len _ _ _ _
theorem topT_len (p : Prf) (k : H256) : ∀ l : List Stp, (topT p k l).length ≤ 1000000000
  | [] => endT_len p
  | s :: r => by
    unfold topT stepT; split <;> exact innerT_len _ _ _ _
def pinner_c : Ctr where
  D := Int × H256 × H256 × H256
  args := fun (n, b, l, r) => [.agg [.int .i64 n, .arr8 b], .agg [.arr8 l], .agg [.arr8 r]]
  res := fun _ _ => .own 0
  out := fun (n, b, l, r) _ => [(0, .row 5 1 eB (innerT n b l r))]
  mm := 1
def pinner_H : Cfg := ⟨[(27, ttext_c)], [], [], [], 12, 0, [], []⟩
theorem pinner_ok : pinner_c.Ok Tryd.prog 55 := by
  refine fn_ok pinner_H 0 rfl _ Tryd.func55 rfl rfl ⟨ttext_ok, trivial⟩ rfl rfl (by kernel_rfl) (fun _ => Nat.le_of_ble_eq_true rfl) ?_
  rintro ⟨n, b, l, r⟩ hp hr
  try dsimp only [pinner_c] at hp
  try simp only [pinner_c, Rng, RngL, inR, and_true, true_and] at hr
  have e : ndT ⟨false, zeroH, zeroH, n, b, 0, 0, zeroH⟩ l r = innerT n b l r := rfl
  repeat' (first | (with_reducible refine Unf.h ?_) | ((conv => whnf); first | (refine Side.mk ?_ ?_; focus (first | with_reducible rfl | exact True.intro | (simp only [*, e]; done))) | refine RetE.mk () trivial ?_ | refine Got.mk (fun _ _ => ?_) | refine retK_r ?_ | exact rfl | refine CallS.mk (c := ttext_c) ((⟨false, zeroH, zeroH, n, b, 0, 0, zeroH⟩, l, r)) ?_) | fail); all_goals try (conv => whnf)
def resT (p : Prf) : Bs := if finOk p then endT p else []
theorem resT_0 {p : Prf} (h : p.fin = 0) : resT p = txt 101#8 [] := by unfold resT endT; rw [if_pos ⟨by omega, by omega⟩, if_pos h]
theorem resT_1 {p : Prf} (h : p.fin = 1) : resT p = leafT p.key p.value := by unfold resT endT; rw [if_pos ⟨by omega, by omega⟩, if_neg (by omega), if_pos h]
theorem resT_2 {p : Prf} (h : p.fin = 2) : resT p = innerT p.plen p.bits p.left p.right := by unfold resT endT; rw [if_pos ⟨by omega, by omega⟩, if_neg (by omega), if_neg (by omega)]
theorem resT_3 {p : Prf} (h : ¬ finOk p) : resT p = [] := if_neg h
def pend_c : Ctr where
  D := Prf
  args := fun p => [.agg (ePrf p)]
  res := fun p _ => .tup [.fs 1 eB (resT p), .dec (finOk p) inferInstance]
def pend_H : Cfg := ⟨[(64, htext_c), (27, ttext_c), (55, pinner_c)], [], [], [], 28, 0, [], []⟩
theorem pend_ok : pend_c.Ok Tryd.prog 53 := by
  refine fn_ok pend_H 0 rfl _ Tryd.func53 rfl rfl ⟨htext_ok, ttext_ok, pinner_ok, trivial⟩ rfl rfl (by kernel_rfl) (fun _ => Nat.le_of_ble_eq_true rfl) ?_
  intro (p : Prf) hp hr
  try dsimp only [pend_c] at hp
  try simp only [pend_c, Rng, RngL, inR, and_true, true_and] at hr
  have et : ndT ⟨true, p.key, p.value, 0, zeroH, 0, 0, zeroH⟩ zeroH zeroH = leafT p.key p.value := rfl
  have hpre : htext_c.pre (101#8, []) := ⟨by simp, by simp⟩
  repeat' (first | (with_reducible refine Unf.h ?_) | ((conv => whnf); first | refine Fork.mk (fun h => ?_) (fun h => ?_) | (refine Side.mk ?_ ?_; focus (first | with_reducible rfl | exact True.intro | assumption)) | refine RetE.mk () trivial ?_ | refine Got.mk (fun _ _ => ?_) | refine retK_r ?_ | refine CallS.mk (c := htext_c) ((101#8, [])) ?_ | refine CallS.mk (c := ttext_c) ((⟨true, p.key, p.value, 0, zeroH, 0, 0, zeroH⟩, zeroH, zeroH)) ?_ | refine CallS.mk (c := pinner_c) ((p.plen, p.bits, p.left, p.right)) ?_) | fail); all_goals try (conv => whnf)
  · refine Side.mk (by rw [resT_0 h]) ?_
    repeat' (first | (with_reducible refine Unf.h ?_) | fail); all_goals try (conv => whnf)
    refine Side.mk (iffT ⟨by omega, by omega⟩) ?_
    repeat' (first | (with_reducible refine Unf.h ?_) | ((conv => whnf); exact rfl) | fail); all_goals try (conv => whnf)
  · refine Side.mk (by rw [resT_1 h]; rfl) ?_
    repeat' (first | (with_reducible refine Unf.h ?_) | fail); all_goals try (conv => whnf)
    refine Side.mk (iffT ⟨by omega, by omega⟩) ?_
    repeat' (first | (with_reducible refine Unf.h ?_) | ((conv => whnf); exact rfl) | fail); all_goals try (conv => whnf)
  · refine Side.mk (by rw [resT_2 h]) ?_
    repeat' (first | (with_reducible refine Unf.h ?_) | fail); all_goals try (conv => whnf)
    refine Side.mk (iffT ⟨by omega, by omega⟩) ?_
    repeat' (first | (with_reducible refine Unf.h ?_) | ((conv => whnf); exact rfl) | fail); all_goals try (conv => whnf)
  · have hn : ¬ finOk p := fun h' => by have := h'.1; have := h'.2; omega
    have e : resT p = [] := resT_3 hn
    repeat' (first | (with_reducible refine Unf.h ?_) | ((conv => whnf); first | (refine Side.mk ?_ ?_; focus (first | assumption | (simp [*, e]; done))) | exact rfl) | fail); all_goals try (conv => whnf)
end Go.Proofs.YtffaohckcggkdaaDoor

namespace Go.Proofs.YtffaohckcggkdaaDoor
set_option linter.all false
open Go.RowKit
/-! a forest that nobody writes any more -/
abbrev ff (l : Fo) : SV := .fpt [.fs 132 eNd l]
def sizeF_c : Ctr where
  D := Fo
  args := fun l => [ff l]
  res := fun l _ => .int .i64 l.length
def sizeF_H : Cfg := ⟨[], [], [], [], 10, 0, [], []⟩
theorem sizeF_ok : sizeF_c.Ok Tryd.prog 33 := by
  refine fn_ok sizeF_H 0 rfl _ Tryd.func33 rfl rfl trivial rfl rfl (by kernel_rfl) (fun _ => Nat.le_of_ble_eq_true rfl) ?_
  intro (l : Fo) hp hr
  try dsimp only [sizeF_c] at hp
  try simp only [sizeF_c, Rng, RngL, inR, and_true, true_and] at hr
  repeat' (first | (with_reducible refine Unf.h ?_) | ((conv => whnf); first | (refine Side.mk ?_ ?_; focus ((refine congrArg (SV.int _) ?_; omega))) | refine RetE.mk () trivial ?_ | refine retK_r ?_ | exact rfl) | fail); all_goals try (conv => whnf)
def nodeF_c : Ctr where
  D := Fo × Int × Nd
  pre := fun (l, i, n) => inF l i ∧ nd l i = n
  args := fun (l, i, _) => [ff l, .int .i64 i]
  res := fun (_, _, n) _ => .tup [.agg (eNd n), .bool true]
def nodeF_H : Cfg := ⟨[(33, sizeF_c)], [], [], [], 22, 0, [], []⟩
theorem nodeF_ok : nodeF_c.Ok Tryd.prog 34 := by
  refine fn_ok nodeF_H 0 rfl _ Tryd.func34 rfl rfl ⟨sizeF_ok, trivial⟩ rfl rfl (by kernel_rfl) (fun _ => Nat.le_of_ble_eq_true rfl) ?_
  rintro ⟨l, i, n⟩ hp hr
  try dsimp only [nodeF_c] at hp
  try simp only [nodeF_c, Rng, RngL, inR, and_true, true_and] at hr
  obtain ⟨⟨h0, h1⟩, hn⟩ := hp
  have e := (nd_get l i (by omega) (by omega)).trans hn
  repeat' (first | (with_reducible refine Unf.h ?_) | ((conv => whnf); first | refine Fork.mk (fun h => ?_) (fun h => ?_) | (refine Side.mk ?_ ?_; focus (first | with_reducible rfl | exact True.intro | omega | (simp only [*, e]; done))) | (refine Idx.mk ?_ ?_; focus (omega)) | refine RetE.mk () trivial ?_ | refine Got.mk (fun _ _ => ?_) | refine retK_r ?_ | exact rfl | refine CallS.mk (c := sizeF_c) (l) ?_) | fail); all_goals try (conv => whnf)
def nodeXF_c : Ctr where
  D := Fo × Int
  pre := fun (l, i) => ¬ inF l i
  args := fun (l, i) => [ff l, .int .i64 i]
  res := fun _ _ => .tup [.agg (eNd zeroN), .bool false]
def nodeXF_H : Cfg := ⟨[(33, sizeF_c)], [], [], [], 22, 0, [], []⟩
theorem nodeXF_ok : nodeXF_c.Ok Tryd.prog 34 := by
  refine fn_ok nodeXF_H 0 rfl _ Tryd.func34 rfl rfl ⟨sizeF_ok, trivial⟩ rfl rfl (by kernel_rfl) (fun _ => Nat.le_of_ble_eq_true rfl) ?_
  rintro ⟨l, i⟩ hp hr
  try dsimp only [nodeXF_c] at hp
  try simp only [nodeXF_c, Rng, RngL, inR, and_true, true_and] at hr
  repeat' (first | (with_reducible refine Unf.h ?_) | ((conv => whnf); first | refine Fork.mk (fun h => ?_) (fun h => ?_) | (refine Side.mk ?_ ?_; focus (first | with_reducible rfl | exact True.intro | (simp only [*, zeroN]; done))) | (refine Idx.mk ?_ ?_; focus (omega)) | refine RetE.mk () trivial ?_ | refine Got.mk (fun _ _ => ?_) | refine retK_r ?_ | exact rfl | refine CallS.mk (c := sizeF_c) (l) ?_) | fail); all_goals try (conv => whnf)
  exact absurd (show inF l i from ⟨by omega, by omega⟩) hp
def nodeHashF_c : Ctr where
  D := Fo × Int × H256
  pre := fun (l, i, h) => inF l i ∧ (nd l i).hash = h
  args := fun (l, i, _) => [ff l, .int .i64 i]
  res := fun (_, _, h) _ => .agg [.arr8 h]
def nodeHashF_H : Cfg := ⟨[(34, nodeF_c)], [], [], [], 15, 0, [], []⟩
theorem nodeHashF_ok : nodeHashF_c.Ok Tryd.prog 77 := by
  refine fn_ok nodeHashF_H 0 rfl _ Tryd.func77 rfl rfl ⟨nodeF_ok, trivial⟩ rfl rfl (by kernel_rfl) (fun _ => Nat.le_of_ble_eq_true rfl) ?_
  rintro ⟨l, i, n⟩ hp hr
  try dsimp only [nodeHashF_c] at hp
  try simp only [nodeHashF_c, Rng, RngL, inR, and_true, true_and] at hr
  obtain ⟨h0, hn⟩ := hp
  have hpre : nodeF_c.pre (l, i, nd l i) := ⟨h0, rfl⟩
  repeat' (first | (with_reducible refine Unf.h ?_) | ((conv => whnf); first | (refine Side.mk ?_ ?_; focus (first | with_reducible rfl | assumption | (simp only [*, hn]; done))) | refine RetE.mk () trivial ?_ | refine Got.mk (fun _ _ => ?_) | refine retK_r ?_ | exact rfl | refine CallS.mk (c := nodeF_c) ((l, i, nd l i)) ?_) | fail); all_goals try (conv => whnf)
def isF_c : Ctr where
  D := Fo × Int
  args := fun (l, i) => [ff l, .int .i64 i]
  res := fun (l, i) _ => .dec (-1 ≤ i ∧ i < l.length) inferInstance
def isF_H : Cfg := ⟨[], [], [], [], 20, 0, [], []⟩
theorem isF_ok : isF_c.Ok Tryd.prog 72 := by
  refine fn_ok isF_H 0 rfl _ Tryd.func72 rfl rfl trivial rfl rfl (by kernel_rfl) (fun _ => Nat.le_of_ble_eq_true rfl) ?_
  rintro ⟨l, i⟩ hp hr
  try dsimp only [isF_c] at hp
  try simp only [isF_c, Rng, RngL, inR, and_true, true_and] at hr
  repeat' (first | (with_reducible refine Unf.h ?_) | ((conv => whnf); first | refine Fork.mk (fun h => ?_) (fun h => ?_) | (refine Side.mk ?_ ?_; focus (first | omega | (refine ⟨fun h => ?_, fun h => ?_⟩ <;> first | rfl | (cases h; done) | omega | (exfalso; omega) | (simp only [Bool.false_eq_true] at h; done)))) | refine RetE.mk () trivial ?_ | refine retK_r ?_ | exact rfl) | fail); all_goals try (conv => whnf)
def rootZ_c : Ctr where
  D := Fo × Int
  pre := fun (l, t) => isT l t
  args := fun (l, t) => [ff l, .int .i64 t]
  res := fun (l, t) _ => .tup [.agg [.arr8 (rootF l t)], .int .i64 0]
def rootZ_H : Cfg := ⟨[(72, isF_c), (30, hempty_c)], [], [], [], 24, 0, [], []⟩
theorem rootZ_ok : rootZ_c.Ok Tryd.prog 40 := by
  refine fn_ok rootZ_H 0 rfl _ Tryd.func40 rfl rfl ⟨isF_ok, hempty_ok, trivial⟩ rfl rfl (by kernel_rfl) (fun _ => Nat.le_of_ble_eq_true rfl) ?_
  rintro ⟨l, t⟩ hp hr
  try dsimp only [rootZ_c] at hp
  try simp only [rootZ_c, Rng, RngL, inR, and_true, true_and] at hr
  obtain ⟨ht0, ht1⟩ := hp
  repeat' (first | (with_reducible refine Unf.h ?_) | ((conv => whnf); first | refine Fork.mkn (fun h => ?_) (fun h => ?_) | refine Fork.mk (fun h => ?_) (fun h => ?_) | (refine Side.mk ?_ ?_; focus (first | with_reducible rfl | exact True.intro | omega)) | (refine Idx.mk ?_ ?_; focus (omega)) | refine RetE.mk () trivial ?_ | refine Got.mk (fun _ _ => ?_) | refine retK_r ?_ | exact rfl | refine CallS.mk (c := isF_c) ((l, t)) ?_ | refine CallS.mk (c := hempty_c) (()) ?_) | fail); all_goals try (conv => whnf)
  · refine Side.mk (congrArg SV.arr8 (if_pos h).symm) (by repeat' (first | (with_reducible refine Unf.h ?_) | ((conv => whnf); first | (refine Side.mk ?_ ?_; focus (with_reducible rfl)) | exact rfl) | fail); all_goals try (conv => whnf))
  · refine Side.mk (congrArg SV.arr8 ?_) (by repeat' (first | (with_reducible refine Unf.h ?_) | ((conv => whnf); first | (refine Side.mk ?_ ?_; focus (with_reducible rfl)) | exact rfl) | fail); all_goals try (conv => whnf))
    rw [nd_get l t (by omega) (by omega)]
    exact (if_neg h).symm
def pathF_c : Ctr where
  D := Fo × Int × H256
  pre := fun (l, t, _) => l.length ≤ 10000000 ∧ closed l ∧ isT l t
  args := fun (l, t, k) => [ff l, .int .i64 t, .agg [.arr8 k]]
  res := fun (l, t, k) _ => .tup [.fs 1 eI (path l k t).1, .int .i64 (path l k t).2]
def pathF_H : Cfg := ⟨[(76, holds_c), (54, bit_c)], [(2, [6, 10, 17, 21, 22], [23], (.one 0 0 false (.one 1 0 false (.one 2 0 false (.one 3 0 false (.one 4 0 false (.one 5 0 false (.one 6 1 false (.one 7 0 false (.one 8 0 false (.one 9 0 false (.one 10 1 false (.one 11 0 false (.one 12 0 false (.one 13 0 false (.one 14 0 false (.one 15 0 false (.one 16 0 false (.one 17 1 false (.one 18 0 false (.one 19 0 false (.one 20 0 false (.one 21 1 false (.one 22 1 false (.one 23 2 false (.one 24 0 false .nil))))))))))))))))))))))))), [])], [], [], 58, 0, [], []⟩
theorem pathF_ok : pathF_c.Ok Tryd.prog 74 := by
  refine fn_ok pathF_H 0 rfl _ Tryd.func74 rfl rfl ⟨holds_ok, bit_ok, trivial⟩ rfl rfl (by kernel_rfl) (fun _ => Nat.le_of_ble_eq_true rfl) ?_
  rintro ⟨l, t, k⟩ hp hr
  try dsimp only [pathF_c] at hp
  try simp only [pathF_c, Rng, RngL, inR, and_true, true_and] at hr
  obtain ⟨hlen, hc, ht⟩ := hp
  repeat' (first | (with_reducible refine Unf.h ?_) | fail); all_goals try (conv => whnf)
  refine LoopS.autoN (I := Int × List Int) (fun p => isT l p.1 ∧ p.2.length + (path l k p.1).1.length ≤ 10000001 ∧ p.2 ++ (path l k p.1).1 = (path l k t).1 ∧ (path l k p.1).2 = (path l k t).2) (fun p => [(1, .int .i64 p.1), (8, .own 1)]) (fun p => [(0, .box 25 [.arr8 k]), (1, .row 3 1 eI p.2)]) 2 (fun p => (p.1 + 1).toNat) (t, []) ⟨ht, ?_, rfl, rfl⟩ ?_ ?_
  · have := path_len (l := l) (k := k) _ t (Nat.le_refl _)
    have := ht.2
    simp only [List.length_nil]; omega
  · repeat' (first | (with_reducible refine Unf.h ?_) | ((conv => whnf); first | (refine Side.mk ?_ ?_; focus (with_reducible rfl)) | (with_reducible refine Unf.h ?_) | exact True.intro) | fail); all_goals try (conv => whnf)
  · intro p hq
    obtain ⟨hp1, hpl, hp2, hp3⟩ := hq
    have hp0 := hp1.1
    have hpn := hp1.2
    repeat' (first | (with_reducible refine Unf.h ?_) | ((conv => whnf); first | refine Fork.mkn (fun h => ?_) (fun h => ?_) | (refine Idx.mk ?_ ?_; focus (omega)) | refine RetE.mk () trivial ?_ | refine retK_r ?_) | fail); all_goals try (conv => whnf)
    · have hin : p.1.toNat < l.length := by omega
      have en := nd_get l p.1 (by omega) hin
      cases hb : (l[p.1.toNat]'hin).leaf
      · rw [en] at hb
        repeat' (first | (with_reducible refine Unf.h ?_) | ((conv => whnf); first | refine Fork.mk (fun h => ?_) (fun h => ?_) | (refine Side.mk ?_ ?_; focus (first | with_reducible rfl | exact True.intro | (intros; (try simp only [lenS, inR, cutS, loI, hiI, en, Nd.pfx] at *); omega) | (simp only [*, en, Nd.pfx]; done))) | (refine Idx.mk ?_ ?_; focus (omega)) | refine RetE.mk () trivial ?_ | refine Got.mk (fun _ _ => ?_) | refine Ex.mk [_] rfl ?_ | (with_reducible refine Unf.h ?_) | refine retK_r ?_ | refine CallS.mk (c := holds_c) (((nd l p.1).pfx, k)) ?_) | fail); all_goals try (conv => whnf)
        · have hg : goes l k p.1 := ⟨by assumption, hb, h⟩
          have hx := nxt_ok hc hp1 hg
          have hgo := path_go hc hp1 hg
          rw [hgo] at hp2 hp3 hpl
          simp only [List.length_cons] at hpl
          have hnew : (nxt l k p.1 + 1).toNat < (p.1 + 1).toNat ∧ isT l (nxt l k p.1) ∧ (p.2 ++ [p.1]).length + (path l k (nxt l k p.1)).1.length ≤ 10000001 ∧ (p.2 ++ [p.1]) ++ (path l k (nxt l k p.1)).1 = (path l k t).1 ∧ (path l k (nxt l k p.1)).2 = (path l k t).2 :=
            ⟨by omega, ⟨by omega, by omega⟩, by simp only [List.length_append, List.length_cons, List.length_nil]; omega, by rw [← hp2]; simp, hp3⟩
          refine CallS.mk (c := bit_c) ((k, (nd l p.1).plen)) ?_
          repeat' (first | (with_reducible first | refine Unf.h ?_ | refine loopK_n ?_) | ((conv => whnf); first | refine Fork.mk (fun h => ?_) (fun h => ?_) | (refine Side.mk ?_ ?_; focus (first | with_reducible rfl | exact True.intro | (simp only [*, en]; done))) | refine Got.mk (fun _ _ => ?_)) | fail); all_goals try (conv => whnf)
          · have hn : nxt l k p.1 = (nd l p.1).right := if_pos h
            refine ⟨(nxt l k p.1, p.2 ++ [p.1]), hnew, ?_⟩
            repeat' (first | (with_reducible refine Unf.h ?_) | ((conv => whnf); first | (refine Side.mk ?_ ?_; focus (first | with_reducible rfl | (simp only [*, hn, en]; done))) | (with_reducible refine Unf.h ?_) | exact True.intro) | fail); all_goals try (conv => whnf)
          · have hn : nxt l k p.1 = (nd l p.1).left := if_neg h
            refine ⟨(nxt l k p.1, p.2 ++ [p.1]), hnew, ?_⟩
            repeat' (first | (with_reducible refine Unf.h ?_) | ((conv => whnf); first | (refine Side.mk ?_ ?_; focus (first | with_reducible rfl | (simp only [*, hn, en]; done))) | (with_reducible refine Unf.h ?_) | exact True.intro) | fail); all_goals try (conv => whnf)
        · have hg : ¬ goes l k p.1 := fun h' => h h'.2.2
          rw [path_stop hg] at hp2 hp3
          simp only [List.append_nil] at hp2
          repeat' (first | (with_reducible refine Unf.h ?_) | ((conv => whnf); first | (refine Side.mk ?_ ?_; focus (first | (refine congrArg (SV.int _) ?_; omega) | (simp only [*, hp2, hp3]; done))) | exact rfl) | fail); all_goals try (conv => whnf)
      · rw [en] at hb
        have hg : ¬ goes l k p.1 := fun h' => by rw [h'.2.1] at hb; cases hb
        rw [path_stop hg] at hp2 hp3
        simp only [List.append_nil] at hp2
        repeat' (first | (with_reducible refine Unf.h ?_) | ((conv => whnf); first | (refine Side.mk ?_ ?_; focus (first | (refine congrArg (SV.int _) ?_; omega) | (simp only [*, hp2, hp3]; done))) | refine RetE.mk () trivial ?_ | (with_reducible refine Unf.h ?_) | refine retK_r ?_ | exact rfl) | fail); all_goals try (conv => whnf)
    · have hg : ¬ goes l k p.1 := fun h' => h'.1 h
      rw [path_stop hg] at hp2 hp3
      simp only [List.append_nil] at hp2
      clear h
      repeat' (first | (with_reducible refine Unf.h ?_) | ((conv => whnf); first | (refine Side.mk ?_ ?_; focus (first | (refine congrArg (SV.int _) ?_; omega) | (simp only [*, hp2, hp3]; done))) | exact rfl) | fail); all_goals try (conv => whnf)
end Go.Proofs.YtffaohckcggkdaaDoor

namespace Go.Proofs.YtffaohckcggkdaaDoor
set_option linter.all false
open Go.RowKit
/-! proofs: what fits, and what is right -/
def okT (p : Prf) (k : H256) : List Bs := if finOk p then txsT p k p.steps else []
def ptexts_c : Ctr where
  D := Prf × H256
  pre := fun (p, _) => p.steps.length ≤ 100000
  args := fun (p, k) => [.agg (ePrf p), .agg [.arr8 k]]
  res := fun (p, k) _ => .fs 1 eP (okT p k)
theorem drop_at {α : Type} (l : List α) (n : Nat) (h : n < l.length) : l.drop n = l[n] :: l.drop (n + 1) := List.drop_eq_getElem_cons h
def ptexts_H : Cfg := ⟨[(53, pend_c), (51, sum_c), (54, bit_c), (55, pinner_c)], [(8, [3, 6], [1, 7, 8, 9, 10], (.one 0 0 false (.one 2 0 false (.one 3 1 false (.one 4 0 false (.one 5 0 false (.one 6 1 false (.alt 1 true (.alt 7 true (.one 8 2 true (.one 9 2 true (.one 10 2 false .nil))) (.one 8 2 true (.one 7 2 true (.one 9 2 true (.one 10 2 false .nil))))) (.alt 7 true (.alt 1 true (.one 8 2 true (.one 9 2 true (.one 10 2 false .nil))) (.one 8 2 true (.one 1 2 true (.one 9 2 true (.one 10 2 false .nil))))) (.one 8 2 true (.alt 1 true (.one 7 2 true (.one 9 2 true (.one 10 2 false .nil))) (.one 7 2 true (.one 1 2 true (.one 9 2 true (.one 10 2 false .nil)))))))))))))), [])], [], [], 58, 0, [], [8]⟩
theorem ptexts_ok : ptexts_c.Ok Tryd.prog 21 := by
  refine fn_ok ptexts_H 0 rfl _ Tryd.func21 rfl rfl ⟨pend_ok, sum_ok, bit_ok, pinner_ok, trivial⟩ rfl rfl (by kernel_rfl) (fun _ => Nat.le_of_ble_eq_true rfl) ?_
  rintro ⟨p, k⟩ hp hr
  try dsimp only [ptexts_c] at hp
  try simp only [ptexts_c, Rng, RngL, inR, and_true, true_and] at hr
  repeat' (first | (with_reducible refine Unf.h ?_) | ((conv => whnf); first | refine Fork.mkn (fun h => ?_) (fun h => ?_) | (refine Side.mk ?_ ?_; focus (first | with_reducible rfl | exact True.intro | (intros; (try simp only [lenS, inR, cutS, loI, hiI] at *); omega))) | refine RetE.mk () trivial ?_ | refine Got.mk (fun _ _ => ?_) | refine retK_r ?_ | refine CallS.mk (c := pend_c) (p) ?_) | fail); all_goals try (conv => whnf)
  · have e : okT p k = [] := if_neg h
    repeat' (first | (with_reducible refine Unf.h ?_) | ((conv => whnf); first | (refine Side.mk ?_ ?_; focus (assumption)) | exact rfl) | fail); all_goals try (conv => whnf)
  have hres : resT p = endT p := if_pos h
  have hok : okT p k = txsT p k p.steps := if_pos h
  refine LoopS.autoN (fun n : Nat => n ≤ p.steps.length) (fun n => [(8, .int .i64 ((n : Int) - 1)), (5, .fs 1 eB (topT p k (p.steps.drop n))), (7, .own 3)]) (fun n => [(0, .box 36 (ePrf p)), (1, .box 25 [.arr8 k]), (3, .row 48 1 eP (txsT p k (p.steps.drop n)))]) 4 (fun n => n) p.steps.length (Nat.le_refl _) ?_ ?_
  · repeat' (first | (with_reducible refine Unf.h ?_) | ((conv => whnf); first | (refine Side.mk ?_ ?_; focus (first | with_reducible rfl | (simp only [*, List.drop_length, topT, txsT, hres]; done))) | (with_reducible refine Unf.h ?_)) | fail); all_goals try (conv => whnf)
    refine Side.mk (by rw [List.drop_length, hres]; rfl) ?_
    repeat' (first | (with_reducible refine Unf.h ?_) | ((conv => whnf); exact True.intro) | fail); all_goals try (conv => whnf)
  · intro n hn
    have hl := txsT_len p k (p.steps.drop n)
    rw [List.length_drop] at hl
    by_cases h0 : n = 0
    · subst h0
      repeat' (first | (with_reducible refine Unf.h ?_) | ((conv => whnf); first | refine Fork.mk (fun h => ?_) (fun h => ?_) | (refine Side.mk ?_ ?_; focus ((simp only [*, List.drop_zero, hok]; done))) | refine RetE.mk () trivial ?_ | refine retK_r ?_ | exact rfl) | fail); all_goals try (conv => whnf)
      exfalso; omega
    · have hi : ((n : Int) - 1).toNat < p.steps.length := by omega
      have hd : p.steps.drop (n - 1) = p.steps[((n : Int) - 1).toNat]'hi :: p.steps.drop n := by
        rw [drop_at p.steps (n - 1) (by omega)]
        congr 1
        · congr 1; omega
        · congr 1; omega
      repeat' (first | (with_reducible refine Unf.h ?_) | ((conv => whnf); first | refine Fork.mk (fun h => ?_) (fun h => ?_) | (refine Side.mk ?_ ?_; focus (omega)) | refine RetE.mk () trivial ?_ | refine retK_r ?_ | exact rfl) | fail); all_goals try (conv => whnf)
      refine CutS.auto (I := Unit) (fun _ => True) (fun _ => [(9, .ptr 4 0), (10, .ptr 5 0), (7, .own 3)]) (fun _ => [(0, .box 36 (ePrf p)), (1, .box 25 [.arr8 k]), (3, .row 48 1 eP (txsT p k (p.steps.drop n))), (4, .box 25 [.arr8 (sha (topT p k (p.steps.drop n)))]), (5, .box 100 (eStp (p.steps[((n : Int) - 1).toNat]'hi)))]) 6 ?_ ?_
      · repeat' (first | (with_reducible first | refine Unf.h ?_ | refine cutK_n ?_) | ((conv => whnf); first | refine Both.mk ?_ ?_ | (refine Side.mk ?_ ?_; focus (first | with_reducible rfl | exact True.intro)) | (refine Idx.mk ?_ ?_; focus (omega)) | refine Got.mk (fun _ _ => ?_) | refine CallS.mk (c := sum_c) (topT p k (p.steps.drop n)) ?_) | fail); all_goals try (conv => whnf)
        all_goals (refine ⟨(), trivial, ?_⟩)
        all_goals repeat' (first | (with_reducible refine Unf.h ?_) | ((conv => whnf); first | (refine Side.mk ?_ ?_; focus (with_reducible rfl)) | (with_reducible refine Unf.h ?_) | exact True.intro) | fail); all_goals try (conv => whnf)
      · intro _ _
        generalize p.steps[((n : Int) - 1).toNat]'hi = s at *
        repeat' (first | (with_reducible refine Unf.h ?_) | fail); all_goals try (conv => whnf)
        refine CallS.mk (c := bit_c) ((k, s.len)) ?_
        repeat' (first | (with_reducible refine Unf.h ?_) | ((conv => whnf); first | refine Fork.mk (fun h => ?_) (fun h => ?_) | (refine Side.mk ?_ ?_; focus (first | with_reducible rfl | exact True.intro)) | refine Got.mk (fun _ _ => ?_)) | fail); all_goals try (conv => whnf)
        · have e : topT p k (p.steps.drop (n - 1)) = innerT s.len s.bits s.other (sha (topT p k (p.steps.drop n))) := by rw [hd]; exact if_pos h
          have e2 : txsT p k (p.steps.drop (n - 1)) = txsT p k (p.steps.drop n) ++ [innerT s.len s.bits s.other (sha (topT p k (p.steps.drop n)))] := by rw [← e, hd]; rfl
          clear hd
          refine CallS.mk (c := pinner_c) ((s.len, s.bits, s.other, sha (topT p k (p.steps.drop n)))) ?_
          repeat' (first | (with_reducible first | refine Unf.h ?_ | refine loopK_n ?_) | ((conv => whnf); first | (refine Side.mk ?_ ?_; focus (first | with_reducible rfl | exact True.intro | (intros; (try simp only [lenS, inR, cutS, loI, hiI] at *); omega))) | refine Got.mk (fun _ _ => ?_) | refine Ex.mk [_] rfl ?_) | fail); all_goals try (conv => whnf)
          refine ⟨n - 1, ⟨by omega, by omega⟩, ?_⟩
          repeat' (first | (with_reducible refine Unf.h ?_) | ((conv => whnf); first | (refine Side.mk ?_ ?_; focus (first | with_reducible rfl | (refine congrArg (SV.int _) ?_; omega) | (simp only [*, e, e2]; done))) | (with_reducible refine Unf.h ?_) | exact True.intro) | fail); all_goals try (conv => whnf)
        · have e : topT p k (p.steps.drop (n - 1)) = innerT s.len s.bits (sha (topT p k (p.steps.drop n))) s.other := by rw [hd]; exact if_neg h
          have e2 : txsT p k (p.steps.drop (n - 1)) = txsT p k (p.steps.drop n) ++ [innerT s.len s.bits (sha (topT p k (p.steps.drop n))) s.other] := by rw [← e, hd]; rfl
          clear hd
          refine CallS.mk (c := pinner_c) ((s.len, s.bits, sha (topT p k (p.steps.drop n)), s.other)) ?_
          repeat' (first | (with_reducible first | refine Unf.h ?_ | refine loopK_n ?_) | ((conv => whnf); first | (refine Side.mk ?_ ?_; focus (first | with_reducible rfl | exact True.intro | (intros; (try simp only [lenS, inR, cutS, loI, hiI] at *); omega))) | refine Got.mk (fun _ _ => ?_) | refine Ex.mk [_] rfl ?_) | fail); all_goals try (conv => whnf)
          refine ⟨n - 1, ⟨by omega, by omega⟩, ?_⟩
          repeat' (first | (with_reducible refine Unf.h ?_) | ((conv => whnf); first | (refine Side.mk ?_ ?_; focus (first | with_reducible rfl | (refine congrArg (SV.int _) ?_; omega) | (simp only [*, e, e2]; done))) | (with_reducible refine Unf.h ?_) | exact True.intro) | fail); all_goals try (conv => whnf)
def down (k : H256) : Pfx → List Stp → Option Pfx
  | room, [] => some room
  | room, s :: r => if holdsP s.pfx k ∧ withinP room s.pfx ∧ childOk s.pfx (bitI k s.len) then down k (childP s.pfx (bitI k s.len)) r else none
theorem down_cons (k : H256) (room : Pfx) (s : Stp) (r : List Stp) : down k room (s :: r) = if holdsP s.pfx k ∧ withinP room s.pfx ∧ childOk s.pfx (bitI k s.len) then down k (childP s.pfx (bitI k s.len)) r else none := rfl
def endP (room : Pfx) (p : Prf) (k : H256) : Prop := p.fin = 0 ∧ p.steps.length = 0 ∨ p.fin = 1 ∧ holdsP room p.key ∨ p.fin = 2 ∧ p.plen < 256 ∧ withinP room p.pfx ∧ ¬ holdsP p.pfx k
instance (room : Pfx) (p : Prf) (k : H256) : Decidable (endP room p k) := inferInstanceAs (Decidable (_ ∧ _ ∨ _ ∧ _ ∨ _ ∧ _ ∧ _ ∧ ¬ _))
def fitsP (p : Prf) (k : H256) : Prop := match down k zeroP p.steps with
  | none => False
  | some room => endP room p k
instance (p : Prf) (k : H256) : Decidable (fitsP p k) := by
  unfold fitsP; split <;> infer_instance
theorem fits_none {p : Prf} {k : H256} (h : none = down k zeroP p.steps) : ¬ fitsP p k := by unfold fitsP; rw [← h]; exact id
theorem end0 {r : Pfx} {p : Prf} {k : H256} (h : p.fin = 0) : endP r p k ↔ p.steps.length = 0 := ⟨fun h' => by rcases h' with h' | h' | h' <;> first | exact h'.2 | (exfalso; have := h'.1; omega), fun h' => .inl ⟨h, h'⟩⟩
theorem end1 {r : Pfx} {p : Prf} {k : H256} (h : p.fin = 1) : endP r p k ↔ holdsP r p.key := ⟨fun h' => by rcases h' with h' | h' | h' <;> first | exact h'.2 | (exfalso; have := h'.1; omega), fun h' => .inr (.inl ⟨h, h'⟩)⟩
theorem end2 {r : Pfx} {p : Prf} {k : H256} (h : p.fin = 2) : endP r p k ↔ p.plen < 256 ∧ withinP r p.pfx ∧ ¬ holdsP p.pfx k := ⟨fun h' => by rcases h' with h' | h' | h' <;> first | exact h'.2 | (exfalso; have := h'.1; omega), fun h' => .inr (.inr ⟨h, h'⟩)⟩
theorem end3 {r : Pfx} {p : Prf} {k : H256} (h0 : ¬ p.fin = 0) (h1 : ¬ p.fin = 1) (h2 : ¬ p.fin = 2) : ¬ endP r p k := fun h' => by rcases h' with h' | h' | h' <;> exact absurd h'.1 (by assumption)
def fits_c : Ctr where
  D := Prf × H256
  pre := fun (p, _) => p.steps.length ≤ 100000
  args := fun (p, k) => [.agg (ePrf p), .agg [.arr8 k]]
  res := fun (p, k) _ => .dec (fitsP p k) inferInstance
def fits_H : Cfg := ⟨[(76, holds_c), (79, within_c), (54, bit_c), (80, child_c)], [(7, [1, 2, 5], [6, 7, 11, 12], (.one 0 0 false (.one 1 1 false (.one 2 1 false (.one 3 0 false (.one 4 0 false (.one 5 1 false (.alt 6 true (.alt 7 true (.one 8 0 false (.one 9 0 false (.one 10 0 false (.one 11 2 true (.one 12 2 false (.one 13 0 false .nil)))))) (.one 11 2 true (.one 7 2 false (.one 8 0 false (.one 9 0 false (.one 10 0 false (.one 12 2 false (.one 13 0 false .nil)))))))) (.one 11 2 true (.one 6 2 true (.one 7 2 false (.one 8 0 false (.one 9 0 false (.one 10 0 false (.one 12 2 false (.one 13 0 false .nil))))))))))))))), [])], [], [], 77, 0, [], []⟩
theorem fits_ok : fits_c.Ok Tryd.prog 50 := by
  refine fn_ok fits_H 0 rfl _ Tryd.func50 rfl rfl ⟨holds_ok, within_ok, bit_ok, child_ok, trivial⟩ rfl rfl (by kernel_rfl) (fun _ => Nat.le_of_ble_eq_true rfl) ?_
  rintro ⟨p, k⟩ hp hr
  try dsimp only [fits_c] at hp
  try simp only [fits_c, Rng, RngL, inR, and_true, true_and] at hr
  repeat' (first | (with_reducible refine Unf.h ?_) | fail); all_goals try (conv => whnf)
  refine LoopS.auto (I := Nat × Pfx) (fun q => q.1 ≤ p.steps.length ∧ down k q.2 (p.steps.drop q.1) = down k zeroP p.steps) (fun q => [(13, .int .i64 q.1)]) (fun q => [(2, .box 27 [.int .i64 q.2.len, .arr8 q.2.bits]), (1, .box 25 [.arr8 k]), (0, .box 36 (ePrf p))]) (fun q => p.steps.length - q.1) (0, zeroP) ⟨Nat.zero_le _, rfl⟩ ?_ ?_
  · repeat' (first | (with_reducible refine Unf.h ?_) | ((conv => whnf); first | (refine Side.mk ?_ ?_; focus (first | with_reducible rfl | (refine congrArg (SV.int _) ?_; omega))) | (with_reducible refine Unf.h ?_) | exact True.intro) | fail); all_goals try (conv => whnf)
  · intro q hq
    obtain ⟨hq1, hq2⟩ := hq
    by_cases hlt : q.1 < p.steps.length
    · rw [drop_at p.steps q.1 hlt] at hq2
      have hi : (q.1 : Int).toNat < p.steps.length := by omega
      have es : p.steps[q.1]'hlt = p.steps[(q.1 : Int).toNat]'hi := by congr 1
      rw [es] at hq2
      generalize hs : p.steps[(q.1 : Int).toNat]'hi = s at *
      rw [down_cons] at hq2
      repeat' (first | (with_reducible first | refine Unf.h ?_ | refine loopK_n ?_) | ((conv => whnf); first | refine Both.mk ?_ ?_ | refine Fork.mkn (fun h => ?_) (fun h => ?_) | refine Fork.mk (fun h => ?_) (fun h => ?_) | (refine Side.mk ?_ ?_; focus (first | with_reducible rfl | exact True.intro | omega | (intros; (try simp only [lenS, inR, cutS, loI, hiI, hs] at *); omega) | (simp only [*, hs]; done))) | (refine Idx.mk ?_ ?_; focus (omega)) | refine RetE.mk () trivial ?_ | refine Got.mk (fun _ _ => ?_) | refine retK_r ?_ | exact rfl | refine CallS.mk (c := holds_c) ((⟨s.len, s.bits⟩, k)) ?_ | refine CallS.mk (c := within_c) ((q.2, ⟨s.len, s.bits⟩)) ?_ | refine CallS.mk (c := bit_c) ((k, s.len)) ?_ | refine CallS.mk (c := child_c) ((⟨s.len, s.bits⟩, bitI k s.len)) ?_) | fail); all_goals try (conv => whnf)
      · rw [if_neg (fun h' => h h'.1)] at hq2
        refine Side.mk (iffF (fits_none hq2)) ?_
        repeat' (first | (with_reducible refine Unf.h ?_) | ((conv => whnf); exact rfl) | fail); all_goals try (conv => whnf)
      · rw [if_neg (fun h' => h h'.2.1)] at hq2
        refine Side.mk (iffF (fits_none hq2)) ?_
        repeat' (first | (with_reducible refine Unf.h ?_) | ((conv => whnf); exact rfl) | fail); all_goals try (conv => whnf)
      all_goals first
        | (refine Side.mk (iffF (fits_none (by rw [if_neg (fun h' => h h'.2.2)] at hq2; exact hq2))) ?_)
        | (rw [if_pos ⟨by assumption, by assumption, h⟩] at hq2; refine ⟨(q.1 + 1, childP ⟨s.len, s.bits⟩ (bitI k s.len)), ⟨by show _ - (q.1 + 1) < _; omega, by show q.1 + 1 ≤ _; omega, hq2⟩, ?_⟩)
      all_goals repeat' (first | (with_reducible refine Unf.h ?_) | ((conv => whnf); first | (refine Side.mk ?_ ?_; focus (first | with_reducible rfl | (refine congrArg (SV.int _) ?_; omega))) | (with_reducible refine Unf.h ?_) | exact rfl | exact True.intro) | fail); all_goals try (conv => whnf)
    · have e : p.steps.drop q.1 = [] := List.drop_eq_nil_of_le (by omega)
      rw [e] at hq2
      have hq3 : fitsP p k ↔ endP q.2 p k := by unfold fitsP; rw [← hq2]; exact Iff.rfl
      repeat' (first | (with_reducible refine Unf.h ?_) | ((conv => whnf); first | refine Fork.mk (fun h => ?_) (fun h => ?_) | (refine Idx.mk ?_ ?_; focus (omega)) | refine RetE.mk () trivial ?_ | refine retK_r ?_) | fail); all_goals try (conv => whnf)
      · exfalso; omega
      · refine Side.mk ((hq3.trans (end0 h)).trans ⟨fun h' => by omega, fun h' => by omega⟩).symm ?_
        repeat' (first | (with_reducible refine Unf.h ?_) | ((conv => whnf); exact rfl) | fail); all_goals try (conv => whnf)
      · refine CallS.mk (c := holds_c) ((q.2, p.key)) ?_
        repeat' (first | (with_reducible refine Unf.h ?_) | ((conv => whnf); first | (refine Side.mk ?_ ?_; focus (first | with_reducible rfl | exact True.intro)) | refine RetE.mk () trivial ?_ | refine Got.mk (fun _ _ => ?_) | refine retK_r ?_) | fail); all_goals try (conv => whnf)
        refine Side.mk (hq3.trans (end1 h)).symm ?_
        repeat' (first | (with_reducible refine Unf.h ?_) | ((conv => whnf); exact rfl) | fail); all_goals try (conv => whnf)
      · refine CallS.mk (c := within_c) ((q.2, ⟨p.plen, p.bits⟩)) ?_
        repeat' (first | (with_reducible refine Unf.h ?_) | ((conv => whnf); first | refine Fork.mk (fun h => ?_) (fun h => ?_) | (refine Side.mk ?_ ?_; focus (first | with_reducible rfl | exact True.intro)) | refine RetE.mk () trivial ?_ | refine Got.mk (fun _ _ => ?_) | refine retK_r ?_) | fail); all_goals try (conv => whnf)
        · refine CallS.mk (c := holds_c) ((⟨p.plen, p.bits⟩, k)) ?_
          repeat' (first | (with_reducible refine Unf.h ?_) | ((conv => whnf); first | (refine Side.mk ?_ ?_; focus (first | with_reducible rfl | exact True.intro)) | refine RetE.mk () trivial ?_ | refine Got.mk (fun _ _ => ?_) | refine retK_r ?_) | fail); all_goals try (conv => whnf)
          refine Side.mk ⟨fun h' => (hq3.trans (end2 (by assumption))).2 ⟨by assumption, h, h'⟩, fun h' => ((hq3.trans (end2 (by assumption))).1 h').2.2⟩ ?_
          repeat' (first | (with_reducible refine Unf.h ?_) | ((conv => whnf); exact rfl) | fail); all_goals try (conv => whnf)
        · refine Side.mk (iffF fun h' => h ((hq3.trans (end2 (by assumption))).1 h').2.1) ?_
          repeat' (first | (with_reducible refine Unf.h ?_) | ((conv => whnf); exact rfl) | fail); all_goals try (conv => whnf)
      · refine Side.mk (iffF fun h' => h ((hq3.trans (end2 (by assumption))).1 h').1) ?_
        repeat' (first | (with_reducible refine Unf.h ?_) | ((conv => whnf); exact rfl) | fail); all_goals try (conv => whnf)
      · refine Side.mk (iffF fun h' => end3 (by assumption) (by assumption) (by assumption) (hq3.1 h')) ?_
        repeat' (first | (with_reducible refine Unf.h ?_) | ((conv => whnf); exact rfl) | fail); all_goals try (conv => whnf)
end Go.Proofs.YtffaohckcggkdaaDoor

namespace Go.Proofs.YtffaohckcggkdaaDoor
set_option linter.all false
open Go.RowKit
/-! proofs: Check, and what is handed over -/
theorem fits_fin {p : Prf} {k : H256} (h : fitsP p k) : finOk p := by
  unfold fitsP at h
  split at h
  · exact h.elim
  · rcases h with h | h | h <;> exact ⟨by have := h.1; omega, by have := h.1; omega⟩
def okP (p : Prf) (k root : H256) : Prop := fitsP p k ∧ sha (topT p k p.steps) = root
instance (p : Prf) (k root : H256) : Decidable (okP p k root) := inferInstanceAs (Decidable (_ ∧ _))
def hasP (p : Prf) (k root : H256) : Prop := okP p k root ∧ p.fin = 1 ∧ p.key = k
instance (p : Prf) (k root : H256) : Decidable (hasP p k root) := inferInstanceAs (Decidable (_ ∧ _ ∧ _))
def valP (p : Prf) (k root : H256) : H256 := if hasP p k root then p.value else zeroH
theorem okT_last {p : Prf} {k : H256} (h : finOk p) (i : Nat) (hi : i = p.steps.length) (hl : i < (okT p k).length) : (okT p k)[i] = topT p k p.steps := by
  have e : okT p k = txsT p k p.steps := if_pos h
  have := txsT_last p k p.steps
  rw [← e, ← hi, List.getElem?_eq_getElem hl] at this
  exact Option.some.inj this
def check_c : Ctr where
  D := Prf × H256 × H256
  pre := fun (p, _, _) => p.steps.length ≤ 100000
  args := fun (p, k, r) => [.agg (ePrf p), .agg [.arr8 k], .agg [.arr8 r]]
  res := fun (p, k, r) _ => .tup [.agg [.arr8 (valP p k r)], .dec (hasP p k r) inferInstance, .dec (okP p k r) inferInstance]
def check_H : Cfg := ⟨[(50, fits_c), (21, ptexts_c), (51, sum_c)], [(4, [5, 7], [6], (.one 0 0 false (.one 1 0 false (.one 2 0 false (.one 3 0 false (.one 4 0 false (.one 5 1 false (.one 7 1 false (.one 6 2 true (.one 8 0 false .nil))))))))), [])], [], [], 40, 0, [], []⟩
theorem check_ok : check_c.Ok Tryd.prog 16 := by
  refine fn_ok check_H 0 rfl _ Tryd.func16 rfl rfl ⟨fits_ok, ptexts_ok, sum_ok, trivial⟩ rfl rfl (by kernel_rfl) (fun _ => Nat.le_of_ble_eq_true rfl) ?_
  rintro ⟨p, k, r⟩ hp hr
  try dsimp only [check_c] at hp
  try simp only [check_c, Rng, RngL, inR, and_true, true_and] at hr
  have hpre : fits_c.pre (p, k) := hp
  have hpre2 : ptexts_c.pre (p, k) := hp
  repeat' (first | (with_reducible refine Unf.h ?_) | ((conv => whnf); first | refine Fork.mkn (fun h => ?_) (fun h => ?_) | (refine Side.mk ?_ ?_; focus (first | with_reducible rfl | assumption)) | refine RetE.mk () trivial ?_ | refine Got.mk (fun _ _ => ?_) | refine retK_r ?_ | refine CallS.mk (c := fits_c) ((p, k)) ?_) | fail); all_goals try (conv => whnf)
  · have h1 : ¬ okP p k r := fun h' => h h'.1
    have h2 : ¬ hasP p k r := fun h' => h1 h'.1
    have h3 : valP p k r = zeroH := if_neg h2
    repeat' (first | (with_reducible refine Unf.h ?_) | ((conv => whnf); first | (refine Side.mk ?_ ?_; focus (first | (simp only [*, h3]; done) | (simp [*, h3]; done))) | exact rfl) | fail); all_goals try (conv => whnf)
  have hf := fits_fin (show fitsP p k by assumption)
  have hlen : (okT p k).length = p.steps.length + 1 := by rw [show okT p k = txsT p k p.steps from if_pos hf, txsT_len]
  have hlast : (okT p k)[((((okT p k).length : Nat) : Int) - 1).toNat]'(by omega) = topT p k p.steps := okT_last hf _ (by omega) _
  repeat' (first | (with_reducible refine Unf.h ?_) | ((conv => whnf); first | (refine Side.mk ?_ ?_; focus (first | with_reducible rfl | assumption | (intros; (try simp only [lenS, inR, cutS, loI, hiI] at *); omega))) | (refine Idx.mk ?_ ?_; focus (omega)) | refine Got.mk (fun _ _ => ?_) | refine CallS.mk (c := ptexts_c) ((p, k)) ?_) | fail); all_goals try (conv => whnf)
  refine CallS.mk (c := sum_c) ((topT p k p.steps)) ?_
  repeat' (first | (with_reducible refine Unf.h ?_) | fail); all_goals try (conv => whnf)
  refine Side.mk (congrArg (SV.fs 1 eB) hlast) ?_
  repeat' (first | (with_reducible refine Unf.h ?_) | ((conv => whnf); first | refine Fork.mkn (fun h => ?_) (fun h => ?_) | refine Fork.mk (fun h => ?_) (fun h => ?_) | (refine Side.mk ?_ ?_; focus (exact True.intro)) | refine RetE.mk () trivial ?_ | refine Got.mk (fun _ _ => ?_) | refine retK_r ?_) | fail); all_goals try (conv => whnf)
  · have h1 : ¬ okP p k r := fun h' => h (congrArg Vector.toList h'.2)
    have h2 : ¬ hasP p k r := fun h' => h1 h'.1
    have h3 : valP p k r = zeroH := if_neg h2
    repeat' (first | (with_reducible refine Unf.h ?_) | ((conv => whnf); first | (refine Side.mk ?_ ?_; focus (first | (simp only [*, h3]; done) | (simp [*, h3]; done))) | exact rfl) | fail); all_goals try (conv => whnf)
  · have h1 : okP p k r := ⟨by assumption, Vector.toList_inj.1 (by assumption)⟩
    have h2 : hasP p k r := ⟨h1, by assumption, Vector.toList_inj.1 h⟩
    have h3 : valP p k r = p.value := if_pos h2
    repeat' (first | (with_reducible refine Unf.h ?_) | ((conv => whnf); first | (refine Side.mk ?_ ?_; focus (first | (refine ⟨fun h => ?_, fun h => ?_⟩ <;> first | rfl | (cases h; done) | omega | (exfalso; omega) | (simp only [Bool.false_eq_true] at h; done)) | (simp only [*, h3]; done))) | exact rfl) | fail); all_goals try (conv => whnf)
  · have h1 : okP p k r := ⟨by assumption, Vector.toList_inj.1 (by assumption)⟩
    have h2 : ¬ hasP p k r := fun h' => h (congrArg Vector.toList h'.2.2)
    have h3 : valP p k r = zeroH := if_neg h2
    repeat' (first | (with_reducible refine Unf.h ?_) | ((conv => whnf); first | (refine Side.mk ?_ ?_; focus (first | (refine ⟨fun h => ?_, fun h => ?_⟩ <;> first | rfl | (cases h; done) | omega | (exfalso; omega) | (simp only [Bool.false_eq_true] at h; done)) | (simp only [*, h3]; done) | (simp [*, h3]; done))) | exact rfl) | fail); all_goals try (conv => whnf)
  · have h1 : okP p k r := ⟨by assumption, Vector.toList_inj.1 (by assumption)⟩
    have h2 : ¬ hasP p k r := fun h' => h h'.2.1
    have h3 : valP p k r = zeroH := if_neg h2
    repeat' (first | (with_reducible refine Unf.h ?_) | ((conv => whnf); first | (refine Side.mk ?_ ?_; focus (first | (refine ⟨fun h => ?_, fun h => ?_⟩ <;> first | rfl | (cases h; done) | omega | (exfalso; omega) | (simp only [Bool.false_eq_true] at h; done)) | (simp only [*, h3]; done) | (simp [*, h3]; done))) | exact rfl) | fail); all_goals try (conv => whnf)
def from_c : Ctr where
  D := Prf
  pre := fun p => p.steps.length ≤ 100000
  args := fun p => [.agg (ePrf p)]
  res := fun p _ => .agg (ePrf p)
def from_H : Cfg := ⟨[], [(5, [1, 3, 6], [7, 8, 10], (.one 0 0 false (.one 1 1 false (.one 2 0 false (.one 3 1 false (.one 4 0 false (.one 5 0 false (.one 6 1 false (.one 7 2 true (.one 8 2 false (.one 9 0 false (.one 10 2 false .nil))))))))))), [])], [], [], 36, 0, [], []⟩
theorem from_ok : from_c.Ok Tryd.prog 17 := by
  refine fn_ok from_H 0 rfl _ Tryd.func17 rfl rfl trivial rfl rfl (by kernel_rfl) (fun _ => Nat.le_of_ble_eq_true rfl) ?_
  intro (p : Prf) hp hr
  try dsimp only [from_c] at hp
  try simp only [from_c, Rng, RngL, inR, and_true, true_and] at hr
  repeat' (first | (with_reducible refine Unf.h ?_) | fail); all_goals try (conv => whnf)
  refine LoopS.autoN (fun i : Nat => i ≤ p.steps.length) (fun i => [(4, .int .i64 i)]) (fun i => [(2, .box 36 [.own 3, .int .i64 p.fin, .arr8 p.key, .arr8 p.value, .int .i64 p.plen, .arr8 p.bits, .arr8 p.left, .arr8 p.right]), (3, .row 100 65 eStp (p.steps.take i)), (1, .box 36 [.nils, .int .i64 0, .arr8 zeroH, .arr8 zeroH, .int .i64 0, .arr8 zeroH, .arr8 zeroH, .arr8 zeroH]), (0, .box 29 (ePrf p))]) 4 (fun i => p.steps.length - i) 0 (Nat.zero_le _) ?_ ?_
  · repeat' (first | (with_reducible refine Unf.h ?_) | ((conv => whnf); first | (refine Side.mk ?_ ?_; focus (first | with_reducible rfl | (refine congrArg (SV.int _) ?_; omega) | (simp [*]; done))) | (with_reducible refine Unf.h ?_) | exact True.intro) | fail); all_goals try (conv => whnf)
  · intro i hi
    repeat' (first | (with_reducible first | refine Unf.h ?_ | refine loopK_n ?_) | ((conv => whnf); first | refine Fork.mk (fun h => ?_) (fun h => ?_) | (refine Side.mk ?_ ?_; focus ((intros; (try simp only [lenS, inR, cutS, loI, hiI] at *); omega))) | (refine Idx.mk ?_ ?_; focus (omega)) | refine RetE.mk () trivial ?_ | refine Ex.mk [_] rfl ?_ | refine retK_r ?_) | fail); all_goals try (conv => whnf)
    · refine ⟨i + 1, ⟨by omega, by omega⟩, ?_⟩
      have e : p.steps.take (i + 1) = p.steps.take i ++ [p.steps[(i : Int).toNat]'(by omega)] := List.take_succ_eq_append_getElem (by omega)
      repeat' (first | (with_reducible refine Unf.h ?_) | ((conv => whnf); first | (refine Side.mk ?_ ?_; focus (first | with_reducible rfl | (refine congrArg (SV.int _) ?_; omega) | (simp only [*, e]; done))) | (with_reducible refine Unf.h ?_) | exact True.intro) | fail); all_goals try (conv => whnf)
    · have e : p.steps.take i = p.steps := List.take_of_length_le (by omega)
      repeat' (first | (with_reducible refine Unf.h ?_) | ((conv => whnf); first | (refine Side.mk ?_ ?_; focus (first | with_reducible rfl | (simp only [*, e]; done))) | exact rfl) | fail); all_goals try (conv => whnf)
end Go.Proofs.YtffaohckcggkdaaDoor

namespace Go.Proofs.YtffaohckcggkdaaDoor
set_option linter.all false
open Go.RowKit
/-! no forest, no tree: the law's function -/
def none_c : Ctr where
  D := Int × H256 × H256
  args := fun (t, k, v) => [.int .i64 t, .agg [.arr8 k], .agg [.arr8 v]]
  res := fun _ _ => .bool true
theorem isT_nil {t : Int} : isT [] t ↔ t = -1 := ⟨fun h => by have := h.1; have := h.2; simp at this; omega, fun h => by subst h; exact ⟨by decide, by decide⟩⟩
abbrev leaf0 : Nd := ⟨true, zeroH, zeroH, 0, zeroH, 0, 0, zeroH⟩
def none_H : Cfg := ⟨[(44, putN_c), (40, rootN_c), (45, getN_c), (35, addN_c), (33, sizeN_c), (43, listN_c), (44, put_c), (44, putX_c), (40, root_c), (40, rootX_c), (33, size_c), (25, awake11_c)], [], [], [], 114, 0, [], []⟩
theorem none_ok : none_c.Ok Tryd.prog 11 := by
  refine fn_ok none_H 0 rfl _ Tryd.func11 rfl rfl ⟨putN_ok, rootN_ok, getN_ok, addN_ok, sizeN_ok, listN_ok, put_ok, putX_ok, root_ok, rootX_ok, size_ok, awake11_ok, trivial⟩ rfl rfl (by kernel_rfl) (fun _ => Nat.le_of_ble_eq_true rfl) ?_
  rintro ⟨t, k, v⟩ hp hr
  try dsimp only [none_c] at hp
  try simp only [none_c, Rng, RngL, inR, and_true, true_and] at hr
  by_cases ht : t = -1
  · subst ht
    have hpre : put_c.pre ([], -1, k, v) := ⟨by simp, closed_nil, by decide, by decide⟩
    have e := put_none k v
    have hpre2 : root_c.pre ((putF [] (-1) k v).1, -1) := ⟨by decide, by omega⟩
    repeat' (first | (with_reducible refine Unf.h ?_) | fail); all_goals try (conv => whnf)
    refine Or2.l (CallS.mk (c := putN_c) ((-1, k, v)) ?_)
    repeat' (first | (with_reducible refine Unf.h ?_) | ((conv => whnf); first | (refine Side.mk ?_ ?_; focus (first | with_reducible rfl | exact True.intro)) | refine Got.mk (fun _ _ => ?_) | refine Or2.l (CallS.mk (c := rootN_c) ((-1 : Int)) ?_) | refine CallS.mk (c := getN_c) ((-1, k)) ?_ | refine CallS.mk (c := addN_c) (leaf0) ?_) | fail); all_goals try (conv => whnf)
    refine Or2.r (Or2.l (CallS.mk (c := put_c) (([], -1, k, v)) ?_))
    repeat' (first | (with_reducible refine Unf.h ?_) | ((conv => whnf); first | refine Fork.mk (fun h => ?_) (fun h => ?_) | (refine Side.mk ?_ ?_; focus (first | with_reducible rfl | exact True.intro | assumption | omega)) | refine RetE.mk () trivial ?_ | refine Got.mk (fun _ _ => ?_) | refine retK_r ?_ | exact rfl | refine Or2.r (Or2.l (CallS.mk (c := root_c) (((putF [] (-1) k v).1, -1)) ?_)) | refine CallS.mk (c := awake11_c) (()) ?_) | fail); all_goals try (conv => whnf)
    refine Or2.l (CallS.mk (c := sizeN_c) (()) ?_)
    repeat' (first | (with_reducible refine Unf.h ?_) | ((conv => whnf); first | refine Fork.mk (fun h => ?_) (fun h => ?_) | (refine Side.mk ?_ ?_; focus (first | with_reducible rfl | exact True.intro | assumption | omega | exact dF (by omega))) | refine RetE.mk () trivial ?_ | refine Got.mk (fun _ _ => ?_) | refine retK_r ?_ | exact rfl | refine CallS.mk (c := listN_c) ((-1 : Int)) ?_) | fail); all_goals try (conv => whnf)
    all_goals (exfalso; omega)
  · have hpre : putX_c.pre ([], t, k, v) := fun h => ht (isT_nil.1 h)
    have hpre2 : rootX_c.pre ([], t) := fun h => ht (isT_nil.1 h)
    repeat' (first | (with_reducible refine Unf.h ?_) | fail); all_goals try (conv => whnf)
    refine Or2.l (CallS.mk (c := putN_c) ((t, k, v)) ?_)
    repeat' (first | (with_reducible refine Unf.h ?_) | ((conv => whnf); first | (refine Side.mk ?_ ?_; focus (first | with_reducible rfl | exact True.intro)) | refine Got.mk (fun _ _ => ?_) | refine Or2.l (CallS.mk (c := rootN_c) ((-1 : Int)) ?_) | refine CallS.mk (c := getN_c) ((-1, k)) ?_ | refine CallS.mk (c := addN_c) (leaf0) ?_) | fail); all_goals try (conv => whnf)
    refine Or2.r (Or2.r (CallS.mk (c := putX_c) (([], t, k, v)) ?_))
    repeat' (first | (with_reducible refine Unf.h ?_) | ((conv => whnf); first | refine Fork.mk (fun h => ?_) (fun h => ?_) | (refine Side.mk ?_ ?_; focus (first | with_reducible rfl | exact True.intro | assumption | omega)) | refine RetE.mk () trivial ?_ | refine Got.mk (fun _ _ => ?_) | refine retK_r ?_ | exact rfl | refine Or2.r (Or2.r (CallS.mk (c := rootX_c) (([], t)) ?_)) | refine CallS.mk (c := awake11_c) (()) ?_) | fail); all_goals try (conv => whnf)
    refine Or2.l (CallS.mk (c := sizeN_c) (()) ?_)
    repeat' (first | (with_reducible refine Unf.h ?_) | ((conv => whnf); first | refine Fork.mk (fun h => ?_) (fun h => ?_) | (refine Side.mk ?_ ?_; focus (first | with_reducible rfl | exact True.intro | omega | (simp [*]; done))) | refine RetE.mk () trivial ?_ | refine Got.mk (fun _ _ => ?_) | refine retK_r ?_ | exact rfl | refine CallS.mk (c := listN_c) (t) ?_) | fail); all_goals try (conv => whnf)
    · refine Or2.r (CallS.mk (c := size_c) ([]) ?_)
      repeat' (first | (with_reducible refine Unf.h ?_) | ((conv => whnf); first | (refine Side.mk ?_ ?_; focus (first | with_reducible rfl | exact True.intro | (simp [*]; done))) | refine RetE.mk () trivial ?_ | refine Got.mk (fun _ _ => ?_) | refine retK_r ?_ | exact rfl) | fail); all_goals try (conv => whnf)
    · exact absurd (by simp [ht]) h
end Go.Proofs.YtffaohckcggkdaaDoor

namespace Go.Proofs.YtffaohckcggkdaaDoor
set_option linter.all false
open Go.RowKit
/-! layer 12: the fixed fact; no tree -/
abbrev prf0 (e : Int) : Prf := ⟨[], e, zeroH, zeroH, 0, zeroH, zeroH, zeroH⟩
def awake12_c : Ctr where
  D := Unit
  args := fun _ => []
  res := fun _ _ => .bool true
theorem formed_zero : formedP zeroP := ⟨by decide, by decide, cutB_zero zeroH⟩
theorem holds_zero (k : H256) : holdsP zeroP k := ⟨formed_zero, (cutB_zero k)⟩
theorem fits_0 (k : H256) : fitsP (prf0 0) k := .inl ⟨rfl, rfl⟩
theorem ok_0 : okP (prf0 0) key1 emptyH := ⟨fits_0 _, rfl⟩
def awake12_H : Cfg := ⟨[(31, rempty_c), (16, check_c)], [], [], [], 13, 0, [], []⟩
theorem awake12_ok : awake12_c.Ok Tryd.prog 14 := by
  refine fn_ok awake12_H 0 rfl _ Tryd.func14 rfl rfl ⟨rempty_ok, check_ok, trivial⟩ rfl rfl (by kernel_rfl) (fun _ => Nat.le_of_ble_eq_true rfl) ?_
  intro (_ : Unit) hp hr
  have hpre : check_c.pre (prf0 0, key1, emptyH) := Nat.zero_le _
  repeat' (first | (with_reducible refine Unf.h ?_) | ((conv => whnf); first | (refine Side.mk ?_ ?_; focus (exact True.intro)) | refine Got.mk (fun _ _ => ?_) | refine CallS.mk (c := rempty_c) (()) ?_) | fail); all_goals try (conv => whnf)
  refine CallS.mk (c := check_c) ((prf0 0, key1, emptyH)) ?_
  repeat' (first | (with_reducible refine Unf.h ?_) | ((conv => whnf); first | (refine Side.mk ?_ ?_; focus (first | with_reducible rfl | assumption)) | refine RetE.mk () trivial ?_ | refine Got.mk (fun _ _ => ?_) | refine retK_r ?_) | fail); all_goals try (conv => whnf)
  refine Side.mk (decide_eq_true ok_0) ?_
  repeat' (first | (with_reducible refine Unf.h ?_) | ((conv => whnf); exact rfl) | fail); all_goals try (conv => whnf)
def nodeHash_c : Ctr where
  D := Fo × Int
  args := fun (_, i) => [.ptr 0 0, .int .i64 i]
  objs := fun (l, _) => fo l
  nn := 2
  res := fun (l, i) _ => .agg [.arr8 (nd l i).hash]
  out := fun (l, _) _ => fo l
def nodeHash_H : Cfg := ⟨[(34, node_c)], [], [], [], 15, 2, [], []⟩
theorem nodeHash_ok : nodeHash_c.Ok Tryd.prog 77 := by
  refine fn_ok nodeHash_H 2 rfl _ Tryd.func77 rfl rfl ⟨node_ok, trivial⟩ rfl rfl (by kernel_rfl) (fun _ => Nat.le_of_ble_eq_true rfl) ?_
  rintro ⟨l, i⟩ hp hr
  try dsimp only [nodeHash_c] at hp
  try simp only [nodeHash_c, Rng, RngL, inR, and_true, true_and] at hr
  repeat' (first | (with_reducible refine Unf.h ?_) | ((conv => whnf); first | (refine Side.mk ?_ ?_; focus (first | with_reducible rfl | exact True.intro)) | refine RetE.mk () trivial ?_ | refine Got.mk (fun _ _ => ?_) | refine retK_r ?_ | exact rfl | refine CallS.mk (c := node_c) ((l, i)) ?_) | fail); all_goals try (conv => whnf)
def showN_c : Ctr where
  D := Int × H256
  args := fun (t, k) => [.nilp, .int .i64 t, .agg [.arr8 k]]
  res := fun _ _ => .tup [.agg (ePrf (prf0 0)), .int .i64 1]
def showN_H : Cfg := ⟨[(40, rootN_c), (34, node_c), (76, holds_c), (54, bit_c), (77, nodeHash_c)], [(9, [1, 3], [5, 7, 9], (.one 0 0 false (.one 1 1 false (.one 2 0 false (.one 3 1 false (.one 4 0 false (.one 5 2 true (.one 6 0 false (.one 7 2 true (.one 8 0 false (.one 9 2 false .nil)))))))))), [10]), (11, [1, 4, 8], [5, 9, 11, 13, 15, 17], (.one 0 0 false (.one 1 1 false (.one 2 0 false (.one 3 0 false (.one 4 1 false (.one 6 0 false (.one 7 0 false (.one 8 1 false (.one 10 0 false (.one 5 2 true (.one 9 2 true (.one 11 2 true (.one 12 0 false (.one 13 2 false (.one 14 0 false (.one 15 2 false (.one 16 0 false (.one 17 2 false .nil)))))))))))))))))), [10]), (12, [1, 3], [], (.one 0 0 false (.one 1 1 false (.one 2 0 false (.one 3 1 false (.one 4 0 false (.one 5 0 false .nil)))))), []), (15, [1, 3], [6, 8, 9, 11], (.one 0 0 false (.one 1 1 false (.one 2 0 false (.one 3 1 false (.one 4 0 false (.one 5 0 false (.one 6 2 true (.one 7 0 false (.one 8 2 true (.one 9 2 false (.one 10 0 false (.one 11 2 false .nil)))))))))))), [])], [], [], 90, 0, [], []⟩
theorem showN_ok : showN_c.Ok Tryd.prog 46 := by
  refine fn_ok showN_H 0 rfl _ Tryd.func46 rfl rfl ⟨rootN_ok, node_ok, holds_ok, bit_ok, nodeHash_ok, trivial⟩ rfl rfl (by kernel_rfl) (fun _ => Nat.le_of_ble_eq_true rfl) ?_
  rintro ⟨t, k⟩ hp hr
  try dsimp only [showN_c] at hp
  try simp only [showN_c, Rng, RngL, inR, and_true, true_and] at hr
  repeat' (first | (with_reducible refine Unf.h ?_) | ((conv => whnf); first | refine Fork.mkn (fun h => ?_) (fun h => ?_) | (refine Side.mk ?_ ?_; focus (first | with_reducible rfl | exact True.intro)) | refine RetE.mk () trivial ?_ | refine Got.mk (fun _ _ => ?_) | refine retK_r ?_ | exact rfl | refine CallS.mk (c := rootN_c) (t) ?_) | fail); all_goals try (conv => whnf)
  exfalso; omega
def showX_c : Ctr where
  D := Fo × Int × H256
  pre := fun (l, t, k) => ¬ isT l t
  args := fun (_, t, k) => [.ptr 0 0, .int .i64 t, .agg [.arr8 k]]
  objs := fun (l, _) => fo l
  nn := 2
  res := fun _ _ => .tup [.agg (ePrf (prf0 0)), .int .i64 1]
  out := fun (l, _) _ => fo l
def showX_H : Cfg := ⟨[(40, rootX_c), (34, node_c), (76, holds_c), (54, bit_c), (77, nodeHash_c)], [(9, [1, 3], [5, 7, 9], (.one 0 0 false (.one 1 1 false (.one 2 0 false (.one 3 1 false (.one 4 0 false (.one 5 2 true (.one 6 0 false (.one 7 2 true (.one 8 0 false (.one 9 2 false .nil)))))))))), [10]), (11, [1, 4, 8], [5, 9, 11, 13, 15, 17], (.one 0 0 false (.one 1 1 false (.one 2 0 false (.one 3 0 false (.one 4 1 false (.one 6 0 false (.one 7 0 false (.one 8 1 false (.one 10 0 false (.one 5 2 true (.one 9 2 true (.one 11 2 true (.one 12 0 false (.one 13 2 false (.one 14 0 false (.one 15 2 false (.one 16 0 false (.one 17 2 false .nil)))))))))))))))))), [10]), (12, [1, 3], [], (.one 0 0 false (.one 1 1 false (.one 2 0 false (.one 3 1 false (.one 4 0 false (.one 5 0 false .nil)))))), []), (15, [1, 3], [6, 8, 9, 11], (.one 0 0 false (.one 1 1 false (.one 2 0 false (.one 3 1 false (.one 4 0 false (.one 5 0 false (.one 6 2 true (.one 7 0 false (.one 8 2 true (.one 9 2 false (.one 10 0 false (.one 11 2 false .nil)))))))))))), [])], [], [], 90, 2, [], []⟩
theorem showX_ok : showX_c.Ok Tryd.prog 46 := by
  refine fn_ok showX_H 2 rfl _ Tryd.func46 rfl rfl ⟨rootX_ok, node_ok, holds_ok, bit_ok, nodeHash_ok, trivial⟩ rfl rfl (by kernel_rfl) (fun _ => Nat.le_of_ble_eq_true rfl) ?_
  rintro ⟨l, t, k⟩ hp hr
  try dsimp only [showX_c] at hp
  try simp only [showX_c, Rng, RngL, inR, and_true, true_and] at hr
  repeat' (first | (with_reducible refine Unf.h ?_) | ((conv => whnf); first | refine Fork.mkn (fun h => ?_) (fun h => ?_) | (refine Side.mk ?_ ?_; focus (first | with_reducible rfl | assumption)) | refine RetE.mk () trivial ?_ | refine Got.mk (fun _ _ => ?_) | refine retK_r ?_ | exact rfl | refine CallS.mk (c := rootX_c) ((l, t)) ?_) | fail); all_goals try (conv => whnf)
  exfalso; omega
def show0_c : Ctr where
  D := Fo × H256
  args := fun (_, k) => [.ptr 0 0, .int .i64 (-1), .agg [.arr8 k]]
  objs := fun (l, _) => fo l
  nn := 2
  res := fun (_, _) _ => .tup [.agg (ePrf (prf0 0)), .int .i64 0]
  out := fun (l, _) _ => fo l
def show0_H : Cfg := ⟨[(40, root_c), (34, node_c), (76, holds_c), (54, bit_c), (77, nodeHash_c)], [(9, [1, 3], [5, 7, 9], (.one 0 0 false (.one 1 1 false (.one 2 0 false (.one 3 1 false (.one 4 0 false (.one 5 2 true (.one 6 0 false (.one 7 2 true (.one 8 0 false (.one 9 2 false .nil)))))))))), [10]), (11, [1, 4, 8], [5, 9, 11, 13, 15, 17], (.one 0 0 false (.one 1 1 false (.one 2 0 false (.one 3 0 false (.one 4 1 false (.one 6 0 false (.one 7 0 false (.one 8 1 false (.one 10 0 false (.one 5 2 true (.one 9 2 true (.one 11 2 true (.one 12 0 false (.one 13 2 false (.one 14 0 false (.one 15 2 false (.one 16 0 false (.one 17 2 false .nil)))))))))))))))))), [10]), (12, [1, 3], [], (.one 0 0 false (.one 1 1 false (.one 2 0 false (.one 3 1 false (.one 4 0 false (.one 5 0 false .nil)))))), []), (15, [1, 3], [6, 8, 9, 11], (.one 0 0 false (.one 1 1 false (.one 2 0 false (.one 3 1 false (.one 4 0 false (.one 5 0 false (.one 6 2 true (.one 7 0 false (.one 8 2 true (.one 9 2 false (.one 10 0 false (.one 11 2 false .nil)))))))))))), [])], [], [], 90, 2, [], []⟩
theorem show0_ok : show0_c.Ok Tryd.prog 46 := by
  refine fn_ok show0_H 2 rfl _ Tryd.func46 rfl rfl ⟨root_ok, node_ok, holds_ok, bit_ok, nodeHash_ok, trivial⟩ rfl rfl (by kernel_rfl) (fun _ => Nat.le_of_ble_eq_true rfl) ?_
  rintro ⟨l, k⟩ hp hr
  try dsimp only [show0_c] at hp
  try simp only [show0_c, Rng, RngL, inR, and_true, true_and] at hr
  have hpre : root_c.pre (l, -1) := ⟨by decide, by omega⟩
  repeat' (first | (with_reducible refine Unf.h ?_) | ((conv => whnf); first | refine Fork.mkn (fun h => ?_) (fun h => ?_) | (refine Side.mk ?_ ?_; focus (first | with_reducible rfl | assumption)) | refine RetE.mk () trivial ?_ | refine Got.mk (fun _ _ => ?_) | refine retK_r ?_ | exact rfl | refine CallS.mk (c := root_c) ((l, -1)) ?_) | fail); all_goals try (conv => whnf)
  refine LoopS.autoN (I := Unit) (fun _ => True) (fun _ => [(1, .int .i64 (-1))]) (fun _ => [(0, .box 85 [.own 1]), (1, .row 51 132 eNd l), (2, .box 25 [.arr8 k]), (3, .box 36 [.nils, .int .i64 0, .arr8 zeroH, .arr8 zeroH, .int .i64 0, .arr8 zeroH, .arr8 zeroH, .arr8 zeroH]), (5, .box 36 [.nils, .int .i64 0, .arr8 zeroH, .arr8 zeroH, .int .i64 0, .arr8 zeroH, .arr8 zeroH, .arr8 zeroH]), (4, .box 25 [.arr8 (rootF l (-1))])]) 6 (fun _ => 0) () trivial ?_ ?_
  · repeat' (first | (with_reducible refine Unf.h ?_) | ((conv => whnf); first | (refine Side.mk ?_ ?_; focus (with_reducible rfl)) | (with_reducible refine Unf.h ?_) | exact True.intro) | fail); all_goals try (conv => whnf)
  · intro _ _
    have ht : ¬ inF l (-1) := fun h' => by have := h'.1; omega
    repeat' (first | (with_reducible refine Unf.h ?_) | ((conv => whnf); first | refine Fork.mkn (fun h => ?_) (fun h => ?_) | (refine Side.mk ?_ ?_; focus (first | with_reducible rfl | exact True.intro)) | refine RetE.mk () trivial ?_ | refine Got.mk (fun _ _ => ?_) | refine retK_r ?_ | exact rfl | refine CallS.mk (c := node_c) ((l, -1)) ?_) | fail); all_goals try (conv => whnf)
    all_goals exact absurd (show inF l (-1) by assumption) ht
def pnone_c : Ctr where
  D := (Int × Int) × H256 × H256
  args := fun (t, k, r) => [.agg [.int .i64 t.1, .int .i64 t.2], .agg [.arr8 k], .agg [.arr8 r]]
  res := fun _ _ => .bool true
def pnone_H : Cfg := ⟨[(46, showN_c), (46, showX_c), (46, show0_c), (16, check_c), (14, awake12_c), (21, ptexts_c)], [(1, [1, 3], [], (.one 0 0 false (.one 1 1 false (.one 2 0 false (.one 3 1 false (.one 4 0 false (.one 5 0 false .nil)))))), [])], [], [], 81, 0, [], []⟩
theorem pnone_ok : pnone_c.Ok Tryd.prog 10 := by
  refine fn_ok pnone_H 0 rfl _ Tryd.func10 rfl rfl ⟨showN_ok, showX_ok, show0_ok, check_ok, awake12_ok, ptexts_ok, trivial⟩ rfl rfl (by kernel_rfl) (fun _ => Nat.le_of_ble_eq_true rfl) ?_
  rintro ⟨t, k, r⟩ hp hr
  try dsimp only [pnone_c] at hp
  try simp only [pnone_c, Rng, RngL, inR, and_true, true_and] at hr
  have hc : check_c.pre (prf0 t.2, k, r) := Nat.zero_le _
  have hx : ptexts_c.pre (prf0 t.2, k) := Nat.zero_le _
  have hn : ¬ (0 ≤ t.2 ∧ t.2 ≤ 2) → ¬ okP (prf0 t.2) k r ∧ ¬ hasP (prf0 t.2) k r ∧ okT (prf0 t.2) k = [] := fun h =>
    have h1 : ¬ finOk (prf0 t.2) := h
    have h2 : ¬ okP (prf0 t.2) k r := fun h' => h1 (fits_fin h'.1)
    ⟨h2, fun h' => h2 h'.1, if_neg h1⟩
  repeat' (first | (with_reducible refine Unf.h ?_) | fail); all_goals try (conv => whnf)
  refine Or2.l (CallS.mk (c := showN_c) ((t.1, k)) ?_)
  repeat' (first | (with_reducible refine Unf.h ?_) | ((conv => whnf); first | (refine Side.mk ?_ ?_; focus (first | with_reducible rfl | exact True.intro)) | refine Got.mk (fun _ _ => ?_)) | fail); all_goals try (conv => whnf)
  by_cases ht : t.1 = -1
  · refine Or2.r (Or2.r (CallS.mk (c := show0_c) (([], k)) ?_))
    by_cases he : 0 ≤ t.2 ∧ t.2 ≤ 2
    · repeat' (first | (with_reducible refine Unf.h ?_) | ((conv => whnf); first | refine Fork.mkn (fun h => ?_) (fun h => ?_) | refine Fork.mk (fun h => ?_) (fun h => ?_) | (refine Side.mk ?_ ?_; focus (first | with_reducible rfl | exact True.intro | assumption | omega | (refine congrArg (SV.int _) ?_; omega))) | refine RetE.mk () trivial ?_ | refine Got.mk (fun _ _ => ?_) | refine retK_r ?_ | exact rfl | refine CallS.mk (c := check_c) ((prf0 t.2, k, r)) ?_ | refine CallS.mk (c := awake12_c) (()) ?_) | fail); all_goals try (conv => whnf)
      all_goals first | (exfalso; omega) | contradiction | exact absurd (show decide ((0 : Int) = 0) = decide (t.1 = -1) by simp [ht]) (by assumption)
    · obtain ⟨h1, h2, h3⟩ := hn he
      repeat' (first | (with_reducible refine Unf.h ?_) | ((conv => whnf); first | refine Fork.mkn (fun h => ?_) (fun h => ?_) | refine Fork.mk (fun h => ?_) (fun h => ?_) | (refine Side.mk ?_ ?_; focus (first | with_reducible rfl | exact True.intro | assumption | omega | (refine congrArg (SV.int _) ?_; omega) | (simp [*, h3]; done))) | refine RetE.mk () trivial ?_ | refine Got.mk (fun _ _ => ?_) | refine retK_r ?_ | exact rfl | refine CallS.mk (c := check_c) ((prf0 t.2, k, r)) ?_ | refine CallS.mk (c := awake12_c) (()) ?_ | refine CallS.mk (c := ptexts_c) ((prf0 t.2, k)) ?_) | fail); all_goals try (conv => whnf)
      all_goals first | (exfalso; omega) | contradiction | exact absurd (by assumption) h1 | exact absurd (by assumption) h2 | exact absurd (show decide ((0 : Int) = 0) = decide (t.1 = -1) by simp [ht]) (by assumption)
  · have hpre : showX_c.pre ([], t.1, k) := fun h => ht (isT_nil.1 h)
    refine Or2.r (Or2.l (CallS.mk (c := showX_c) (([], t.1, k)) ?_))
    by_cases he : 0 ≤ t.2 ∧ t.2 ≤ 2
    · repeat' (first | (with_reducible refine Unf.h ?_) | ((conv => whnf); first | refine Fork.mkn (fun h => ?_) (fun h => ?_) | refine Fork.mk (fun h => ?_) (fun h => ?_) | (refine Side.mk ?_ ?_; focus (first | with_reducible rfl | exact True.intro | assumption | omega)) | refine RetE.mk () trivial ?_ | refine Got.mk (fun _ _ => ?_) | refine retK_r ?_ | exact rfl | refine CallS.mk (c := check_c) ((prf0 t.2, k, r)) ?_ | refine CallS.mk (c := awake12_c) (()) ?_) | fail); all_goals try (conv => whnf)
      all_goals first | (exfalso; omega) | contradiction | exact absurd (show decide ((1 : Int) = 0) = decide (t.1 = -1) by simp [ht]) (by assumption)
    · obtain ⟨h1, h2, h3⟩ := hn he
      repeat' (first | (with_reducible refine Unf.h ?_) | ((conv => whnf); first | refine Fork.mkn (fun h => ?_) (fun h => ?_) | refine Fork.mk (fun h => ?_) (fun h => ?_) | (refine Side.mk ?_ ?_; focus (first | with_reducible rfl | exact True.intro | assumption | omega | (simp [*, h3]; done))) | refine RetE.mk () trivial ?_ | refine Got.mk (fun _ _ => ?_) | refine retK_r ?_ | exact rfl | refine CallS.mk (c := check_c) ((prf0 t.2, k, r)) ?_ | refine CallS.mk (c := awake12_c) (()) ?_ | refine CallS.mk (c := ptexts_c) ((prf0 t.2, k)) ?_) | fail); all_goals try (conv => whnf)
      all_goals first | (exfalso; omega) | contradiction | exact absurd (by assumption) h1 | exact absurd (by assumption) h2 | exact absurd (show decide ((1 : Int) = 0) = decide (t.1 = -1) by simp [ht]) (by assumption)
end Go.Proofs.YtffaohckcggkdaaDoor

namespace Go.Proofs.YtffaohckcggkdaaDoor
set_option linter.all false
open Go.RowKit
/-! what is shown -/
def stepsT (k : H256) : PT → List Stp
  | .leaf _ _ => []
  | .node p a b => if holdsP p k then (if bitI k p.len = 1 then ⟨p.len, p.bits, a.hash⟩ :: stepsT k b else ⟨p.len, p.bits, b.hash⟩ :: stepsT k a) else []
def lastT (k : H256) : PT → PT
  | .leaf k' v' => .leaf k' v'
  | .node p a b => if holdsP p k then (if bitI k p.len = 1 then lastT k b else lastT k a) else .node p a b
def stepsO (k : H256) : Option PT → List Stp
  | none => []
  | some T => stepsT k T
def lastO (k : H256) : Option PT → Option PT
  | none => none
  | some T => some (lastT k T)
def prfOf (s : List Stp) : Option PT → Prf
  | none => ⟨s, 0, zeroH, zeroH, 0, zeroH, zeroH, zeroH⟩
  | some (.leaf k v) => ⟨s, 1, k, v, 0, zeroH, zeroH, zeroH⟩
  | some (.node p a b) => ⟨s, 2, zeroH, zeroH, p.len, p.bits, a.hash, b.hash⟩
def showP (k : H256) (o : Option PT) : Prf := prfOf (stepsO k o) (lastO k o)
theorem steps_len (k : H256) : ∀ T : PT, (stepsT k T).length ≤ T.depth
  | .leaf _ _ => Nat.le_refl _
  | .node p a b => by
    have ha := steps_len k a
    have hb := steps_len k b
    unfold stepsT
    split
    · split
      · simp only [List.length_cons, PT.depth]; omega
      · simp only [List.length_cons, PT.depth]; omega
    · simp
def showF_c : Ctr where
  D := Fo × Int × H256 × Option PT
  pre := fun (l, t, _, o) => treeAt l t o ∧ depthO o ≤ 100000
  args := fun (l, t, k, _) => [ff l, .int .i64 t, .agg [.arr8 k]]
  res := fun (_, _, k, o) _ => .tup [.agg (ePrf (showP k o)), .int .i64 0]
def showF_H : Cfg := ⟨[(40, rootZ_c), (34, nodeF_c), (34, nodeXF_c), (76, holds_c), (54, bit_c), (77, nodeHashF_c)], [(9, [1, 3], [5, 7, 9], (.one 0 0 false (.one 1 1 false (.one 2 0 false (.one 3 1 false (.one 4 0 false (.one 5 2 true (.one 6 0 false (.one 7 2 true (.one 8 0 false (.one 9 2 false .nil)))))))))), [10]), (11, [1, 4, 8], [5, 9, 11, 13, 15, 17], (.one 0 0 false (.one 1 1 false (.one 2 0 false (.one 3 0 false (.one 4 1 false (.one 6 0 false (.one 7 0 false (.one 8 1 false (.one 10 0 false (.one 5 2 true (.one 9 2 true (.one 11 2 true (.one 12 0 false (.one 13 2 false (.one 14 0 false (.one 15 2 false (.one 16 0 false (.one 17 2 false .nil)))))))))))))))))), [10]), (12, [1, 3], [], (.one 0 0 false (.one 1 1 false (.one 2 0 false (.one 3 1 false (.one 4 0 false (.one 5 0 false .nil)))))), []), (15, [1, 3], [6, 8, 9, 11], (.one 0 0 false (.one 1 1 false (.one 2 0 false (.one 3 1 false (.one 4 0 false (.one 5 0 false (.one 6 2 true (.one 7 0 false (.one 8 2 true (.one 9 2 false (.one 10 0 false (.one 11 2 false .nil)))))))))))), [])], [], [], 90, 0, [], []⟩
theorem showF_ok : showF_c.Ok Tryd.prog 46 := by
  refine fn_ok showF_H 0 rfl _ Tryd.func46 rfl rfl ⟨rootZ_ok, nodeF_ok, nodeXF_ok, holds_ok, bit_ok, nodeHashF_ok, trivial⟩ rfl rfl (by kernel_rfl) (fun _ => Nat.le_of_ble_eq_true rfl) ?_
  rintro ⟨l, t, k, o⟩ hp hr
  try dsimp only [showF_c] at hp
  try simp only [showF_c, Rng, RngL, inR, and_true, true_and] at hr
  obtain ⟨htr, hdp⟩ := hp
  have hpre : rootZ_c.pre (l, t) := treeAt_is htr
  repeat' (first | (with_reducible refine Unf.h ?_) | ((conv => whnf); first | refine Fork.mkn (fun h => ?_) (fun h => ?_) | (refine Side.mk ?_ ?_; focus (first | with_reducible rfl | assumption | omega)) | refine RetE.mk () trivial ?_ | refine Got.mk (fun _ _ => ?_) | refine retK_r ?_ | exact rfl | refine CallS.mk (c := rootZ_c) ((l, t)) ?_) | fail); all_goals try (conv => whnf)
  refine LoopS.autoN (I := Option PT × Int × List Stp) (fun (o', t', S) => treeAt l t' o' ∧ S ++ stepsO k o' = stepsO k o ∧ lastO k o' = lastO k o ∧ S.length + depthO o' ≤ depthO o) (fun (_, t', _) => [(1, .int .i64 t')]) (fun (_, _, S) => [(0, .box 25 [.arr8 k]), (1, .box 36 [.nils, .int .i64 0, .arr8 zeroH, .arr8 zeroH, .int .i64 0, .arr8 zeroH, .arr8 zeroH, .arr8 zeroH]), (3, .box 36 [.own 4, .int .i64 0, .arr8 zeroH, .arr8 zeroH, .int .i64 0, .arr8 zeroH, .arr8 zeroH, .arr8 zeroH]), (4, .row 100 65 eStp S), (2, .box 25 [.arr8 (rootF l t)])]) 5 (fun (o', _, _) => depthO o') (o, t, []) ⟨htr, rfl, rfl, by simp⟩ ?_ ?_
  · repeat' (first | (with_reducible refine Unf.h ?_) | ((conv => whnf); first | (refine Side.mk ?_ ?_; focus (with_reducible rfl)) | (with_reducible refine Unf.h ?_) | exact True.intro) | fail); all_goals try (conv => whnf)
  · rintro ⟨o', t', S⟩ ⟨h1, h2, h3, h4⟩
    match o', h1, h2, h3, h4 with
    | none, h1, h2, h3, h4 =>
      have e : showP k o = ⟨S, 0, zeroH, zeroH, 0, zeroH, zeroH, zeroH⟩ := by
        unfold showP; rw [← h2, ← h3]; simp only [stepsO, List.append_nil]; rfl
      have hpre : nodeXF_c.pre (l, t') := fun h' => by have : t' = -1 := h1; have := h'.1; omega
      repeat' (first | (with_reducible refine Unf.h ?_) | fail); all_goals try (conv => whnf)
      refine Or2.r (CallS.mk (c := nodeXF_c) ((l, t')) ?_)
      repeat' (first | (with_reducible refine Unf.h ?_) | ((conv => whnf); first | (refine Side.mk ?_ ?_; focus (first | with_reducible rfl | assumption | (simp only [*, e]; done))) | refine RetE.mk () trivial ?_ | refine Got.mk (fun _ _ => ?_) | refine retK_r ?_ | exact rfl) | fail); all_goals try (conv => whnf)
    | some (.leaf k' v'), h1, h2, h3, h4 =>
      have e : showP k o = ⟨S, 1, k', v', 0, zeroH, zeroH, zeroH⟩ := by
        unfold showP; rw [← h2, ← h3]; simp only [stepsO, stepsT, List.append_nil]; rfl
      have hpre : nodeF_c.pre (l, t', ⟨true, k', v', 0, zeroH, -1, -1, sha (leafT k' v')⟩) := h1
      repeat' (first | (with_reducible refine Unf.h ?_) | fail); all_goals try (conv => whnf)
      refine Or2.l (CallS.mk (c := nodeF_c) ((l, t', ⟨true, k', v', 0, zeroH, -1, -1, sha (leafT k' v')⟩)) ?_)
      repeat' (first | (with_reducible refine Unf.h ?_) | ((conv => whnf); first | (refine Side.mk ?_ ?_; focus (first | with_reducible rfl | assumption | (simp only [*, e]; done))) | refine RetE.mk () trivial ?_ | refine Got.mk (fun _ _ => ?_) | refine retK_r ?_ | exact rfl) | fail); all_goals try (conv => whnf)
    | some (.node p a b), h1, h2, h3, h4 =>
      obtain ⟨h0, x, y, en, ha, hb⟩ := h1
      have hpre : nodeF_c.pre (l, t', ⟨false, zeroH, zeroH, p.len, p.bits, x, y, sha (innerT p.len p.bits a.hash b.hash)⟩) := ⟨h0, en⟩
      have hx : nodeHashF_c.pre (l, x, a.hash) := ⟨den_in ha, den_hash ha⟩
      have hy : nodeHashF_c.pre (l, y, b.hash) := ⟨den_in hb, den_hash hb⟩
      repeat' (first | (with_reducible refine Unf.h ?_) | fail); all_goals try (conv => whnf)
      refine Or2.l (CallS.mk (c := nodeF_c) ((l, t', ⟨false, zeroH, zeroH, p.len, p.bits, x, y, sha (innerT p.len p.bits a.hash b.hash)⟩)) ?_)
      repeat' (first | (with_reducible refine Unf.h ?_) | ((conv => whnf); first | refine Fork.mkn (fun h => ?_) (fun h => ?_) | (refine Side.mk ?_ ?_; focus (first | with_reducible rfl | exact True.intro | assumption)) | refine Got.mk (fun _ _ => ?_) | refine CallS.mk (c := holds_c) ((p, k)) ?_) | fail); all_goals try (conv => whnf)
      · have e : showP k o = ⟨S, 2, zeroH, zeroH, p.len, p.bits, a.hash, b.hash⟩ := by
          unfold showP; rw [← h2, ← h3]; simp only [stepsO, stepsT, lastO, lastT, if_neg h, List.append_nil]; rfl
        refine CallS.mk (c := nodeHashF_c) ((l, x, a.hash)) ?_
        repeat' (first | (with_reducible refine Unf.h ?_) | ((conv => whnf); first | (refine Side.mk ?_ ?_; focus (first | with_reducible rfl | assumption)) | refine Got.mk (fun _ _ => ?_)) | fail); all_goals try (conv => whnf)
        refine CallS.mk (c := nodeHashF_c) ((l, y, b.hash)) ?_
        repeat' (first | (with_reducible refine Unf.h ?_) | ((conv => whnf); first | (refine Side.mk ?_ ?_; focus (first | with_reducible rfl | assumption | (simp only [*, e]; done))) | refine RetE.mk () trivial ?_ | refine Got.mk (fun _ _ => ?_) | refine retK_r ?_ | exact rfl) | fail); all_goals try (conv => whnf)
      · have hh : holdsP p k := h
        clear h
        refine CallS.mk (c := bit_c) ((k, p.len)) ?_
        repeat' (first | (with_reducible refine Unf.h ?_) | ((conv => whnf); first | refine Fork.mk (fun h => ?_) (fun h => ?_) | (refine Side.mk ?_ ?_; focus (first | with_reducible rfl | exact True.intro)) | refine Got.mk (fun _ _ => ?_)) | fail); all_goals try (conv => whnf)
        · have e1 : stepsO k (some (.node p a b)) = ⟨p.len, p.bits, a.hash⟩ :: stepsO k (some b) := by simp only [stepsO, stepsT, if_pos hh, if_pos h]
          have e2 : lastO k (some (.node p a b)) = lastO k (some b) := by simp only [lastO, lastT, if_pos hh, if_pos h]
          rw [e1] at h2
          rw [e2] at h3
          refine CallS.mk (c := nodeHashF_c) ((l, x, a.hash)) ?_
          repeat' (first | (with_reducible refine Unf.h ?_) | ((conv => whnf); first | (refine Side.mk ?_ ?_; focus (first | with_reducible rfl | assumption)) | refine Got.mk (fun _ _ => ?_)) | fail); all_goals try (conv => whnf)
          refine ⟨[⟨p.len, p.bits, a.hash⟩], rfl, ?_⟩
          repeat' (first | (with_reducible first | refine Unf.h ?_ | refine loopK_n ?_) | ((conv => whnf); (refine Side.mk ?_ ?_; focus ((intros; (try simp only [lenS, inR, cutS, loI, hiI] at *); omega)))) | fail); all_goals try (conv => whnf)
          refine ⟨(some b, y, S ++ [⟨p.len, p.bits, a.hash⟩]), ⟨?_, hb, by rw [← h2]; simp, h3, ?_⟩, ?_⟩
          · show b.depth < max a.depth b.depth + 1; omega
          · have : S.length + (max a.depth b.depth + 1) ≤ depthO o := h4
            show (S ++ [_]).length + b.depth ≤ _
            rw [List.length_append, List.length_cons, List.length_nil]; omega
          repeat' (first | (with_reducible refine Unf.h ?_) | ((conv => whnf); first | (refine Side.mk ?_ ?_; focus (with_reducible rfl)) | (with_reducible refine Unf.h ?_) | exact True.intro) | fail); all_goals try (conv => whnf)
        · have e1 : stepsO k (some (.node p a b)) = ⟨p.len, p.bits, b.hash⟩ :: stepsO k (some a) := by simp only [stepsO, stepsT, if_pos hh, if_neg h]
          have e2 : lastO k (some (.node p a b)) = lastO k (some a) := by simp only [lastO, lastT, if_pos hh, if_neg h]
          rw [e1] at h2
          rw [e2] at h3
          refine CallS.mk (c := nodeHashF_c) ((l, y, b.hash)) ?_
          repeat' (first | (with_reducible refine Unf.h ?_) | ((conv => whnf); first | (refine Side.mk ?_ ?_; focus (first | with_reducible rfl | assumption)) | refine Got.mk (fun _ _ => ?_)) | fail); all_goals try (conv => whnf)
          refine ⟨[⟨p.len, p.bits, b.hash⟩], rfl, ?_⟩
          repeat' (first | (with_reducible first | refine Unf.h ?_ | refine loopK_n ?_) | ((conv => whnf); (refine Side.mk ?_ ?_; focus ((intros; (try simp only [lenS, inR, cutS, loI, hiI] at *); omega)))) | fail); all_goals try (conv => whnf)
          refine ⟨(some a, x, S ++ [⟨p.len, p.bits, b.hash⟩]), ⟨?_, ha, by rw [← h2]; simp, h3, ?_⟩, ?_⟩
          · show a.depth < max a.depth b.depth + 1; omega
          · have : S.length + (max a.depth b.depth + 1) ≤ depthO o := h4
            show (S ++ [_]).length + a.depth ≤ _
            rw [List.length_append, List.length_cons, List.length_nil]; omega
          repeat' (first | (with_reducible refine Unf.h ?_) | ((conv => whnf); first | (refine Side.mk ?_ ?_; focus (with_reducible rfl)) | (with_reducible refine Unf.h ?_) | exact True.intro) | fail); all_goals try (conv => whnf)
end Go.Proofs.YtffaohckcggkdaaDoor

namespace Go.Proofs.YtffaohckcggkdaaDoor
set_option linter.all false
open Go.RowKit
/-! the chapter's proof -/
def rshow_c : Ctr where
  D := Option PT × H256
  pre := fun (o, _) => wfO o ∧ depthO o < 1000
  args := fun (o, k) => [.fs 64 eKV (listO o), .agg [.arr8 k]]
  res := fun (o, k) _ => .agg (ePrf (showP k o))
def rshow_H : Cfg := ⟨[(58, rover_c), (59, rpart_c), (60, rholds_c), (18, (rroot_c 1000)), (57, rbit_c)], [(12, [1, 2], [6, 8, 9, 11], (.one 0 0 false (.one 1 1 false (.one 2 1 false (.one 3 0 false (.one 4 0 false (.one 5 0 false (.one 6 2 true (.one 7 0 false (.one 8 2 true (.one 9 2 false (.one 10 0 false (.one 11 2 false .nil)))))))))))), []), (14, [1, 2], [6, 8, 9, 11], (.one 0 0 false (.one 1 1 false (.one 2 1 false (.one 3 0 false (.one 4 0 false (.one 5 0 false (.one 6 2 true (.one 7 0 false (.one 8 2 true (.one 9 2 false (.one 10 0 false (.one 11 2 false .nil)))))))))))), [])], [], [], 82, 0, [], []⟩
theorem rshow_ok : rshow_c.Ok Tryd.prog 23 := by
  refine fn_ok rshow_H 0 rfl _ Tryd.func23 rfl rfl ⟨rover_ok, rpart_ok, rholds_ok, rroot1000_ok, rbit_ok, trivial⟩ rfl rfl (by kernel_rfl) (fun _ => Nat.le_of_ble_eq_true rfl) ?_
  rintro ⟨o, k⟩ hp hr
  try dsimp only [rshow_c] at hp
  try simp only [rshow_c, Rng, RngL, inR, and_true, true_and] at hr
  obtain ⟨hw, hd⟩ := hp
  repeat' (first | (with_reducible refine Unf.h ?_) | fail); all_goals try (conv => whnf)
  refine LoopS.autoN (I := Option PT × List KV × List Stp) (fun (o', L, S) => L = listO o' ∧ wfO o' ∧ S ++ stepsO k o' = stepsO k o ∧ lastO k o' = lastO k o ∧ S.length + depthO o' ≤ depthO o) (fun (_, L, _) => [(0, .fs 64 eKV L)]) (fun (_, _, S) => [(0, .box 25 [.arr8 k]), (1, .box 29 [.nils, .int .i64 0, .arr8 zeroH, .arr8 zeroH, .int .i64 0, .arr8 zeroH, .arr8 zeroH, .arr8 zeroH]), (2, .box 29 [.own 3, .int .i64 0, .arr8 zeroH, .arr8 zeroH, .int .i64 0, .arr8 zeroH, .arr8 zeroH, .arr8 zeroH]), (3, .row 101 65 eStp S)]) 4 (fun (o', _, _) => depthO o') (o, listO o, []) ⟨rfl, hw, rfl, rfl, by simp⟩ ?_ ?_
  · repeat' (first | (with_reducible refine Unf.h ?_) | ((conv => whnf); first | (refine Side.mk ?_ ?_; focus (with_reducible rfl)) | (with_reducible refine Unf.h ?_) | exact True.intro) | fail); all_goals try (conv => whnf)
  · rintro ⟨o', L, S⟩ ⟨h0, h1, h2, h3, h4⟩
    match o', h0, h1, h2, h3, h4 with
    | none, h0, h1, h2, h3, h4 =>
      have e : showP k o = ⟨S, 0, zeroH, zeroH, 0, zeroH, zeroH, zeroH⟩ := by
        unfold showP; rw [← h2, ← h3]; simp only [stepsO, List.append_nil]; rfl
      obtain rfl : L = [] := h0
      clear h0
      repeat' (first | (with_reducible refine Unf.h ?_) | ((conv => whnf); first | refine Fork.mk (fun h => ?_) (fun h => ?_) | (refine Side.mk ?_ ?_; focus (first | (intros; (try simp only [lenS, inR, cutS, loI, hiI, e] at *); omega) | (simp only [*, e]; done))) | (refine Idx.mk ?_ ?_; focus (omega)) | refine RetE.mk () trivial ?_ | refine retK_r ?_ | exact rfl) | fail); all_goals try (conv => whnf)
      all_goals simp at h
    | some (.leaf k' v'), h0, h1, h2, h3, h4 =>
      have e : showP k o = ⟨S, 1, k', v', 0, zeroH, zeroH, zeroH⟩ := by
        unfold showP; rw [← h2, ← h3]; simp only [stepsO, stepsT, List.append_nil]; rfl
      obtain rfl : L = [(k', v')] := h0
      clear h0
      repeat' (first | (with_reducible refine Unf.h ?_) | ((conv => whnf); first | refine Fork.mk (fun h => ?_) (fun h => ?_) | (refine Side.mk ?_ ?_; focus (first | (intros; (try simp only [lenS, inR, cutS, loI, hiI, e] at *); omega) | (simp only [*, e]; done) | (simp [*, e]; done))) | (refine Idx.mk ?_ ?_; focus (omega)) | refine RetE.mk () trivial ?_ | refine retK_r ?_ | exact rfl) | fail); all_goals try (conv => whnf)
      all_goals simp at h
    | some (.node p a b), h0, h1, h2, h3, h4 =>
      obtain rfl : L = a.list ++ b.list := h0
      clear h0
      have hlen : (a.list ++ b.list).length = a.list.length + b.list.length := List.length_append
      have la := list_pos a
      have lb := list_pos b
      have hw : (PT.node p a b).wf := h1
      have hd4 : S.length + (max a.depth b.depth + 1) ≤ depthO o := h4
      have hpa : (rroot_c 1000).pre (some a) := ⟨hw.2.2.2.1, by show a.depth < 1000; omega⟩
      have hpb : (rroot_c 1000).pre (some b) := ⟨hw.2.2.2.2, by show b.depth < 1000; omega⟩
      have ca : cutL (a.list ++ b.list) none (some (a.list.length : Int)) = a.list := by simp [cutL, loI, hiI]
      have cb : cutL (a.list ++ b.list) (some (a.list.length : Int)) none = b.list := by simp [cutL, loI, hiI]
      repeat' (first | (with_reducible refine Unf.h ?_) | ((conv => whnf); first | refine Fork.mkn (fun h => ?_) (fun h => ?_) | refine Fork.mk (fun h => ?_) (fun h => ?_) | (refine Side.mk ?_ ?_; focus (first | with_reducible rfl | exact True.intro | assumption | omega | (intros; (try simp only [lenS, inR, cutS, loI, hiI] at *); omega))) | (refine Idx.mk ?_ ?_; focus (omega)) | refine RetE.mk () trivial ?_ | refine Got.mk (fun _ _ => ?_) | refine retK_r ?_ | exact rfl | refine CallS.mk (c := rover_c) ((p, a, b)) ?_ | refine CallS.mk (c := rpart_c) ((p, a, b)) ?_ | refine CallS.mk (c := rholds_c) ((p, k)) ?_) | fail); all_goals try (conv => whnf)
      · have e : showP k o = ⟨S, 2, zeroH, zeroH, p.len, p.bits, a.hash, b.hash⟩ := by
          unfold showP; rw [← h2, ← h3]; simp only [stepsO, stepsT, lastO, lastT, if_neg h, List.append_nil]; rfl
        refine CallS.mk (c := rroot_c 1000) (some a) ?_
        repeat' (first | (with_reducible refine Unf.h ?_) | ((conv => whnf); first | (refine Side.mk ?_ ?_; focus (first | assumption | (intros; (try simp only [lenS, inR, cutS, loI, hiI, ca, listO, hashO] at *); omega) | (simp only [*, ca, listO, hashO]; done))) | refine Got.mk (fun _ _ => ?_)) | fail); all_goals try (conv => whnf)
        refine CallS.mk (c := rroot_c 1000) (some b) ?_
        repeat' (first | (with_reducible refine Unf.h ?_) | ((conv => whnf); first | (refine Side.mk ?_ ?_; focus (first | assumption | (simp only [*, cb, listO, hashO, e]; done))) | refine RetE.mk () trivial ?_ | refine Got.mk (fun _ _ => ?_) | refine retK_r ?_ | exact rfl) | fail); all_goals try (conv => whnf)
      · have hh : holdsP p k := h
        clear h
        refine CallS.mk (c := rbit_c) ((k, p.len)) ?_
        repeat' (first | (with_reducible refine Unf.h ?_) | ((conv => whnf); first | refine Fork.mk (fun h => ?_) (fun h => ?_) | (refine Side.mk ?_ ?_; focus (first | with_reducible rfl | exact True.intro | (intros; (try simp only [lenS, inR, cutS, loI, hiI] at *); omega))) | refine Got.mk (fun _ _ => ?_)) | fail); all_goals try (conv => whnf)
        · have hb : ¬ bitI k p.len = 1 := by omega
          have e1 : stepsO k (some (.node p a b)) = ⟨p.len, p.bits, b.hash⟩ :: stepsO k (some a) := by simp only [stepsO, stepsT, if_pos hh, if_neg hb]
          have e2 : lastO k (some (.node p a b)) = lastO k (some a) := by simp only [lastO, lastT, if_pos hh, if_neg hb]
          rw [e1] at h2
          rw [e2] at h3
          refine CallS.mk (c := rroot_c 1000) (some b) ?_
          repeat' (first | (with_reducible refine Unf.h ?_) | ((conv => whnf); first | (refine Side.mk ?_ ?_; focus (first | assumption | (simp only [*, cb, listO, hashO]; done))) | refine Got.mk (fun _ _ => ?_)) | fail); all_goals try (conv => whnf)
          refine ⟨[⟨p.len, p.bits, b.hash⟩], rfl, ?_⟩
          repeat' (first | (with_reducible first | refine Unf.h ?_ | refine loopK_n ?_) | ((conv => whnf); (refine Side.mk ?_ ?_; focus ((intros; (try simp only [lenS, inR, cutS, loI, hiI] at *); omega)))) | fail); all_goals try (conv => whnf)
          refine ⟨(some a, a.list, S ++ [⟨p.len, p.bits, b.hash⟩]), ⟨?_, rfl, hw.2.2.2.1, by rw [← h2]; simp, h3, ?_⟩, ?_⟩
          · show a.depth < max a.depth b.depth + 1; omega
          · show (S ++ [_]).length + a.depth ≤ _
            rw [List.length_append, List.length_cons, List.length_nil]; omega
          repeat' (first | (with_reducible refine Unf.h ?_) | ((conv => whnf); first | (refine Side.mk ?_ ?_; focus (first | with_reducible rfl | (simp only [*, ca]; done))) | (with_reducible refine Unf.h ?_) | exact True.intro) | fail); all_goals try (conv => whnf)
        · have hb : bitI k p.len = 1 := by rcases bitI_01 k p.len with h' | h' <;> omega
          have e1 : stepsO k (some (.node p a b)) = ⟨p.len, p.bits, a.hash⟩ :: stepsO k (some b) := by simp only [stepsO, stepsT, if_pos hh, if_pos hb]
          have e2 : lastO k (some (.node p a b)) = lastO k (some b) := by simp only [lastO, lastT, if_pos hh, if_pos hb]
          rw [e1] at h2
          rw [e2] at h3
          refine CallS.mk (c := rroot_c 1000) (some a) ?_
          repeat' (first | (with_reducible refine Unf.h ?_) | ((conv => whnf); first | (refine Side.mk ?_ ?_; focus (first | assumption | (simp only [*, ca, listO, hashO]; done))) | refine Got.mk (fun _ _ => ?_)) | fail); all_goals try (conv => whnf)
          refine ⟨[⟨p.len, p.bits, a.hash⟩], rfl, ?_⟩
          repeat' (first | (with_reducible first | refine Unf.h ?_ | refine loopK_n ?_) | ((conv => whnf); (refine Side.mk ?_ ?_; focus ((intros; (try simp only [lenS, inR, cutS, loI, hiI] at *); omega)))) | fail); all_goals try (conv => whnf)
          refine ⟨(some b, b.list, S ++ [⟨p.len, p.bits, a.hash⟩]), ⟨?_, rfl, hw.2.2.2.2, by rw [← h2]; simp, h3, ?_⟩, ?_⟩
          · show b.depth < max a.depth b.depth + 1; omega
          · show (S ++ [_]).length + b.depth ≤ _
            rw [List.length_append, List.length_cons, List.length_nil]; omega
          repeat' (first | (with_reducible refine Unf.h ?_) | ((conv => whnf); first | (refine Side.mk ?_ ?_; focus (first | with_reducible rfl | (simp only [*, cb]; done))) | (with_reducible refine Unf.h ?_) | exact True.intro) | fail); all_goals try (conv => whnf)
      all_goals (exfalso; omega)
end Go.Proofs.YtffaohckcggkdaaDoor

namespace Go.Proofs.YtffaohckcggkdaaDoor
set_option linter.all false
open Go.RowKit
/-! the chapter's texts of a proof -/
def tA (p : Prf) : Bs := if p.fin = 1 then leafT p.key p.value else txt 101#8 []
def t0 (p : Prf) : Bs := if p.fin = 2 then innerT p.plen p.bits p.left p.right else tA p
theorem t0_end {p : Prf} (h : finOk p) : t0 p = endT p := by
  have h0 := h.1
  have h1 := h.2
  unfold t0 tA endT
  by_cases e0 : p.fin = 0
  · rw [if_neg (by omega), if_neg (by omega), if_pos e0]
  · by_cases e1 : p.fin = 1
    · rw [if_neg (by omega), if_pos e1, if_neg e0, if_pos e1]
    · rw [if_pos (by omega), if_neg e0, if_neg e1]
def rtexts_c : Ctr where
  D := Prf × H256
  pre := fun (p, _) => p.steps.length ≤ 100000
  args := fun (p, k) => [.agg (ePrf p), .agg [.arr8 k]]
  res := fun (p, k) _ => .fs 1 eP (okT p k)
def rtexts_H : Cfg := ⟨[(56, rtext_c), (28, rleaf_c), (29, rinner_c), (57, rbit_c), (24, refsum_c)], [(15, [1, 5], [3, 6], (.one 0 0 false (.one 1 1 false (.one 2 0 false (.one 4 0 false (.one 5 1 false (.one 3 2 true (.one 6 2 false (.one 7 0 false .nil)))))))), []), (16, [1, 3], [5, 6], (.one 0 0 false (.one 1 1 false (.one 2 0 false (.one 3 1 false (.one 4 0 false (.one 5 2 true (.one 6 2 false (.one 7 0 false .nil)))))))), [])], [12, 21], [], 79, 0, [], []⟩
theorem rtexts_ok : rtexts_c.Ok Tryd.prog 22 := by
  refine fn_ok rtexts_H 0 rfl _ Tryd.func22 rfl rfl ⟨rtext_ok, rleaf_ok, rinner_ok, rbit_ok, refsum_ok, trivial⟩ rfl rfl (by kernel_rfl) (fun _ => Nat.le_of_ble_eq_true rfl) ?_
  rintro ⟨p, k⟩ hp hr
  try dsimp only [rtexts_c] at hp
  try simp only [rtexts_c, Rng, RngL, inR, and_true, true_and] at hr
  have hpre : rtext_c.pre (101#8, []) := ⟨by simp, by simp⟩
  repeat' (first | (with_reducible refine Unf.h ?_) | ((conv => whnf); first | (refine Side.mk ?_ ?_; focus (first | with_reducible rfl | assumption)) | refine Got.mk (fun _ _ => ?_) | refine CallS.mk (c := rtext_c) ((101#8, [])) ?_) | fail); all_goals try (conv => whnf)
  refine CutS.auto (I := Unit) (fun _ => True) (fun _ => [(6, .fs 1 eB (tA p))]) (fun _ => [(0, .box 29 (ePrf p)), (1, .box 25 [.arr8 k])]) 2 ?_ ?_
  · repeat' (first | (with_reducible first | refine Unf.h ?_ | refine cutK_n ?_) | ((conv => whnf); first | refine Fork.mk (fun h => ?_) (fun h => ?_) | (refine Side.mk ?_ ?_; focus (first | with_reducible rfl | exact True.intro)) | refine Got.mk (fun _ _ => ?_) | refine CallS.mk (c := rleaf_c) ((p.key, p.value)) ?_) | fail); all_goals try (conv => whnf)
    · have e : tA p = leafT p.key p.value := if_pos h
      refine ⟨(), trivial, ?_⟩
      repeat' (first | (with_reducible refine Unf.h ?_) | ((conv => whnf); first | (refine Side.mk ?_ ?_; focus (first | with_reducible rfl | (simp only [*, e]; done))) | (with_reducible refine Unf.h ?_) | exact True.intro) | fail); all_goals try (conv => whnf)
    · have e : tA p = txt 101#8 [] := if_neg h
      refine ⟨(), trivial, ?_⟩
      repeat' (first | (with_reducible refine Unf.h ?_) | ((conv => whnf); first | (refine Side.mk ?_ ?_; focus (first | with_reducible rfl | (simp only [*, e]; done))) | (with_reducible refine Unf.h ?_) | exact True.intro) | fail); all_goals try (conv => whnf)
  intro _ _
  repeat' (first | (with_reducible refine Unf.h ?_) | fail); all_goals try (conv => whnf)
  refine CutS.auto (I := Unit) (fun _ => True) (fun _ => [(6, .fs 1 eB (t0 p))]) (fun _ => [(0, .box 29 (ePrf p)), (1, .box 25 [.arr8 k])]) 2 ?_ ?_
  · repeat' (first | (with_reducible first | refine Unf.h ?_ | refine cutK_n ?_) | ((conv => whnf); first | refine Fork.mk (fun h => ?_) (fun h => ?_) | (refine Side.mk ?_ ?_; focus (first | with_reducible rfl | exact True.intro)) | refine Got.mk (fun _ _ => ?_) | refine CallS.mk (c := rinner_c) ((p.plen, p.bits, p.left, p.right)) ?_) | fail); all_goals try (conv => whnf)
    · have e : t0 p = innerT p.plen p.bits p.left p.right := if_pos h
      refine ⟨(), trivial, ?_⟩
      repeat' (first | (with_reducible refine Unf.h ?_) | ((conv => whnf); first | (refine Side.mk ?_ ?_; focus (first | with_reducible rfl | (simp only [*, e]; done))) | (with_reducible refine Unf.h ?_) | exact True.intro) | fail); all_goals try (conv => whnf)
    · have e : t0 p = tA p := if_neg h
      refine ⟨(), trivial, ?_⟩
      repeat' (first | (with_reducible refine Unf.h ?_) | ((conv => whnf); first | (refine Side.mk ?_ ?_; focus (first | with_reducible rfl | (simp only [*, e]; done))) | (with_reducible refine Unf.h ?_) | exact True.intro) | fail); all_goals try (conv => whnf)
  intro _ _
  by_cases hf : finOk p
  · have hf0 := hf.1
    have hf1 := hf.2
    have hok : okT p k = txsT p k p.steps := if_pos hf
    rw [t0_end hf]
    repeat' (first | (with_reducible refine Unf.h ?_) | ((conv => whnf); first | refine Fork.mk (fun h => ?_) (fun h => ?_) | (refine Side.mk ?_ ?_; focus (first | omega | (intros; (try simp only [lenS, inR, cutS, loI, hiI] at *); omega))) | refine RetE.mk () trivial ?_ | refine retK_r ?_ | exact rfl) | fail); all_goals try (conv => whnf)
    refine LoopS.autoN (fun n : Nat => n ≤ p.steps.length) (fun n => [(7, .int .i64 ((n : Int) - 1)), (6, .fs 1 eB (topT p k (p.steps.drop n))), (5, .own 2)]) (fun n => [(0, .box 29 (ePrf p)), (1, .box 25 [.arr8 k]), (2, .row 48 1 eP (txsT p k (p.steps.drop n)))]) 3 (fun n => n) p.steps.length (Nat.le_refl _) ?_ ?_
    · repeat' (first | (with_reducible refine Unf.h ?_) | ((conv => whnf); first | (refine Side.mk ?_ ?_; focus (first | with_reducible rfl | (simp only [*, List.drop_length, topT, txsT]; done))) | (with_reducible refine Unf.h ?_)) | fail); all_goals try (conv => whnf)
      refine Side.mk (by rw [List.drop_length]; rfl) ?_
      repeat' (first | (with_reducible refine Unf.h ?_) | ((conv => whnf); exact True.intro) | fail); all_goals try (conv => whnf)
    · intro n hn
      have hl := txsT_len p k (p.steps.drop n)
      rw [List.length_drop] at hl
      by_cases h0 : n = 0
      · subst h0
        repeat' (first | (with_reducible refine Unf.h ?_) | ((conv => whnf); first | refine Fork.mk (fun h => ?_) (fun h => ?_) | (refine Side.mk ?_ ?_; focus ((simp only [*, List.drop_zero, hok]; done))) | (refine Idx.mk ?_ ?_; focus (omega)) | refine RetE.mk () trivial ?_ | refine retK_r ?_ | exact rfl) | fail); all_goals try (conv => whnf)
        exfalso; omega
      · have hi : ((n : Int) - 1).toNat < p.steps.length := by omega
        have hd : p.steps.drop (n - 1) = p.steps[((n : Int) - 1).toNat]'hi :: p.steps.drop n := by
          rw [drop_at p.steps (n - 1) (by omega)]
          congr 1
          · congr 1; omega
          · congr 1; omega
        generalize hs : p.steps[((n : Int) - 1).toNat]'hi = s at *
        have htl := topT_len p k (p.steps.drop n)
        repeat' (first | (with_reducible refine Unf.h ?_) | ((conv => whnf); first | refine Fork.mk (fun h => ?_) (fun h => ?_) | (refine Side.mk ?_ ?_; focus (first | with_reducible rfl | exact True.intro | omega | (simp only [*, hs]; done))) | (refine Idx.mk ?_ ?_; focus (omega)) | refine RetE.mk () trivial ?_ | refine Got.mk (fun _ _ => ?_) | refine retK_r ?_ | exact rfl | refine CallS.mk (c := rbit_c) ((k, s.len)) ?_) | fail); all_goals try (conv => whnf)
        · have e : topT p k (p.steps.drop (n - 1)) = innerT s.len s.bits (sha (topT p k (p.steps.drop n))) s.other := by rw [hd]; exact if_neg (by omega)
          have e2 : txsT p k (p.steps.drop (n - 1)) = txsT p k (p.steps.drop n) ++ [innerT s.len s.bits (sha (topT p k (p.steps.drop n))) s.other] := by rw [← e, hd]; rfl
          clear hd
          refine CallS.mk (c := refsum_c) ((topT p k (p.steps.drop n))) ?_
          repeat' (first | (with_reducible refine Unf.h ?_) | ((conv => whnf); first | (refine Side.mk ?_ ?_; focus (first | with_reducible rfl | assumption)) | refine Got.mk (fun _ _ => ?_)) | fail); all_goals try (conv => whnf)
          refine CallS.mk (c := rinner_c) ((s.len, s.bits, sha (topT p k (p.steps.drop n)), s.other)) ?_
          repeat' (first | (with_reducible first | refine Unf.h ?_ | refine loopK_n ?_) | ((conv => whnf); first | (refine Side.mk ?_ ?_; focus (first | with_reducible rfl | exact True.intro | (intros; (try simp only [lenS, inR, cutS, loI, hiI, hs] at *); omega) | (simp only [*, hs]; done))) | refine Got.mk (fun _ _ => ?_) | refine Ex.mk [_] rfl ?_) | fail); all_goals try (conv => whnf)
          refine ⟨n - 1, ⟨by omega, by omega⟩, ?_⟩
          repeat' (first | (with_reducible refine Unf.h ?_) | ((conv => whnf); first | (refine Side.mk ?_ ?_; focus (first | with_reducible rfl | (refine congrArg (SV.int _) ?_; omega) | (simp only [*, e, e2]; done))) | (with_reducible refine Unf.h ?_) | exact True.intro) | fail); all_goals try (conv => whnf)
        · have hb : bitI k s.len = 1 := by rcases bitI_01 k s.len with h' | h' <;> omega
          have e : topT p k (p.steps.drop (n - 1)) = innerT s.len s.bits s.other (sha (topT p k (p.steps.drop n))) := by rw [hd]; exact if_pos hb
          have e2 : txsT p k (p.steps.drop (n - 1)) = txsT p k (p.steps.drop n) ++ [innerT s.len s.bits s.other (sha (topT p k (p.steps.drop n)))] := by rw [← e, hd]; rfl
          clear hd
          refine CallS.mk (c := refsum_c) ((topT p k (p.steps.drop n))) ?_
          repeat' (first | (with_reducible refine Unf.h ?_) | ((conv => whnf); first | (refine Side.mk ?_ ?_; focus (first | with_reducible rfl | assumption)) | refine Got.mk (fun _ _ => ?_)) | fail); all_goals try (conv => whnf)
          refine CallS.mk (c := rinner_c) ((s.len, s.bits, s.other, sha (topT p k (p.steps.drop n)))) ?_
          repeat' (first | (with_reducible first | refine Unf.h ?_ | refine loopK_n ?_) | ((conv => whnf); first | (refine Side.mk ?_ ?_; focus (first | with_reducible rfl | exact True.intro | (intros; (try simp only [lenS, inR, cutS, loI, hiI, hs] at *); omega) | (simp only [*, hs]; done))) | refine Got.mk (fun _ _ => ?_) | refine Ex.mk [_] rfl ?_) | fail); all_goals try (conv => whnf)
          refine ⟨n - 1, ⟨by omega, by omega⟩, ?_⟩
          repeat' (first | (with_reducible refine Unf.h ?_) | ((conv => whnf); first | (refine Side.mk ?_ ?_; focus (first | with_reducible rfl | (refine congrArg (SV.int _) ?_; omega) | (simp only [*, e, e2]; done))) | (with_reducible refine Unf.h ?_) | exact True.intro) | fail); all_goals try (conv => whnf)
  · have hok : okT p k = [] := if_neg hf
    repeat' (first | (with_reducible refine Unf.h ?_) | ((conv => whnf); first | refine Fork.mk (fun h => ?_) (fun h => ?_) | (refine Side.mk ?_ ?_; focus (first | assumption | (intros; (try simp only [lenS, inR, cutS, loI, hiI, hok] at *); omega))) | refine RetE.mk () trivial ?_ | refine retK_r ?_ | exact rfl) | fail); all_goals try (conv => whnf)
    exact absurd (show finOk p from ⟨by omega, by omega⟩) hf
/-! one proof, two forms -/
def rpsame_c : Ctr where
  D := Prf
  pre := fun p => p.steps.length ≤ 100000
  args := fun p => [.agg (ePrf p), .agg (ePrf p)]
  res := fun _ _ => .bool true
def rpsame_H : Cfg := ⟨[], [(6, [1, 4, 6, 9], [], (.one 0 0 false (.one 1 1 false (.one 2 0 false (.one 3 0 false (.one 4 1 false (.one 5 0 false (.one 6 1 false (.one 7 0 false (.one 8 0 false (.one 9 1 false (.one 10 0 false .nil))))))))))), [])], [], [], 71, 0, [], []⟩
theorem rpsame_ok : rpsame_c.Ok Tryd.prog 47 := by
  refine fn_ok rpsame_H 0 rfl _ Tryd.func47 rfl rfl trivial rfl rfl (by kernel_rfl) (fun _ => Nat.le_of_ble_eq_true rfl) ?_
  intro (p : Prf) hp hr
  try dsimp only [rpsame_c] at hp
  try simp only [rpsame_c, Rng, RngL, inR, and_true, true_and] at hr
  repeat' (first | (with_reducible refine Unf.h ?_) | ((conv => whnf); first | refine Fork.mkn (fun h => ?_) (fun h => ?_) | (refine Side.mk ?_ ?_; focus (omega)) | refine RetE.mk () trivial ?_ | refine retK_r ?_ | exact rfl) | fail); all_goals try (conv => whnf)
  refine LoopS.auto (fun n : Nat => n ≤ p.steps.length) (fun n => [(5, .int .i64 n)]) (fun _ => [(0, .box 29 (ePrf p)), (1, .box 29 (ePrf p))]) (fun n => p.steps.length - n) 0 (Nat.zero_le _) ?_ ?_
  · repeat' (first | (with_reducible refine Unf.h ?_) | ((conv => whnf); first | (refine Side.mk ?_ ?_; focus (first | with_reducible rfl | (refine congrArg (SV.int _) ?_; omega))) | (with_reducible refine Unf.h ?_) | exact True.intro) | fail); all_goals try (conv => whnf)
  · intro n hn
    repeat' (first | (with_reducible first | refine Unf.h ?_ | refine loopK_n ?_) | ((conv => whnf); first | refine Fork.mkn (fun h => ?_) (fun h => ?_) | refine Fork.mk (fun h => ?_) (fun h => ?_) | (refine Side.mk ?_ ?_; focus (first | omega | (intros; (try simp only [lenS, inR, cutS, loI, hiI] at *); omega) | (simp [*]; done))) | (refine Idx.mk ?_ ?_; focus (omega)) | refine RetE.mk () trivial ?_ | refine retK_r ?_ | exact rfl) | fail); all_goals try (conv => whnf)
    all_goals first
      | exact absurd (show _ ∧ _ ∧ _ from ⟨rfl, rfl, rfl⟩) h
      | exact absurd (show _ ∧ _ from ⟨rfl, rfl⟩) h
      | exact absurd rfl h
      | (refine ⟨n + 1, ⟨by omega, by omega⟩, ?_⟩; repeat' (first | (with_reducible refine Unf.h ?_) | ((conv => whnf); first | (refine Side.mk ?_ ?_; focus (first | with_reducible rfl | (refine congrArg (SV.int _) ?_; omega))) | (with_reducible refine Unf.h ?_) | exact True.intro) | fail); all_goals try (conv => whnf))
def toP_c : Ctr where
  D := Prf
  pre := fun p => p.steps.length ≤ 100000
  args := fun p => [.agg (ePrf p)]
  res := fun p _ => .agg (ePrf p)
def toP_H : Cfg := ⟨[], [(5, [1, 3, 6], [7, 8, 10], (.one 0 0 false (.one 1 1 false (.one 2 0 false (.one 3 1 false (.one 4 0 false (.one 5 0 false (.one 6 1 false (.one 7 2 true (.one 8 2 false (.one 9 0 false (.one 10 2 false .nil))))))))))), [])], [], [], 36, 0, [], []⟩
theorem toP_ok : toP_c.Ok Tryd.prog 48 := by
  refine fn_ok toP_H 0 rfl _ Tryd.func48 rfl rfl trivial rfl rfl (by kernel_rfl) (fun _ => Nat.le_of_ble_eq_true rfl) ?_
  intro (p : Prf) hp hr
  try dsimp only [toP_c] at hp
  try simp only [toP_c, Rng, RngL, inR, and_true, true_and] at hr
  repeat' (first | (with_reducible refine Unf.h ?_) | fail); all_goals try (conv => whnf)
  refine LoopS.autoN (fun n : Nat => n ≤ p.steps.length) (fun n => [(4, .int .i64 n)]) (fun n => [(0, .box 36 (ePrf p)), (1, .box 29 [.nils, .int .i64 0, .arr8 zeroH, .arr8 zeroH, .int .i64 0, .arr8 zeroH, .arr8 zeroH, .arr8 zeroH]), (2, .box 29 [.own 3, .int .i64 p.fin, .arr8 p.key, .arr8 p.value, .int .i64 p.plen, .arr8 p.bits, .arr8 p.left, .arr8 p.right]), (3, .row 101 65 eStp (p.steps.take n))]) 4 (fun n => p.steps.length - n) 0 (Nat.zero_le _) ?_ ?_
  · repeat' (first | (with_reducible refine Unf.h ?_) | ((conv => whnf); first | (refine Side.mk ?_ ?_; focus (first | with_reducible rfl | (refine congrArg (SV.int _) ?_; omega) | (simp [*]; done))) | (with_reducible refine Unf.h ?_) | exact True.intro) | fail); all_goals try (conv => whnf)
  · intro i hi
    repeat' (first | (with_reducible first | refine Unf.h ?_ | refine loopK_n ?_) | ((conv => whnf); first | refine Fork.mk (fun h => ?_) (fun h => ?_) | (refine Side.mk ?_ ?_; focus ((intros; (try simp only [lenS, inR, cutS, loI, hiI] at *); omega))) | (refine Idx.mk ?_ ?_; focus (omega)) | refine RetE.mk () trivial ?_ | refine Ex.mk [_] rfl ?_ | refine retK_r ?_) | fail); all_goals try (conv => whnf)
    · refine ⟨i + 1, ⟨by omega, by omega⟩, ?_⟩
      have e : p.steps.take (i + 1) = p.steps.take i ++ [p.steps[(i : Int).toNat]'(by omega)] := List.take_succ_eq_append_getElem (by omega)
      repeat' (first | (with_reducible refine Unf.h ?_) | ((conv => whnf); first | (refine Side.mk ?_ ?_; focus (first | with_reducible rfl | (refine congrArg (SV.int _) ?_; omega) | (simp only [*, e]; done))) | (with_reducible refine Unf.h ?_) | exact True.intro) | fail); all_goals try (conv => whnf)
    · have e : p.steps.take i = p.steps := List.take_of_length_le (by omega)
      repeat' (first | (with_reducible refine Unf.h ?_) | ((conv => whnf); first | (refine Side.mk ?_ ?_; focus (first | with_reducible rfl | (simp only [*, e]; done))) | exact rfl) | fail); all_goals try (conv => whnf)
end Go.Proofs.YtffaohckcggkdaaDoor

namespace Go.Proofs.YtffaohckcggkdaaDoor
set_option linter.all false
open Go.RowKit
/-! two proofs of one root -/
theorem txt_inj1 {t t' : BitVec 8} {l l' : List Bs} (h : txt t l = txt t' l') : t = t' := (List.cons.inj h).1
theorem part_inj {a b : Bs} {x y : Bs} (hl : a.length = b.length) (h : part a ++ x = part b ++ y) : a = b ∧ x = y := by
  unfold part at h
  rw [hl, List.append_assoc, List.append_assoc] at h
  have h2 := List.append_cancel_left h
  exact List.append_inj h2 hl
theorem leafT_inj {k v k' v' : H256} (h : leafT k v = leafT k' v') : k = k' ∧ v = v' := by
  have h1 := (List.cons.inj h).2
  simp only [List.flatMap_cons, List.flatMap_nil] at h1
  obtain ⟨e1, h2⟩ := part_inj (by simp) h1
  obtain ⟨e2, _⟩ := part_inj (by simp) h2
  exact ⟨Vector.toList_inj.1 e1, Vector.toList_inj.1 e2⟩
theorem innerT_inj {n n' : Int} {b l r b' l' r' : H256} (hn : 0 ≤ n ∧ n ≤ 256) (hn' : 0 ≤ n' ∧ n' ≤ 256) (h : innerT n b l r = innerT n' b' l' r') : n = n' ∧ b = b' ∧ l = l' ∧ r = r' := by
  have h1 := (List.cons.inj h).2
  simp only [List.flatMap_cons, List.flatMap_nil] at h1
  obtain ⟨e0, h2⟩ := part_inj (by simp) h1
  obtain ⟨e1, h3⟩ := part_inj (by simp) h2
  obtain ⟨e2, h4⟩ := part_inj (by simp) h3
  obtain ⟨e3, _⟩ := part_inj (by simp) h4
  refine ⟨?_, Vector.toList_inj.1 e1, Vector.toList_inj.1 e2, Vector.toList_inj.1 e3⟩
  simp only [List.cons.injEq, and_true] at e0
  obtain ⟨ea, eb⟩ := e0
  have ha := congrArg BitVec.toNat ea
  have hb := congrArg BitVec.toNat eb
  simp only [BitVec.toNat_ofInt] at ha hb
  omega
/-- no two different ones with one hash -/
def clashP (A B : List Bs) : Prop := (A.any fun a => B.any fun b => decide (¬ a = b ∧ sha a = sha b)) = true
instance (A B : List Bs) : Decidable (clashP A B) := inferInstanceAs (Decidable (_ = true))
theorem clash_iff {A B : List Bs} : clashP A B ↔ ∃ a ∈ A, ∃ b ∈ B, ¬ a = b ∧ sha a = sha b := by
  unfold clashP; simp [List.any_eq_true]
theorem top_mem (p : Prf) (k : H256) : ∀ l : List Stp, topT p k l ∈ txsT p k l
  | [] => by simp [topT, txsT]
  | s :: r => by simp [topT, txsT]
theorem txs_tail (p : Prf) (k : H256) (s : Stp) (r : List Stp) : ∀ x ∈ txsT p k r, x ∈ txsT p k (s :: r) := fun x hx => by simp [txsT, hx]
/-- what fits says of the steps and the end -/
def restOk (p : Prf) (k : H256) (r : List Stp) : Prop := (∀ s ∈ r, holdsP s.pfx k) ∧ finOk p ∧ (p.fin = 2 → formedP p.pfx ∧ ¬ holdsP p.pfx k)
theorem down_holds {k : H256} : ∀ {r : List Stp} {room x : Pfx}, down k room r = some x → ∀ s ∈ r, holdsP s.pfx k
  | [], _, _, _ => by simp
  | s :: r, room, x, h => by
    rw [down_cons] at h
    split at h
    · rename_i hc
      intro s' hs'
      rcases List.mem_cons.1 hs' with e | e
      · subst e; exact hc.1
      · exact down_holds h s' e
    · cases h
theorem fits_rest {p : Prf} {k : H256} (h : fitsP p k) : restOk p k p.steps := by
  have hf := fits_fin h
  unfold fitsP at h
  split at h
  · exact h.elim
  · rename_i room hr
    refine ⟨down_holds hr, hf, fun h2 => ?_⟩
    have := (end2 h2).1 h
    exact ⟨this.2.1.1, this.2.2⟩
theorem formed_len {p : Pfx} (h : formedP p) : 0 ≤ p.len ∧ p.len ≤ 256 := ⟨h.1, h.2.1⟩
theorem stepT_cases (k : H256) (s : Stp) (t : Bs) : ∃ x y, stepT k s t = innerT s.len s.bits x y ∧ (bitI k s.len = 1 → y = sha t) ∧ (¬ bitI k s.len = 1 → x = sha t) := by
  unfold stepT
  split
  · rename_i h; exact ⟨_, _, rfl, fun _ => rfl, fun h' => absurd h h'⟩
  · rename_i h; exact ⟨_, _, rfl, fun h' => absurd h' h, fun _ => rfl⟩
theorem endT_step {p : Prf} {k : H256} {s : Stp} {t : Bs} (hp : finOk p) (h2 : p.fin = 2 → formedP p.pfx ∧ ¬ holdsP p.pfx k) (hs : holdsP s.pfx k) (h : endT p = stepT k s t) : False := by
  obtain ⟨x, y, e, _, _⟩ := stepT_cases k s t
  rw [e] at h
  unfold endT at h
  split at h
  · have := txt_inj1 h; revert this; decide
  · split at h
    · have := txt_inj1 h; revert this; decide
    · obtain ⟨hf, hn⟩ := h2 (by have := hp.1; have := hp.2; omega)
      obtain ⟨e1, e2, _⟩ := innerT_inj (formed_len hf) (formed_len hs.1) h
      apply hn
      have e1' : p.plen = s.len := e1
      have : p.pfx = s.pfx := by unfold Prf.pfx Stp.pfx; rw [e1', e2]
      rw [this]; exact hs
def sameEnd (p q : Prf) (k : H256) : Prop := (p.fin = 1 ∧ p.key = k ↔ q.fin = 1 ∧ q.key = k) ∧ (p.fin = 1 → q.fin = 1 → p.value = q.value)
theorem endT_same {p q : Prf} {k : H256} (hp : finOk p) (hq : finOk q) (h : endT p = endT q) : sameEnd p q k := by
  have hp1 := hp.1
  have hp2 := hp.2
  have hq1 := hq.1
  have hq2 := hq.2
  by_cases h1 : p.fin = 1
  · by_cases h2 : q.fin = 1
    · unfold endT at h
      rw [if_neg (by omega), if_pos h1, if_neg (by omega), if_pos h2] at h
      obtain ⟨e1, e2⟩ := leafT_inj h
      exact ⟨by rw [e1]; simp [h1, h2], fun _ _ => e2⟩
    · exfalso
      unfold endT at h
      rw [if_neg (show ¬ p.fin = 0 by omega), if_pos h1] at h
      split at h
      · have := txt_inj1 h; revert this; decide
      · first
          | (rw [if_neg h2] at h; have := txt_inj1 h; revert this; decide)
          | (have := txt_inj1 h; revert this; decide)
  · by_cases h2 : q.fin = 1
    · exfalso
      unfold endT at h
      rw [if_neg (show ¬ q.fin = 0 by omega), if_pos h2] at h
      split at h
      · have := txt_inj1 h; revert this; decide
      · first
          | (rw [if_neg h1] at h; have := txt_inj1 h; revert this; decide)
          | (have := txt_inj1 h; revert this; decide)
    · exact ⟨⟨fun h' => absurd h'.1 h1, fun h' => absurd h'.1 h2⟩, fun h' => absurd h' h1⟩
theorem turned_core {p q : Prf} {k : H256} {A B : List Bs} (hc : ∀ a ∈ A, ∀ b ∈ B, sha a = sha b → a = b) : ∀ (r s : List Stp), restOk p k r → restOk q k s → (∀ x ∈ txsT p k r, x ∈ A) → (∀ x ∈ txsT q k s, x ∈ B) → sha (topT p k r) = sha (topT q k s) → sameEnd p q k
  | r, s, hr, hs, hA, hB, h => by
    have e := hc _ (hA _ (top_mem p k r)) _ (hB _ (top_mem q k s)) h
    match r, s, hr, hs, hA, hB, e with
    | [], [], hr, hs, hA, hB, e => exact endT_same hr.2.1 hs.2.1 e
    | [], s :: r', hr, hs, hA, hB, e => exact (endT_step hr.2.1 hr.2.2 (hs.1 s (by simp)) e).elim
    | s :: r', [], hr, hs, hA, hB, e => exact (endT_step hs.2.1 hs.2.2 (hr.1 s (by simp)) e.symm).elim
    | a :: r', b :: s', hr, hs, hA, hB, e =>
      obtain ⟨x, y, e1, f1, g1⟩ := stepT_cases k a (topT p k r')
      obtain ⟨x', y', e2, f2, g2⟩ := stepT_cases k b (topT q k s')
      have e' : innerT a.len a.bits x y = innerT b.len b.bits x' y' := by rw [← e1, ← e2]; exact e
      obtain ⟨i1', i2, i3, i4⟩ := innerT_inj (formed_len (hr.1 a (by simp)).1) (formed_len (hs.1 b (by simp)).1) e'
      have i1 : a.len = b.len := i1'
      have hsha : sha (topT p k r') = sha (topT q k s') := by
        by_cases hb : bitI k a.len = 1
        · rw [← f1 hb, ← f2 (by rw [← i1]; exact hb), i4]
        · rw [← g1 hb, ← g2 (by rw [← i1]; exact hb), i3]
      exact turned_core hc r' s' ⟨fun z hz => hr.1 z (by simp [hz]), hr.2⟩ ⟨fun z hz => hs.1 z (by simp [hz]), hs.2⟩ (fun z hz => hA z (txs_tail p k a r' z hz)) (fun z hz => hB z (txs_tail q k b s' z hz)) hsha
theorem turned_law {p q : Prf} {k root : H256} (hp : okP p k root) (hq : okP q k root) (hc : ¬ clashP (okT p k) (okT q k)) : (hasP p k root ↔ hasP q k root) ∧ valP p k root = valP q k root := by
  have hA : okT p k = txsT p k p.steps := if_pos (fits_fin hp.1)
  have hB : okT q k = txsT q k q.steps := if_pos (fits_fin hq.1)
  rw [hA, hB] at hc
  have hs := turned_core (A := txsT p k p.steps) (B := txsT q k q.steps) (k := k) (fun a ha b hb e => Classical.byContradiction fun hn => hc (clash_iff.2 ⟨a, ha, b, hb, hn, e⟩)) p.steps q.steps (fits_rest hp.1) (fits_rest hq.1) (fun _ h => h) (fun _ h => h) (hp.2.trans hq.2.symm)
  have hi : hasP p k root ↔ hasP q k root := ⟨fun h => ⟨hq, hs.1.1 h.2⟩, fun h => ⟨hp, hs.1.2 h.2⟩⟩
  refine ⟨hi, ?_⟩
  unfold valP
  by_cases h : hasP p k root
  · rw [if_pos h, if_pos (hi.1 h)]
    exact hs.2 h.2.1 (hi.1 h).2.1
  · rw [if_neg h, if_neg fun h' => h (hi.2 h')]
end Go.Proofs.YtffaohckcggkdaaDoor

namespace Go.Proofs.YtffaohckcggkdaaDoor
set_option linter.all false
open Go.RowKit
/-! the law of two proofs: its function -/
def clash_c : Ctr where
  D := List Bs × List Bs
  pre := fun (a, b) => (∀ x ∈ a, x.length ≤ 1000000000) ∧ ∀ x ∈ b, x.length ≤ 1000000000
  args := fun (a, b) => [.fs 1 eP a, .fs 1 eP b]
  res := fun (a, b) _ => .dec (clashP a b) inferInstance
def clw (x y : Bs) : Prop := ¬ x = y ∧ sha x = sha y
theorem mem_take_succ {a : List Bs} {i : Nat} (hi : i < a.length) {x : Bs} (h : x ∈ a.take (i + 1)) : x ∈ a.take i ∨ x = a[i] := by
  rw [List.take_succ_eq_append_getElem hi] at h
  rcases List.mem_append.1 h with h | h
  · exact .inl h
  · exact .inr (by simpa using h)
def clash_H : Cfg := ⟨[(26, same_c), (24, refsum_c)], [(7, [3, 7], [8, 14, 15, 19, 20], (.one 0 0 false (.one 1 0 false (.one 2 0 false (.one 3 1 false (.one 4 0 false (.one 5 0 false (.one 6 0 false (.one 7 1 false (.one 8 2 false (.one 9 0 false (.one 10 0 false (.one 11 0 false (.one 12 0 false (.one 13 0 false (.one 16 0 false (.one 17 0 false (.one 18 0 false (.alt 14 false (.alt 15 false (.one 19 2 false (.one 20 2 false (.one 21 0 false (.one 22 0 false .nil)))) (.one 19 2 false (.one 15 2 false (.one 20 2 false (.one 21 0 false (.one 22 0 false .nil)))))) (.one 19 2 false (.one 14 2 false (.one 15 2 false (.one 20 2 false (.one 21 0 false (.one 22 0 false .nil)))))))))))))))))))))))), [])], [], [], 42, 0, [], []⟩
theorem clash_ok : clash_c.Ok Tryd.prog 20 := by
  refine fn_ok clash_H 0 rfl _ Tryd.func20 rfl rfl ⟨same_ok, refsum_ok, trivial⟩ rfl rfl (by kernel_rfl) (fun _ => Nat.le_of_ble_eq_true rfl) ?_
  rintro ⟨a, b⟩ hp hr
  try dsimp only [clash_c] at hp
  try simp only [clash_c, Rng, RngL, inR, and_true, true_and] at hr
  obtain ⟨pa, pb⟩ := hp
  repeat' (first | (with_reducible refine Unf.h ?_) | fail); all_goals try (conv => whnf)
  refine LoopS.auto (fun i : Nat => i ≤ a.length ∧ ∀ x ∈ a.take i, ∀ y ∈ b, ¬ clw x y) (fun i => [(5, .int .i64 i)]) (fun i => []) (fun i => a.length - i) 0 ⟨Nat.zero_le _, by simp⟩ ?_ ?_
  · repeat' (first | (with_reducible refine Unf.h ?_) | ((conv => whnf); first | (refine Side.mk ?_ ?_; focus (first | with_reducible rfl | (refine congrArg (SV.int _) ?_; omega))) | (with_reducible refine Unf.h ?_) | exact True.intro) | fail); all_goals try (conv => whnf)
  · intro i hi
    obtain ⟨hi1, hi2⟩ := hi
    repeat' (first | (with_reducible refine Unf.h ?_) | ((conv => whnf); first | refine Fork.mk (fun h => ?_) (fun h => ?_) | refine RetE.mk () trivial ?_ | refine retK_r ?_) | fail); all_goals try (conv => whnf)
    · have hia : i < a.length := by omega
      have hic : (i : Int).toNat < a.length := by omega
      have ha := pa _ (List.getElem_mem hic)
      refine LoopS.auto (fun j : Nat => j ≤ b.length ∧ ∀ y ∈ b.take j, ¬ clw (a[(i : Int).toNat]'hic) y) (fun j => [(6, .int .i64 j)]) (fun j => []) (fun j => b.length - j) 0 ⟨Nat.zero_le _, by simp⟩ ?_ ?_
      · repeat' (first | (with_reducible refine Unf.h ?_) | ((conv => whnf); first | (refine Side.mk ?_ ?_; focus (first | with_reducible rfl | (refine congrArg (SV.int _) ?_; omega))) | (with_reducible refine Unf.h ?_) | exact True.intro) | fail); all_goals try (conv => whnf)
      · intro j hj
        obtain ⟨hj1, hj2⟩ := hj
        repeat' (first | (with_reducible first | refine Unf.h ?_ | refine loopK_n ?_) | ((conv => whnf); first | refine Fork.mk (fun h => ?_) (fun h => ?_) | (refine Side.mk ?_ ?_; focus ((intros; (try simp only [lenS, inR, cutS, loI, hiI] at *); omega))) | (refine Idx.mk ?_ ?_; focus (omega))) | fail); all_goals try (conv => whnf)
        · have hjb : j < b.length := by omega
          have hjc : (j : Int).toNat < b.length := by omega
          have hb := pb _ (List.getElem_mem hjc)
          generalize hx : a[(i : Int).toNat]'hic = x at *
          generalize hy : b[(j : Int).toNat]'hjc = y at *
          refine CallS.mk (c := same_c) ((x, y)) ?_
          have d1 : b.length - (j + 1) < b.length - j := by omega
          have d2 : j + 1 ≤ b.length := by omega
          have hcl : ¬ x = y → sha x = sha y → clashP a b := fun h1 h2 => clash_iff.2 ⟨x, by rw [← hx]; exact List.getElem_mem hic, y, by rw [← hy]; exact List.getElem_mem hjc, h1, h2⟩
          have nxt : ¬ clw x y → ∀ z ∈ b.take (j + 1), ¬ clw x z := fun hn z hz => by
            rcases mem_take_succ hjb hz with hz | hz
            · exact hj2 z hz
            · have e : b[j]'hjb = b[(j : Int).toNat]'hjc := by congr 1
              rw [hz, e, hy]; exact hn
          repeat' (first | (with_reducible first | refine Unf.h ?_ | refine loopK_n ?_) | ((conv => whnf); first | refine Both.mk ?_ ?_ | refine Both.mk ?_ ?_ | refine Fork.mkn (fun h => ?_) (fun h => ?_) | (refine Side.mk ?_ ?_; focus (first | with_reducible rfl | exact True.intro | (intros; (try simp only [lenS, inR, cutS, loI, hiI, hx, hy] at *); omega))) | (refine Idx.mk ?_ ?_; focus (omega)) | refine Got.mk (fun _ _ => ?_)) | fail); all_goals try (conv => whnf)
          all_goals first
            | (refine CallS.mk (c := refsum_c) (x) ?_
               repeat' (first | (with_reducible refine Unf.h ?_) | ((conv => whnf); first | (refine Side.mk ?_ ?_; focus (first | assumption | (simp only [*, hx, hy]; done))) | refine Got.mk (fun _ _ => ?_)) | fail); all_goals try (conv => whnf)
               all_goals refine CallS.mk (c := refsum_c) (y) ?_
               all_goals (repeat' (first | (with_reducible first | refine Unf.h ?_ | refine loopK_n ?_) | ((conv => whnf); first | refine Fork.mk (fun h => ?_) (fun h => ?_) | (refine Side.mk ?_ ?_; focus (first | assumption | (intros; (try simp only [lenS, inR, cutS, loI, hiI, hx, hy] at *); omega) | (simp only [*, hx, hy]; done))) | refine RetE.mk () trivial ?_ | refine Got.mk (fun _ _ => ?_) | refine retK_r ?_) | fail); all_goals try (conv => whnf))
               all_goals first
                 | (refine Side.mk (iffT (hcl (by assumption) (Vector.toList_inj.1 (by assumption)))) ?_; repeat' (first | (with_reducible refine Unf.h ?_) | ((conv => whnf); exact rfl) | fail); all_goals try (conv => whnf))
                 | (refine ⟨j + 1, ⟨d1, d2, nxt fun hc => absurd (congrArg Vector.toList hc.2) (by assumption)⟩, ?_⟩; repeat' (first | (with_reducible refine Unf.h ?_) | ((conv => whnf); first | (refine Side.mk ?_ ?_; focus (first | with_reducible rfl | (refine congrArg (SV.int _) ?_; omega))) | (with_reducible refine Unf.h ?_) | exact True.intro) | fail); all_goals try (conv => whnf)))
            | (refine ⟨j + 1, ⟨d1, d2, nxt fun hc => hc.1 (by assumption)⟩, ?_⟩; repeat' (first | (with_reducible refine Unf.h ?_) | ((conv => whnf); first | (refine Side.mk ?_ ?_; focus (first | with_reducible rfl | (refine congrArg (SV.int _) ?_; omega))) | (with_reducible refine Unf.h ?_) | exact True.intro) | fail); all_goals try (conv => whnf))
        · refine ⟨i + 1, ⟨by omega, by omega, fun z hz y hy => ?_⟩, ?_⟩
          · rcases mem_take_succ hia hz with hz | hz
            · exact hi2 z hz y hy
            · have e : a[i]'hia = a[(i : Int).toNat]'hic := by congr 1
              rw [hz, e]
              exact hj2 y (by rw [List.take_of_length_le (by omega)]; exact hy)
          · repeat' (first | (with_reducible refine Unf.h ?_) | ((conv => whnf); first | (refine Side.mk ?_ ?_; focus (first | with_reducible rfl | (refine congrArg (SV.int _) ?_; omega))) | (with_reducible refine Unf.h ?_) | exact True.intro) | fail); all_goals try (conv => whnf)
    · refine Side.mk (iffF fun hc => ?_) ?_
      · obtain ⟨x, hx, y, hy, hn, he⟩ := clash_iff.1 hc
        exact hi2 x (by rw [List.take_of_length_le (by omega)]; exact hx) y hy ⟨hn, he⟩
      · repeat' (first | (with_reducible refine Unf.h ?_) | ((conv => whnf); exact rfl) | fail); all_goals try (conv => whnf)
theorem txsT_small (p : Prf) (k : H256) : ∀ l : List Stp, ∀ x ∈ txsT p k l, x.length ≤ 1000000000
  | [], x, hx => by
    obtain rfl : x = endT p := by simpa [txsT] using hx
    exact endT_len p
  | s :: r, x, hx => by
    rcases List.mem_append.1 hx with hx | hx
    · exact txsT_small p k r x hx
    · obtain rfl : x = stepT k s (topT p k r) := by simpa using hx
      exact topT_len p k (s :: r)
theorem okT_small (p : Prf) (k : H256) : ∀ x ∈ okT p k, x.length ≤ 1000000000 := fun x hx => by
  unfold okT at hx
  split at hx
  · exact txsT_small p k _ x hx
  · cases hx
def pturned_c : Ctr where
  D := Prf × Prf × H256
  args := fun (p, q, k) => [.agg (ePrf p), .agg (ePrf q), .agg [.arr8 k]]
  res := fun _ _ => .bool true
def pturned_H : Cfg := ⟨[(14, awake12_c), (17, from_c), (21, ptexts_c), (16, check_c), (51, sum_c), (24, refsum_c), (20, clash_c)], [(3, [0, 2], [1, 3], (.one 0 1 false (.one 2 1 false (.one 1 2 true (.one 3 2 false (.one 4 0 false .nil))))), []), (7, [0, 2, 3], [1, 4, 9, 10], (.one 0 1 false (.one 2 1 false (.one 3 1 false (.alt 1 true (.alt 4 true (.one 5 0 false (.one 6 0 false (.one 7 0 false (.one 8 0 false (.one 9 2 true (.one 10 2 false (.one 11 0 false (.one 12 0 false .nil)))))))) (.one 9 2 true (.one 4 2 false (.one 5 0 false (.one 6 0 false (.one 7 0 false (.one 8 0 false (.one 10 2 false (.one 11 0 false (.one 12 0 false .nil)))))))))) (.one 9 2 true (.one 1 2 true (.one 4 2 false (.one 5 0 false (.one 6 0 false (.one 7 0 false (.one 8 0 false (.one 10 2 false (.one 11 0 false (.one 12 0 false .nil)))))))))))))), []), (8, [0, 2, 3], [1, 4, 9, 10], (.one 0 1 false (.one 2 1 false (.one 3 1 false (.alt 1 true (.alt 4 true (.one 5 0 false (.one 6 0 false (.one 7 0 false (.one 8 0 false (.one 9 2 true (.one 10 2 false (.one 11 0 false (.one 12 0 false .nil)))))))) (.one 9 2 true (.one 4 2 false (.one 5 0 false (.one 6 0 false (.one 7 0 false (.one 8 0 false (.one 10 2 false (.one 11 0 false (.one 12 0 false .nil)))))))))) (.one 9 2 true (.one 1 2 true (.one 4 2 false (.one 5 0 false (.one 6 0 false (.one 7 0 false (.one 8 0 false (.one 10 2 false (.one 11 0 false (.one 12 0 false .nil)))))))))))))), []), (11, [1, 3], [2, 4, 5], (.one 0 0 false (.one 1 1 false (.one 3 1 false (.one 2 2 true (.one 4 2 false (.one 5 2 false (.one 6 0 false .nil))))))), [])], [], [], 84, 0, [], [7, 8]⟩
theorem pturned_ok : pturned_c.Ok Tryd.prog 4 := by
  refine fn_ok pturned_H 0 rfl _ Tryd.func4 rfl rfl ⟨awake12_ok, from_ok, ptexts_ok, check_ok, sum_ok, refsum_ok, clash_ok, trivial⟩ rfl rfl (by kernel_rfl) (fun _ => Nat.le_of_ble_eq_true rfl) ?_
  rintro ⟨p, q, k⟩ hp hr
  try dsimp only [pturned_c] at hp
  try simp only [pturned_c, Rng, RngL, inR, and_true, true_and] at hr
  repeat' (first | (with_reducible refine Unf.h ?_) | ((conv => whnf); first | refine Fork.mk (fun h => ?_) (fun h => ?_) | (refine Side.mk ?_ ?_; focus (first | with_reducible rfl | exact True.intro)) | refine RetE.mk () trivial ?_ | refine Got.mk (fun _ _ => ?_) | refine retK_r ?_ | exact rfl | refine CallS.mk (c := awake12_c) (()) ?_) | fail); all_goals try (conv => whnf)
  have hpre1 : ptexts_c.pre (p, k) := by show _ ≤ _; omega
  have hpre2 : from_c.pre p := by show _ ≤ _; omega
  have hpre3 : ptexts_c.pre (q, k) := by show _ ≤ _; omega
  have hpre4 : from_c.pre q := by show _ ≤ _; omega
  repeat' (first | (with_reducible refine Unf.h ?_) | ((conv => whnf); first | refine Fork.mk (fun h => ?_) (fun h => ?_) | (refine Side.mk ?_ ?_; focus (first | with_reducible rfl | assumption | (intros; (try simp only [lenS, inR, cutS, loI, hiI] at *); omega))) | (refine Idx.mk ?_ ?_; focus (omega)) | refine RetE.mk () trivial ?_ | refine Got.mk (fun _ _ => ?_) | refine retK_r ?_ | exact rfl | refine CallS.mk (c := from_c) (p) ?_ | refine CallS.mk (c := ptexts_c) ((p, k)) ?_) | fail); all_goals try (conv => whnf)
  by_cases hf : finOk p
  · have hok : okT p k = txsT p k p.steps := if_pos hf
    have hlen : (okT p k).length = p.steps.length + 1 := by rw [hok, txsT_len]
    have hi : (((okT p k).length : Int) - 1).toNat < (okT p k).length := by omega
    have hlast : (okT p k)[(((okT p k).length : Int) - 1).toNat]'hi = topT p k p.steps := okT_last hf _ (by omega) hi
    have htl := topT_len p k p.steps
    have hpre5 : ∀ r, check_c.pre (p, k, r) := fun r => by show _ ≤ _; omega
    have hpre6 : ∀ r, check_c.pre (q, k, r) := fun r => by show _ ≤ _; omega
    generalize hT : topT p k p.steps = T at *
    clear hok
    repeat' (first | (with_reducible refine Unf.h ?_) | ((conv => whnf); refine CallS.mk (c := refsum_c) (T) ?_) | fail); all_goals try (conv => whnf)
    refine Side.mk (congrArg (SV.fs 1 eB) hlast) ?_
    repeat' (first | (with_reducible refine Unf.h ?_) | ((conv => whnf); first | (refine Side.mk ?_ ?_; focus (assumption)) | refine Got.mk (fun _ _ => ?_)) | fail); all_goals try (conv => whnf)
    refine CutS.auto (I := Unit) (fun _ => True) (fun _ => [(9, .ptr 4 0), (10, .dec (hasP p k (sha T)) inferInstance), (11, .dec (okP p k (sha T)) inferInstance)]) (fun _ => [(0, .box 29 (ePrf p)), (1, .box 29 (ePrf q)), (2, .box 25 [.arr8 k]), (3, .box 25 [.arr8 (sha T)]), (4, .box 25 [.arr8 (valP p k (sha T))])]) 5 ?_ ?_
    · repeat' (first | (with_reducible first | refine Unf.h ?_ | refine cutK_n ?_) | ((conv => whnf); first | refine Both.mk ?_ ?_ | refine Both.mk ?_ ?_ | (refine Side.mk ?_ ?_; focus (first | with_reducible rfl | assumption)) | refine Got.mk (fun _ _ => ?_) | refine CallS.mk (c := from_c) (p) ?_ | refine CallS.mk (c := check_c) ((p, k, sha T)) ?_) | fail); all_goals try (conv => whnf)
      all_goals (refine ⟨(), trivial, ?_⟩)
      all_goals repeat' (first | (with_reducible refine Unf.h ?_) | ((conv => whnf); first | (refine Side.mk ?_ ?_; focus (with_reducible rfl)) | (with_reducible refine Unf.h ?_) | exact True.intro) | fail); all_goals try (conv => whnf)
    intro _ _
    repeat' (first | (with_reducible refine Unf.h ?_) | fail); all_goals try (conv => whnf)
    refine CutS.auto (I := Unit) (fun _ => True) (fun _ => [(12, .ptr 5 0), (13, .dec (hasP q k (sha T)) inferInstance), (14, .dec (okP q k (sha T)) inferInstance)]) (fun _ => [(0, .box 29 (ePrf p)), (1, .box 29 (ePrf q)), (2, .box 25 [.arr8 k]), (3, .box 25 [.arr8 (sha T)]), (4, .box 25 [.arr8 (valP p k (sha T))]), (5, .box 25 [.arr8 (valP q k (sha T))])]) 6 ?_ ?_
    · repeat' (first | (with_reducible first | refine Unf.h ?_ | refine cutK_n ?_) | ((conv => whnf); first | refine Both.mk ?_ ?_ | refine Both.mk ?_ ?_ | (refine Side.mk ?_ ?_; focus (first | with_reducible rfl | assumption)) | refine Got.mk (fun _ _ => ?_) | refine CallS.mk (c := from_c) (q) ?_ | refine CallS.mk (c := check_c) ((q, k, sha T)) ?_) | fail); all_goals try (conv => whnf)
      all_goals (refine ⟨(), trivial, ?_⟩)
      all_goals repeat' (first | (with_reducible refine Unf.h ?_) | ((conv => whnf); first | (refine Side.mk ?_ ?_; focus (with_reducible rfl)) | (with_reducible refine Unf.h ?_) | exact True.intro) | fail); all_goals try (conv => whnf)
    intro _ _
    have hsm := okT_small p k
    have hsn := okT_small q k
    have hpre7 : clash_c.pre (okT p k, okT q k) := ⟨hsm, hsn⟩
    have law := turned_law (p := p) (q := q) (k := k) (root := sha T)
    repeat' (first | (with_reducible refine Unf.h ?_) | ((conv => whnf); first | refine Fork.mkn (fun h => ?_) (fun h => ?_) | refine Fork.mk (fun h => ?_) (fun h => ?_) | (refine Side.mk ?_ ?_; focus (first | with_reducible rfl | assumption)) | refine RetE.mk () trivial ?_ | refine Got.mk (fun _ _ => ?_) | refine retK_r ?_ | exact rfl | refine CallS.mk (c := from_c) (q) ?_ | refine CallS.mk (c := ptexts_c) ((q, k)) ?_ | refine CallS.mk (c := clash_c) ((okT p k, okT q k)) ?_) | fail); all_goals try (conv => whnf)
    · have hc : clashP (okT p k) (okT q k) := Classical.byContradiction fun hn => h (decide_eq_decide.2 (law (by assumption) (by assumption) hn).1)
      refine Side.mk (decide_eq_true hc) ?_
      repeat' (first | (with_reducible refine Unf.h ?_) | ((conv => whnf); exact rfl) | fail); all_goals try (conv => whnf)
    · have hc : clashP (okT p k) (okT q k) := Classical.byContradiction fun hn => h (congrArg Vector.toList (law (by assumption) (by assumption) hn).2)
      refine Side.mk (decide_eq_true hc) ?_
      repeat' (first | (with_reducible refine Unf.h ?_) | ((conv => whnf); exact rfl) | fail); all_goals try (conv => whnf)
  · have hok : (okT p k).length = 0 := by rw [show okT p k = [] from if_neg hf]; rfl
    rename_i h
    exfalso; omega
end Go.Proofs.YtffaohckcggkdaaDoor

namespace Go.Proofs.YtffaohckcggkdaaDoor
set_option linter.all false
open Go.RowKit
/-! a key's value -/
theorem path_last {l : Fo} {k : H256} (hc : closed l) : ∀ {T : PT} {t : Int}, den l t T → den l (path l k t).2 (lastT k T)
  | .leaf k' v', t, h => by
    rw [path_stop fun hg => by have := hg.2.1; rw [h.2] at this; exact absurd this (by simp)]; exact h
  | .node p a b, t, h => by
    have hd := h
    obtain ⟨h0, x, y, e, ha, hb⟩ := h
    have hpfx : (nd l t).pfx = p := by rw [e]; rfl
    by_cases hh : holdsP p k
    · have ht : isT l t := ⟨by have := h0.1; omega, h0.2⟩
      have hg : goes l k t := ⟨by have := h0.1; omega, by rw [e], by rw [hpfx]; exact hh⟩
      rw [path_go hc ht hg]
      by_cases hbit : bitI k p.len = 1
      · have hn : nxt l k t = y := by unfold nxt; rw [e]; exact if_pos hbit
        simp only [lastT, if_pos hh, if_pos hbit]
        rw [hn]; exact path_last hc hb
      · have hn : nxt l k t = x := by unfold nxt; rw [e]; exact if_neg hbit
        simp only [lastT, if_pos hh, if_neg hbit]
        rw [hn]; exact path_last hc ha
    · rw [path_stop fun hg => hh (by rw [← hpfx]; exact hg.2.2)]
      simp only [lastT, if_neg hh]; exact hd
def endO (k : H256) : PT → Option KV
  | .leaf k' v' => if k' = k then some (k', v') else none
  | .node _ _ _ => none
theorem getO_none {l : List KV} {k : H256} (h : ∀ x ∈ l, x.1 ≠ k) : getO l k = none := by
  unfold getO
  rw [List.find?_eq_none]
  intro x hx
  simpa using h x hx
theorem getO_right {l m : List KV} {k : H256} (h : ∀ x ∈ l, x.1 ≠ k) : getO (l ++ m) k = getO m k := by
  unfold getO
  rw [List.find?_append]
  have := getO_none h
  unfold getO at this
  rw [this]; rfl
theorem getO_left {l m : List KV} {k : H256} (h : ∀ x ∈ m, x.1 ≠ k) : getO (l ++ m) k = getO l k := by
  unfold getO
  rw [List.find?_append]
  have := getO_none h
  unfold getO at this
  rw [this]; simp
theorem get_last {k : H256} : ∀ {T : PT}, T.wf → getO T.list k = endO k (lastT k T)
  | .leaf k' v', _ => by
    show getO [(k', v')] k = _
    rw [getO_cons]; rfl
  | .node p a b, h => by
    show getO (a.list ++ b.list) k = _
    have hp0 := h.1.1.1
    by_cases hh : holdsP p k
    · by_cases hb : bitI k p.len = 1
      · have hkb := (bitI_kb hp0).1 hb
        simp only [lastT, if_pos hh, if_pos hb]
        rw [getO_right fun x hx e => ne_at (wf_left h hx).2 hkb e]
        exact get_last h.2.2.2.2
      · have hkb : kb k p.len.toNat = false := by cases hc : kb k p.len.toNat; rfl; exact absurd ((bitI_kb hp0).2 hc) hb
        simp only [lastT, if_pos hh, if_neg hb]
        rw [getO_left fun x hx e => ne_at hkb (wf_right h hx).2 e.symm]
        exact get_last h.2.2.2.1
    · simp only [lastT, if_neg hh]
      exact getO_none fun x hx e => hh (by rw [← e]; exact wf_held h x hx)
def getF_c : Ctr where
  D := Fo × Int × H256 × Option PT
  pre := fun (l, t, _, o) => l.length ≤ 10000000 ∧ closed l ∧ treeAt l t o ∧ wfO o
  args := fun (l, t, k, _) => [ff l, .int .i64 t, .agg [.arr8 k]]
  res := fun (_, _, k, o) _ => .tup [.agg [.arr8 (valO (getO (listO o) k))], .dec ((getO (listO o) k).isSome = true) inferInstance]
def getF_H : Cfg := ⟨[(72, isF_c), (74, pathF_c)], [(4, [6, 10, 16, 20, 21], [], (.one 0 0 false (.one 1 0 false (.one 2 0 false (.one 3 0 false (.one 4 0 false (.one 5 0 false (.one 6 1 false (.one 7 0 false (.one 8 0 false (.one 9 0 false (.one 10 1 false (.one 11 0 false (.one 12 0 false (.one 13 0 false (.one 14 0 false (.one 15 0 false (.one 16 1 false (.one 17 0 false (.one 18 0 false (.one 19 0 false (.one 20 1 false (.one 21 1 false (.one 22 0 false (.one 23 0 false .nil)))))))))))))))))))))))), [])], [], [], 55, 0, [], []⟩
theorem getF_ok : getF_c.Ok Tryd.prog 45 := by
  refine fn_ok getF_H 0 rfl _ Tryd.func45 rfl rfl ⟨isF_ok, pathF_ok, trivial⟩ rfl rfl (by kernel_rfl) (fun _ => Nat.le_of_ble_eq_true rfl) ?_
  rintro ⟨l, t, k, o⟩ hp hr
  try dsimp only [getF_c] at hp
  try simp only [getF_c, Rng, RngL, inR, and_true, true_and] at hr
  obtain ⟨hlen, hc, htr, hw⟩ := hp
  have ht := treeAt_is htr
  have ht0 := ht.1
  have ht1 := ht.2
  have hpre : pathF_c.pre (l, t, k) := ⟨hlen, hc, ht⟩
  cases o with
  | none =>
    have e0 : t = -1 := htr
    have hp2 : (path l k t).2 = -1 := by rw [e0, path_stop fun h => h.1 rfl]
    have e : getO (listO none) k = none := rfl
    repeat' (first | (with_reducible refine Unf.h ?_) | ((conv => whnf); first | refine Fork.mkn (fun h => ?_) (fun h => ?_) | (refine Side.mk ?_ ?_; focus (first | with_reducible rfl | exact True.intro | assumption | omega | (refine ⟨fun h => ?_, fun h => ?_⟩ <;> first | rfl | (cases h; done) | omega | (exfalso; omega) | (simp only [Bool.false_eq_true] at h; done)) | (simp only [*, e, valO]; done))) | (refine Idx.mk ?_ ?_; focus (omega)) | refine RetE.mk () trivial ?_ | refine Got.mk (fun _ _ => ?_) | refine retK_r ?_ | exact rfl | refine CallS.mk (c := isF_c) ((l, t)) ?_ | refine CallS.mk (c := pathF_c) ((l, t, k)) ?_) | fail); all_goals try (conv => whnf)
    all_goals exact absurd hp2 h
  | some T =>
    have hd := path_last (k := k) hc htr
    have hg := get_last (k := k) hw
    have hin := den_in hd
    have hu0 := hin.1
    have hu1 := hin.2
    have eu := nd_get l (path l k t).2 (by omega) (by omega)
    cases hT : lastT k T with
    | leaf k' v' =>
      rw [hT] at hg hd
      rw [hd.2] at eu
      by_cases hk : k' = k
      · have e : getO T.list k = some (k', v') := by rw [hg]; exact if_pos hk
        repeat' (first | (with_reducible refine Unf.h ?_) | ((conv => whnf); first | refine Fork.mkn (fun h => ?_) (fun h => ?_) | (refine Side.mk ?_ ?_; focus (first | with_reducible rfl | exact True.intro | assumption | omega)) | (refine Idx.mk ?_ ?_; focus (omega)) | refine RetE.mk () trivial ?_ | refine Got.mk (fun _ _ => ?_) | refine retK_r ?_ | exact rfl | refine CallS.mk (c := isF_c) ((l, t)) ?_ | refine CallS.mk (c := pathF_c) ((l, t, k)) ?_) | fail); all_goals try (conv => whnf)
        rw [eu]
        repeat' (first | (with_reducible refine Unf.h ?_) | ((conv => whnf); first | refine Fork.mk (fun h => ?_) (fun h => ?_) | (refine Side.mk ?_ ?_; focus (first | (simp only [*, e, eu, valO, listO, hk]; done) | (simp [*, e, eu, valO, listO, hk]; done))) | (refine Idx.mk ?_ ?_; focus (omega)) | refine RetE.mk () trivial ?_ | (with_reducible refine Unf.h ?_) | refine retK_r ?_ | exact rfl) | fail); all_goals try (conv => whnf)
        exact absurd (by rw [eu, hk]) h
      · have e : getO T.list k = none := by rw [hg]; exact if_neg hk
        repeat' (first | (with_reducible refine Unf.h ?_) | ((conv => whnf); first | refine Fork.mkn (fun h => ?_) (fun h => ?_) | (refine Side.mk ?_ ?_; focus (first | with_reducible rfl | exact True.intro | assumption | omega)) | (refine Idx.mk ?_ ?_; focus (omega)) | refine RetE.mk () trivial ?_ | refine Got.mk (fun _ _ => ?_) | refine retK_r ?_ | exact rfl | refine CallS.mk (c := isF_c) ((l, t)) ?_ | refine CallS.mk (c := pathF_c) ((l, t, k)) ?_) | fail); all_goals try (conv => whnf)
        rw [eu]
        repeat' (first | (with_reducible refine Unf.h ?_) | ((conv => whnf); first | refine Fork.mk (fun h => ?_) (fun h => ?_) | (refine Side.mk ?_ ?_; focus (first | (simp only [*, e, eu, valO, listO]; done) | (simp [*, e, eu, valO, listO]; done))) | (refine Idx.mk ?_ ?_; focus (omega)) | refine RetE.mk () trivial ?_ | (with_reducible refine Unf.h ?_) | refine retK_r ?_ | exact rfl) | fail); all_goals try (conv => whnf)
        rw [eu] at h
        exact absurd (Vector.toList_inj.1 h) hk
    | node p a b =>
      rw [hT] at hg hd
      have e : getO T.list k = none := by rw [hg]; rfl
      obtain ⟨_, x, y, en, _⟩ := hd
      rw [en] at eu
      repeat' (first | (with_reducible refine Unf.h ?_) | ((conv => whnf); first | refine Fork.mkn (fun h => ?_) (fun h => ?_) | (refine Side.mk ?_ ?_; focus (first | with_reducible rfl | exact True.intro | assumption | omega)) | (refine Idx.mk ?_ ?_; focus (omega)) | refine RetE.mk () trivial ?_ | refine Got.mk (fun _ _ => ?_) | refine retK_r ?_ | exact rfl | refine CallS.mk (c := isF_c) ((l, t)) ?_ | refine CallS.mk (c := pathF_c) ((l, t, k)) ?_) | fail); all_goals try (conv => whnf)
      rw [eu]
      repeat' (first | (with_reducible refine Unf.h ?_) | ((conv => whnf); first | (refine Side.mk ?_ ?_; focus (first | (simp only [*, e, eu, valO, listO]; done) | (simp [*, e, eu, valO, listO]; done))) | refine RetE.mk () trivial ?_ | (with_reducible refine Unf.h ?_) | refine retK_r ?_ | exact rfl) | fail); all_goals try (conv => whnf)
end Go.Proofs.YtffaohckcggkdaaDoor

namespace Go.Proofs.YtffaohckcggkdaaDoor
set_option linter.all false
open Go.RowKit
/-! what is shown is right -/
theorem within_zero {p : Pfx} (h : formedP p) : withinP zeroP p := ⟨h, h.1, holds_zero _⟩
theorem down_steps {k : H256} : ∀ {T : PT} {room : Pfx}, T.wf → withinP room T.cover → ∃ r, down k room (stepsT k T) = some r ∧ withinP r (lastT k T).cover ∧ (∀ p a b, lastT k T = .node p a b → p.len < 256 ∧ ¬ holdsP p k)
  | .leaf k' v', room, _, hr => ⟨room, rfl, hr, fun _ _ _ h => by cases h⟩
  | .node p a b, room, h, hr => by
    by_cases hh : holdsP p k
    · by_cases hb : bitI k p.len = 1
      · obtain ⟨r, h1, h2, h3⟩ := down_steps (k := k) (T := b) (room := childP p 1) h.2.2.2.2 h.2.2.1
        refine ⟨r, ?_, ?_, ?_⟩
        · simp only [stepsT, if_pos hh, if_pos hb]
          rw [down_cons, if_pos ⟨hh, hr, by show childOk p (bitI k p.len); rw [hb]; exact wf_ok h.1 1 (.inr rfl)⟩]
          show down k (childP p (bitI k p.len)) _ = _
          rw [hb]; exact h1
        · simp only [lastT, if_pos hh, if_pos hb]; exact h2
        · simp only [lastT, if_pos hh, if_pos hb]; exact h3
      · have hb0 : bitI k p.len = 0 := (bitI_01 k p.len).resolve_right hb
        obtain ⟨r, h1, h2, h3⟩ := down_steps (k := k) (T := a) (room := childP p 0) h.2.2.2.1 h.2.1
        refine ⟨r, ?_, ?_, ?_⟩
        · simp only [stepsT, if_pos hh, if_neg hb]
          rw [down_cons, if_pos ⟨hh, hr, by show childOk p (bitI k p.len); rw [hb0]; exact wf_ok h.1 0 (.inl rfl)⟩]
          show down k (childP p (bitI k p.len)) _ = _
          rw [hb0]; exact h1
        · simp only [lastT, if_pos hh, if_neg hb]; exact h2
        · simp only [lastT, if_pos hh, if_neg hb]; exact h3
    · refine ⟨room, ?_, ?_, ?_⟩
      · simp only [stepsT, if_neg hh]; rfl
      · simp only [lastT, if_neg hh]; exact hr
      · simp only [lastT, if_neg hh]
        intro q c d e
        cases e
        exact ⟨h.1.2, hh⟩
theorem endT_last (k : H256) (o : Option PT) : endT (showP k o) = match lastO k o with
    | none => txt 101#8 []
    | some T => T.text := by
  unfold showP
  cases lastO k o with
  | none => rfl
  | some T => cases T <;> rfl
theorem top_text {p : Prf} {k : H256} : ∀ {T : PT}, endT p = (lastT k T).text → topT p k (stepsT k T) = T.text
  | .leaf k' v', h => h
  | .node q a b, h => by
    by_cases hh : holdsP q k
    · by_cases hb : bitI k q.len = 1
      · simp only [lastT, if_pos hh, if_pos hb] at h
        have ih := top_text h
        simp only [stepsT, if_pos hh, if_pos hb, topT]
        unfold stepT
        rw [if_pos hb, ih, ← hash_text]; rfl
      · simp only [lastT, if_pos hh, if_neg hb] at h
        have ih := top_text h
        simp only [stepsT, if_pos hh, if_neg hb, topT]
        unfold stepT
        rw [if_neg hb, ih, ← hash_text]; rfl
    · simp only [lastT, if_neg hh] at h
      simp only [stepsT, if_neg hh]; exact h
theorem show_steps (k : H256) (o : Option PT) : (showP k o).steps = stepsO k o := by
  unfold showP
  cases lastO k o with
  | none => rfl
  | some T => cases T <;> rfl
theorem show_ok {k : H256} {o : Option PT} (h : wfO o) : okP (showP k o) k (hashO o) := by
  refine ⟨?_, ?_⟩
  · unfold fitsP
    rw [show_steps]
    cases o with
    | none => exact .inl ⟨rfl, rfl⟩
    | some T =>
      obtain ⟨r, h1, h2, h3⟩ := down_steps (k := k) h (within_zero (cover_formed h))
      show (match down k zeroP (stepsT k T) with | none => False | some room => endP room (showP k (some T)) k)
      rw [h1]
      show endP r (prfOf (stepsT k T) (some (lastT k T))) k
      cases hl : lastT k T with
      | leaf k' v' =>
        rw [hl, leaf_cover] at h2
        exact .inr (.inl ⟨rfl, h2.2.2⟩)
      | node p a b =>
        rw [hl] at h2
        exact .inr (.inr ⟨rfl, (h3 p a b hl).1, h2, (h3 p a b hl).2⟩)
  · rw [show_steps]
    cases o with
    | none => rfl
    | some T =>
      have := top_text (p := showP k (some T)) (k := k) (T := T) (endT_last k (some T))
      show sha (topT _ k (stepsT k T)) = T.hash
      rw [this, hash_text]
theorem show_has {k : H256} {o : Option PT} (h : wfO o) : (hasP (showP k o) k (hashO o) ↔ (getO (listO o) k).isSome = true) ∧ valP (showP k o) k (hashO o) = valO (getO (listO o) k) := by
  have hok := show_ok (k := k) h
  cases o with
  | none =>
    have hn : ¬ hasP (showP k none) k (hashO none) := fun h' => by have : (0 : Int) = 1 := h'.2.1; omega
    exact ⟨⟨fun h' => absurd h' hn, fun h' => by cases h'⟩, if_neg hn⟩
  | some T =>
    have hg := get_last (k := k) h
    have e : showP k (some T) = prfOf (stepsT k T) (some (lastT k T)) := rfl
    show (_ ↔ (getO T.list k).isSome = true) ∧ _ = valO (getO T.list k)
    rw [hg]
    cases hl : lastT k T with
    | leaf k' v' =>
      rw [hl] at e
      by_cases hk : k' = k
      · have hh : hasP (showP k (some T)) k (hashO (some T)) := ⟨hok, by rw [e]; rfl, by rw [e]; exact hk⟩
        have he : endO k (.leaf k' v') = some (k', v') := if_pos hk
        rw [he]
        refine ⟨⟨fun _ => rfl, fun _ => hh⟩, (if_pos hh).trans ?_⟩
        rw [e]; rfl
      · have hh : ¬ hasP (showP k (some T)) k (hashO (some T)) := fun h' => hk (by have := h'.2.2; rw [e] at this; exact this)
        have he : endO k (.leaf k' v') = none := if_neg hk
        rw [he]
        exact ⟨⟨fun h' => absurd h' hh, fun h' => by cases h'⟩, if_neg hh⟩
    | node p a b =>
      rw [hl] at e
      have hh : ¬ hasP (showP k (some T)) k (hashO (some T)) := fun h' => by have := h'.2.1; rw [e] at this; have : (2 : Int) = 1 := this; omega
      exact ⟨⟨fun h' => absurd h' hh, fun h' => by cases h'⟩, if_neg hh⟩
theorem show_len (k : H256) : ∀ o : Option PT, (showP k o).steps.length ≤ depthO o
  | none => Nat.le_refl _
  | some T => by rw [show_steps]; exact steps_len k T
/-! the law of a proof that is right -/
def psound_c : Ctr where
  D := List KV × Prf × H256
  args := fun (ps, p, k) => [.fs 64 eKV ps, .agg (ePrf p), .agg [.arr8 k]]
  res := fun _ _ => .bool true
def psound_H : Cfg := ⟨[(14, awake12_c), (15, rall_c), (17, from_c), (18, (rroot_c 1000)), (16, check_c), (19, rget_c), (21, ptexts_c), (23, rshow_c), (22, rtexts_c), (20, clash_c)], [(4, [0, 2], [1, 4, 5, 10, 11], (.one 0 1 false (.one 2 1 false (.one 3 0 false (.alt 1 true (.alt 4 true (.alt 5 true (.one 6 0 false (.one 7 0 false (.one 8 0 false (.one 9 0 false (.one 10 2 true (.one 11 2 false (.one 12 0 false (.one 13 0 false .nil)))))))) (.one 10 2 true (.one 5 2 false (.one 6 0 false (.one 7 0 false (.one 8 0 false (.one 9 0 false (.one 11 2 false (.one 12 0 false (.one 13 0 false .nil)))))))))) (.one 10 2 true (.one 4 2 true (.one 5 2 false (.one 6 0 false (.one 7 0 false (.one 8 0 false (.one 9 0 false (.one 11 2 false (.one 12 0 false (.one 13 0 false .nil))))))))))) (.one 10 2 true (.one 1 2 true (.one 4 2 true (.one 5 2 false (.one 6 0 false (.one 7 0 false (.one 8 0 false (.one 9 0 false (.one 11 2 false (.one 12 0 false (.one 13 0 false .nil))))))))))))))), []), (10, [0, 2, 5, 7], [1, 3, 6, 8, 9], (.one 0 1 false (.one 2 1 false (.one 4 0 false (.one 5 1 false (.one 7 1 false (.one 1 2 true (.one 3 2 true (.one 6 2 true (.one 8 2 false (.one 9 2 false (.one 10 0 false .nil))))))))))), [])], [], [], 65, 0, [], [4]⟩
theorem psound_ok : psound_c.Ok Tryd.prog 3 := by
  refine fn_ok psound_H 0 rfl _ Tryd.func3 rfl rfl ⟨awake12_ok, rall_ok, from_ok, rroot1000_ok, check_ok, rget_ok, ptexts_ok, rshow_ok, rtexts_ok, clash_ok, trivial⟩ rfl rfl (by kernel_rfl) (fun _ => Nat.le_of_ble_eq_true rfl) ?_
  rintro ⟨ps, p, k⟩ hp hr
  try dsimp only [psound_c] at hp
  try simp only [psound_c, Rng, RngL, inR, and_true, true_and] at hr
  repeat' (first | (with_reducible refine Unf.h ?_) | ((conv => whnf); first | refine Fork.mk (fun h => ?_) (fun h => ?_) | (refine Side.mk ?_ ?_; focus (first | with_reducible rfl | exact True.intro)) | refine RetE.mk () trivial ?_ | refine Got.mk (fun _ _ => ?_) | refine retK_r ?_ | exact rfl | refine CallS.mk (c := awake12_c) (()) ?_) | fail); all_goals try (conv => whnf)
  have hpre1 : rall_c.pre ps := by show _ ≤ _; omega
  have hpre2 : from_c.pre p := by show _ ≤ _; omega
  have hd := (builtOk ps).depth
  have hw := built_wf ps
  have hpre3 : (rroot_c 1000).pre (treesF ps) := ⟨hw, by omega⟩
  have hpre4 : check_c.pre (p, k, hashO (treesF ps)) := by show _ ≤ _; omega
  have hpre5 : ptexts_c.pre (p, k) := by show _ ≤ _; omega
  have hpre6 : rshow_c.pre (treesF ps, k) := ⟨hw, by omega⟩
  have hsl := show_len k (treesF ps)
  have hpre7 : rtexts_c.pre (showP k (treesF ps), k) := by show _ ≤ _; omega
  have hpre8 : clash_c.pre (okT p k, okT (showP k (treesF ps)) k) := ⟨okT_small _ _, okT_small _ _⟩
  have ha := all_trees ps
  have hok := show_ok (k := k) hw
  obtain ⟨hh1, hh2⟩ := show_has (k := k) hw
  have law := turned_law (p := p) (q := showP k (treesF ps)) (k := k) (root := hashO (treesF ps))
  repeat' (first | (with_reducible refine Unf.h ?_) | ((conv => whnf); first | (refine Side.mk ?_ ?_; focus (first | with_reducible rfl | assumption)) | refine Got.mk (fun _ _ => ?_) | refine CallS.mk (c := rall_c) (ps) ?_) | fail); all_goals try (conv => whnf)
  rw [ha]
  generalize treesF ps = o at *
  refine CutS.auto (I := Unit) (fun _ => True) (fun _ => [(8, .ptr 2 0), (9, .dec (hasP p k (hashO o)) inferInstance), (10, .dec (okP p k (hashO o)) inferInstance)]) (fun _ => [(0, .box 29 (ePrf p)), (1, .box 25 [.arr8 k]), (2, .box 25 [.arr8 (valP p k (hashO o))])]) 3 ?_ ?_
  · repeat' (first | (with_reducible first | refine Unf.h ?_ | refine cutK_n ?_) | ((conv => whnf); first | refine Both.mk ?_ ?_ | refine Both.mk ?_ ?_ | (refine Side.mk ?_ ?_; focus (first | with_reducible rfl | assumption)) | refine Got.mk (fun _ _ => ?_) | refine CallS.mk (c := from_c) (p) ?_ | refine CallS.mk (o) ?_ | refine CallS.mk (c := check_c) ((p, k, hashO o)) ?_) | fail); all_goals try (conv => whnf)
    all_goals (refine ⟨(), trivial, ?_⟩)
    all_goals repeat' (first | (with_reducible refine Unf.h ?_) | ((conv => whnf); first | (refine Side.mk ?_ ?_; focus (with_reducible rfl)) | (with_reducible refine Unf.h ?_) | exact True.intro) | fail); all_goals try (conv => whnf)
  intro _ _
  repeat' (first | (with_reducible refine Unf.h ?_) | ((conv => whnf); first | refine Fork.mkn (fun h => ?_) (fun h => ?_) | refine Fork.mk (fun h => ?_) (fun h => ?_) | (refine Side.mk ?_ ?_; focus (first | with_reducible rfl | exact True.intro | assumption)) | refine RetE.mk () trivial ?_ | refine Got.mk (fun _ _ => ?_) | refine retK_r ?_ | exact rfl | refine CallS.mk (c := rget_c) ((listO o, k)) ?_ | refine CallS.mk (c := from_c) (p) ?_) | fail); all_goals try (conv => whnf)
  all_goals refine CallS.mk (c := ptexts_c) ((p, k)) ?_
  all_goals (repeat' (first | (with_reducible refine Unf.h ?_) | ((conv => whnf); first | (refine Side.mk ?_ ?_; focus (first | with_reducible rfl | assumption)) | refine Got.mk (fun _ _ => ?_) | refine CallS.mk (c := rshow_c) ((o, k)) ?_) | fail); all_goals try (conv => whnf))
  all_goals refine CallS.mk (c := rtexts_c) ((showP k o, k)) ?_
  all_goals (repeat' (first | (with_reducible refine Unf.h ?_) | ((conv => whnf); first | (refine Side.mk ?_ ?_; focus (first | with_reducible rfl | assumption)) | refine RetE.mk () trivial ?_ | refine Got.mk (fun _ _ => ?_) | refine retK_r ?_ | refine CallS.mk (c := clash_c) ((okT p k, okT (showP k o) k)) ?_) | fail); all_goals try (conv => whnf))
  · have hc : clashP (okT p k) (okT (showP k o) k) := Classical.byContradiction fun hn => h (congrArg Vector.toList ((law (by assumption) hok hn).2.trans hh2))
    refine Side.mk (decide_eq_true hc) ?_
    repeat' (first | (with_reducible refine Unf.h ?_) | ((conv => whnf); exact rfl) | fail); all_goals try (conv => whnf)
  · have hc : clashP (okT p k) (okT (showP k o) k) := Classical.byContradiction fun hn => h (decide_eq_decide.2 ((law (by assumption) hok hn).1.trans hh1))
    refine Side.mk (decide_eq_true hc) ?_
    repeat' (first | (with_reducible refine Unf.h ?_) | ((conv => whnf); exact rfl) | fail); all_goals try (conv => whnf)
end Go.Proofs.YtffaohckcggkdaaDoor

namespace Go.Proofs.YtffaohckcggkdaaDoor
set_option linter.all false
open Go.RowKit
/-! the laws of what is shown -/
theorem root_hash {l : Fo} {t : Int} : ∀ {o : Option PT}, treeAt l t o → rootF l t = hashO o
  | none, h => if_pos h
  | some T, h => by
    have h0 := (den_in h).1
    unfold rootF
    rw [if_neg (by omega)]
    exact den_hash h
def pshows_c : Ctr where
  D := List KV × H256
  args := fun (ps, k) => [.fs 64 eKV ps, .agg [.arr8 k]]
  res := fun _ _ => .bool true
def pshows_H : Cfg := ⟨[(14, awake12_c), (32, built_c), (46, showF_c), (48, toP_c), (15, rall_c), (23, rshow_c), (47, rpsame_c)], [(5, [3, 7], [4, 6, 8, 9], (.one 0 0 false (.one 1 0 false (.one 2 0 false (.one 3 1 false (.one 5 0 false (.one 7 1 false (.one 4 2 true (.one 6 2 true (.one 8 2 false (.one 9 2 false (.one 10 0 false (.one 11 0 false .nil)))))))))))), [])], [], [], 40, 0, [], []⟩
theorem pshows_ok : pshows_c.Ok Tryd.prog 12 := by
  refine fn_ok pshows_H 0 rfl _ Tryd.func12 rfl rfl ⟨awake12_ok, built_ok, showF_ok, toP_ok, rall_ok, rshow_ok, rpsame_ok, trivial⟩ rfl rfl (by kernel_rfl) (fun _ => Nat.le_of_ble_eq_true rfl) ?_
  rintro ⟨ps, k⟩ hp hr
  try dsimp only [pshows_c] at hp
  try simp only [pshows_c, Rng, RngL, inR, and_true, true_and] at hr
  repeat' (first | (with_reducible refine Unf.h ?_) | ((conv => whnf); first | refine Fork.mk (fun h => ?_) (fun h => ?_) | (refine Side.mk ?_ ?_; focus (first | with_reducible rfl | exact True.intro)) | refine RetE.mk () trivial ?_ | refine Got.mk (fun _ _ => ?_) | refine retK_r ?_ | exact rfl | refine CallS.mk (c := awake12_c) (()) ?_) | fail); all_goals try (conv => whnf)
  have hpre1 : rall_c.pre ps := by show _ ≤ _; omega
  have hb := builtOk ps
  have hd := hb.depth
  have hw := built_wf ps
  have ht := hb.tree
  have hpre2 : built_c.pre ps := by show ps.length ≤ 25; omega
  have hpre3 : showF_c.pre ((builtF ps).1, (builtF ps).2, k, treesF ps) := ⟨ht, by omega⟩
  have hpre4 : rshow_c.pre (treesF ps, k) := ⟨hw, by omega⟩
  have hsl := show_len k (treesF ps)
  have hpre5 : toP_c.pre (showP k (treesF ps)) := by show _ ≤ _; omega
  have hpre6 : rpsame_c.pre (showP k (treesF ps)) := by show _ ≤ _; omega
  have ha := all_trees ps
  generalize treesF ps = o at *
  repeat' (first | (with_reducible refine Unf.h ?_) | ((conv => whnf); first | refine Fork.mk (fun h => ?_) (fun h => ?_) | (refine Side.mk ?_ ?_; focus (first | with_reducible rfl | assumption | omega | (simp only [*, ha]; done))) | refine RetE.mk () trivial ?_ | refine Got.mk (fun _ _ => ?_) | refine retK_r ?_ | exact rfl | refine CallS.mk (c := built_c) (ps) ?_ | refine CallS.mk (c := showF_c) (((builtF ps).1, (builtF ps).2, k, o)) ?_ | refine CallS.mk (c := toP_c) (showP k o) ?_ | refine CallS.mk (c := rall_c) (ps) ?_ | refine CallS.mk (c := rshow_c) ((o, k)) ?_ | refine CallS.mk (c := rpsame_c) (showP k o) ?_) | fail); all_goals try (conv => whnf)
def pright_c : Ctr where
  D := List KV × H256
  args := fun (ps, k) => [.fs 64 eKV ps, .agg [.arr8 k]]
  res := fun _ _ => .bool true
def pright_H : Cfg := ⟨[(14, awake12_c), (32, built_c), (40, rootZ_c), (46, showF_c), (16, check_c), (45, getF_c)], [], [], [], 72, 0, [], []⟩
theorem pright_ok : pright_c.Ok Tryd.prog 13 := by
  refine fn_ok pright_H 0 rfl _ Tryd.func13 rfl rfl ⟨awake12_ok, built_ok, rootZ_ok, showF_ok, check_ok, getF_ok, trivial⟩ rfl rfl (by kernel_rfl) (fun _ => Nat.le_of_ble_eq_true rfl) ?_
  rintro ⟨ps, k⟩ hp hr
  try dsimp only [pright_c] at hp
  try simp only [pright_c, Rng, RngL, inR, and_true, true_and] at hr
  repeat' (first | (with_reducible refine Unf.h ?_) | ((conv => whnf); first | refine Fork.mk (fun h => ?_) (fun h => ?_) | (refine Side.mk ?_ ?_; focus (first | with_reducible rfl | exact True.intro)) | refine RetE.mk () trivial ?_ | refine Got.mk (fun _ _ => ?_) | refine retK_r ?_ | exact rfl | refine CallS.mk (c := awake12_c) (()) ?_) | fail); all_goals try (conv => whnf)
  have hb := builtOk ps
  have hd := hb.depth
  have hw := built_wf ps
  have ht := hb.tree
  have hpre2 : built_c.pre ps := by show ps.length ≤ 25; omega
  have hsz := built_size (ps := ps) (by omega)
  have hpre3 : showF_c.pre ((builtF ps).1, (builtF ps).2, k, treesF ps) := ⟨ht, by omega⟩
  have hpre4 : rootZ_c.pre ((builtF ps).1, (builtF ps).2) := treeAt_is ht
  have hpre5 : getF_c.pre ((builtF ps).1, (builtF ps).2, k, treesF ps) := ⟨by omega, hb.closed, ht, hw⟩
  have hsl := show_len k (treesF ps)
  have hpre6 : check_c.pre (showP k (treesF ps), k, hashO (treesF ps)) := by show _ ≤ _; omega
  have hok := show_ok (k := k) hw
  obtain ⟨hh1, hh2⟩ := show_has (k := k) hw
  have hroot := root_hash ht
  generalize treesF ps = o at *
  repeat' (first | (with_reducible refine Unf.h ?_) | ((conv => whnf); first | refine Fork.mk (fun h => ?_) (fun h => ?_) | (refine Side.mk ?_ ?_; focus (first | with_reducible rfl | assumption | omega | (simp only [*, hroot]; done) | (simp [*, hroot]; done))) | refine RetE.mk () trivial ?_ | refine Got.mk (fun _ _ => ?_) | refine retK_r ?_ | exact rfl | refine CallS.mk (c := built_c) (ps) ?_ | refine CallS.mk (c := rootZ_c) (((builtF ps).1, (builtF ps).2)) ?_ | refine CallS.mk (c := showF_c) (((builtF ps).1, (builtF ps).2, k, o)) ?_ | refine CallS.mk (c := check_c) ((showP k o, k, hashO o)) ?_ | refine CallS.mk (c := getF_c) (((builtF ps).1, (builtF ps).2, k, o)) ?_) | fail); all_goals try (conv => whnf)
  all_goals first
    | exact absurd hok (by assumption)
    | exact absurd (decide_eq_decide.2 hh1) (by assumption)
    | exact absurd (congrArg Vector.toList hh2) (by assumption)
    | (refine Side.mk (decide_eq_true (congrArg Vector.toList hh2)) ?_; all_goals try (conv => whnf))
end Go.Proofs.YtffaohckcggkdaaDoor

/- MY OWN ENGINE: the variables that the rows of this seat list. -/
namespace Go.Proofs.YtffaohckcggkdaaDoor
set_option linter.all false
open Go.RowKit Go.ChangeShapes Go.WideShapes Go.ChangeAt
theorem Tryd.own : ownKnob Tryd.prog.godebug = none := by kernel_rfl
theorem Tryd.laidOut : laidOutB Tryd.prog = true := by kernel_rfl
def laidL {H : Type} : List (String × DataW H) := [("rolodex/hash.begin", Rows.laid_rolodex_hash_begin), ("rolodex/hash.rounds", Rows.laid_rolodex_hash_rounds)]
theorem gBegin : Tryd.prog.globalNamed "rolodex/hash.begin" = some 0 := by kernel_rfl
theorem gRounds : Tryd.prog.globalNamed "rolodex/hash.rounds" = some 1 := by kernel_rfl
theorem tBegin : (Tryd.prog.globals[0]?).map (·.type) = some 135 := by kernel_rfl
theorem tRounds : (Tryd.prog.globals[1]?).map (·.type) = some 138 := by kernel_rfl
theorem dBegin : (Rows.laid_rolodex_hash_begin : DataW Unit) = .agg (gv0.toList.map fun b => .lit (.int .u32 (b.toNat : Int))) := by kernel_rfl
theorem dRounds : (Rows.laid_rolodex_hash_rounds : DataW Unit) = .agg (gv1.toList.map fun b => .lit (.int .u32 (b.toNat : Int))) := by kernel_rfl
theorem glob_of_laid {W : World} (h : laidMetH Tryd.prog laidL W) : Glob Tryd.prog W none0 := by
  rw [MakeChecks.laidMetH_plain _ _ _ (by kernel_rfl)] at h
  obtain ⟨ps, ⟨g0, t0, cs0, f0, p0, q0, hg0, ht0, hv0, hd0, ⟨g1, t1, cs1, f1, p1, q1, hg1, ht1, hv1, hd1, _, _⟩, _⟩, _, _⟩ := h
  obtain rfl := Option.some.inj (gBegin.symm.trans hg0)
  obtain rfl := Option.some.inj (gRounds.symm.trans hg1)
  obtain rfl := Option.some.inj (tBegin.symm.trans ht0)
  obtain rfl := Option.some.inj (tRounds.symm.trans ht1)
  rw [dBegin] at hd0
  rw [dRounds] at hd1
  intro g ps hm
  have hm' : (g, ps) = (0, [SV.arr32 gv0]) ∨ (g, ps) = (1, [SV.arr32 gv1]) := by
    have e : TabC.gl Tryd.prog = [(0, [SV.arr32 gv0]), (1, [SV.arr32 gv1])] := rfl
    rw [e] at hm
    simpa using hm
  rcases hm' with e | e
  · cases e
    exact glob_arr32 (i := ⟨.ar 8 110, 8, 32⟩) (j := ⟨.int .u32, 1, 4⟩) hg0 hv0 rfl rfl rfl rfl rfl rfl hd0
  · cases e
    exact glob_arr32 (i := ⟨.ar 64 110, 64, 256⟩) (j := ⟨.int .u32, 1, 4⟩) hg1 hv1 rfl rfl rfl rfl rfl rfl hd1
theorem door_met (os : Os) (args : Array Value) : laidMetH Tryd.prog laidL ((World.doorLaid Tryd.prog 400 os).forCall (fun _ _ => 0) ⟨#[], args, []⟩).memory :=
  laidMetH_of_parts3 (fuel := 8) (laidMet_of_run' 8 (by kernel_rfl) (by kernel_rfl)) (by kernel_rfl) (by kernel_rfl)
/-! what the arguments are -/
section
variable {H : Type} {enc : TypeId × Value → H} {W : World} {spare : Nat → Bool} {held : Bool}
theorem o_hash : Opens Tryd.prog enc W spare held 25 (fun v : H256 => [.arr8 v]) := o_arr8 (i := ⟨.ar 32 5, 32, 32⟩) (j := ⟨.int .u8, 1, 1⟩) rfl rfl rfl rfl rfl rfl
theorem o_int : Opens Tryd.prog enc W spare held 3 (fun n : Int => [.int .i64 n]) := o_i64 (i := ⟨.int .i64, 1, 8⟩) rfl rfl
theorem o_boolT : Opens Tryd.prog enc W spare held 4 (fun b : Bool => [.bool b]) := o_bool (i := ⟨.bool, 1, 1⟩) rfl rfl
theorem o_pfx : Opens Tryd.prog enc W spare held 27 ePfx :=
  (o_struct (i := ⟨.st [(0, 3), (1, 25)], 33, 40⟩) rfl rfl (o_field (off := 0) (off2 := 1) (j := ⟨.int .i64, 1, 8⟩) rfl o_int (fun _ => rfl) rfl (o_last (j := ⟨.ar 32 5, 32, 32⟩) rfl o_hash (fun _ => rfl))) (fun _ => rfl) (by kernel_rfl)).map (fun p => (⟨p.1, p.2⟩ : Pfx)) (fun _ => rfl)
theorem o_node : Opens Tryd.prog enc W spare held 51 eNd :=
  (o_struct (i := ⟨.st [(0, 4), (1, 25), (33, 25), (65, 27), (98, 3), (99, 3), (100, 25)], 132, 160⟩) rfl rfl
    (o_field (off := 0) (off2 := 1) (j := ⟨.bool, 1, 1⟩) rfl o_boolT (fun _ => rfl) rfl
    (o_field (off := 1) (off2 := 33) (j := ⟨.ar 32 5, 32, 32⟩) rfl o_hash (fun _ => rfl) rfl
    (o_field (off := 33) (off2 := 65) (j := ⟨.ar 32 5, 32, 32⟩) rfl o_hash (fun _ => rfl) rfl
    (o_field (off := 65) (off2 := 98) (j := ⟨.st [(0, 3), (1, 25)], 33, 40⟩) rfl o_pfx (fun _ => rfl) rfl
    (o_field (off := 98) (off2 := 99) (j := ⟨.int .i64, 1, 8⟩) rfl o_int (fun _ => rfl) rfl
    (o_field (off := 99) (off2 := 100) (j := ⟨.int .i64, 1, 8⟩) rfl o_int (fun _ => rfl) rfl
    (o_last (j := ⟨.ar 32 5, 32, 32⟩) rfl o_hash (fun _ => rfl)))))))) (fun _ => rfl) (by kernel_rfl)).map (fun p => (⟨p.1, p.2.1, p.2.2.1, p.2.2.2.1.len, p.2.2.2.1.bits, p.2.2.2.2.1, p.2.2.2.2.2.1, p.2.2.2.2.2.2⟩ : Nd)) (fun _ => rfl)
end
end Go.Proofs.YtffaohckcggkdaaDoor

namespace Go.Proofs.YtffaohckcggkdaaDoor
set_option linter.all false
open Go.RowKit Go.ChangeShapes Go.WideShapes Go.ChangeAt
section
variable {H : Type} {enc : TypeId × Value → H} {W : World} {spare : Nat → Bool} {held : Bool}
theorem o_pair : Opens Tryd.prog enc W spare held 56 eKV :=
  (o_struct (i := ⟨.st [(0, 25), (32, 25)], 64, 64⟩) rfl rfl
    (o_field (off := 0) (off2 := 32) (j := ⟨.ar 32 5, 32, 32⟩) rfl o_hash (fun _ => rfl) rfl
    (o_last (j := ⟨.ar 32 5, 32, 32⟩) rfl o_hash (fun _ => rfl))) (fun _ => rfl) (by kernel_rfl)).map (fun p => ((p.1, p.2) : KV)) (fun _ => rfl)
theorem o_pairs : Opens Tryd.prog enc W spare held 22 (fun l : List KV => [.fs 64 eKV l]) :=
  o_slice (i := ⟨.sl 56, 1, 24⟩) (j := ⟨.st [(0, 25), (32, 25)], 64, 64⟩) rfl rfl rfl rfl rfl o_pair (fun _ => rfl)
end
end Go.Proofs.YtffaohckcggkdaaDoor

namespace Go.Proofs.YtffaohckcggkdaaDoor
set_option linter.all false
open Go.RowKit Go.ChangeShapes Go.WideShapes Go.ChangeAt
section
variable {H : Type} {enc : TypeId × Value → H} {W : World} {spare : Nat → Bool} {held : Bool}
theorem o_two : Opens Tryd.prog enc W spare held 90 (fun t : Int × Int => [.int .i64 t.1, .int .i64 t.2]) := fun fuel cs x hx => by
  obtain ⟨xs, m, _, hx1, hlen, hxl, hel⟩ := DataW.trod_array (ty_array (i := ⟨.ar 2 3, 2, 16⟩) rfl rfl) hx
  rw [ty_cells (i := ⟨.ar 2 3, 2, 16⟩) rfl] at hlen
  have e0 := hel 0 (by decide)
  have e1 := hel 1 (by decide)
  rw [ty_cells (t := 3) (i := ⟨.int .i64, 1, 8⟩) rfl, List.getElem?_eq_getElem (by omega)] at e0 e1
  obtain ⟨a, ha⟩ := o_int _ _ _ e0
  obtain ⟨b, hb⟩ := o_int _ _ _ e1
  refine ⟨(a, b), ?_⟩
  have hlen2 : cs.length = 2 := hlen
  clear hx hel hx1 hlen e0 e1
  have e : cs = (cs.drop (0 * 1)).take 1 ++ (cs.drop (1 * 1)).take 1 := by
    rcases cs with _ | ⟨c, _ | ⟨d, _ | ⟨f, r⟩⟩⟩
    · simp at hlen2
    · simp at hlen2
    · rfl
    · simp at hlen2
  rw [e]
  exact hL_app (x := [.int .i64 a]) (y := [.int .i64 b]) ha hb
theorem o_step : Opens Tryd.prog enc W spare held 101 eStp :=
  (o_struct (i := ⟨.st [(0, 27), (33, 25)], 65, 72⟩) rfl rfl
    (o_field (off := 0) (off2 := 33) (j := ⟨.st [(0, 3), (1, 25)], 33, 40⟩) rfl o_pfx (fun _ => rfl) rfl
    (o_last (j := ⟨.ar 32 5, 32, 32⟩) rfl o_hash (fun _ => rfl))) (fun _ => rfl) (by kernel_rfl)).map (fun p => (⟨p.1.len, p.1.bits, p.2⟩ : Stp)) (fun _ => rfl)
theorem o_steps : Opens Tryd.prog enc W spare held 23 (fun l : List Stp => [.fs 65 eStp l]) :=
  o_slice (i := ⟨.sl 101, 1, 24⟩) (j := ⟨.st [(0, 27), (33, 25)], 65, 72⟩) rfl rfl rfl rfl rfl o_step (fun _ => rfl)
theorem o_proof : Opens Tryd.prog enc W spare held 29 ePrf :=
  (o_struct (i := ⟨.st [(0, 23), (1, 3), (2, 25), (34, 25), (66, 27), (99, 25), (131, 25)], 163, 200⟩) rfl rfl
    (o_field (off := 0) (off2 := 1) (j := ⟨.sl 101, 1, 24⟩) rfl o_steps (fun _ => rfl) rfl
    (o_field (off := 1) (off2 := 2) (j := ⟨.int .i64, 1, 8⟩) rfl o_int (fun _ => rfl) rfl
    (o_field (off := 2) (off2 := 34) (j := ⟨.ar 32 5, 32, 32⟩) rfl o_hash (fun _ => rfl) rfl
    (o_field (off := 34) (off2 := 66) (j := ⟨.ar 32 5, 32, 32⟩) rfl o_hash (fun _ => rfl) rfl
    (o_field (off := 66) (off2 := 99) (j := ⟨.st [(0, 3), (1, 25)], 33, 40⟩) rfl o_pfx (fun _ => rfl) rfl
    (o_field (off := 99) (off2 := 131) (j := ⟨.ar 32 5, 32, 32⟩) rfl o_hash (fun _ => rfl) rfl
    (o_last (j := ⟨.ar 32 5, 32, 32⟩) rfl o_hash (fun _ => rfl)))))))) (fun _ => rfl) (by kernel_rfl)).map (fun p => (⟨p.1, p.2.1, p.2.2.1, p.2.2.2.1, p.2.2.2.2.1.len, p.2.2.2.2.1.bits, p.2.2.2.2.2.1, p.2.2.2.2.2.2⟩ : Prf)) (fun _ => rfl)
end
end Go.Proofs.YtffaohckcggkdaaDoor

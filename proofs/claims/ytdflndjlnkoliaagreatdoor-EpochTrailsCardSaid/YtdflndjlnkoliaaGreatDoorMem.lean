import Derived.Test.YtdflndjlnkoliaaGreatDoorBin
/- MY OWN ENGINE: parts, addresses, loads. -/
namespace Go.Proofs.YtdflndjlnkoliaaGreatDoor
set_option linter.all false
open Go.RowKit
/-- an index that is in range, and what is owed with it -/
inductive Idx (p : Prop) (K : p → Prop) : Prop
  | mk (h : p) (k : K h)
/-- something that is so, and what is owed with it -/
inductive Ex {α : Type} (p : α → Prop) (K : α → Prop) : Prop
  | mk (a : α) (h : p a) (k : K a)
abbrev eB (x : BitVec 8) : List SV := [.u8 x]
/-- a size, handed on as a numeral: what is reckoned with it holds no names -/
def szC {β : Type 1} (s : SV) (f : Nat → β) : β := match s with
  | @SV.arr8 n _ => f n
  | @SV.arr32 n _ => f n
  | .arrG z _ xs => f (xs.length * z)
  | _ => f 1
theorem szC_eq {β : Type 1} (s : SV) (f : Nat → β) : szC s f = f s.sz := by cases s <;> rfl
def szB (s : SV) (f : Nat → Bool) : Bool := match s with
  | @SV.arr8 n _ => f n
  | @SV.arr32 n _ => f n
  | .arrG z _ xs => f (xs.length * z)
  | _ => f 1
theorem szB_eq (s : SV) (f : Nat → Bool) : szB s f = f s.sz := by cases s <;> rfl
/-- is this the size? -/
def sizQ : List SV → Nat → Bool
  | [], n => Nat.beq 0 n
  | s :: r, n => szB s fun k => match Nat.ble k n with
    | true => sizQ r (n - k)
    | false => false
theorem sizQ_eq : ∀ (l : List SV) (n : Nat), sizQ l n = Nat.beq (szL l) n
  | [], n => rfl
  | s :: r, n => by
    unfold sizQ
    rw [szB_eq]
    have e : ∀ a b : Nat, Nat.beq a b = decide (a = b) := fun a b => by
      by_cases h : a = b
      · subst h; simp
      · rw [decide_eq_false h]; cases hb : Nat.beq a b
        · rfl
        · exact absurd (Nat.eq_of_beq_eq_true hb) h
    cases hb : Nat.ble s.sz n with
    | true =>
      have := Nat.le_of_ble_eq_true hb
      simp only
      rw [sizQ_eq r (n - s.sz), e, e]
      simp only [szL]
      exact decide_eq_decide.2 (by omega)
    | false =>
      have hn : ¬ s.sz ≤ n := fun h => by rw [Nat.ble_eq_true_of_le h] at hb; cases hb
      simp only
      rw [e]; simp only [szL]
      exact (decide_eq_false (by omega)).symm
theorem sizQ_spec {l : List SV} {n : Nat} (h : sizQ l n = true) : szL l = n := Nat.eq_of_beq_eq_true (by rw [← sizQ_eq]; exact h)
def takeP : List SV → Nat → Option (List SV × List SV)
  | l, 0 => some ([], l)
  | [], _ + 1 => none
  | s :: r, n + 1 => szC s fun k => match Nat.ble k (n + 1) with
    | true => match takeP r (n + 1 - k) with
      | some (a, b) => some (s :: a, b)
      | none => none
    | false => none
theorem takeP_spec : ∀ {l : List SV} {n : Nat} {a b : List SV}, takeP l n = some (a, b) → l = a ++ b ∧ szL a = n
  | l, 0, a, b, h => by cases l <;> (simp [takeP] at h; obtain ⟨rfl, rfl⟩ := h; exact ⟨rfl, rfl⟩)
  | [], n + 1, a, b, h => by simp [takeP] at h
  | s :: r, n + 1, a, b, h => by
    unfold takeP at h
    rw [szC_eq] at h
    split at h
    · rename_i hb
      split at h
      · rename_i a' b' h'
        have := takeP_spec h'
        simp only [Option.some.injEq, Prod.mk.injEq] at h
        obtain ⟨rfl, rfl⟩ := h
        have hb' := Nat.le_of_ble_eq_true hb
        exact ⟨by rw [this.1]; rfl, by simp only [szL, this.2]; omega⟩
      · cases h
    · cases h
def partP (l : List SV) (off size : Nat) : Option (List SV × List SV × List SV) :=
  match takeP l off with
  | some (a, r) => match takeP r size with
    | some (m, z) => some (a, m, z)
    | none => none
  | none => none
theorem partP_spec {l : List SV} {off size : Nat} {a m z : List SV} (h : partP l off size = some (a, m, z)) : l = a ++ (m ++ z) ∧ szL a = off ∧ szL m = size := by
  unfold partP at h
  split at h
  · rename_i a' r h1
    split at h
    · rename_i m' z' h2
      simp only [Option.some.injEq, Prod.mk.injEq] at h
      obtain ⟨rfl, rfl, rfl⟩ := h
      have e1 := takeP_spec h1
      have e2 := takeP_spec h2
      exact ⟨by rw [e1.1, e2.1], e1.2, e2.2⟩
    · cases h
  · cases h
theorem szL_append : ∀ a b : List SV, szL (a ++ b) = szL a + szL b
  | [], b => by simp [szL]
  | c :: r, b => by simp [szL, szL_append r b, Nat.add_assoc]
theorem take_drop_part {L : List Value} {a n i m : Nat} (h : i + m ≤ n) : (((L.drop a).take n).drop i).take m = (L.drop (a + i)).take m := by
  rw [List.drop_take, List.take_take, List.drop_drop, Nat.min_eq_left (by omega)]
theorem hL.part {w : World} {A : Own} {σ : Sg} {l a m z : List SV} {off size : Nat} {cs : List Value} (h : hL w A l σ cs) (hp : partP l off size = some (a, m, z)) : hL w A m σ ((cs.drop off).take size) ∧ szL m = size ∧ off + size ≤ szL l ∧ cs.length = szL l := by
  obtain ⟨rfl, h1, h2⟩ := partP_spec hp
  have hlen := h.len
  obtain ⟨x, y, rfl, hx, hy⟩ := hL.split h
  obtain ⟨x1, x2, rfl, hx1, hx2⟩ := hL.split hy
  have e1 := hx.len
  have e2 := hx1.len
  refine ⟨?_, h2, by simp only [szL_append]; omega, hlen⟩
  rw [← h1, ← e1, ← h2, ← e2, List.drop_left, List.take_left]
  exact hx1
/-- a value of some parts -/
def svK (row : Bool) (m : List SV) (K : SV → Prop) : Prop := match row with
  | true => frcL m fun m => K (.agg m)
  | false => match m with
    | [s] => frc s K
    | _ => False
def vOf : Bool → List Value → Value
  | true, l => .agg l.toArray
  | false, l => l.headD undef
theorem svK_sound {row : Bool} {m : List SV} {K : SV → Prop} (h : svK row m K) (h1 : (row || Nat.beq (szL m) 1) = true) : ∃ s, K s ∧ ∀ {w A σ cs}, hL w A m σ cs → s.hv w A σ (vOf row cs) := by
  cases row with
  | true => simp only [svK] at h; exact ⟨_, frcL_k h, fun hc => ⟨_, rfl, hc⟩⟩
  | false =>
    simp only [svK] at h
    simp only [Bool.false_or] at h1
    have h1' := Nat.eq_of_beq_eq_true h1
    split at h
    · rename_i s
      refine ⟨s, frc_k h, fun {w A σ cs} hc => ?_⟩
      have hlen := hc.len
      rw [h1'] at hlen
      obtain ⟨v, rfl⟩ := List.length_eq_one_iff.1 hlen
      have := hL.single.1 hc
      cases s <;> first | exact this | (simp only [SV.hc] at this)
    · exact h.elim
section
variable {P : Program} [TabC P] {S : Sig} {σ : Sg} {env : Env} {objs : List Ob} {nx : Nat} {o : Oper} {a : Act} {w : World} {x y : Operand} {K : SV → Prop}
theorem lk_holds {k : Nat} {so : SO} (h : St P S σ env objs nx a w) (hk : lk objs k = some so) : so.holds w (S.A σ objs) σ k := h.obs.holds (k, so) (lk_mem hk)
theorem run_loadVar_at {T : Nat} {i : TI} (ht : ty P T = some i) (h1 : (i.row || Nat.beq i.size 1) = true) {w : World} {b off : Nat} {C : Array Value} {t' : TypeId} {fr : Nat × Nat}
    (hg : w.heap[b]? = some (.cells C t' fr)) {l : List Value} (hl : (C.toList.drop off).take i.size = l) (hs : l.length = i.size) : (loadVar T ⟨b, off, none⟩).run P w = .ok (vOf i.row l) w := by
  have hc : ∀ j v, l[j]? = some v → w.cell? ((⟨b, off, none⟩ : Addr).add j) = some v := fun j v hv => by
    have hadd : (⟨b, off, none⟩ : Addr).add j = ⟨b, off + j, none⟩ := by unfold Addr.add; split <;> simp_all
    rw [hadd, cell_of_row w b (off + j) C t' fr hg]
    rw [← hl, List.getElem?_take] at hv
    split at hv
    · rw [List.getElem?_drop] at hv; simpa using hv
    · cases hv
  simp only [loadVar, Sem.run_bind, run_isAgg' ht, Result.andThen_ok]
  cases hr : i.row with
  | true =>
    have := run_loadCells_list (P := P) w ⟨b, off, none⟩ l hc
    simp [run_sizeOf' ht, ← hs, this, vOf]
  | false =>
    simp only [hr, Bool.false_or] at h1
    have h1' := Nat.eq_of_beq_eq_true h1
    match l, hs with
    | [v], _ =>
      have := hc 0 v rfl
      simp only [Addr.add, if_true] at this
      simp [load, Sem.run, this, vOf]
    | [], hs => simp [h1'] at hs
    | _ :: _ :: _, hs => simp [h1'] at hs
/-- cells at a pointer that stand while what stands is kept -/
theorem load_at {T : Nat} {j : TI} {m : List SV} (ho : o.op = .load T x) (ht : ty P T = some j) (h1 : (j.row || Nat.beq j.size 1) = true) (hz : szL m = j.size) (h : svK j.row m K)
    (hp : ∀ {σ a w}, St P S σ env objs nx a w → ∃ b off C t fr σ', a.eval x = .pointer (some ⟨b, off, none⟩) ∧ w.heap[b]? = some (.cells C t fr) ∧ hL w (S.A σ objs) m σ' ((C.toList.drop off).take j.size) ∧ (∀ cs, hL w (S.A σ objs) m σ' cs → hL w (S.A σ objs) m σ cs)) : LoadK P S env objs nx o K := by
  obtain ⟨s, hk, hs⟩ := svK_sound h (by rw [hz]; exact h1)
  intro σ a w hst
  obtain ⟨b, off, C, t, fr, σ', e1, e2, e3, e4⟩ := hp hst
  have hb : b < w.heap.size := (Array.getElem?_eq_some_iff.1 e2).1
  refine ⟨s, _, hk, hs (e4 _ e3), fun w' hkp => ?_⟩
  have := run_loadVar_at (P := P) ht h1 (w := w') ((hkp.block b hb (fun y => y)).trans e2) rfl (by rw [e3.len, hz])
  simp only [execOp, ho, e1, Instr.loadAt, Instr.sureAddr, Sem.run_bind, Sem.run_pure, Result.andThen_ok, this]
def rowB (j : TI) : Bool := match j.row with
  | true => true
  | false => Nat.beq j.size 1
theorem rowB_spec {j : TI} (h : rowB j = true) : (j.row || Nat.beq j.size 1) = true := by
  unfold rowB at h; split at h <;> simp_all
/-- parts with no names -/
theorem hL.of0 {w : World} {A : Own} {l : List SV} {cs : List Value} (σ : Sg) (h : hL w A l sg0 cs) : hL w A l σ cs := hL.names l cs (fun k v e => by cases e) h
theorem rowH.form {w : World} {A : Own} {σ : Sg} {k e z q : Nat} {els : List (List SV)} (h : rowH w A σ k e z els) (hq : q < els.length) :
    ∃ g cap cur, σ k = some (.slice (some ⟨g, 0, none⟩) els.length cap) ∧ w.heap[g]? = some (.cells cur e (0, 0)) ∧ els.length ≤ cap ∧ cap ≤ maxLen ∧ cur.size = cap * z ∧ hE w A sg0 els (cur.toList.take (els.length * z)) ∧ (∀ e ∈ els, szL e = z) := by
  obtain ⟨v, cs, h0, h1, h2, h3, ho⟩ := h
  rcases ho.2 with ⟨rfl, hn⟩ | ⟨g, cap, cur, rfl, hb0, hg, hn, hc, hs, ht⟩
  · omega
  · exact ⟨g, cap, cur, h0, hg, hn, hc, hs, by rw [ht]; exact h3, h1⟩
theorem rowH.len {w : World} {A : Own} {σ : Sg} {k e z : Nat} {els : List (List SV)} (h : rowH w A σ k e z els) : ∃ ad c, σ k = some (.slice ad els.length c) := by
  obtain ⟨v, cs, h0, h1, h2, h3, ho⟩ := h
  rcases ho.2 with ⟨rfl, hn⟩ | ⟨g, cap, cur, rfl, _⟩
  · exact ⟨none, 0, by rw [h0, hn]⟩
  · exact ⟨_, _, h0⟩

/-! ## loads -/
def ldParts (j : TI) (ps : List SV) (off : Nat) (K : SV → Prop) : Prop := match partP ps off j.size with
  | some (_, m, _) => svK j.row m K
  | none => False
def ldCell (ps : List SV) (off q : Nat) (K : SV → Prop) : Prop := match takeP ps off with
  | some (_, .arr8 (n := n) x :: _) => Idx (q < n) fun h => K (.u8 x[q])
  | some (_, .arr32 (n := n) x :: _) => Idx (q < n) fun h => K (.u32 x[q])
  | _ => False
variable (P) in
def evLoad (objs : List Ob) (T : Nat) (s : SV) (K : SV → Prop) : Prop := match ty P T with
  | some j => match rowB j with
    | true => match s with
      | .ptr k off => match lk objs k with
        | some (.box _ ps) => ldParts j ps off K
        | some (.fbox _ ps) => ldParts j ps off K
        | _ => False
      | .cptr k off q => match Nat.beq j.size 1, j.row with
        | true, false => match lk objs k with
          | some (.box _ ps) => ldCell ps off q K
          | some (.fbox _ ps) => ldCell ps off q K
          | _ => False
        | _, _ => False
      | .rptr k q z off => match lk objs k with
        | some (.row _ z' enc xs) => match Nat.beq z z' with
          | true => Idx (q < xs.length) fun h => ldParts j (enc xs[q]) off K
          | false => False
        | some (.lits _ z' els) => match Nat.beq z z', nth' els q with
          | true, some ps => ldParts j ps off K
          | _, _ => False
        | _ => False
      | .fpt ps => match sizQ ps j.size with
        | true => svK j.row ps K
        | false => False
      | _ => False
    | false => False
  | none => False
where nth' {α : Type 1} : List α → Nat → Option α
  | [], _ => none
  | a :: _, 0 => some a
  | _ :: l, i + 1 => nth' l i
theorem nth'_eq {α : Type 1} : ∀ (l : List α) (i : Nat), evLoad.nth' l i = l[i]?
  | [], _ => by simp [evLoad.nth']
  | _ :: _, 0 => by simp [evLoad.nth']
  | _ :: l, i + 1 => by simp [evLoad.nth', nth'_eq l i]
theorem ptr_ev {k off : Nat} (hx : evx P env x = some (.ptr k off)) {σ a w} (h : St P S σ env objs nx a w) : ∃ b c, σ k = some (.pointer (some ⟨b, c, none⟩)) ∧ a.eval x = .pointer (some ⟨b, c + off, none⟩) := by
  have := h.ev hx
  simp only [SV.hv, SV.h1, SV.hc, List.cons.injEq, and_true] at this
  exact this
theorem cptr_ev {k off q : Nat} (hx : evx P env x = some (.cptr k off q)) {σ a w} (h : St P S σ env objs nx a w) : ∃ b c, σ k = some (.pointer (some ⟨b, c, none⟩)) ∧ a.eval x = .pointer (some ⟨b, c + off + q, none⟩) := by
  have := h.ev hx
  simp only [SV.hv, SV.h1, SV.hc, List.cons.injEq, and_true] at this
  exact this
theorem rptr_ev {k q z off : Nat} (hx : evx P env x = some (.rptr k q z off)) {σ a w} (h : St P S σ env objs nx a w) : ∃ g l c, σ k = some (.slice (some ⟨g, 0, none⟩) l c) ∧ a.eval x = .pointer (some ⟨g, q * z + off, none⟩) := by
  have := h.ev hx
  simp only [SV.hv, SV.h1, SV.hc, List.cons.injEq, and_true] at this
  exact this
theorem fpt_ev {ps : List SV} (hx : evx P env x = some (.fpt ps)) {σ a w} (h : St P S σ env objs nx a w) : ∃ b off, a.eval x = .pointer (some ⟨b, off, none⟩) ∧ ¬ (S.A σ objs) b ∧ ∃ C T fr, w.heap[b]? = some (.cells C T fr) ∧ hL w (S.A σ objs) ps sg0 ((C.toList.drop off).take (szL ps)) := by
  have := h.ev hx
  simp only [SV.hv, SV.h1, SV.hc, List.cons.injEq, and_true] at this
  exact this
/-- the cells of a box of one's own, or of one that is written no more -/
theorem box_cells {k : Nat} {so : SO} {T : Nat} {ps : List SV} (hso : so = .box T ps ∨ so = .fbox T ps) (hk : lk objs k = some so) {σ a w} (h : St P S σ env objs nx a w) :
    ∃ b C t fr σ', σ k = some (.pointer (some ⟨b, 0, none⟩)) ∧ w.heap[b]? = some (.cells C t fr) ∧ hL w (S.A σ objs) ps σ' (C.toList.take (szL ps)) ∧ (∀ m cs, hL w (S.A σ objs) m σ' cs → hL w (S.A σ objs) m σ cs) := by
  have hh := lk_holds h hk
  rcases hso with rfl | rfl
  · obtain ⟨b, cs, h1, h2, h3⟩ := hh
    exact ⟨b, _, T, (0, 0), σ, h1, h2, by rw [← h3.len]; simpa using h3, fun _ _ h => h⟩
  · obtain ⟨v, h1, h2, b, rfl⟩ := hh
    simp only [SV.hc] at h2
    obtain ⟨b', off, e, _, C, t, fr, h3, h4⟩ := h2
    simp only [List.cons.injEq, Value.pointer.injEq, Option.some.injEq, Addr.mk.injEq, and_true] at e
    obtain ⟨rfl, rfl⟩ := e
    exact ⟨b, C, t, fr, sg0, h1, h3, by simpa using h4, fun m cs h => h.of0 _⟩
theorem evLoad_sound {T : Nat} {s : SV} (ho : o.op = .load T x) (hx : evx P env x = some s) (h : evLoad P objs T s K) : LoadK P S env objs nx o K := by
  unfold evLoad at h
  split at h
  · rename_i j ht
    split at h
    · rename_i hrow
      have h1 := rowB_spec hrow
      have parts : ∀ {ps : List SV} {off : Nat}, ldParts j ps off K → (∀ {σ a w}, St P S σ env objs nx a w → ∃ b p C t fr σ', a.eval x = .pointer (some ⟨b, p + off, none⟩) ∧ w.heap[b]? = some (.cells C t fr) ∧ hL w (S.A σ objs) ps σ' ((C.toList.drop p).take (szL ps)) ∧ (∀ m cs, hL w (S.A σ objs) m σ' cs → hL w (S.A σ objs) m σ cs)) → LoadK P S env objs nx o K := by
        intro ps off hl hp
        unfold ldParts at hl
        split at hl
        · rename_i pa m z hpart
          refine load_at ho ht h1 (partP_spec hpart).2.2 hl fun hst => ?_
          obtain ⟨b, p, C, t, fr, σ', e1, e2, e3, e4⟩ := hp hst
          obtain ⟨f1, f2, f3, f4⟩ := e3.part hpart
          refine ⟨b, p + off, C, t, fr, σ', e1, e2, ?_, e4 m⟩
          rwa [take_drop_part f3] at f1
        · exact hl.elim
      have cell : ∀ {ps : List SV} {off q : Nat} {k : Nat} {so : SO} {TT : Nat}, (Nat.beq j.size 1 = true) → j.row = false → ldCell ps off q K → evx P env x = some (.cptr k off q) → lk objs k = some so → (so = .box TT ps ∨ so = .fbox TT ps) → LoadK P S env objs nx o K := by
        intro ps off q k so TT hz1 hr hl hx hk hso
        have hz1' := Nat.eq_of_beq_eq_true hz1
        have go : ∀ {n : Nat} {rest a : List SV} {u v : SV} {f : Nat → Value}, takeP ps off = some (a, u :: rest) → u.sz = n → q < n → (∀ {w A σ cs}, u.hc w A σ cs → ∀ i, i < n → cs[i]? = some (f i)) → (∀ {w A σ}, v.hc w A σ [f q]) → (∀ {w A σ b}, v.hv w A σ b ↔ v.hc w A σ [b]) → K v → LoadK P S env objs nx o K := by
          intro n rest a0 u v f htk hsz hq hf hv hvv hk0 σ a w hst
          obtain ⟨b, C, t, fr, σ', e1, e2, e3, _⟩ := box_cells hso hk hst
          obtain ⟨b', c', e1', e4⟩ := cptr_ev hx hst
          rw [e1] at e1'; cases e1'
          obtain ⟨e5, e6⟩ := takeP_spec htk
          rw [e5] at e3
          have hl3 := e3.len
          obtain ⟨c1, c2, hc, hc1, hc2⟩ := hL.split e3
          simp only [hL] at hc2
          obtain ⟨d1, d2, rfl, hd1, hd2⟩ := hc2
          have hc1l := hc1.len
          have hd1l := hd1.len
          have hcell : C[off + q]? = some (f q) := by
            have h0 : (C.toList.take (szL (a0 ++ u :: rest)))[off + q]? = some (f q) := by
              rw [hc, List.getElem?_append_right (by omega), List.getElem?_append_left (by omega)]
              rw [show off + q - c1.length = q by omega]
              exact hf hd1 q hq
            rw [List.getElem?_take] at h0
            split at h0
            · simpa using h0
            · cases h0
          have hb : b < w.heap.size := (Array.getElem?_eq_some_iff.1 e2).1
          refine ⟨v, f q, hk0, hvv.2 hv, fun w' hkp => ?_⟩
          have hcl : (C.toList.drop (off + q)).take j.size = [f q] := by
            rw [hz1']
            apply List.ext_getElem?
            intro i
            rw [List.getElem?_take]
            split
            · have : i = 0 := by omega
              subst this
              rw [List.getElem?_drop]; simpa using hcell
            · rw [List.getElem?_eq_none (by simp; omega)]
          have := run_loadVar_at (P := P) ht h1 (w := w') ((hkp.block b hb (fun y => y)).trans e2) hcl (by simp [hz1'])
          simp only [Nat.zero_add] at e4
          simp only [execOp, ho, e4, Instr.loadAt, Instr.sureAddr, Sem.run_bind, Sem.run_pure, Result.andThen_ok, this, hr, vOf, List.headD]
        unfold ldCell at hl
        split at hl
        · rename_i n x0 _ htk
          obtain ⟨hq, hk0⟩ := hl
          exact go (f := fun i => if h : i < n then bV .u8 x0[i] else undef) htk rfl hq (fun hc i hi => by have hi : i < n := hi; simp only [SV.hc] at hc; subst hc; simp [hi]) (by simp [SV.hc, hq]) (by simp [SV.hv, SV.h1]) hk0
        · rename_i n x0 _ htk
          obtain ⟨hq, hk0⟩ := hl
          exact go (f := fun i => if h : i < n then bV .u32 x0[i] else undef) htk rfl hq (fun hc i hi => by have hi : i < n := hi; simp only [SV.hc] at hc; subst hc; simp [hi]) (by simp [SV.hc, hq]) (by simp [SV.hv, SV.h1]) hk0
        · exact hl.elim
      have box : ∀ {k off : Nat} {so : SO} {TT : Nat} {ps : List SV}, evx P env x = some (.ptr k off) → lk objs k = some so → (so = .box TT ps ∨ so = .fbox TT ps) → ldParts j ps off K → LoadK P S env objs nx o K := by
        intro k off so TT ps hx hk hso hl
        refine parts hl fun hst => ?_
        obtain ⟨b, C, t, fr, σ', e1, e2, e3, e4⟩ := box_cells hso hk hst
        obtain ⟨b', c', e1', e5⟩ := ptr_ev hx hst
        rw [e1] at e1'; cases e1'
        exact ⟨b, 0, C, t, fr, σ', e5, e2, by simpa using e3, e4⟩
      have row : ∀ {k q z off : Nat} {e : Nat} {els : List (List SV)} {ps : List SV}, evx P env x = some (.rptr k q z off) → (∀ {σ a w}, St P S σ env objs nx a w → rowH w (S.A σ objs) σ k e z els) → els[q]? = some ps → ldParts j ps off K → LoadK P S env objs nx o K := by
        intro k q z off e els ps hx hk hq hl
        refine parts hl fun hst => ?_
        have hq' : q < els.length := (List.getElem?_eq_some_iff.1 hq).1
        obtain ⟨g, cap, cur, f1, f2, f3, f4, f5, f6, f7⟩ := (hk hst).form hq'
        obtain ⟨g', l, c, e1, e2⟩ := rptr_ev hx hst
        rw [f1] at e1; cases e1
        have f8 := f6.get f7 hq
        have hsz : szL ps = z := f7 _ (List.mem_of_getElem? hq)
        refine ⟨g, q * z, cur, e, (0, 0), sg0, e2, f2, ?_, fun m cs h => h.of0 _⟩
        have hmul : (q + 1) * z ≤ els.length * z := Nat.mul_le_mul_right _ hq'
        rw [Nat.add_mul, Nat.one_mul] at hmul
        rw [List.drop_take, List.take_take, Nat.min_eq_left (by omega)] at f8
        rw [hsz]; exact f8
      split at h
      · split at h
        · rename_i hk; exact box hx hk (.inl rfl) h
        · rename_i hk; exact box hx hk (.inr rfl) h
        · exact h.elim
      · split at h
        · rename_i hz1 hr
          split at h
          · rename_i hk; exact cell hz1 hr h hx hk (.inl rfl)
          · rename_i hk; exact cell hz1 hr h hx hk (.inr rfl)
          · exact h.elim
        · exact h.elim
      · split at h
        · rename_i e z' α enc xs hk
          split at h
          · rename_i hz
            obtain rfl := Nat.eq_of_beq_eq_true hz
            obtain ⟨hq, h⟩ := h
            exact row hx (fun hst => lk_holds hst hk) (by simp [hq]) h
          · exact h.elim
        · rename_i e z' els hk
          split at h
          · rename_i hz hn
            obtain rfl := Nat.eq_of_beq_eq_true hz
            rw [nth'_eq] at hn
            exact row hx (fun hst => lk_holds hst hk) hn h
          · exact h.elim
        · exact h.elim
      · rename_i ps
        split at h
        · rename_i hz
          refine load_at ho ht h1 (sizQ_spec hz) h fun hst => ?_
          obtain ⟨b, off, e1, e2, C, t, fr, e3, e4⟩ := fpt_ev hx hst
          exact ⟨b, off, C, t, fr, sg0, e1, e3, by rw [← sizQ_spec hz]; exact e4, fun cs h => h.of0 _⟩
        · exact h.elim
      · exact h.elim
    · exact h.elim
  · exact h.elim
end
end Go.Proofs.YtdflndjlnkoliaaGreatDoor

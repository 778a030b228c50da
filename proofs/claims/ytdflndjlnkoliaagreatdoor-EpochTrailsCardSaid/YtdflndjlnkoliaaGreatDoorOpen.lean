import Derived.Test.YtdflndjlnkoliaaGreatDoorTab
import Derived.ProofKit
/- MY OWN ENGINE: what a law's arguments are: from the reading to symbolic values. -/
namespace Go.Proofs.YtdflndjlnkoliaaGreatDoor
set_option linter.all false
open Go.RowKit
section
variable {P : Program} [TabC P] {H : Type} {enc : TypeId × Value → H} {W : World} {spare : Nat → Bool} {held : Bool}
abbrev none0 : Own := fun _ => False
variable (P enc W spare held) in
/-- whatever is read at type t is of this form -/
def Opens (t : Nat) {α : Type} (f : α → List SV) : Prop := ∀ (fuel : Nat) (cs : List Value) (x : DataW H × List MemPlace), DataW.trod enc P W 0 spare held fuel t cs = some x → ∃ a, hL W none0 (f a) sg0 cs
theorem ty_cells {t : Nat} {i : TI} (h : ty P t = some i) : P.cellsOf t = i.size := by
  obtain ⟨inf, d, hi, _, hs, _⟩ := ty_spec h
  simp [Program.cellsOf, hi, hs]
theorem one_of {s : SV} {v : Value} (h : s.hc W none0 sg0 [v]) : hL W none0 [s] sg0 [v] := ⟨[v], [], rfl, h, rfl⟩
/-- an int -/
theorem o_i64 {t : Nat} {i : TI} (h : ty P t = some i) (hk : i.k = .int .i64) : Opens P enc W spare held t (fun n : Int => [.int .i64 n]) := fun fuel cs x hx => by
  obtain ⟨n, rfl, _, hw⟩ := DataW.trod_int (ty_int h hk) hx
  refine ⟨n, one_of ?_⟩
  simp only [SV.hc, true_and]
  intro _
  have : -9223372036854775808 ≤ n ∧ n ≤ 9223372036854775807 := by simpa [Lit.wf, IntKind.min, IntKind.max, IntKind.signed, IntKind.bits] using hw
  exact ⟨this.1, by omega⟩
theorem o_uns {t w : Nat} {i : TI} {k : IntKind} {mk : BitVec w → SV} (h : ty P t = some i) (hk : i.k = .int k) (hs : k.signed = false) (hw : k.bits = w) (hmk : ∀ x v, (mk x).hc W none0 sg0 [v] ↔ v = bV k x) : Opens P enc W spare held t (fun x : BitVec w => [mk x]) := fun fuel cs x hx => by
  obtain ⟨n, rfl, _, hwf⟩ := DataW.trod_int (ty_int h hk) hx
  subst hw
  refine ⟨BitVec.ofInt k.bits n, one_of ((hmk _ _).2 ?_)⟩
  have hr : 0 ≤ n ∧ n < 2 ^ k.bits := by cases k <;> simp [IntKind.signed] at hs <;> simp [Lit.wf, IntKind.min, IntKind.max, IntKind.signed, IntKind.bits] at hwf ⊢ <;> omega
  simp only [bV, Value.int.injEq, true_and, BitVec.toNat_ofInt]
  rw [Int.toNat_of_nonneg (Int.emod_nonneg _ (by have := Nat.two_pow_pos k.bits; omega))]
  rw [Int.emod_eq_of_lt hr.1]
  exact_mod_cast hr.2
theorem hc8 {x : BitVec 8} {v : Value} : (SV.u8 x).hc W none0 sg0 [v] ↔ v = bV .u8 x := by simp [SV.hc]
theorem hc16 {x : BitVec 16} {v : Value} : (SV.u16 x).hc W none0 sg0 [v] ↔ v = bV .u16 x := by simp [SV.hc]
theorem hc32 {x : BitVec 32} {v : Value} : (SV.u32 x).hc W none0 sg0 [v] ↔ v = bV .u32 x := by simp [SV.hc]
theorem hc64 {x : BitVec 64} {v : Value} : (SV.u64 x).hc W none0 sg0 [v] ↔ v = bV .u64 x := by simp [SV.hc]
theorem o_slice {t e z : Nat} {i j : TI} {α : Type} {f : α → List SV} (h : ty P t = some i) (hk : i.k = .sl e) (hj : ty P e = some j) (hz : Nat.beq j.size z = true) (hz0 : Nat.blt 0 z = true) (he : Opens P enc W spare held e f) (hs : ∀ a, szL (f a) = z) :
    Opens P enc W spare held t (fun l : List α => [.fs z f l]) := fun fuel cs x hx => by
  have hz' := Nat.eq_of_beq_eq_true hz
  have hpos : 0 < z := by simpa [Nat.blt_eq] using hz0
  rcases DataW.trod_slice (ty_slice h hk) hx with ⟨rfl, _⟩ | ⟨a, len, cap, elems, rest, n, _, rfl, _, _, hl, hm, hlen, hel, _⟩
  · refine ⟨[], one_of ?_⟩
    simp only [SV.hc]
    exact ⟨none, 0, rfl, Nat.le_refl _, by decide, fun _ => by simp, fun i hi => hs _, fun ad had => by cases had⟩
  · have hc : P.cellsOf e = z := by rw [ty_cells hj, hz']
    rw [hc] at hel
    have each : ∀ i, i < len → ∃ b cs', hL W none0 (f b) sg0 cs' ∧ W.cells? 0 (a.add (i * z)) z = some cs' := fun i hi => by
      have h1 := hel i hi
      have hi' : i < elems.length := by omega
      rw [List.getElem?_eq_getElem hi', Option.bind_eq_some_iff] at h1
      obtain ⟨cs', h2, h3⟩ := h1
      obtain ⟨b, hb⟩ := he _ _ _ h3
      exact ⟨b, cs', hb, h2⟩
    by_cases hl0 : len = 0
    · subst hl0
      refine ⟨[], one_of ?_⟩
      simp only [SV.hc]
      exact ⟨some a, cap, rfl, Nat.zero_le _, hm, (fun h => (by cases h)), fun i hi => hs _, fun ad had => .inl (by simp)⟩
    · obtain ⟨b0, cs0, hb0, hc0⟩ := each 0 (by omega)
      have h0 := (World.cells?_some hc0).2.2 0 hpos
      have hlen0 := (World.cells?_some hc0).2.1
      simp only [Nat.zero_mul, Addr.add, if_true] at h0
      obtain ⟨C, T, fr, hblk, hsp⟩ : ∃ C T fr, W.heap[a.block]? = some (.cells C T fr) ∧ a.spot = none := by
        unfold World.cell? at h0
        have hsome : (cs0[0]?).isSome = true := by simp [hlen0, hpos]
        rw [← h0] at hsome
        split at hsome
        · rename_i C T fr hh
          refine ⟨C, T, fr, hh, ?_⟩
          cases hsp : a.spot with
          | none => rfl
          | some q => simp [hsp] at hsome
        · simp at hsome
      obtain ⟨g, p, sp⟩ := a
      simp only at hsp hblk; subst hsp
      have cell : ∀ i, i < len → ∃ b, hL W none0 (f b) sg0 ((C.toList.drop (p + i * z)).take z) := fun i hi => by
        obtain ⟨b, cs', hb, hcs⟩ := each i hi
        obtain ⟨_, hl', hcc⟩ := World.cells?_some hcs
        refine ⟨b, ?_⟩
        have : (C.toList.drop (p + i * z)).take z = cs' := by
          apply List.ext_getElem?
          intro q
          rw [List.getElem?_take]
          split
          · rename_i hq
            rw [List.getElem?_drop, ← hcc q hq, addr_add, addr_add, cell_of_row W g (p + i * z + q) C T fr hblk]
            simp
          · rename_i hq
            rw [List.getElem?_eq_none (by omega)]
        rw [this]; exact hb
      have all : ∀ n, n ≤ len → ∃ l : List α, l.length = n ∧ ∀ i (h : i < l.length), hL W none0 (f l[i]) sg0 ((C.toList.drop (p + i * z)).take z) := by
        intro n
        induction n with
        | zero => intro _; exact ⟨[], rfl, fun i h => by simp at h⟩
        | succ n ih =>
          intro hn
          obtain ⟨l, hl, hE⟩ := ih (by omega)
          obtain ⟨b, hb⟩ := cell n (by omega)
          refine ⟨l ++ [b], by simp [hl], fun i hi => ?_⟩
          rw [List.getElem_append]
          split
          · exact hE i _
          · rename_i h1
            have : i = n := by simp at hi; omega
            subst this; simpa using hb
      obtain ⟨l, hll, hE⟩ := all len (Nat.le_refl _)
      refine ⟨l, one_of ?_⟩
      simp only [SV.hc]
      refine ⟨some ⟨g, p, none⟩, cap, by rw [hll], by rw [hll]; exact hl, hm, (fun h => (by cases h)), fun i hi => hs _, fun ad had => ?_⟩
      simp only [Option.some.injEq] at had; subst had
      exact .inr ⟨rfl, fun h => h, C, T, fr, hblk, hE⟩
/-- the fields of a struct, from one on -/
def OpensF (P : Program) [TabC P] {H : Type} (enc : TypeId × Value → H) (W : World) (spare : Nat → Bool) (held : Bool) (off : Nat) (fl : List (Nat × Nat)) {α : Type} (f : α → List SV) : Prop :=
  ∀ (n : Nat) (cs : List Value), (∀ q ∈ fl, ∃ x, DataW.trod enc P W 0 spare held n q.2 ((cs.drop q.1).take (P.cellsOf q.2)) = some x) → (∀ q ∈ fl, q.1 + P.cellsOf q.2 ≤ cs.length) → ∃ a, hL W none0 (f a) sg0 ((cs.drop off).take (szL (f a))) ∧ off + szL (f a) ≤ cs.length
theorem o_last {off t : Nat} {α : Type} {f : α → List SV} {j : TI} (hj : ty P t = some j) (h : Opens P enc W spare held t f) (hs : ∀ a, szL (f a) = j.size) : OpensF P enc W spare held off [(off, t)] f := fun n cs hx hle => by
  obtain ⟨x, hx⟩ := hx (off, t) (by simp)
  obtain ⟨a, ha⟩ := h _ _ _ hx
  have := hle (off, t) (by simp)
  rw [ty_cells hj] at ha this
  exact ⟨a, by rw [hs]; exact ha, by rw [hs]; exact this⟩
theorem hL_app {w : World} {A : Own} {σ : Sg} : ∀ {x y : List SV} {c d : List Value}, hL w A x σ c → hL w A y σ d → hL w A (x ++ y) σ (c ++ d)
  | [], y, c, d, hc, hd => by simp only [hL] at hc; subst hc; exact hd
  | s :: r, y, c, d, hc, hd => by
    simp only [hL] at hc
    obtain ⟨a, b, rfl, h1, h2⟩ := hc
    simp only [List.cons_append, hL]
    exact ⟨a, b ++ d, by rw [List.append_assoc], h1, hL_app h2 hd⟩
theorem o_field {off off2 t : Nat} {fl : List (Nat × Nat)} {α β : Type} {f : α → List SV} {g : β → List SV} {j : TI} (hj : ty P t = some j) (h : Opens P enc W spare held t f) (hs : ∀ a, szL (f a) = j.size) (ho : Nat.beq (off + j.size) off2 = true) (hr : OpensF P enc W spare held off2 fl g) :
    OpensF P enc W spare held off ((off, t) :: fl) (fun x : α × β => f x.1 ++ g x.2) := fun n cs hx hle => by
  obtain rfl := Nat.eq_of_beq_eq_true ho
  obtain ⟨x, hx1⟩ := hx (off, t) (by simp)
  obtain ⟨a, ha⟩ := h _ _ _ hx1
  obtain ⟨b, hb, hb2⟩ := hr n cs (fun q hq => hx q (List.mem_cons_of_mem _ hq)) (fun q hq => hle q (List.mem_cons_of_mem _ hq))
  rw [ty_cells hj] at ha
  refine ⟨(a, b), ?_, ?_⟩
  · simp only [szL_append, hs]
    rw [List.take_add, List.drop_drop]
    exact hL_app ha hb
  · simp only [szL_append, hs]; omega
theorem o_struct {t : Nat} {i : TI} {fl : List (Nat × Nat)} {α : Type} {f : α → List SV} (h : ty P t = some i) (hk : i.k = .st fl) (hr : OpensF P enc W spare held 0 fl f) (hs : ∀ a, szL (f a) = i.size) (hfit : fl.all (fun q => match ty P q.2 with | some j => Nat.ble (q.1 + j.size) i.size | none => false) = true) :
    Opens P enc W spare held t f := fun fuel cs x hx => by
  obtain ⟨gs, hu, hm⟩ := ty_struct h hk
  obtain ⟨xs, n, _, _, hlen, hxl, hel⟩ := DataW.trod_struct hu hx
  rw [ty_cells h] at hlen
  have h1 : ∀ q ∈ fl, ∃ x, DataW.trod enc P W 0 spare held n q.2 ((cs.drop q.1).take (P.cellsOf q.2)) = some x := fun q hq => by
    rw [← hm, List.mem_map] at hq
    obtain ⟨g, hg, rfl⟩ := hq
    obtain ⟨k, hk, he⟩ := List.mem_iff_getElem.1 hg
    have hgk : gs[k]? = some g := by rw [← Array.getElem?_toList, List.getElem?_eq_getElem hk, he]
    have hk' : k < xs.length := by rw [hxl]; simpa using hk
    exact ⟨xs[k], by rw [hel k g hgk, List.getElem?_eq_getElem hk']⟩
  have h2 : ∀ q ∈ fl, q.1 + P.cellsOf q.2 ≤ cs.length := fun q hq => by
    have := List.all_eq_true.1 hfit q hq
    split at this
    · rename_i j hj
      rw [ty_cells hj, hlen]; exact Nat.le_of_ble_eq_true this
    · cases this
  obtain ⟨a, ha, hle⟩ := hr n cs h1 h2
  refine ⟨a, ?_⟩
  rw [hs, List.drop_zero, ← hlen, List.take_length] at ha
  exact ha
/-- said otherwise -/
theorem Opens.map {t : Nat} {α β : Type} {f : α → List SV} {g : β → List SV} (h : Opens P enc W spare held t f) (m : α → β) (hm : ∀ a, f a = g (m a)) : Opens P enc W spare held t g := fun fuel cs x hx => by
  obtain ⟨a, ha⟩ := h fuel cs x hx
  exact ⟨m a, by rw [← hm]; exact ha⟩
/-- a law keeps its contract: it hands back true, and nothing that stood is turned -/
theorem law_calls {f : Nat} {c : Ctr} (hc : c.Ok P f) (d : c.D) (hp : c.pre d) (ho : c.objs d = []) (hr : ∀ e, c.post d e → c.res d e = .bool true) (W : World) {vs : List Value} (hv : hvs W none0 sg0 (c.args d) vs) (hg : TabC.gl P = []) :
    Calls P f vs.toArray W (fun e W' => e = .returned (.bool true) ∧ Below W.heap.size W W') := by
  have hA : Later W none0 W (Av none0 sg0 (c.objs d)) := Later.own fun b hb => by rw [ho] at hb; exact hb.elim id id
  refine (hc d hp none0 W sg0 vs (fun _ h => h.elim) (by rw [ho]; exact ⟨fun o ho => (by cases ho), trivial, fun b hb => hb.elim⟩) (hvs.later hA hv) (fun _ _ => rfl) (fun g ps h => by rw [hg] at h; cases h)).mono ?_
  rintro e W' ⟨e', v, σ', rfl, hpost, _, _, hres, hm, _, _⟩
  rw [hr e' hpost] at hres
  simp only [SV.hv, SV.h1, SV.hc, List.cons.injEq, and_true] at hres
  subst hres
  exact ⟨rfl, hm.os, hm.tape, hm.output, hm.size, fun k hk => hm.block k hk (fun h => by have h := h.2; rw [ho] at h; exact h)⟩
end
end Go.Proofs.YtdflndjlnkoliaaGreatDoor

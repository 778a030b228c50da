import Derived.Test.YtdflndjlnkoliaaGreatDoorOpen
import Derived.Test.YtdflndjlnkoliaaGreatDoorRows
import Derived.LaidMore
import Derived.OpenShut
import Derived.Stop.Joined
/- MY OWN ENGINE: laws whose rows list variables. -/
namespace Go.Proofs.YtdflndjlnkoliaaGreatDoor
set_option linter.all false
open Go.RowKit Go.ChangeShapes Go.WideShapes Go.ChangeAt
section
variable {P : Program} [TabC P] {H : Type} {enc : TypeId × Value → H} {W : World} {spare : Nat → Bool} {held : Bool}
theorem ty_bool' {t : Nat} {i : TI} (h : ty P t = some i) (hk : i.k = .bool) : P.underlying t = some .bool := ty_bool h hk
theorem o_bool {t : Nat} {i : TI} (h : ty P t = some i) (hk : i.k = .bool) : Opens P enc W spare held t (fun b : Bool => [.bool b]) := fun fuel cs x hx => by
  obtain ⟨b, rfl, _⟩ := DataW.trod_bool (ty_bool h hk) hx
  exact ⟨b, one_of (by simp only [SV.hc])⟩
/-- the cells of an array of numbers -/
theorem arr_cells {t e n w : Nat} {k : IntKind} {i j : TI} {base : Nat} (h : ty P t = some i) (hk : i.k = .ar n e) (hj : ty P e = some j) (hjk : j.k = .int k) (hj1 : j.size = 1) (hi : i.size = n) (hs : k.signed = false) (hw : k.bits = w) {fuel : Nat} {cs : List Value} {x : DataW H × List MemPlace}
    (hx : DataW.trod enc P W base spare held fuel t cs = some x) : ∃ v : Vector (BitVec w) n, cs = v.toList.map (bV k) ∧ x.1 = .agg (v.toList.map fun b => .lit (.int k (b.toNat : Int))) := by
  subst hw
  obtain ⟨xs, m, _, hx1, hlen, hxl, hel⟩ := DataW.trod_array (ty_array h hk) hx
  rw [ty_cells h, hi] at hlen
  have each : ∀ q (hq : q < n), ∃ b : BitVec k.bits, cs[q]? = some (bV k b) ∧ ∃ y, xs[q]? = some y ∧ y.1 = .lit (.int k (b.toNat : Int)) := fun q hq => by
    have h1 := hel q hq
    rw [ty_cells hj, hj1, Nat.mul_one] at h1
    have hq' : q < xs.length := by omega
    rw [List.getElem?_eq_getElem hq'] at h1
    obtain ⟨z, hz, hz2, hwf⟩ := DataW.trod_int (ty_int hj hjk) h1
    have hr : 0 ≤ z ∧ z < 2 ^ k.bits := by cases k <;> simp [IntKind.signed] at hs <;> simp [Lit.wf, IntKind.min, IntKind.max, IntKind.signed, IntKind.bits] at hwf ⊢ <;> omega
    have hzn : z = ((BitVec.ofInt k.bits z).toNat : Int) := by
      rw [BitVec.toNat_ofInt, Int.toNat_of_nonneg (Int.emod_nonneg _ (by have := Nat.two_pow_pos k.bits; omega)), Int.emod_eq_of_lt hr.1 (by exact_mod_cast hr.2)]
    refine ⟨BitVec.ofInt k.bits z, ?_, xs[q], List.getElem?_eq_getElem hq', ?_⟩
    · have : (cs.drop q).take 1 = [cs[q]'(by omega)] := by
        rw [List.drop_eq_getElem_cons (by omega)]; rfl
      rw [this] at hz
      rw [List.getElem?_eq_getElem (by omega)]
      simp only [List.cons.injEq, and_true] at hz
      rw [hz, bV, ← hzn]
    · rw [hz2, ← hzn]
  have all : ∀ q, q ≤ n → ∃ l : List (BitVec k.bits), l.length = q ∧ ∀ p (hp : p < l.length), cs[p]? = some (bV k l[p]) ∧ ∃ y, xs[p]? = some y ∧ y.1 = .lit (.int k (l[p].toNat : Int)) := by
    intro q
    induction q with
    | zero => intro _; exact ⟨[], rfl, fun p hp => by simp at hp⟩
    | succ q ih =>
      intro hq
      obtain ⟨l, hl, hE⟩ := ih (by omega)
      obtain ⟨b, hb⟩ := each q (by omega)
      refine ⟨l ++ [b], by simp [hl], fun p hp => ?_⟩
      rw [List.getElem_append]
      split
      · exact hE p _
      · rename_i h1
        have : p = q := by simp at hp; omega
        subst this; simpa using hb
  obtain ⟨l, hl, hE⟩ := all n (Nat.le_refl _)
  refine ⟨⟨l.toArray, by simpa using hl⟩, ?_, ?_⟩
  · show cs = l.map (bV k)
    refine List.ext_getElem (by simp; omega) fun p h1 h2 => ?_
    have := (hE p (by simpa using h2)).1
    rw [List.getElem?_eq_getElem h1] at this
    simpa using this
  · rw [hx1]
    show DataW.agg _ = .agg (l.map _)
    congr 1
    refine List.ext_getElem (by simp; omega) fun p h1 h2 => ?_
    obtain ⟨y, hy, hy2⟩ := (hE p (by simpa using h2)).2
    have hp : p < xs.length := by simpa using h1
    rw [List.getElem?_eq_getElem hp] at hy
    simp only [Option.some.injEq] at hy
    simp [hy, hy2]
theorem o_arr8 {t e n : Nat} {i j : TI} (h : ty P t = some i) (hk : i.k = .ar n e) (hj : ty P e = some j) (hjk : j.k = .int .u8) (hj1 : j.size = 1) (hi : i.size = n) : Opens P enc W spare held t (fun v : Vector (BitVec 8) n => [.arr8 v]) := fun fuel cs x hx => by
  obtain ⟨v, rfl, _⟩ := arr_cells (w := 8) h hk hj hjk hj1 hi rfl rfl hx
  exact ⟨v, v.toList.map (bV .u8), [], (List.append_nil _).symm, by simp only [SV.hc], rfl⟩
theorem arg_agg {t base : Nat} {i : TI} {α : Type} {f : α → List SV} (ht : ty P t = some i) (hrow : i.row = true) (ho : Opens P enc W spare held t f) {v : Value} {d : DataW H} {p : List MemPlace} (hv : Value.okWide P W .any base t v) (h : DataW.Trod enc P W 0 spare held t v d p) : ∃ a, (SV.agg (f a)).h1 W none0 sg0 v := by
  obtain ⟨fuel, hT⟩ := h
  obtain ⟨a, ha⟩ := ho _ _ _ hT
  obtain ⟨dd, hd, hr⟩ := ty_row ht
  rw [hrow] at hr
  have : ∃ cs : Array Value, v = .agg cs := by
    cases dd <;> simp at hr
    all_goals (simp only [Value.okWide, hd] at hv; obtain ⟨cs, h1, _⟩ := hv; exact ⟨cs, h1⟩)
  obtain ⟨cs, rfl⟩ := this
  exact ⟨a, cs.toList, by simp, ha⟩
theorem arg_i64 {t base : Nat} {i : TI} (ht : ty P t = some i) (hk : i.k = .int .i64) {v : Value} {d : DataW H} {p : List MemPlace} (hv : Value.okWide P W .any base t v) (h : DataW.Trod enc P W 0 spare held t v d p) : ∃ n : Int, (SV.int .i64 n).h1 W none0 sg0 v := by
  obtain ⟨fuel, hT⟩ := h
  obtain ⟨n, hn⟩ := o_i64 ht hk _ _ _ hT
  obtain ⟨m, rfl⟩ := okWide_int (ty_int ht hk) hv
  refine ⟨n, ?_⟩
  simp only [hL, List.append_nil] at hn
  obtain ⟨a, b, h1, h2, rfl⟩ := hn
  rw [List.append_nil] at h1
  have : a = [Value.int .i64 m] := by rw [← h1]; rfl
  rw [this] at h2; exact h2
theorem arg_slice {t e base z : Nat} {i : TI} {α : Type} {f : α → List SV} (ht : ty P t = some i) (hk : i.k = .sl e) (ho : Opens P enc W spare held t (fun l : List α => [.fs z f l])) {v : Value} {d : DataW H} {p : List MemPlace} (hv : Value.okWide P W .any base t v) (h : DataW.Trod enc P W 0 spare held t v d p) : ∃ l : List α, (SV.fs z f l).h1 W none0 sg0 v := by
  obtain ⟨fuel, hT⟩ := h
  obtain ⟨l, hl⟩ := ho _ _ _ hT
  have hone : v.cells.toList = [v] := by
    have hv' := hv
    simp only [Value.okWide, ty_slice ht hk, Cell.okWide] at hv'
    cases v <;> first | rfl | (simp [Cell.ok, ty_slice ht hk] at hv')
  refine ⟨l, ?_⟩
  simp only [hL] at hl
  obtain ⟨a, b, h1, h2, rfl⟩ := hl
  rw [List.append_nil, hone] at h1
  subst h1; exact h2
/-- a law keeps its contract: it hands back true, and nothing that stood is turned -/
theorem law_callsG {f : Nat} {c : Ctr} (hc : c.Ok P f) (d : c.D) (hp : c.pre d) (ho : c.objs d = []) (hr : ∀ e, c.post d e → c.res d e = .bool true) (W : World) {vs : List Value} (hv : hvs W none0 sg0 (c.args d) vs) (hg : Glob P W none0) :
    Calls P f vs.toArray W (fun e W' => e = .returned (.bool true) ∧ Below W.heap.size W W') := by
  have hA : Later W none0 W (Av none0 sg0 (c.objs d)) := Later.own fun b hb => by rw [ho] at hb; exact hb.elim id id
  refine (hc d hp none0 W sg0 vs (fun _ h => h.elim) (by rw [ho]; exact ⟨fun o ho => (by cases ho), trivial, fun b hb => hb.elim⟩) (hvs.later hA hv) (fun _ _ => rfl) (hg.later hA)).mono ?_
  rintro e W' ⟨e', v, σ', rfl, hpost, _, _, hres, hm, _, _⟩
  rw [hr e' hpost] at hres
  simp only [SV.hv, SV.h1, SV.hc, List.cons.injEq, and_true] at hres
  subst hres
  exact ⟨rfl, hm.os, hm.tape, hm.output, hm.size, fun k hk => hm.block k hk (fun h => by have h := h.2; rw [ho] at h; exact h)⟩
/-- a listed variable, as the engine has it -/
theorem glob_arr32 {n : String} {g t e m f : Nat} {i j : TI} {cs : Array Value} {p : List MemPlace} {v : Vector (BitVec 32) m} (hg : P.globalNamed n = some g) (hv : W.var? P n = some cs) (ht : ty P t = some i) (hk : i.k = .ar m e) (hj : ty P e = some j) (hjk : j.k = .int .u32) (hj1 : j.size = 1) (hi : i.size = m)
    (hd : DataW.trod enc P W 0 spare held f t cs.toList = some (.agg (v.toList.map fun b => .lit (.int .u32 (b.toNat : Int))), p)) : (SV.fpt [.arr32 v]).hc W none0 sg0 [.pointer (some ⟨g, 0, none⟩)] := by
  obtain ⟨u, hcs, hx⟩ := arr_cells (w := 32) ht hk hj hjk hj1 hi rfl rfl hd
  have huv : u = v := by
    have hx' : v.toList.map (fun b => (DataW.lit (.int .u32 (b.toNat : Int)) : DataW H)) = u.toList.map fun b => .lit (.int .u32 (b.toNat : Int)) := by simpa using hx
    have : v.toList = u.toList := by
      have inj : ∀ {l k : List (BitVec 32)}, l.map (fun b => (DataW.lit (.int .u32 (b.toNat : Int)) : DataW H)) = k.map (fun b => .lit (.int .u32 (b.toNat : Int))) → l = k := by
        intro l
        induction l with
        | nil => intro k h; cases k with
          | nil => rfl
          | cons _ _ => cases h
        | cons a r ih => intro k h; cases k with
          | nil => cases h
          | cons b s =>
            simp only [List.map_cons, List.cons.injEq, DataW.lit.injEq, Lit.int.injEq, true_and, Int.natCast_inj] at h
            rw [BitVec.eq_of_toNat_eq h.1, ih h.2]
      exact inj hx'
    exact (Vector.toList_inj.1 this).symm
  subst huv
  simp only [World.var?, hg, Option.bind_some] at hv
  simp only [SV.hc]
  split at hv
  · rename_i C T fr hh
    have e := Option.some.inj hv
    refine ⟨g, 0, rfl, fun h => h, C, T, fr, hh, ?_⟩
    rw [List.drop_zero, e, hcs]
    refine ⟨u.toList.map (bV .u32), [], ?_, by simp only [SV.hc], rfl⟩
    rw [List.append_nil, List.take_of_length_le (by simp [szL, SV.sz])]
  · cases hv
end
end Go.Proofs.YtdflndjlnkoliaaGreatDoor

import Derived.Test.YtdflndjlnkoliaaGreatDoorMem
/- MY OWN ENGINE: addresses, parts of values, slices of slices. -/
namespace Go.Proofs.YtdflndjlnkoliaaGreatDoor
set_option linter.all false
open Go.RowKit
section
variable {P : Program} [TabC P] {S : Sig} {σ : Sg} {env : Env} {objs : List Ob} {nx : Nat} {o : Oper} {a : Act} {w : World} {x y : Operand} {K : SV → Prop}
theorem addr_add (b off k : Nat) : (⟨b, off, none⟩ : Addr).add k = ⟨b, off + k, none⟩ := by unfold Addr.add; split <;> simp_all
/-! ## fields -/
variable (P) in
def evFld (T f : Nat) (K : Nat → TI → Prop) : Prop := match ty P T with
  | some ⟨.st fl, _, _⟩ => match nth fl f with
    | some (fo, ft) => match ty P ft with
      | some j => K fo j
      | none => False
    | none => False
  | _ => False
theorem evFld_spec {T f : Nat} {K : Nat → TI → Prop} (h : evFld P T f K) : ∃ i fl fo ft j, ty P T = some i ∧ i.k = .st fl ∧ nth fl f = some (fo, ft) ∧ ty P ft = some j ∧ K fo j := by
  unfold evFld at h
  split at h
  · rename_i fl s b hT
    split at h
    · rename_i fo ft hf
      split at h
      · rename_i j hj; exact ⟨_, fl, fo, ft, j, hT, rfl, hf, hj, h⟩
      · exact h.elim
    · exact h.elim
  · exact h.elim
variable (P) in
def evFieldAddr (T f : Nat) (s : SV) (K : SV → Prop) : Prop := evFld P T f fun fo j => match Nat.beq j.size 0 with
  | true => False
  | false => match s with
    | .ptr k off => K (.ptr k (off + fo))
    | .rptr k q z off => K (.rptr k q z (off + fo))
    | .fpt ps => match partP ps fo j.size with
      | some (_, m, _) => K (.fpt m)
      | none => False
    | _ => False
theorem fpt_part {A : Own} {ps pa m z : List SV} {off size : Nat} (hp : partP ps off size = some (pa, m, z)) {b p : Nat} (h : (SV.fpt ps).hc w A sg0 [.pointer (some ⟨b, p, none⟩)]) : (SV.fpt m).hc w A sg0 [.pointer (some ⟨b, p + off, none⟩)] := by
  simp only [SV.hc] at h ⊢
  obtain ⟨b', p', h0, hA, C, T, fr, hg, ht⟩ := h
  simp only [List.cons.injEq, Value.pointer.injEq, Option.some.injEq, Addr.mk.injEq, and_true] at h0
  obtain ⟨rfl, rfl⟩ := h0
  obtain ⟨h1, h2, h3, _⟩ := ht.part hp
  refine ⟨b, p + off, rfl, hA, C, T, fr, hg, ?_⟩
  rw [take_drop_part h3] at h1
  rw [h2]; exact h1
theorem evFieldAddr_sound {T f : Nat} {s : SV} (ho : o.op = .fieldAddr T x f) (hx : evx P env x = some s) (h : evFieldAddr P T f s K) : PureK P S env objs nx o K := by
  obtain ⟨i, fl, fo, ft, j, hT, hk, hf, hj, h⟩ := evFld_spec h
  split at h
  · exact h.elim
  · rename_i hz
    split at h
    · refine PureK.mk h fun σ a w hst => ?_
      obtain ⟨b, c, h1, h2⟩ := ptr_ev hx hst
      exact ⟨_, ⟨b, c, h1, rfl⟩, by rw [← Nat.add_assoc]; exact rn_fieldAddr ho h2 hT hk hf hj hz⟩
    · refine PureK.mk h fun σ a w hst => ?_
      obtain ⟨g, l, c, h1, h2⟩ := rptr_ev hx hst
      exact ⟨_, ⟨g, l, c, h1, rfl⟩, by rw [← Nat.add_assoc]; exact rn_fieldAddr ho h2 hT hk hf hj hz⟩
    · rename_i ps
      split at h
      · rename_i pa m z hp
        refine PureK.mk h fun σ a w hst => ?_
        have hh := hst.ev hx
        simp only [SV.hv, SV.h1] at hh
        obtain ⟨b, off, h2, _⟩ := fpt_ev hx hst
        rw [h2] at hh
        exact ⟨_, fpt_part hp hh, rn_fieldAddr ho h2 hT hk hf hj hz⟩
      · exact h.elim
    · exact h.elim
theorem run_part {ps pa m z : List SV} {off : Nat} {t : TypeId} {j : TI} {cs : List Value} {A : Own} {σ : Sg} (hj : ty P t = some j) (h1 : rowB j = true) (hp : partP ps off j.size = some (pa, m, z)) (hc : hL w A ps σ cs) (w' : World) :
    (part t cs.toArray off).run P w' = .ok (vOf j.row ((cs.drop off).take j.size)) w' := by
  obtain ⟨e1, e2, e3, e4⟩ := hc.part hp
  have e5 := e1.len
  simp only [part, Sem.run_bind, run_isAgg' hj, Result.andThen_ok]
  cases hr : j.row with
  | true =>
    simp only [if_true, Sem.run_bind, run_sizeOf' hj, Result.andThen_ok, Sem.run_pure, vOf]
    congr 2
    apply Array.ext'
    simp only [Array.toList_extract, List.extract_eq_drop_take]
    rw [Nat.add_sub_cancel_left]
  | false =>
    have := rowB_spec h1
    rw [hr, Bool.false_or] at this
    have h1' := Nat.eq_of_beq_eq_true this
    have hlt : off < cs.length := by omega
    have : (cs.drop off).take j.size = [cs[off]] := by
      rw [h1', List.drop_eq_getElem_cons hlt]; rfl
    simp [this, vOf, hlt]
theorem run_partL {off : Nat} {t : TypeId} {j : TI} {cs : List Value} (hj : ty P t = some j) (h1 : rowB j = true) (hl : off + j.size ≤ cs.length) (w' : World) :
    (part t cs.toArray off).run P w' = .ok (vOf j.row ((cs.drop off).take j.size)) w' := by
  simp only [part, Sem.run_bind, run_isAgg' hj, Result.andThen_ok]
  cases hr : j.row with
  | true =>
    simp only [if_true, Sem.run_bind, run_sizeOf' hj, Result.andThen_ok, Sem.run_pure, vOf]
    congr 2
    apply Array.ext'
    simp only [Array.toList_extract, List.extract_eq_drop_take]
    rw [Nat.add_sub_cancel_left]
  | false =>
    have := rowB_spec h1
    rw [hr, Bool.false_or] at this
    have h1' := Nat.eq_of_beq_eq_true this
    have hlt : off < cs.length := by omega
    have : (cs.drop off).take j.size = [cs[off]] := by
      rw [h1', List.drop_eq_getElem_cons hlt]; rfl
    simp [this, vOf, hlt]
variable (P) in
def evField (T f : Nat) (s : SV) (K : SV → Prop) : Prop := evFld P T f fun fo j => match rowB j with
  | true => match s with
    | .agg ps => ldParts j ps fo K
    | _ => False
  | false => False
theorem evField_sound {T f : Nat} {s : SV} (ho : o.op = .field T x f) (hx : evx P env x = some s) (h : evField P T f s K) : PureK P S env objs nx o K := by
  obtain ⟨i, fl, fo, ft, j, hT, hk, hf, hj, h⟩ := evFld_spec h
  split at h
  · rename_i hrow
    split at h
    · rename_i ps
      unfold ldParts at h
      split at h
      · rename_i pa m z hp
        obtain ⟨s, hK, hs⟩ := svK_sound h (by rw [(partP_spec hp).2.2]; exact rowB_spec hrow)
        refine PureK.mk hK fun σ a w hst => ?_
        have hh := hst.ev hx
        obtain ⟨cs, h1, h2⟩ := hh
        obtain ⟨gs, hu, hm⟩ := ty_struct hT hk
        rw [nth_eq, ← hm, List.getElem?_map] at hf
        cases hg : gs.toList[f]? with
        | none => simp [hg] at hf
        | some g =>
          simp only [hg, Option.map_some, Option.some.injEq, Prod.mk.injEq] at hf
          obtain ⟨rfl, rfl⟩ := hf
          have hg' : gs[f]? = some g := by simpa using hg
          refine ⟨_, hs (h2.part hp).1, fun w' => ?_⟩
          simp only [execOp, ho, h1, Instr.field, Sem.run_bind, run_underlying hu, Result.andThen_ok, hg', asAgg, Sem.run_pure, run_part hj hrow hp h2 w']
      · exact h.elim
    · exact h.elim
  · exact h.elim
/-! ## indexes -/
def ixI : SV → Option Int
  | .int _ n => some n
  | .u8 x => some (x.toNat : Int)
  | .u16 x => some (x.toNat : Int)
  | .u32 x => some (x.toNat : Int)
  | .u64 x => some (x.toNat : Int)
  | _ => none
theorem ixI_spec {s : SV} {m : Int} (h : ixI s = some m) (hx : evx P env x = some s) {σ a w} (hst : St P S σ env objs nx a w) : ∃ k, a.eval x = .int k m := by
  have hh := hst.ev hx
  cases s <;> simp only [ixI, reduceCtorEq, Option.some.injEq] at h <;> subst h
  · exact ⟨_, (hvI.1 hh).1⟩
  · exact ⟨_, hv8.1 hh⟩
  · exact ⟨_, hv16.1 hh⟩
  · exact ⟨_, hv32.1 hh⟩
  · exact ⟨_, hv64.1 hh⟩
/-- an index that is a number written out -/
def litN : Int → Option Nat
  | .ofNat n => some n
  | _ => none
theorem litN_spec {m : Int} {n : Nat} (h : litN m = some n) : m = n := by unfold litN at h; split at h <;> simp at h; subst h; rfl
def isCh : TK → Bool
  | .int .u8 => true
  | .int .u32 => true
  | _ => false
def idxArr (n : Nat) (j : TI) (s : SV) (m : Int) (K : SV → Prop) : Prop := match s with
  | .ptr k off => match Nat.beq j.size 1, isCh j.k with
    | true, true => Side (0 ≤ m ∧ m < n) (K (.cptr k off m.toNat))
    | _, _ => match litN m with
      | some q => match Nat.blt q n with
        | true => K (.ptr k (off + q * j.size))
        | false => False
      | none => False
  | .fpt [.arr8 (n := n') v] => match Nat.beq j.size 1, Nat.ble n' n with
    | true, true => Idx (0 ≤ m ∧ m.toNat < n') fun h => K (.fpt [.u8 (v[m.toNat]'h.2)])
    | _, _ => False
  | .fpt [.arr32 (n := n') v] => match Nat.beq j.size 1, Nat.ble n' n with
    | true, true => Idx (0 ≤ m ∧ m.toNat < n') fun h => K (.fpt [.u32 (v[m.toNat]'h.2)])
    | _, _ => False
  | .fpt [.arrG z enc xs] => match Nat.beq z j.size with
    | true => Idx (0 ≤ m ∧ m.toNat < xs.length ∧ m < n) fun h => frcL (enc (xs[m.toNat]'h.2.1)) fun ps => Side (szL ps = z) (K (.fpt ps))
    | false => False
  | .fpt ps => match litN m with
    | some q => match Nat.blt q n, partP ps (q * j.size) j.size with
      | true, some (_, r, _) => K (.fpt r)
      | _, _ => False
    | none => False
  | _ => False
def idxSl (objs : List Ob) (j : TI) (s : SV) (m : Int) (K : SV → Prop) : Prop := match s with
  | .own k => match lk objs k with
    | some (.row _ z enc xs) => match Nat.beq z j.size with
      | true => Side (0 ≤ m ∧ m < xs.length) (K (.rptr k m.toNat z 0))
      | false => False
    | some (.frow z enc xs) => match Nat.beq z j.size with
      | true => Idx (0 ≤ m ∧ m.toNat < xs.length) fun h => frcL (enc (xs[m.toNat]'h.2)) fun ps => K (.fpt ps)
      | false => False
    | some (.lits _ z els) => match Nat.beq z j.size, litN m with
      | true, some q => match Nat.blt q els.length with
        | true => K (.rptr k q z 0)
        | false => False
      | _, _ => False
    | _ => False
  | .fs z enc xs => match Nat.beq z j.size with
    | true => Idx (0 ≤ m ∧ m.toNat < xs.length) fun h => frcL (enc (xs[m.toNat]'h.2)) fun ps => K (.fpt ps)
    | false => False
  | .bsl k off lo hi => match Nat.beq j.size 1 with
    | true => Side (0 ≤ m ∧ m < hi - lo) (K (.cptr k off (lo + m.toNat)))
    | false => False
  | _ => False
variable (P) in
def evIndexAddr (objs : List Ob) (T : Nat) (s : SV) (ix : SV) (K : SV → Prop) : Prop := match ixI ix with
  | some m => match ty P T with
    | some ⟨.ar n e, _, _⟩ => match ty P e with
      | some j => idxArr n j s m K
      | none => False
    | some ⟨.sl e, _, _⟩ => match ty P e with
      | some j => idxSl objs j s m K
      | none => False
    | _ => False
  | none => False
/-- an element of a slice that nobody writes -/
theorem fs_index {z : Nat} {α : Type} {enc : α → List SV} {xs : List α} {T et : Nat} {ix : Operand} {m : Int} {i j : TI} (ho : o.op = .indexAddr T x ix) (hi : ∀ {σ a w}, St P S σ env objs nx a w → ∃ k, a.eval ix = .int k m)
    (hx : ∀ {σ a w}, St P S σ env objs nx a w → ∃ v, a.eval x = v ∧ (SV.fs z enc xs).hc w (S.A σ objs) sg0 [v]) (ht : ty P T = some i) (hk : i.k = .sl et) (hj : ty P et = some j) (hz : Nat.beq z j.size = true) (hq : 0 ≤ m ∧ m.toNat < xs.length) (h : K (.fpt (enc (xs[m.toNat]'hq.2)))) : PureK P S env objs nx o K := by
  refine PureK.mk h fun σ a w hst => ?_
  obtain ⟨k, hi⟩ := hi hst
  obtain ⟨v, h0, hc⟩ := hx hst
  simp only [SV.hc, List.cons.injEq, and_true] at hc
  obtain ⟨ad, c, rfl, h1, h2, h3, h4, h5⟩ := hc
  have hz' := Nat.eq_of_beq_eq_true hz
  cases ad with
  | none => rw [(h3 rfl).1] at hq; exact absurd hq.2 (by simp)
  | some ad =>
    have hcase := h5 ad rfl
    obtain ⟨b, p, sp⟩ := ad
    rcases hcase with rfl | ⟨hsp, hA, C, T', fr, hg, he⟩
    · exact absurd hq.2 (by simp)
    · simp only at hsp; subst hsp
      refine ⟨.pointer (some ⟨b, p + m.toNat * z, none⟩), ?_, fun w' => ?_⟩
      · simp only [SV.hv, SV.h1, SV.hc]
        refine ⟨b, p + m.toNat * z, rfl, hA, C, T', fr, hg, ?_⟩
        have := he m.toNat hq.2
        rwa [h4 m.toNat hq.2]
      · have hm : m < xs.length := by omega
        simp [execOp, ho, h0, hi, Instr.indexAt, asIntOf, run_underlying (ty_slice ht hk), run_sizeOf' hj, addr_add, ← hz', hq.1, hm]
theorem fs_ev {z : Nat} {α : Type} {enc : α → List SV} {xs : List α} (hx : evx P env x = some (.fs z enc xs)) {σ a w} (hst : St P S σ env objs nx a w) : ∃ v, a.eval x = v ∧ (SV.fs z enc xs).hc w (S.A σ objs) sg0 [v] := ⟨_, rfl, hst.ev hx⟩
theorem own_ev {k : Nat} (hx : evx P env x = some (.own k)) {σ a w} (hst : St P S σ env objs nx a w) : σ k = some (a.eval x) := by
  have := hst.ev hx
  simp only [SV.hv, SV.h1, SV.hc, List.cons.injEq, and_true] at this
  obtain ⟨v, h1, _, h2⟩ := this
  rw [h2]; exact h1
theorem frow_ev {k z : Nat} {α : Type} {enc : α → List SV} {xs : List α} (hx : evx P env x = some (.own k)) (hk : lk objs k = some (.frow z enc xs)) {σ a w} (hst : St P S σ env objs nx a w) : ∃ v, a.eval x = v ∧ (SV.fs z enc xs).hc w (S.A σ objs) sg0 [v] := by
  obtain ⟨v, h1, h2⟩ := lk_holds hst hk
  rw [own_ev hx hst] at h1; cases h1
  exact ⟨_, rfl, h2⟩
/-- an element of a row of one's own -/
theorem row_index {k z q et e : Nat} {T : Nat} {ix : Operand} {m : Int} {i j : TI} {els : List (List SV)} (ho : o.op = .indexAddr T x ix) (hi : ∀ {σ a w}, St P S σ env objs nx a w → ∃ k, a.eval ix = .int k m) (hx : evx P env x = some (.own k))
    (hr : ∀ {σ a w}, St P S σ env objs nx a w → rowH w (S.A σ objs) σ k e z els) (ht : ty P T = some i) (hk : i.k = .sl et) (hj : ty P et = some j) (hz : Nat.beq z j.size = true) (hq : m = (q : Int)) (hq2 : q < els.length) (h : K (.rptr k q z 0)) : PureK P S env objs nx o K := by
  refine PureK.mk h fun σ a w hst => ?_
  obtain ⟨k', hi⟩ := hi hst
  obtain ⟨g, cap, cur, f1, f2, f3, f4, f5, f6, f7⟩ := (hr hst).form hq2
  have hz' := Nat.eq_of_beq_eq_true hz
  subst hq
  refine ⟨.pointer (some ⟨g, q * z + 0, none⟩), ⟨g, _, cap, f1, rfl⟩, fun w' => ?_⟩
  have h0' : a.eval x = .slice (some ⟨g, 0, none⟩) els.length cap := by
    have := own_ev hx hst
    rw [f1] at this; exact (Option.some.inj this).symm
  simp [execOp, ho, h0', hi, Instr.indexAt, asIntOf, run_underlying (ty_slice ht hk), run_sizeOf' hj, addr_add, ← hz', hq2]
theorem evIndexAddr_sound {T : Nat} {s ix : SV} {ixo : Operand} (ho : o.op = .indexAddr T x ixo) (hx : evx P env x = some s) (hix : evx P env ixo = some ix) (h : evIndexAddr P objs T s ix K) : PureK P S env objs nx o K := by
  unfold evIndexAddr at h
  split at h
  · rename_i m hm
    have hi : ∀ {σ a w}, St P S σ env objs nx a w → ∃ k, a.eval ixo = .int k m := fun hst => ixI_spec hm hix hst
    split at h
    · rename_i n e s1 b1 hT
      split at h
      · rename_i j hj
        have arr : ∀ {q : Nat} {k off : Nat}, m = (q : Int) → q < n → evx P env x = some (.ptr k off) → K (.ptr k (off + q * j.size)) → PureK P S env objs nx o K := by
          intro q k off hmq hq hx hK
          refine PureK.mk hK fun σ a w hst => ?_
          obtain ⟨b, c, h1, h2⟩ := ptr_ev hx hst
          obtain ⟨k', hi⟩ := hi hst
          subst hmq
          exact ⟨_, ⟨b, c, h1, rfl⟩, by have := rn_indexAddr (P := P) ho h2 hi hT rfl hj (by omega) (by omega); simpa [Nat.add_assoc] using this⟩
        have arrC : ∀ {k off : Nat}, 0 ≤ m ∧ m < n → evx P env x = some (.ptr k off) → (∃ kk, j.k = .int kk) → j.size = 1 → K (.cptr k off m.toNat) → PureK P S env objs nx o K := by
          intro k off hm2 hx _ hz hK
          refine PureK.mk hK fun σ a w hst => ?_
          obtain ⟨b, c, h1, h2⟩ := ptr_ev hx hst
          obtain ⟨k', hi⟩ := hi hst
          exact ⟨_, ⟨b, c, h1, rfl⟩, by have := rn_indexAddr (P := P) ho h2 hi hT rfl hj hm2.1 hm2.2; simpa [hz] using this⟩
        have chunk : ∀ {u r : SV} {f : Nat → Value} {n' : Nat}, 0 ≤ m ∧ m.toNat < n' → n' ≤ n → j.size = 1 → evx P env x = some (.fpt [u]) → u.sz = n' → r.sz = 1 → (∀ {w A σ cs}, u.hc w A σ cs → ∀ i, i < n' → cs[i]? = some (f i)) → (∀ {w A σ}, r.hc w A σ [f m.toNat]) → K (.fpt [r]) → PureK P S env objs nx o K := by
          intro u r f n' hm2 hnn hz1 hx hsz hrsz hf hr hK
          refine PureK.mk hK fun σ a w hst => ?_
          obtain ⟨b, off, h2, hA, C, t, fr, hg, hc⟩ := fpt_ev hx hst
          obtain ⟨k', hi⟩ := hi hst
          refine ⟨.pointer (some ⟨b, off + m.toNat, none⟩), ?_, ?_⟩
          · simp only [SV.hv, SV.h1, SV.hc]
            refine ⟨b, _, rfl, hA, C, t, fr, hg, ?_⟩
            rw [hL.single] at hc
            have hcl := hc.len
            have hcm := hf hc m.toNat hm2.2
            have : (C.toList.drop (off + m.toNat)).take (szL [r]) = [f m.toNat] := by
              simp only [szL, hrsz, Nat.add_zero]
              apply List.ext_getElem?
              intro i
              rw [List.getElem?_take]
              split
              · have : i = 0 := by omega
                subst this
                rw [List.getElem?_drop]
                rw [List.getElem?_take] at hcm
                split at hcm
                · rw [List.getElem?_drop] at hcm; simpa using hcm
                · cases hcm
              · rw [List.getElem?_eq_none (by simp; omega)]
            rw [this, hL.single]
            exact hr
          · have := rn_indexAddr (P := P) ho h2 hi hT rfl hj hm2.1 (by omega); simpa [hz1] using this
        have fp : ∀ {ps r pa z : List SV} {q : Nat}, m = (q : Int) → evx P env x = some (.fpt ps) → partP ps (q * j.size) j.size = some (pa, r, z) → q < n → K (.fpt r) → PureK P S env objs nx o K := by
          intro ps r pa z q hmq hx hp hq hK
          refine PureK.mk hK fun σ a w hst => ?_
          have hh := hst.ev hx
          simp only [SV.hv, SV.h1] at hh
          obtain ⟨b, off, h2, _⟩ := fpt_ev hx hst
          rw [h2] at hh
          obtain ⟨k', hi⟩ := hi hst
          subst hmq
          exact ⟨_, fpt_part hp hh, by have := rn_indexAddr (P := P) ho h2 hi hT rfl hj (by omega) (by omega); simpa using this⟩
        unfold idxArr at h
        split at h
        · split at h
          · rename_i hz hch
            exact arrC h.h hx (by cases hk : j.k <;> simp [isCh, hk] at hch; exact ⟨_, rfl⟩) (Nat.eq_of_beq_eq_true hz) h.k
          · split at h
            · rename_i q hq
              split at h
              · rename_i hlt
                exact arr (litN_spec hq) (by simpa [Nat.blt_eq] using hlt) hx h
              · exact h.elim
            · exact h.elim
        · rename_i n' v
          split at h
          · rename_i hz hle
            obtain ⟨hq, h⟩ := h
            exact chunk (f := fun i => if h : i < n' then bV .u8 v[i] else undef) hq (Nat.le_of_ble_eq_true hle) (Nat.eq_of_beq_eq_true hz) hx rfl rfl (fun hc i hi => by have hi : i < n' := hi; simp only [SV.hc] at hc; subst hc; simp [hi]) (by simp [SV.hc, hq.2]) h
          · exact h.elim
        · rename_i n' v
          split at h
          · rename_i hz hle
            obtain ⟨hq, h⟩ := h
            exact chunk (f := fun i => if h : i < n' then bV .u32 v[i] else undef) hq (Nat.le_of_ble_eq_true hle) (Nat.eq_of_beq_eq_true hz) hx rfl rfl (fun hc i hi => by have hi : i < n' := hi; simp only [SV.hc] at hc; subst hc; simp [hi]) (by simp [SV.hc, hq.2]) h
          · exact h.elim
        · rename_i z α enc xs
          split at h
          · rename_i hz
            obtain ⟨hq, h⟩ := h
            have h := frcL_k (K := fun ps => Side (szL ps = z) (K (.fpt ps))) h
            refine PureK.mk h.k fun σ a w hst => ?_
            obtain ⟨b, off, h2, hA, C, t, fr, hg, hc⟩ := fpt_ev hx hst
            obtain ⟨k', hi⟩ := hi hst
            have hz' := Nat.eq_of_beq_eq_true hz
            refine ⟨.pointer (some ⟨b, off + m.toNat * z, none⟩), ?_, ?_⟩
            · simp only [SV.hv, SV.h1, SV.hc]
              refine ⟨b, _, rfl, hA, C, t, fr, hg, ?_⟩
              rw [hL.single] at hc
              simp only [SV.hc] at hc
              have hcc := hc.2 m.toNat hq.2.1
              rw [h.h]
              have hmul : (m.toNat + 1) * z ≤ xs.length * z := Nat.mul_le_mul_right _ hq.2.1
              rw [Nat.add_mul, Nat.one_mul] at hmul
              rwa [take_drop_part (by simp only [szL, SV.sz, Nat.add_zero]; omega)] at hcc
            · have := rn_indexAddr (P := P) ho h2 hi hT rfl hj hq.1 hq.2.2; simpa [hz'] using this
          · exact h.elim
        · split at h
          · rename_i q hq
            split at h
            · rename_i hlt hp
              exact fp (litN_spec hq) hx hp (by simpa [Nat.blt_eq] using hlt) h
            · exact h.elim
          · exact h.elim
        · exact h.elim
      · exact h.elim
    · rename_i e s1 b1 hT
      split at h
      · rename_i j hj
        unfold idxSl at h
        split at h
        · split at h
          · rename_i k e z α enc xs hk
            split at h
            · rename_i hz
              exact row_index ho hi hx (fun hst => lk_holds hst hk) hT rfl hj hz (Int.toNat_of_nonneg h.h.1).symm (by have := h.h; simp; omega) h.k
            · exact h.elim
          · rename_i k z α enc xs hk
            split at h
            · rename_i hz
              obtain ⟨hq, h⟩ := h
              exact fs_index ho hi (fun hst => frow_ev hx hk hst) hT rfl hj hz hq (frcL_k (K := fun ps => K (.fpt ps)) h)
            · exact h.elim
          · rename_i k e z els hk
            split at h
            · rename_i q hz hq
              split at h
              · rename_i hlt
                exact row_index ho hi hx (fun hst => lk_holds hst hk) hT rfl hj hz (litN_spec hq) (by simpa [Nat.blt_eq] using hlt) h
              · exact h.elim
            · exact h.elim
          · exact h.elim
        · split at h
          · rename_i hz
            obtain ⟨hq, h⟩ := h
            exact fs_index ho hi (fun hst => fs_ev hx hst) hT rfl hj hz hq (frcL_k (K := fun ps => K (.fpt ps)) h)
          · exact h.elim
        · rename_i k off lo hi'
          split at h
          · rename_i hz
            refine PureK.mk h.k fun σ a w hst => ?_
            have hh := hst.ev hx
            simp only [SV.hv, SV.h1, SV.hc, List.cons.injEq, and_true] at hh
            obtain ⟨b, c, p, cap, h1, h2, h3, h4, h5, h6⟩ := hh
            obtain ⟨k', hi⟩ := hi hst
            have hb := h.h
            have hp := h6 (by omega)
            have hm1 : m < ((hi' - lo : Nat) : Int) := by omega
            refine ⟨.pointer (some ⟨b, c + off + (lo + m.toNat), none⟩), ⟨b, c, h1, rfl⟩, fun w' => ?_⟩
            have hz' := Nat.eq_of_beq_eq_true hz
            simp [execOp, ho, h2, hi, Instr.indexAt, asIntOf, run_underlying (ty_slice hT rfl), run_sizeOf' hj, addr_add, hz', hb.1, hm1, hp, Nat.add_assoc]
          · exact h.elim
        · exact h.elim
      · exact h.elim
    · exact h.elim
  · exact h.elim
end
end Go.Proofs.YtdflndjlnkoliaaGreatDoor

import Derived.Test.YtdflndjlnkoliaaGreatDoorPlain
/- MY OWN ENGINE: slices of what is there. -/
namespace Go.Proofs.YtdflndjlnkoliaaGreatDoor
set_option linter.all false
open Go.RowKit
section
variable {P : Program} [TabC P] {S : Sig} {σ : Sg} {env : Env} {objs : List Ob} {nx : Nat} {o : Oper} {a : Act} {w : World} {x y : Operand} {K : SV → Prop}
def cutL {α : Type} (xs : List α) : Option Int → Option Int → List α
  | none, none => xs
  | some a, none => xs.drop a.toNat
  | none, some b => xs.take b.toNat
  | some a, some b => (xs.take b.toNat).drop a.toNat
def loI : Option Int → Int
  | none => 0
  | some a => a
def hiI (n : Nat) : Option Int → Int
  | none => n
  | some b => b
theorem cutL_eq {α : Type} (xs : List α) (l h : Option Int) : cutL xs l h = (xs.take (hiI xs.length h).toNat).drop (loI l).toNat := by
  cases l <;> cases h <;> simp [cutL, loI, hiI]
/-- the bounds as they are told -/
def cutS (n : Nat) (l h m : Option Int) : Prop := match m with
  | none => match l, h with
    | none, none => True
    | some a, none => 0 ≤ a ∧ a ≤ n
    | none, some b => 0 ≤ b ∧ b ≤ n
    | some a, some b => 0 ≤ a ∧ a ≤ b ∧ b ≤ n
  | some c => 0 ≤ loI l ∧ loI l ≤ hiI n h ∧ hiI n h ≤ c ∧ c ≤ n
theorem cutS_spec {n : Nat} {l h m : Option Int} (hc : cutS n l h m) : 0 ≤ loI l ∧ loI l ≤ hiI n h ∧ hiI n h ≤ n ∧ ∀ c, m = some c → hiI n h ≤ c ∧ c ≤ n := by
  cases m with
  | none => cases l <;> cases h <;> simp only [cutS, loI, hiI] at hc ⊢ <;> refine ⟨by omega, by omega, by omega, fun c h => by cases h⟩
  | some c =>
    simp only [cutS] at hc
    refine ⟨hc.1, hc.2.1, by omega, fun c' h => ?_⟩
    cases h; exact ⟨hc.2.2.1, hc.2.2.2⟩
variable (P) in
def bndE (env : Env) : Option Operand → Option (Option Int)
  | none => some none
  | some x => match evx P env x with
    | some s => match ixI s with
      | some n => some (some n)
      | none => none
    | none => none
/-- a bound's operand, as a value -/
def BndV (v : Option Value) (n : Option Int) : Prop := (v = none ∧ n = none) ∨ ∃ k i, v = some (.int k i) ∧ n = some i
theorem bndE_spec {x : Option Operand} {n : Option Int} (h : bndE P env x = some n) {σ a w} (hst : St P S σ env objs nx a w) : BndV (x.map a.eval) n := by
  unfold bndE at h
  split at h
  · cases h; exact .inl ⟨rfl, rfl⟩
  · split at h
    · rename_i s hs
      split at h
      · rename_i m hm
        cases h
        obtain ⟨k, hk⟩ := ixI_spec hm hs hst
        exact .inr ⟨k, m, by simp [hk], rfl⟩
      · cases h
    · cases h
theorem run_bound {k : IntKind} {i : Int} {y : Nat} (h0 : 0 ≤ i) (h1 : i ≤ y) (code : BoundsCode) (w' : World) : (Instr.sliceBound (.int k i) y code).run P w' = .ok i.toNat w' := by
  simp [Instr.sliceBound, asIntOf, h0, h1]
theorem run_bounds {sl : Bool} {n c : Nat} {lo hi mx : Option Value} {l h m : Option Int} (hlo : BndV lo l) (hhi : BndV hi h) (hmx : BndV mx m) (hm : mx = none ∨ hi ≠ none) (h0 : 0 ≤ loI l) (h1 : loI l ≤ hiI n h) (h2 : hiI n h ≤ hiI c m) (h3 : hiI c m ≤ c) (w' : World) :
    (Instr.sliceBounds sl n c lo hi mx).run P w' = .ok ((loI l).toNat, (hiI n h).toNat, (hiI c m).toNat) w' := by
  rcases hmx with ⟨rfl, rfl⟩ | ⟨km, im, rfl, rfl⟩
  · simp only [hiI] at h2
    rcases hhi with ⟨rfl, rfl⟩ | ⟨kh, ih, rfl, rfl⟩
    · rcases hlo with ⟨rfl, rfl⟩ | ⟨kl, il, rfl, rfl⟩
      · simp [Instr.sliceBounds, loI, hiI]
      · simp only [loI, hiI] at h0 h1 ⊢
        have := run_bound (P := P) (k := kl) h0 h1 .sliceB w'
        simp [Instr.sliceBounds, this]
    · simp only [hiI] at h1 h2 h3 ⊢
      have e1 : ∀ code, (Instr.sliceBound (.int kh ih) c code).run P w' = .ok ih.toNat w' := fun code => run_bound (P := P) (k := kh) (by omega) h2 code w'
      rcases hlo with ⟨rfl, rfl⟩ | ⟨kl, il, rfl, rfl⟩
      · cases sl <;> simp [Instr.sliceBounds, loI, e1]
      · simp only [loI] at h0 h1 ⊢
        have e2 := run_bound (P := P) (k := kl) (y := ih.toNat) h0 (by omega) .sliceB w'
        cases sl <;> simp [Instr.sliceBounds, e1, e2]
  · simp only [hiI] at h2 h3
    rcases hhi with ⟨rfl, rfl⟩ | ⟨kh, ih, rfl, rfl⟩
    · rcases hm with h | h
      · cases h
      · exact absurd rfl h
    · simp only [hiI] at h1 h2 h3 ⊢
      have e0 : ∀ code, (Instr.sliceBound (.int km im) c code).run P w' = .ok im.toNat w' := fun code => run_bound (P := P) (k := km) (by omega) h3 code w'
      have e1 : ∀ code, (Instr.sliceBound (.int kh ih) im.toNat code).run P w' = .ok ih.toNat w' := fun code => run_bound (P := P) (k := kh) (by omega) (by omega) code w'
      rcases hlo with ⟨rfl, rfl⟩ | ⟨kl, il, rfl, rfl⟩
      · cases sl <;> simp [Instr.sliceBounds, loI, e0, e1]
      · simp only [loI] at h0 h1 ⊢
        have e2 : ∀ code, (Instr.sliceBound (.int kl il) ih.toNat code).run P w' = .ok il.toNat w' := fun code => run_bound (P := P) (k := kl) h0 (by omega) code w'
        cases sl <;> simp [Instr.sliceBounds, e0, e1, e2]
/-- a piece of a slice that nobody writes -/
theorem fs_cut {A : Own} {z p q c m : Nat} {α : Type} {enc : α → List SV} {xs : List α} {ad : Option Addr} (h : (SV.fs z enc xs).hc w A sg0 [.slice ad xs.length c]) (h1 : p ≤ q) (h2 : q ≤ xs.length) (h3 : q ≤ m) (h4 : m ≤ c) :
    (SV.fs z enc ((xs.take q).drop p)).hc w A sg0 [.slice (if m = p then ad else ad.map (·.add (p * z))) (q - p) (m - p)] := by
  simp only [SV.hc, List.cons.injEq, and_true] at h ⊢
  obtain ⟨ad', c', h0, h5, h6, h7, h8, h9⟩ := h
  simp only [Value.slice.injEq, true_and] at h0
  obtain ⟨rfl, rfl⟩ := h0
  have hlen : ((xs.take q).drop p).length = q - p := by simp; omega
  refine ⟨_, m - p, by rw [hlen], by omega, by omega, fun hn => ?_, fun i hi => ?_, fun ad' had => ?_⟩
  · have : ad = none := by split at hn <;> simpa using hn
    obtain ⟨rfl, rfl⟩ := h7 this
    simp; omega
  · have e : ((xs.take q).drop p)[i] = xs[p + i]'(by omega) := by simp
    rw [e]; exact h8 _ _
  · split at had
    · refine .inl ?_
      apply List.eq_nil_of_length_eq_zero; omega
    · cases ad with
      | none => simp at had
      | some y =>
        simp only [Option.map_some, Option.some.injEq] at had
        subst had
        have hcase := h9 y rfl
        obtain ⟨g, pp, sp⟩ := y
        refine hcase.imp (fun h => by rw [h]; simp) ?_
        rintro ⟨hsp, hA, C, T, fr, hg, he⟩
        simp only at hsp; subst hsp
        rw [addr_add]
        refine ⟨rfl, hA, C, T, fr, hg, fun i hi => ?_⟩
        have e : ((xs.take q).drop p)[i] = xs[p + i]'(by omega) := by simp
        rw [e]
        have := he (p + i) (by omega)
        rwa [show pp + p * z + i * z = pp + (p + i) * z by rw [Nat.add_mul]; omega]
variable (P) in
def evSlice (objs : List Ob) (T : Nat) (s : SV) (l h m : Option Int) (K : SV → Prop) : Prop := match ty P T with
  | some ⟨.sl e, _, _⟩ => match ty P e with
    | some j => match s with
      | .fs z enc xs => match Nat.beq z j.size with
        | true => Side (cutS xs.length l h m) (K (.fs z enc (cutL xs l h)))
        | false => False
      | .own k => match lk objs k with
        | some (.frow z enc xs) => match Nat.beq z j.size with
          | true => Side (cutS xs.length l h m) (K (.fs z enc (cutL xs l h)))
          | false => False
        | _ => False
      | .bsl k off p q => match m with
        | none => match Nat.beq j.size 1 with
          | true => Side (0 ≤ loI l ∧ loI l ≤ hiI (q - p) h ∧ hiI (q - p) h ≤ (q - p : Nat)) (K (.bsl k off (p + (loI l).toNat) (p + (hiI (q - p) h).toNat)))
          | false => False
        | some _ => False
      | _ => False
    | none => False
  | some ⟨.str, _, _⟩ => match s, m with
    | .str xs, none => Side (cutS xs.length l h none) (K (.str (cutL xs l h)))
    | _, _ => False
  | some ⟨.ar n e, _, _⟩ => match ty P e, m with
    | some j, none => match Nat.beq j.size 1, Nat.ble n 140737488355328 with
      | true, true => match s with
        | .ptr k off => Side (cutS n l h none) (K (.bsl k off (loI l).toNat (hiI n h).toNat))
        | .fpt [.arr8 (n := n') v] => match Nat.beq n n' with
          | true => Side (cutS n l h none) (K (.fs 1 eB (cutL v.toList l h)))
          | false => False
        | _ => False
      | _, _ => False
    | _, _ => False
  | _ => False
theorem slice_fs {T et z : Nat} {α : Type} {enc : α → List SV} {xs : List α} {lo hi mx : Option Operand} {l h m : Option Int} {i j : TI} (ho : o.op = .slice T x lo hi mx) (hl : bndE P env lo = some l) (hh : bndE P env hi = some h) (hm : bndE P env mx = some m) (hmm : mx = none ∨ hi ≠ none)
    (hx : ∀ {σ a w}, St P S σ env objs nx a w → ∃ v, a.eval x = v ∧ (SV.fs z enc xs).hc w (S.A σ objs) sg0 [v]) (ht : ty P T = some i) (hk : i.k = .sl et) (hj : ty P et = some j) (hz : Nat.beq z j.size = true) (hs : cutS xs.length l h m) (hK : K (.fs z enc (cutL xs l h))) : PureK P S env objs nx o K := by
  refine PureK.mk hK fun σ a w hst => ?_
  obtain ⟨v, h0, hc⟩ := hx hst
  have hc' := hc
  simp only [SV.hc, List.cons.injEq, and_true] at hc'
  obtain ⟨ad, c, rfl, h1, h2, _⟩ := hc'
  obtain ⟨s1, s2, s3, s4⟩ := cutS_spec hs
  have hz' := Nat.eq_of_beq_eq_true hz
  have hmc : hiI xs.length h ≤ hiI c m ∧ hiI c m ≤ c := by
    cases m with
    | none => exact ⟨by show hiI xs.length h ≤ (c : Int); omega, by show (c : Int) ≤ c; omega⟩
    | some c' => have := s4 c' rfl; exact ⟨this.1, by show c' ≤ (c : Int); omega⟩
  refine ⟨.slice (if (hiI c m).toNat = (loI l).toNat then ad else ad.map (·.add ((loI l).toNat * z))) ((hiI xs.length h).toNat - (loI l).toNat) ((hiI c m).toNat - (loI l).toNat), ?_, fun w' => ?_⟩
  · rw [cutL_eq]
    exact fs_cut hc (by omega) (by omega) (by omega) (by omega)
  · have hb := run_bounds (P := P) (sl := true) (n := xs.length) (c := c) (bndE_spec hl hst) (bndE_spec hh hst) (bndE_spec hm hst) (by rcases hmm with h | h; exact .inl (by simp [h]); exact .inr (by simpa using h)) s1 s2 hmc.1 hmc.2 w'
    simp [execOp, ho, h0, Instr.sliceAt, Instr.slice, run_underlying (ty_slice ht hk), hb, run_sizeOf' hj, hz']
theorem evSlice_sound {T : TypeId} {s : SV} {lo hi mx : Option Operand} {l h m : Option Int} (ho : o.op = .slice T x lo hi mx) (hx : evx P env x = some s) (hl : bndE P env lo = some l) (hh : bndE P env hi = some h) (hm : bndE P env mx = some m) (hmm : mx = none ∨ hi ≠ none) (hK : evSlice P objs T s l h m K) : PureK P S env objs nx o K := by
  have mxn : m = none → mx = none := fun e => by
    subst e
    unfold bndE at hm
    split at hm
    · rfl
    · split at hm
      · split at hm <;> cases hm
      · cases hm
  unfold evSlice at hK
  split at hK
  · rename_i e _ _ ht
    split at hK
    · rename_i j hj
      split at hK
      · split at hK
        · rename_i hz; exact slice_fs ho hl hh hm hmm (fun hst => fs_ev hx hst) ht rfl hj hz hK.h hK.k
        · exact hK.elim
      · split at hK
        · rename_i hk
          split at hK
          · rename_i hz; exact slice_fs ho hl hh hm hmm (fun hst => frow_ev hx hk hst) ht rfl hj hz hK.h hK.k
          · exact hK.elim
        · exact hK.elim
      · rename_i k off p q
        split at hK
        · split at hK
          · rename_i hz
            obtain ⟨s1, s2, s3⟩ := hK.h
            have hmx := mxn rfl
            subst hmx
            refine PureK.mk hK.k fun σ a w hst => ?_
            have := hst.ev hx
            simp only [SV.hv, SV.h1, SV.hc, List.cons.injEq, and_true] at this
            obtain ⟨b, c, pp, cap, h1, h2, h3, h4, h5, h6⟩ := this
            have hz' := Nat.eq_of_beq_eq_true hz
            have hb := run_bounds (P := P) (sl := true) (n := q - p) (c := cap) (bndE_spec hl hst) (bndE_spec hh hst) (.inl ⟨rfl, rfl⟩) (.inl rfl) s1 s2 (by simp only [hiI] at s3 ⊢; omega) (by simp [hiI]) w
            refine ⟨.slice (if cap = (loI l).toNat then some ⟨b, pp, none⟩ else some ⟨b, pp + (loI l).toNat, none⟩) ((hiI (q - p) h).toNat - (loI l).toNat) (cap - (loI l).toNat), ?_, fun w' => ?_⟩
            · simp only [SV.hv, SV.h1, SV.hc, List.cons.injEq, and_true]
              refine ⟨b, c, if cap = (loI l).toNat then pp else pp + (loI l).toNat, cap - (loI l).toNat, h1, ?_, by omega, by omega, by omega, fun hlt => ?_⟩
              · rw [show p + (hiI (q - p) h).toNat - (p + (loI l).toNat) = (hiI (q - p) h).toNat - (loI l).toNat by omega]
                split <;> rfl
              · rw [if_neg (by omega), h6 (by omega)]; omega
            · have hb := run_bounds (P := P) (sl := true) (n := q - p) (c := cap) (bndE_spec hl hst) (bndE_spec hh hst) (.inl ⟨rfl, rfl⟩) (.inl rfl) s1 s2 (by simp only [hiI] at s3 ⊢; omega) (by simp [hiI]) w'
              rw [show hiI cap none = (cap : Int) from rfl, Int.toNat_natCast] at hb
              simp only [execOp, ho, h2, Instr.sliceAt, Instr.slice, Sem.run_bind, run_underlying (ty_slice ht rfl), Result.andThen_ok, Option.map_none, hb, run_sizeOf' hj, hz', Nat.mul_one, Sem.run_pure]
              congr 3
              split <;> simp [addr_add]
          · exact hK.elim
        · exact hK.elim
      · exact hK.elim
    · exact hK.elim
  · rename_i ht
    split at hK
    · rename_i xs
      have hmx := mxn rfl
      subst hmx
      obtain ⟨s1, s2, s3, _⟩ := cutS_spec hK.h
      refine PureK.mk hK.k fun σ a w hst => ⟨_, hvS.2 rfl, fun w' => ?_⟩
      have h1 := hvS.1 (hst.ev hx)
      have hb := run_bounds (P := P) (sl := false) (n := xs.length) (c := xs.length) (bndE_spec hl hst) (bndE_spec hh hst) (.inl ⟨rfl, rfl⟩) (.inl rfl) s1 s2 (by simp only [hiI] at s3 ⊢; omega) (by simp [hiI]) w'
      have hex : (baOf xs).extract (loI l).toNat (hiI xs.length h).toNat = baOf (cutL xs l h) := by
        rw [cutL_eq]
        apply ByteArray.ext
        apply Array.ext'
        simp [baOf, List.map_take, List.map_drop, List.extract_eq_drop_take, List.drop_take]
      simp [execOp, ho, h1, Instr.sliceAt, Instr.slice, run_underlying (ty_str ht rfl), baOf_size, hb, hex]
    · exact hK.elim
  · rename_i n e _ _ ht
    split at hK
    · rename_i j hj
      have hmx := mxn rfl
      subst hmx
      split at hK
      · rename_i hz hn
        have hz' := Nat.eq_of_beq_eq_true hz
        have hn' := Nat.le_of_ble_eq_true hn
        split at hK
        · rename_i k off
          obtain ⟨s1, s2, s3, _⟩ := cutS_spec hK.h
          refine PureK.mk hK.k fun σ a w hst => ?_
          obtain ⟨b, c, h1, h2⟩ := ptr_ev hx hst
          refine ⟨.slice (some (if n = (loI l).toNat then ⟨b, c + off, none⟩ else ⟨b, c + off + (loI l).toNat, none⟩)) ((hiI n h).toNat - (loI l).toNat) (n - (loI l).toNat), ?_, fun w' => ?_⟩
          · simp only [SV.hv, SV.h1, SV.hc, List.cons.injEq, and_true]
            refine ⟨b, c, if n = (loI l).toNat then c + off else c + off + (loI l).toNat, n - (loI l).toNat, h1, by split <;> rfl, by omega, by omega, ?_, fun hlt => by rw [if_neg (by omega)]⟩
            have : (140737488355328 : Nat) ≤ maxLen := by decide
            omega
          · have hb := run_bounds (P := P) (sl := false) (n := n) (c := n) (bndE_spec hl hst) (bndE_spec hh hst) (.inl ⟨rfl, rfl⟩) (.inl rfl) s1 s2 (by simp only [hiI] at s3 ⊢; omega) (by simp [hiI]) w'
            rw [show hiI n none = (n : Int) from rfl, Int.toNat_natCast] at hb
            simp only [execOp, ho, h2, Instr.sliceAt, Sem.run_bind, run_underlying (ty_array ht rfl), Result.andThen_ok, Option.map_none, Instr.sureAddr, Sem.run_pure, hb, run_sizeOf' hj, hz', Nat.mul_one, addr_add]
        · rename_i n' v
          split at hK
          · rename_i hnn
            obtain rfl := Nat.eq_of_beq_eq_true hnn
            obtain ⟨s1, s2, s3, _⟩ := cutS_spec hK.h
            refine PureK.mk hK.k fun σ a w hst => ?_
            obtain ⟨b, off, h2, hA, C, t, fr, hg, hc⟩ := fpt_ev hx hst
            have key : (SV.fs 1 eB v.toList).hc w (S.A σ objs) sg0 [.slice (some ⟨b, off, none⟩) v.toList.length n] := by
              rw [hL.single] at hc
              simp only [SV.hc, szL, SV.sz, Nat.add_zero] at hc
              simp only [SV.hc, List.cons.injEq, and_true]
              have : (140737488355328 : Nat) ≤ maxLen := by decide
              refine ⟨some ⟨b, off, none⟩, n, rfl, by simp, by omega, (fun h => by cases h), fun i hi => rfl, fun ad had => ?_⟩
              cases had
              refine .inr ⟨rfl, hA, C, t, fr, hg, fun i hi => ?_⟩
              rw [hL.single]
              simp only [SV.hc, Nat.mul_one]
              have hi' : i < n := by simpa using hi
              have e : (C.toList.drop (off + i)).take 1 = (((C.toList.drop off).take n).drop i).take 1 := by
                rw [take_drop_part (by omega)]
              rw [e, hc]
              apply List.ext_getElem?
              intro q
              rcases q with _ | q
              · simp [List.getElem?_take, hi']
              · simp [List.getElem?_take]
            have hb := fun w' => run_bounds (P := P) (sl := false) (n := n) (c := n) (bndE_spec hl hst) (bndE_spec hh hst) (.inl ⟨rfl, rfl⟩) (.inl rfl) s1 s2 (by simp only [hiI] at s3 ⊢; omega) (by simp [hiI]) w'
            have hcut := fs_cut key (p := (loI l).toNat) (q := (hiI n h).toNat) (m := n) (by omega) (by simp; omega) (by omega) (Nat.le_refl _)
            refine ⟨.slice (if n = (loI l).toNat then some ⟨b, off, none⟩ else some ⟨b, off + (loI l).toNat, none⟩) ((hiI n h).toNat - (loI l).toNat) (n - (loI l).toNat), ?_, fun w' => ?_⟩
            · rw [cutL_eq]
              simp only [SV.hv, SV.h1]
              have e : (Option.map (fun x : Addr => x.add ((loI l).toNat * 1)) (some ⟨b, off, none⟩)) = some ⟨b, off + (loI l).toNat, none⟩ := by simp [addr_add]
              rw [e] at hcut
              exact SV.hc.names (σ := sg0) (σ' := σ) _ _ (fun k v e => by cases e) (by simpa using hcut)
            · have hb := hb w'
              rw [show hiI n none = (n : Int) from rfl, Int.toNat_natCast] at hb
              simp only [execOp, ho, h2, Instr.sliceAt, Sem.run_bind, run_underlying (ty_array ht rfl), Result.andThen_ok, Option.map_none, Instr.sureAddr, Sem.run_pure, hb, run_sizeOf' hj, hz', Nat.mul_one, addr_add]
              congr 3
              split <;> rfl
          · exact hK.elim
        · exact hK.elim
      · exact hK.elim
    · exact hK.elim
  · exact hK.elim
end
end Go.Proofs.YtdflndjlnkoliaaGreatDoor

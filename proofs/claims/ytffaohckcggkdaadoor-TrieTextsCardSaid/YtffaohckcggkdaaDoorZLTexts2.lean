import Derived.Test.YtffaohckcggkdaaDoorZLTexts1
import Derived.ChangeKeysEq
import Derived.Great.BuildSlice
import Derived.Laws.MakeOwn
import Derived.Laws.CopyRow
import Derived.Deep.LoopGhost
/- MY OWN ENGINE: arrays and structs held against one another. -/
namespace Go.Proofs.YtffaohckcggkdaaDoor
set_option linter.all false
open Go.RowKit
/-- cells of some kinds; none: a flag -/
def KFit : List (Option IntKind) → List Value → Prop
  | [], cs => cs = []
  | some k :: r, cs => ∃ n rest, cs = .int k n :: rest ∧ KFit r rest
  | none :: r, cs => ∃ b rest, cs = .bool b :: rest ∧ KFit r rest
theorem KFit.len : ∀ {ks : List (Option IntKind)} {cs : List Value}, KFit ks cs → cs.length = ks.length
  | [], cs, h => by simp only [KFit] at h; rw [h]; rfl
  | some k :: r, cs, h => by obtain ⟨n, rest, rfl, h⟩ := h; simp [KFit.len h]
  | none :: r, cs, h => by obtain ⟨n, rest, rfl, h⟩ := h; simp [KFit.len h]
theorem KFit.app : ∀ {a b : List (Option IntKind)} {cs : List Value}, KFit (a ++ b) cs → KFit a (cs.take a.length) ∧ KFit b (cs.drop a.length)
  | [], b, cs, h => by simpa [KFit] using h
  | some k :: r, b, cs, h => by
    obtain ⟨n, rest, rfl, h⟩ := h
    obtain ⟨h1, h2⟩ := KFit.app (a := r) h
    exact ⟨⟨n, _, by simp, h1⟩, by simpa using h2⟩
  | none :: r, b, cs, h => by
    obtain ⟨n, rest, rfl, h⟩ := h
    obtain ⟨h1, h2⟩ := KFit.app (a := r) h
    exact ⟨⟨n, _, by simp, h1⟩, by simpa using h2⟩
theorem KFit.mk : ∀ {a b : List (Option IntKind)} {cs ds : List Value}, KFit a cs → KFit b ds → KFit (a ++ b) (cs ++ ds)
  | [], b, cs, ds, h, h2 => by simp only [KFit] at h; subst h; exact h2
  | some k :: r, b, cs, ds, h, h2 => by obtain ⟨n, rest, rfl, h⟩ := h; exact ⟨n, _, rfl, KFit.mk h h2⟩
  | none :: r, b, cs, ds, h, h2 => by obtain ⟨n, rest, rfl, h⟩ := h; exact ⟨n, _, rfl, KFit.mk h h2⟩
def repL {α : Type} : Nat → List α → List α
  | 0, _ => []
  | n + 1, l => l ++ repL n l
theorem repL_len {α : Type} (l : List α) : ∀ n, (repL n l).length = n * l.length
  | 0 => by simp [repL]
  | n + 1 => by simp only [repL, List.length_append, repL_len l n, Nat.add_mul, Nat.one_mul]; omega
theorem KFit.rep {ks : List (Option IntKind)} : ∀ {n : Nat} {cs : List Value}, KFit (repL n ks) cs → ∀ i, i < n → KFit ks ((cs.drop (i * ks.length)).take ks.length)
  | 0, cs, h, i, hi => absurd hi (by omega)
  | n + 1, cs, h, i, hi => by
    obtain ⟨h1, h2⟩ := KFit.app (a := ks) (b := repL n ks) h
    rcases i with _ | i
    · simpa using h1
    · have := KFit.rep h2 i (by omega)
      rw [List.drop_drop] at this
      rwa [show ks.length + i * ks.length = (i + 1) * ks.length by rw [Nat.add_mul, Nat.one_mul]; omega] at this
def kindsS (f : Nat → Option (List (Option IntKind))) : List (Nat × Nat) → Nat → Option (List (Option IntKind))
  | [], _ => some []
  | (o, t) :: r, p => match Nat.beq o p with
    | true => match f t with
      | some ks => match kindsS f r (p + ks.length) with
        | some rest => some (ks ++ rest)
        | none => none
      | none => none
    | false => none
section
variable (P : Program) [TabC P]
def memN : List Nat → Nat → Bool
  | [], _ => false
  | k :: r, n => match Nat.beq k n with
    | true => true
    | false => memN r n
theorem memN_spec : ∀ {l : List Nat} {n : Nat}, memN l n = true → n ∈ l
  | [], _, h => by cases h
  | k :: r, n, h => by
    unfold memN at h
    split at h
    · rename_i hb; rw [Nat.eq_of_beq_eq_true hb]; simp
    · exact List.mem_cons_of_mem _ (memN_spec h)
/-- the kinds of a type's cells, if all are plain -/
def kindsT : Nat → Nat → Option (List (Option IntKind))
  | 0, _ => none
  | d + 1, t => match ty P t with
    | some ⟨.bool, 1, _⟩ => some [none]
    | some ⟨.int k, 1, _⟩ => some [some k]
    | some ⟨.ar n e, z, _⟩ => match kindsT d e with
      | some ks => match Nat.beq z (repL n ks).length with
        | true => some (repL n ks)
        | false => none
      | none => none
    | some ⟨.st fs, z, _⟩ => match memN (TabC.eqs P) t with
      | true => match kindsS (kindsT d) fs 0 with
        | some ks => match Nat.beq z ks.length with
          | true => some ks
          | false => none
        | none => none
      | false => none
    | _ => none
end
section
variable {P : Program} [TabC P] {w : World}
theorem ty_boolE {t : Nat} {z b : Nat} (h : ty P t = some ⟨.bool, z, b⟩) : P.underlying t = some .bool := by
  obtain ⟨inf, d, _, hd, _, _, hb, _⟩ := ty_spec h
  cases d <;> simp [tkB] at hb
  exact hd
theorem ty_sizeOf {t : Nat} {i : TI} (h : ty P t = some i) : P.cellsOf t = i.size := by
  obtain ⟨inf, d, hi, _, hs, _⟩ := ty_spec h
  simp [Program.cellsOf, hi, hs]
theorem run_part_len {off : Nat} {t : TypeId} {j : TI} {cs : List Value} (hj : ty P t = some j) (h1 : (j.row || Nat.beq j.size 1) = true) (hl : off + j.size ≤ cs.length) :
    (part t cs.toArray off).run P w = .ok (vOf j.row ((cs.drop off).take j.size)) w := by
  simp only [part, Sem.run_bind, run_isAgg' hj, Result.andThen_ok]
  cases hr : j.row with
  | true =>
    simp only [if_true, Sem.run_bind, run_sizeOf' hj, Result.andThen_ok, Sem.run_pure, vOf]
    congr 2
    apply Array.ext'
    simp only [Array.toList_extract, List.extract_eq_drop_take]
    rw [Nat.add_sub_cancel_left]
  | false =>
    rw [hr, Bool.false_or] at h1
    have h1' := Nat.eq_of_beq_eq_true h1
    have hlt : off < cs.length := by omega
    have : (cs.drop off).take j.size = [cs[off]] := by
      rw [h1', List.drop_eq_getElem_cons hlt]; rfl
    simp [this, vOf, hlt]
/-- held against one another: equal just if the cells are -/
def EqAt (P : Program) [TabC P] (w : World) (d t : Nat) (ks : List (Option IntKind)) : Prop :=
  ∃ i, ty P t = some i ∧ i.size = ks.length ∧ (i.row || Nat.beq i.size 1) = true ∧ ∀ xs ys, KFit ks xs → KFit ks ys → ∀ d', d ≤ d' → ∃ r, (Op.equalIn d' t (vOf i.row xs) (vOf i.row ys)).run P w = .ok r w ∧ (r = true ↔ xs = ys)
theorem eqItems_run {d e : Nat} {ks : List (Option IntKind)} (h : EqAt P w d e ks) {xs ys : List Value} : ∀ {is : List Nat}, (∀ i ∈ is, KFit ks ((xs.drop (i * ks.length)).take ks.length) ∧ KFit ks ((ys.drop (i * ks.length)).take ks.length) ∧ i * ks.length + ks.length ≤ xs.length ∧ i * ks.length + ks.length ≤ ys.length) → ∀ d', d ≤ d' →
    ∃ r, (Op.eqItems d' e (P.cellsOf e) xs.toArray ys.toArray is).run P w = .ok r w ∧ (r = true ↔ ∀ i ∈ is, (xs.drop (i * ks.length)).take ks.length = (ys.drop (i * ks.length)).take ks.length)
  | [], _, d', hd => ⟨true, by simp [Op.eqItems], by simp⟩
  | i :: is, hf, d', hd => by
    obtain ⟨j, hj, hsz, hrow, heq⟩ := h
    obtain ⟨f1, f2, f3, f4⟩ := hf i (by simp)
    obtain ⟨r, hr, hiff⟩ := heq _ _ f1 f2 d' hd
    obtain ⟨r', hr', hiff'⟩ := eqItems_run ⟨j, hj, hsz, hrow, heq⟩ (is := is) (fun k hk => hf k (List.mem_cons_of_mem _ hk)) d' hd
    have hc : P.cellsOf e = ks.length := by rw [ty_sizeOf hj, hsz]
    have p1 := run_part_len (w := w) (cs := xs) (off := i * ks.length) hj hrow (by rw [hsz]; exact f3)
    have p2 := run_part_len (w := w) (cs := ys) (off := i * ks.length) hj hrow (by rw [hsz]; exact f4)
    rw [hsz] at p1 p2
    rw [hc] at hr' ⊢
    simp only [Op.eqItems, Sem.run_bind, p1, p2, hr, Result.andThen_ok]
    cases r with
    | false => exact ⟨false, by simp, by simp only [Bool.false_eq_true, false_iff]; intro hh; exact absurd (hiff.2 (hh i (by simp))) (by simp)⟩
    | true =>
      refine ⟨r', by simpa using hr', ?_⟩
      rw [hiff']
      simp [hiff.1 rfl]
theorem chunks_eq {z : Nat} : ∀ {n : Nat} {xs ys : List Value}, xs.length = n * z → ys.length = n * z → (∀ i < n, (xs.drop (i * z)).take z = (ys.drop (i * z)).take z) → xs = ys
  | 0, xs, ys, h1, h2, _ => by
    rw [Nat.zero_mul] at h1 h2
    rw [List.eq_nil_of_length_eq_zero h1, List.eq_nil_of_length_eq_zero h2]
  | n + 1, xs, ys, h1, h2, h => by
    have h0 := h 0 (by omega)
    simp only [Nat.zero_mul, List.drop_zero] at h0
    have e := chunks_eq (z := z) (n := n) (xs := xs.drop z) (ys := ys.drop z) (by rw [List.length_drop, h1, Nat.add_mul, Nat.one_mul]; omega) (by rw [List.length_drop, h2, Nat.add_mul, Nat.one_mul]; omega) (fun i hi => by
      have := h (i + 1) (by omega)
      rw [List.drop_drop, List.drop_drop]
      rwa [Nat.add_mul, Nat.one_mul, Nat.add_comm] at this)
    rw [← List.take_append_drop z xs, ← List.take_append_drop z ys, h0, e]
theorem eqFields_run {d : Nat} {f : Nat → Option (List (Option IntKind))} (hf : ∀ t ks, f t = some ks → EqAt P w d t ks) {xs ys : List Value} : ∀ {gs : List Field} {p : Nat} {ks : List (Option IntKind)}, kindsS f (gs.map (fun g => (g.offset, g.type))) p = some ks → (∀ g ∈ gs, g.name ≠ "_") → KFit ks (xs.drop p) → KFit ks (ys.drop p) → p ≤ xs.length → p ≤ ys.length → ∀ d', d ≤ d' →
    ∃ r, (Op.eqFields d' xs.toArray ys.toArray gs).run P w = .ok r w ∧ (r = true ↔ xs.drop p = ys.drop p)
  | [], p, ks, h, hn, hx, hy, px, py, d', hd => by
    simp only [List.map_nil, kindsS, Option.some.injEq] at h
    subst h
    simp only [KFit] at hx hy
    exact ⟨true, by simp [Op.eqFields], by rw [hx, hy]; simp⟩
  | g :: gs, p, ks, h, hn, hx, hy, px, py, d', hd => by
    simp only [List.map_cons, kindsS] at h
    split at h
    · rename_i hp
      have hp' := Nat.eq_of_beq_eq_true hp
      split at h
      · rename_i k1 hk1
        split at h
        · rename_i rest hrest
          simp only [Option.some.injEq] at h; subst h
          obtain ⟨j, hj, hsz, hrow, heq⟩ := hf _ _ hk1
          obtain ⟨x1, x2⟩ := hx.app
          obtain ⟨y1, y2⟩ := hy.app
          rw [List.drop_drop] at x2 y2
          have lx := hx.len; have ly := hy.len
          simp only [List.length_drop, List.length_append] at lx ly
          have lx1 := x1.len; have ly1 := y1.len
          simp only [List.length_take, List.length_drop] at lx1 ly1
          obtain ⟨r, hr, hiff⟩ := heq _ _ x1 y1 d' hd
          obtain ⟨r', hr', hiff'⟩ := eqFields_run hf (gs := gs) hrest (fun g hg => hn g (List.mem_cons_of_mem _ hg)) x2 y2 (by omega) (by omega) d' hd
          have hname : g.name ≠ "_" := hn g (by simp)
          have p1 := run_part_len (w := w) (cs := xs) (off := g.offset) hj hrow (by rw [hsz, hp']; omega)
          have p2 := run_part_len (w := w) (cs := ys) (off := g.offset) hj hrow (by rw [hsz, hp']; omega)
          rw [hsz, hp'] at p1 p2
          have hg : Op.eqFields d' xs.toArray ys.toArray (g :: gs) = (do
              let a ← part g.type xs.toArray g.offset
              let b ← part g.type ys.toArray g.offset
              let r ← Op.equalIn d' g.type a b
              if (!r) = true then pure false else Op.eqFields d' xs.toArray ys.toArray gs) := by
            simp [Op.eqFields, hname]
          rw [hg]
          simp only [Sem.run_bind, hp', p1, p2, hr, Result.andThen_ok]
          have split : ∀ (l : List Value), l.drop p = (l.drop p).take k1.length ++ l.drop (p + k1.length) := fun l => by
            rw [← List.drop_drop, List.take_append_drop]
          cases r with
          | false =>
            refine ⟨false, by simp, ?_⟩
            simp only [Bool.false_eq_true, false_iff]
            intro hh
            rw [hh] at hiff
            exact absurd (hiff.2 rfl) (by simp)
          | true =>
            refine ⟨r', by simpa using hr', ?_⟩
            rw [hiff']
            have e := hiff.1 rfl
            constructor
            · intro h2; rw [split xs, split ys, e, h2]
            · intro h2
              have := congrArg (List.drop k1.length) h2
              simpa [List.drop_drop] using this
        · cases h
      · cases h
    · cases h
theorem eq_ok {t : Nat} (h : memN (TabC.eqs P) t = true) : P.stoodInHeld t = false ∧ (∀ f ∈ (P.fieldsOf t).toList, f.name ≠ "_") ∧ P.eqGuardType P.depth t = false := by
  have hok := List.all_eq_true.1 (TabC.eqok (P := P)) t (memN_spec h)
  simp only [eqOkB, Bool.and_eq_true, Bool.not_eq_true', List.all_eq_true, decide_eq_true_eq] at hok
  exact ⟨hok.1.1, hok.1.2, hok.2⟩
theorem run_flat : ∀ {d t : Nat} {ks : List (Option IntKind)}, kindsT P d t = some ks → EqAt P w d t ks
  | 0, _, _, h => by cases h
  | d + 1, t, ks, h => by
    unfold kindsT at h
    split at h
    · rename_i ht
      cases h
      refine ⟨_, ht, rfl, rfl, fun xs ys hx hy d' hd => ?_⟩
      obtain ⟨a, r1, rfl, h1⟩ := hx
      obtain ⟨b, r2, rfl, h2⟩ := hy
      simp only [KFit] at h1 h2; subst h1 h2
      obtain ⟨d', rfl⟩ : ∃ q, d' = q + 1 := ⟨d' - 1, by omega⟩
      refine ⟨a == b, ?_, by simp⟩
      simp [vOf, TI.row, Op.equalIn, run_underlying (ty_boolE ht)]
    · rename_i k _ ht
      cases h
      refine ⟨_, ht, rfl, rfl, fun xs ys hx hy d' hd => ?_⟩
      obtain ⟨a, r1, rfl, h1⟩ := hx
      obtain ⟨b, r2, rfl, h2⟩ := hy
      simp only [KFit] at h1 h2; subst h1 h2
      obtain ⟨d', rfl⟩ : ∃ q, d' = q + 1 := ⟨d' - 1, by omega⟩
      refine ⟨a == b, ?_, by simp⟩
      simp [vOf, TI.row, Op.equalIn, run_underlying (ty_int ht rfl)]
    · rename_i n e z _ ht
      split at h
      · rename_i k1 hk1
        split at h
        · rename_i hz
          cases h
          have hz' := Nat.eq_of_beq_eq_true hz
          have ih := run_flat (d := d) hk1
          refine ⟨_, ht, hz', rfl, fun xs ys hx hy d' hd => ?_⟩
          obtain ⟨d', rfl⟩ : ∃ q, d' = q + 1 := ⟨d' - 1, by omega⟩
          obtain ⟨i, hi⟩ : ∃ i, P.info? e = some i := by
            obtain ⟨j, hj, _⟩ := ih
            obtain ⟨inf, _, hi, _⟩ := ty_spec hj
            exact ⟨inf, hi⟩
          have lx := hx.len; have ly := hy.len
          rw [repL_len] at lx ly
          have hmul : ∀ i, i < n → i * k1.length + k1.length ≤ n * k1.length := fun i hi => by
            have := Nat.mul_le_mul_right k1.length (show i + 1 ≤ n from hi)
            rwa [Nat.add_mul, Nat.one_mul] at this
          obtain ⟨r, hr, hiff⟩ := eqItems_run ih (xs := xs) (ys := ys) (is := List.range n) (fun i hi => by
            have hi' := List.mem_range.1 hi
            exact ⟨hx.rep i hi', hy.rep i hi', by rw [lx]; exact hmul i hi', by rw [ly]; exact hmul i hi'⟩) d' (by omega)
          refine ⟨r, ?_, hiff.trans ⟨fun hh => chunks_eq lx ly (fun i hi => hh i (List.mem_range.2 hi)), fun hh => by rw [hh]; simp⟩⟩
          show (Op.equalIn (d' + 1) t (.agg xs.toArray) (.agg ys.toArray)).run P w = _
          rw [run_equalIn_array w d' xs.toArray ys.toArray (ty_array ht rfl) hi, hr]
        · cases h
      · cases h
    · rename_i fs z _ ht
      split at h
      · rename_i hm
        split at h
        · rename_i k1 hk1
          split at h
          · rename_i hz
            cases h
            have hz' := Nat.eq_of_beq_eq_true hz
            have hok := eq_ok hm
            refine ⟨_, ht, hz', rfl, fun xs ys hx hy d' hd => ?_⟩
            obtain ⟨d', rfl⟩ : ∃ q, d' = q + 1 := ⟨d' - 1, by omega⟩
            obtain ⟨gs, hu, hg⟩ := ty_struct ht rfl
            have hfo : P.fieldsOf t = gs := by simp [Program.fieldsOf, hu]
            rw [hfo] at hok
            obtain ⟨r, hr, hiff⟩ := eqFields_run (fun t ks h => run_flat (d := d) h) (xs := xs) (ys := ys) (gs := gs.toList) (p := 0) (by rw [hg]; exact hk1) hok.2.1 (by simpa using hx) (by simpa using hy) (Nat.zero_le _) (Nat.zero_le _) d' (by omega)
            refine ⟨r, ?_, by simpa using hiff⟩
            show (Op.equalIn (d' + 1) t (.agg xs.toArray) (.agg ys.toArray)).run P w = _
            rw [run_equalIn_struct w d' t xs.toArray ys.toArray (by rw [hfo]; exact hu) hok.1, hfo, hr]
          · cases h
        · cases h
      · cases h
    · cases h
/-! ## symbolic values held against one another -/
def kSV : SV → Option (List (Option IntKind))
  | .bool _ => some [none]
  | .dec _ _ => some [none]
  | .int k _ => some [some k]
  | .u8 _ => some [some .u8]
  | .u16 _ => some [some .u16]
  | .u32 _ => some [some .u32]
  | .u64 _ => some [some .u64]
  | @SV.arr8 n _ => some (repL n [some .u8])
  | @SV.arr32 n _ => some (repL n [some .u32])
  | _ => none
def kL : List SV → Option (List (Option IntKind))
  | [] => some []
  | s :: r => match kSV s with
    | some a => match kL r with
      | some b => some (a ++ b)
      | none => none
    | none => none
theorem kfit_vec {n w' : Nat} {k : IntKind} (x : Vector (BitVec w') n) : KFit (repL n [some k]) (x.toList.map (bV k)) := by
  have : ∀ (l : List (BitVec w')), KFit (repL l.length [some k]) (l.map (bV k)) := by
    intro l
    induction l with
    | nil => rfl
    | cons a r ih => exact ⟨_, _, rfl, ih⟩
  have h := this x.toList
  rwa [Vector.length_toList] at h
theorem kSV_fit {A : Own} {σ : Sg} {s : SV} {ks : List (Option IntKind)} {cs : List Value} (h : kSV s = some ks) (hc : s.hc w A σ cs) : KFit ks cs := by
  cases s <;> simp only [kSV, Option.some.injEq, reduceCtorEq] at h <;> subst h <;> simp only [SV.hc] at hc
  · subst hc; exact ⟨_, _, rfl, rfl⟩
  · subst hc; exact ⟨_, _, rfl, rfl⟩
  · obtain ⟨rfl, _⟩ := hc; exact ⟨_, _, rfl, rfl⟩
  · subst hc; exact ⟨_, _, rfl, rfl⟩
  · subst hc; exact ⟨_, _, rfl, rfl⟩
  · subst hc; exact ⟨_, _, rfl, rfl⟩
  · subst hc; exact ⟨_, _, rfl, rfl⟩
  · subst hc; exact kfit_vec _
  · subst hc; exact kfit_vec _
theorem kL_fit {A : Own} {σ : Sg} : ∀ {l : List SV} {ks : List (Option IntKind)} {cs : List Value}, kL l = some ks → hL w A l σ cs → KFit ks cs
  | [], ks, cs, h, hc => by
    simp only [kL, Option.some.injEq] at h; subst h
    simp only [hL] at hc; exact hc
  | s :: r, ks, cs, h, hc => by
    simp only [hL] at hc
    obtain ⟨a, b, rfl, h1, h2⟩ := hc
    unfold kL at h
    split at h
    · rename_i ka hka
      split at h
      · rename_i kb hkb
        simp only [Option.some.injEq] at h; subst h
        exact (kSV_fit hka h1).mk (kL_fit hkb h2)
      · cases h
    · cases h
def eqK (k k' : IntKind) : Bool := decide (k = k')
/-- when they are equal -/
def eqS : SV → SV → Option DP
  | .int k n, .int k' m => match eqK k k' with
    | true => some ⟨n = m, inferInstance⟩
    | false => none
  | .u8 x, .u8 y => some ⟨x = y, inferInstance⟩
  | .u16 x, .u16 y => some ⟨x = y, inferInstance⟩
  | .u32 x, .u32 y => some ⟨x = y, inferInstance⟩
  | .u64 x, .u64 y => some ⟨x = y, inferInstance⟩
  | @SV.arr8 n x, @SV.arr8 n' y => match Nat.beq n n' with
    | true => some ⟨x.toList = y.toList, inferInstance⟩
    | false => none
  | @SV.arr32 n x, @SV.arr32 n' y => match Nat.beq n n' with
    | true => some ⟨x.toList = y.toList, inferInstance⟩
    | false => none
  | s, u => match asP s with
    | some ⟨p, _⟩ => match asP u with
      | some ⟨q, _⟩ => some ⟨p ↔ q, inferInstance⟩
      | none => none
    | none => none
theorem asP_hq {A : Own} {σ : Sg} {s : SV} {p : Prop} {i : Decidable p} {cs : List Value} (h : asP s = some ⟨p, i⟩) (hc : s.hc w A σ cs) : cs = [.bool (@decide p i)] := by
  cases s <;> simp only [asP, Option.some.injEq, reduceCtorEq] at h <;> cases h
  · rename_i b; simp only [SV.hc] at hc; rw [hc]; cases b <;> rfl
  · simp only [SV.hc] at hc; exact hc
theorem vec_eq {n n' w' : Nat} {k : IntKind} {x : Vector (BitVec w') n} {y : Vector (BitVec w') n'} : x.toList.map (bV k) = y.toList.map (bV k) ↔ x.toList = y.toList := by
  constructor
  · intro h
    refine List.map_inj_right (f := bV k) (fun a b hab => ?_) |>.1 h
    simp only [bV, Value.int.injEq, true_and] at hab
    exact BitVec.eq_of_toNat_eq (by exact_mod_cast hab)
  · intro h; rw [h]
theorem bV_eq {w' : Nat} {k : IntKind} {x y : BitVec w'} : ([bV k x] : List Value) = [bV k y] ↔ x = y := by
  constructor
  · intro h
    simp only [bV, List.cons.injEq, Value.int.injEq, true_and, and_true] at h
    exact BitVec.eq_of_toNat_eq (by exact_mod_cast h)
  · intro h; rw [h]
theorem eqS_spec {A : Own} {σ : Sg} {s u : SV} {q : DP} {cs ds : List Value} (h : eqS s u = some q) (h1 : s.hc w A σ cs) (h2 : u.hc w A σ ds) : cs = ds ↔ q.p := by
  unfold eqS at h
  split at h
  · split at h
    · rename_i hk
      cases h
      simp only [eqK, decide_eq_true_eq] at hk
      subst hk
      simp only [SV.hc] at h1 h2
      rw [h1.1, h2.1]; simp
    · cases h
  · cases h; simp only [SV.hc] at h1 h2; rw [h1, h2]; exact bV_eq
  · cases h; simp only [SV.hc] at h1 h2; rw [h1, h2]; exact bV_eq
  · cases h; simp only [SV.hc] at h1 h2; rw [h1, h2]; exact bV_eq
  · cases h; simp only [SV.hc] at h1 h2; rw [h1, h2]; exact bV_eq
  · split at h
    · cases h; simp only [SV.hc] at h1 h2; rw [h1, h2]; exact vec_eq
    · cases h
  · split at h
    · cases h; simp only [SV.hc] at h1 h2; rw [h1, h2]; exact vec_eq
    · cases h
  · split at h
    · rename_i p i hp
      split at h
      · rename_i q' i' hq
        cases h
        rw [asP_hq hp h1, asP_hq hq h2]
        simp
      · cases h
    · cases h
theorem asP_sz {s : SV} {q : DP} (h : asP s = some q) : s.sz = 1 := by cases s <;> simp only [asP, reduceCtorEq] at h <;> rfl
theorem eqS_sz {s u : SV} {q : DP} (h : eqS s u = some q) : s.sz = u.sz := by
  unfold eqS at h
  split at h
  · rfl
  · rfl
  · rfl
  · rfl
  · rfl
  · split at h
    · rename_i hn; exact Nat.eq_of_beq_eq_true hn
    · cases h
  · split at h
    · rename_i hn; exact Nat.eq_of_beq_eq_true hn
    · cases h
  · split at h
    · rename_i hp
      split at h
      · rename_i hq; rw [asP_sz hp, asP_sz hq]
      · cases h
    · cases h
/-- when lists of parts are equal -/
def eqLs : List SV → List SV → Option DP
  | [], m => match m with
    | [] => some ⟨True, inferInstance⟩
    | _ => none
  | s :: r, m => match m with
    | [] => none
    | u :: r' => match r with
      | [] => match r' with
        | [] => eqS s u
        | _ => none
      | _ :: _ => match eqS s u with
        | some ⟨p, _⟩ => match eqLs r r' with
          | some ⟨q, _⟩ => some ⟨p ∧ q, inferInstance⟩
          | none => none
        | none => none
theorem eqLs_spec {A : Own} {σ : Sg} : ∀ {l m : List SV} {q : DP} {cs ds : List Value}, eqLs l m = some q → hL w A l σ cs → hL w A m σ ds → (cs = ds ↔ q.p)
  | [], m, q, cs, ds, h, h1, h2 => by
    cases m with
    | nil =>
      simp only [eqLs, Option.some.injEq] at h; subst h
      simp only [hL] at h1 h2
      rw [h1, h2]; simp
    | cons u r => simp [eqLs] at h
  | s :: r, m, q, cs, ds, h, h1, h2 => by
    cases m with
    | nil => simp [eqLs] at h
    | cons u r' =>
      simp only [hL] at h1 h2
      obtain ⟨a, b, rfl, h1, h3⟩ := h1
      obtain ⟨c, d, rfl, h2, h4⟩ := h2
      have split : ∀ {p : DP}, eqS s u = some p → (a ++ b = c ++ d ↔ p.p ∧ b = d) := fun {p} hp => by
        have hl : a.length = c.length := by rw [h1.len, h2.len, eqS_sz hp]
        rw [← eqS_spec hp h1 h2]
        exact ⟨fun e => List.append_inj e hl, fun e => by rw [e.1, e.2]⟩
      cases r with
      | nil =>
        cases r' with
        | nil =>
          simp only [eqLs] at h
          rw [split h]
          simp only [hL] at h3 h4
          rw [h3, h4]; simp
        | cons _ _ => simp [eqLs] at h
      | cons s2 r2 =>
        unfold eqLs at h
        simp only at h
        split at h
        · rename_i p _ hp
          split at h
          · rename_i q' _ hq
            cases h
            rw [split hp, eqLs_spec hq h3 h4]
          · cases h
        · cases h
def eqKs : List (Option IntKind) → List (Option IntKind) → Bool
  | [], [] => true
  | none :: r, none :: r' => eqKs r r'
  | some k :: r, some k' :: r' => match eqK k k' with
    | true => eqKs r r'
    | false => false
  | _, _ => false
theorem eqKs_spec : ∀ {a b : List (Option IntKind)}, eqKs a b = true → a = b
  | [], [], _ => rfl
  | none :: r, none :: r', h => by rw [eqKs_spec (a := r) (b := r') h]
  | some k :: r, some k' :: r', h => by
    unfold eqKs at h
    split at h
    · rename_i hk
      simp only [eqK, decide_eq_true_eq] at hk
      rw [hk, eqKs_spec h]
    · cases h
  | [], _ :: _, h => by cases h
  | none :: _, [], h => by cases h
  | some _ :: _, [], h => by cases h
  | none :: _, some _ :: _, h => by cases h
  | some _ :: _, none :: _, h => by cases h
section
variable {S : Sig} {σ : Sg} {env : Env} {objs : List Ob} {nx : Nat} {o : Oper} {a : Act} {x y : Operand} {K : SV → Prop}
theorem run_eqA {op : BinOp} {t t' : TypeId} {ev : Operand → Value} {xs ys : Array Value} {r : Bool} (ho : o.op = .binOp op t x y t') (hx : ev x = .agg xs) (hy : ev y = .agg ys) (hg : P.eqGuardType P.depth t = false)
    (hop : op = .eql ∨ op = .neq) (he : ∀ w', (Op.equal t (.agg xs) (.agg ys)).run P w' = .ok r w') :
    ∀ w', (execOp ev o).run P w' = .ok (.value (.bool (if op = .eql then r else !r))) w' := fun w' => by
  have hgd : (eqGuard op t x y (.agg xs) (.agg ys)).run P w' = .ok () w' := by
    rcases hop with rfl | rfl <;> simp [eqGuard, hg]
  simp only [execOp, ho, hx, hy, Sem.run_bind, hgd, Result.andThen_ok]
  rcases hop with rfl | rfl
  · simp [binOp, he w']
  · simp [binOp, he w']
variable (P) in
def evEqA (op : BinOp) (T : Nat) (ps qs : List SV) (K : SV → Prop) : Prop := match memN (TabC.eqs P) T, ty P T with
  | true, some i => match i.row with
    | true => match kindsT P 9 T with
      | some k0 => match kL ps, kL qs with
        | some k1, some k2 => match eqKs k0 k1, eqKs k0 k2 with
          | true, true => evEq op (eqLs ps qs) K
          | _, _ => False
        | _, _ => False
      | none => False
    | false => False
  | _, _ => False
theorem evEqA_sound {op : BinOp} {T T' : TypeId} {ps qs : List SV} (ho : o.op = .binOp op T x y T') (hx : evx P env x = some (.agg ps)) (hy : evx P env y = some (.agg qs)) (h : evEqA P op T ps qs K) : PureK P S env objs nx o K := by
  unfold evEqA at h
  split at h
  · rename_i i hm hi
    split at h
    · rename_i hrow
      split at h
      · rename_i k0 hk0
        split at h
        · rename_i k1 k2 hk1 hk2
          split at h
          · rename_i e1 e2
            obtain rfl := eqKs_spec e1
            obtain rfl := eqKs_spec e2
            obtain ⟨d, hd, hcase⟩ := evEq_sound h
            have hguard := (eq_ok hm).2.2
            have run : ∀ {σ a w}, St P S σ env objs nx a w → (op = .eql ∨ op = .neq) → ∀ w', (execOp a.eval o).run P w' = .ok (.value (.bool (if op = .eql then @decide d.p d.i else !(@decide d.p d.i)))) w' := by
              intro σ a w hst hop
              obtain ⟨cs, e3, c1⟩ := hst.ev hx
              obtain ⟨ds, e4, c2⟩ := hst.ev hy
              refine run_eqA ho e3 e4 hguard hop fun w' => ?_
              obtain ⟨j, hj, _, _, heq⟩ := run_flat (P := P) (w := w') hk0
              rw [hi] at hj; cases hj
              obtain ⟨r, hr, hiff⟩ := heq _ _ (kL_fit hk1 c1) (kL_fit hk2 c2) 10000 (by omega)
              rw [hrow] at hr
              have : r = @decide d.p d.i := by
                have h3 := hiff.trans (eqLs_spec hd c1 c2)
                cases r
                · simp only [Bool.false_eq_true, false_iff] at h3
                  exact (@decide_eq_false _ d.i h3).symm
                · exact (@decide_eq_true _ d.i (h3.1 rfl)).symm
              rw [← this]; exact hr
            rcases hcase with ⟨rfl, hk⟩ | ⟨rfl, hk⟩
            · refine PureK.mk hk fun σ a w hst => ⟨_, hvD.2 rfl, ?_⟩
              have := run hst (.inl rfl)
              simpa using this
            · refine PureK.mk hk fun σ a w hst => ⟨.bool (!(@decide d.p d.i)), hvD.2 (by rw [notD_dec]), ?_⟩
              have := run hst (.inr rfl)
              simpa using this
          · exact h.elim
        · exact h.elim
      · exact h.elim
    · exact h.elim
  · exact h.elim
variable (P) in
def evBin2 (op : BinOp) (T : Nat) (s u : SV) (K : SV → Prop) : Prop := match s with
  | .agg ps => match u with
    | .agg qs => evEqA P op T ps qs K
    | _ => False
  | s => evBin P op T s u K
theorem evBin2_sound {op : BinOp} {T T' : TypeId} {s u : SV} (ho : o.op = .binOp op T x y T') (hx : evx P env x = some s) (hy : evx P env y = some u) (h : evBin2 P op T s u K) : PureK P S env objs nx o K := by
  unfold evBin2 at h
  split at h
  · split at h
    · exact evEqA_sound ho hx hy h
    · exact h.elim
  · exact evBin_sound ho hx hy h
end
end
end Go.Proofs.YtffaohckcggkdaaDoor

/- MY OWN ENGINE: a struct or an array; the plain operations and the loads, all of them. -/
namespace Go.Proofs.YtffaohckcggkdaaDoor
set_option linter.all false
open Go.RowKit
section
variable {P : Program} [TabC P] {S : Sig} {σ : Sg} {env : Env} {objs : List Ob} {nx : Nat} {o : Oper} {a : Act} {w : World} {x y : Operand} {K : SV → Prop}
theorem fill_congr {p q : Nat → Option (Nat × Nat)} (h : ∀ i x, p i = some x → q i = some x) : ∀ (parts : List (Nat × Value)) (C out : Array Value), Instr.fill p C parts = some out → Instr.fill q C parts = some out
  | [], C, out, h0 => h0
  | (i, v) :: r, C, out, h0 => by
    unfold Instr.fill at h0 ⊢
    split at h0
    · cases h0
    · rename_i off size hp
      rw [h _ _ hp]
      simp only
      split at h0
      · cases h0
      · rename_i hc
        rw [if_neg hc]
        exact fill_congr h r _ _ h0
theorem places_some (gs : List Field) (h : ∀ f ∈ gs, (P.info? f.type).isSome = true) : ∃ pl : List (Nat × Nat), gs.mapM (fun f : Field => (P.info? f.type).map fun i => (f.offset, i.size)) = some pl ∧ ∀ (i : Nat) (f : Field) (inf : TypeInfo), gs[i]? = some f → P.info? f.type = some inf → pl[i]? = some (f.offset, inf.size) := by
  induction gs with
  | nil => exact ⟨[], rfl, fun i f inf h => by simp at h⟩
  | cons g r ih =>
    obtain ⟨pl, h1, h2⟩ := ih (fun f hf => h f (List.mem_cons_of_mem _ hf))
    obtain ⟨inf, hi⟩ := Option.isSome_iff_exists.1 (h g (by simp))
    refine ⟨(g.offset, inf.size) :: pl, by simp [h1, hi], fun i f inf' hf hinf => ?_⟩
    cases i with
    | zero => simp at hf; subst hf; rw [hi] at hinf; cases hinf; rfl
    | succ i => simp at hf ⊢; exact h2 i f inf' hf hinf
theorem putsP_spec {k : TK} {tab : List TI} : ∀ {parts : List (Nat × Operand)} {ps ps' : List SV}, putsP P tab k env ps parts = some ps' → ∀ {C : Array Value} {σ a w}, St P S σ env objs nx a w → hL w (S.A σ objs) ps σ C.toList →
    ∃ C', Instr.fill (plc tab k) C (parts.map fun (i, x) => (i, a.eval x)) = some C' ∧ hL w (S.A σ objs) ps' σ C'.toList
  | [], ps, ps', h, C, σ, a, w, hst, hc => by simp only [putsP, Option.some.injEq] at h; subst h; exact ⟨C, rfl, hc⟩
  | (i, x) :: r, ps, ps', h, C, σ, a, w, hst, hc => by
    unfold putsP at h
    split at h
    · rename_i s hs
      split at h
      · rename_i ps1 hp
        obtain ⟨C1, h1, h2, _⟩ := putP_spec (rest := r.map fun (i, x) => (i, a.eval x)) hp hc (hst.ev hs)
        obtain ⟨C2, h3, h4⟩ := putsP_spec h hst h2
        exact ⟨C2, by rw [List.map_cons, h1, h3], h4⟩
      · cases h
    · cases h
variable (P) in
def evBuild (env : Env) (T : Nat) (parts : List (Nat × Operand)) (K : SV → Prop) : Prop := match ty P T with
  | some i => match i.row with
    | true => match zeroOf (TabC.tab P) 9 T with
      | some z => match putsP P (TabC.tab P) i.k env z parts with
        | some ps => frcL ps fun ps => K (.agg ps)
        | none => False
      | none => False
    | false => False
  | none => False
theorem evBuild_sound {T : TypeId} {parts : Array (Nat × Operand)} (ho : o.op = .build T parts) (h : evBuild P env T parts.toList K) : PureK P S env objs nx o K := by
  unfold evBuild at h
  split at h
  · rename_i i ht
    split at h
    · rename_i hr
      split at h
      · rename_i ck hz
        split at h
        · rename_i ps hput
          refine PureK.mk (frcL_k h) fun σ a w hst => ?_
          obtain ⟨inf, z, hi, hz0, _, hzc⟩ := zero_spec (P := P) hz
          obtain ⟨C', hfill, hC⟩ := putsP_spec hput hst (hzc w (S.A σ objs) σ)
          refine ⟨.agg C', ⟨C'.toList, by simp, hC⟩, fun w' => ?_⟩
          have hb : P.built T (parts.map fun (i, x) => (i, a.eval x)).toList = some C' := by
            obtain ⟨inf', d, hi', hd, _, _, hb, hall⟩ := ty_spec ht
            rw [hi] at hi'; cases hi'
            unfold Program.built
            rw [Array.toList_map]
            obtain ⟨k, sz, by0⟩ := i
            have hsize : ∀ (t : Nat) (j : TI), nth (TabC.tab P) t = some j → (P.info? t).map (·.size) = some j.size := fun t j hj => by
              obtain ⟨inf2, _, h2, _, h3, _, _, _⟩ := ty_spec (P := P) (t := t) (i := j) hj
              simp [h2, h3]
            cases k with
            | st fl =>
              cases d <;> simp [tkB] at hb
              rename_i gs
              simp only [hi, hd, hz0]
              obtain ⟨pl, h1', h2'⟩ := places_some (P := P) gs.toList (List.all_eq_true.1 hall)
              simp only [h1']
              refine fill_congr (fun i x hx => ?_) _ _ _ (by simpa using hfill)
              simp only [plc] at hx
              split at hx
              · rename_i off t hn
                split at hx
                · rename_i j hj
                  cases hx
                  rw [nth_eq, ← hb, List.getElem?_map] at hn
                  cases hg : gs.toList[i]? with
                  | none => simp [hg] at hn
                  | some f =>
                    simp only [hg, Option.map_some, Option.some.injEq, Prod.mk.injEq] at hn
                    obtain ⟨rfl, rfl⟩ := hn
                    have h3 := hsize _ _ hj
                    cases hinf : P.info? f.type with
                    | none => simp [hinf] at h3
                    | some inf3 =>
                      simp only [hinf, Option.map_some, Option.some.injEq] at h3
                      have := h2' i f inf3 hg hinf
                      rw [← h3]; simpa using this
                · cases hx
              · cases hx
            | ar n e =>
              cases d <;> simp [tkB] at hb
              obtain ⟨rfl, rfl⟩ := hb
              obtain ⟨ie, hinf⟩ := Option.isSome_iff_exists.1 hall
              simp only [hi, hd, hz0, hinf]
              refine fill_congr (fun i x hx => ?_) _ _ _ (by simpa using hfill)
              simp only [plc] at hx
              split at hx
              · rename_i j hj
                have h3 := hsize _ _ hj
                simp only [hinf, Option.map_some, Option.some.injEq] at h3
                rw [h3]; exact hx
              · cases hx
            | _ => simp [TI.row] at hr
          have := run_build w' T (parts.map fun (i, x) => (i, a.eval x)) _ hb
          simp [execOp, ho, this]
        · exact h.elim
      · exact h.elim
    · exact h.elim
  · exact h.elim
/-! ## bytes as a string -/
/-- the bytes that a slice holds -/
def asBytes (s : SV) (objs : List Ob) (K : List (BitVec 8) → Prop) : Prop := match s with
  | .fs 1 enc xs => Ex (fun l : List (BitVec 8) => xs.map enc = l.map eB) K
  | .own k => match lk objs k with
    | some (.row _ 1 enc xs) => Ex (fun l : List (BitVec 8) => xs.map enc = l.map eB) K
    | some (.frow 1 enc xs) => Ex (fun l : List (BitVec 8) => xs.map enc = l.map eB) K
    | some (.lits _ 1 els) => Ex (fun l : List (BitVec 8) => els = l.map eB) K
    | _ => False
  | .nils => K []
  | _ => False

/-! ## all plain operations -/
variable (P) in
def ev1 (env : Env) (x : Operand) (K : SV → Prop) : Prop := match evx P env x with
  | some s => K s
  | none => False
theorem ev1_spec {x : Operand} {K : SV → Prop} (h : ev1 P env x K) : ∃ s, evx P env x = some s ∧ K s := by
  unfold ev1 at h; split at h
  · exact ⟨_, by assumption, h⟩
  · exact h.elim
variable (P) in
/-- an operation that hangs on no world -/
def evPure (env : Env) (objs : List Ob) (op : Op) (K : SV → Prop) : Prop := match op with
  | .move x => ev1 P env x fun s => frc s K
  | .assign x => ev1 P env x fun s => frc s K
  | .pick c x y => ev1 P env c fun c => ev1 P env x fun s => ev1 P env y fun u => evPick c s u K
  | .unOp u _ x => ev1 P env x fun s => evUn u s K
  | .binOp b T x y _ => ev1 P env x fun s => ev1 P env y fun u => evBin2 P b T s u K
  | .convert src dst x => ev1 P env x fun s => evConv P src dst s K
  | .fieldAddr T x f => ev1 P env x fun s => evFieldAddr P T f s K
  | .field T x f => ev1 P env x fun s => evField P T f s K
  | .indexAddr T x y => ev1 P env x fun s => ev1 P env y fun u => evIndexAddr P objs T s u K
  | .index T x y => ev1 P env x fun s => ev1 P env y fun u => evIndex P T s u K
  | .extract x i => ev1 P env x fun s => evExtract s i K
  | .nilCheck x => ev1 P env x fun s => match notNil s with
    | true => frc s K
    | false => False
  | .build T ps => evBuild P env T ps.toList K
  | .slice T x lo hi mx => ev1 P env x fun s => match bndE P env lo, bndE P env hi, bndE P env mx with
    | some l, some h, some m => match mx, hi with
      | none, _ => evSlice P objs T s l h m K
      | some _, some _ => evSlice P objs T s l h m K
      | _, _ => False
    | _, _, _ => False
  | .call c => match c with
    | { callee := .builtin .len, args := ⟨[x]⟩, argTypes := ⟨[T]⟩ } => match ty P T with
      | some ⟨.ar _ _, _, _⟩ => evLen P objs T .undef K
      | _ => ev1 P env x fun s => evLen P objs T s K
    | { callee := .builtin .max, args := ⟨[x, y]⟩, .. } => ev1 P env x fun s => ev1 P env y fun u => evMM true s u K
    | { callee := .builtin .min, args := ⟨[x, y]⟩, .. } => ev1 P env x fun s => ev1 P env y fun u => evMM false s u K
    | { callee := .builtin .min, args := ⟨[x, y, z]⟩, .. } => ev1 P env x fun s => ev1 P env y fun u => ev1 P env z fun v => evMin3 s u v K
    | _ => False
  | _ => False
theorem evPure_sound (h : evPure P env objs o.op K) : PureK P S env objs nx o K := by
  unfold evPure at h
  split at h
  · rename_i ho; obtain ⟨s, hs, h⟩ := ev1_spec h; exact evMove_sound (.inl ho) hs h
  · rename_i ho; obtain ⟨s, hs, h⟩ := ev1_spec h; exact evMove_sound (.inr ho) hs h
  · rename_i ho; obtain ⟨c, hc, h⟩ := ev1_spec h; obtain ⟨s, hs, h⟩ := ev1_spec h; obtain ⟨u, hu, h⟩ := ev1_spec h; exact evPick_sound ho hc hs hu h
  · rename_i ho; obtain ⟨s, hs, h⟩ := ev1_spec h; exact evUn_sound ho hs h
  · rename_i ho; obtain ⟨s, hs, h⟩ := ev1_spec h; obtain ⟨u, hu, h⟩ := ev1_spec h; exact evBin2_sound ho hs hu h
  · rename_i ho; obtain ⟨s, hs, h⟩ := ev1_spec h; exact evConv_sound ho hs h
  · rename_i ho; obtain ⟨s, hs, h⟩ := ev1_spec h; exact evFieldAddr_sound ho hs h
  · rename_i ho; obtain ⟨s, hs, h⟩ := ev1_spec h; exact evField_sound ho hs h
  · rename_i ho; obtain ⟨s, hs, h⟩ := ev1_spec h; obtain ⟨u, hu, h⟩ := ev1_spec h; exact evIndexAddr_sound ho hs hu h
  · rename_i ho; obtain ⟨s, hs, h⟩ := ev1_spec h; obtain ⟨u, hu, h⟩ := ev1_spec h; exact evIndex_sound ho hs hu h
  · rename_i ho; obtain ⟨s, hs, h⟩ := ev1_spec h; exact evExtract_sound ho hs h
  · rename_i ho; obtain ⟨s, hs, h⟩ := ev1_spec h
    split at h
    · rename_i hn; exact evNilCheck_sound ho hs hn (frc_k h)
    · exact h.elim
  · rename_i ho; exact evBuild_sound ho h
  · rename_i ho; obtain ⟨s, hs, h⟩ := ev1_spec h
    split at h
    · rename_i hl hh hm
      split at h
      · exact evSlice_sound ho hs hl hh hm (.inl rfl) h
      · exact evSlice_sound ho hs hl hh hm (.inr (by simp)) h
      · exact h.elim
    · exact h.elim
  · rename_i ho
    split at h
    · split at h
      · rename_i n e _ _ ht
        unfold evLen at h
        rw [ht] at h
        simp only at h
        split at h
        · rename_i hlt
          have hlt' : n < 9223372036854775808 := by simpa [Nat.blt_eq] using hlt
          refine PureK.mk h fun σ a w hst => ⟨.int .i64 n, hvI.2 ⟨rfl, fun _ => ⟨by omega, by omega⟩⟩, fun w' => ?_⟩
          simp [execOp, ho, resolve, invoke, builtin, Builtin.len_, run_underlying (ty_array ht rfl), goInt]
        · exact h.elim
      · obtain ⟨s, hs, h⟩ := ev1_spec h; exact evLen_sound ho hs h
    · obtain ⟨s, hs, h⟩ := ev1_spec h; obtain ⟨u, hu, h⟩ := ev1_spec h; exact evMM_sound (mx := true) ho hs hu h
    · obtain ⟨s, hs, h⟩ := ev1_spec h; obtain ⟨u, hu, h⟩ := ev1_spec h; exact evMM_sound (mx := false) ho hs hu h
    · obtain ⟨s, hs, h⟩ := ev1_spec h; obtain ⟨u, hu, h⟩ := ev1_spec h; obtain ⟨v, hv, h⟩ := ev1_spec h; exact evMin3_sound ho hs hu hv h
    · exact h.elim
  · exact h.elim
variable (P) in
/-- an operation that reads -/
def evLd (env : Env) (objs : List Ob) (op : Op) (K : SV → Prop) : Prop := match op with
  | .load T x => ev1 P env x fun s => evLoad P objs T s K
  | _ => False
theorem evLd_sound (h : evLd P env objs o.op K) : LoadK P S env objs nx o K := by
  unfold evLd at h
  split at h
  · rename_i ho; obtain ⟨s, hs, h⟩ := ev1_spec h; exact evLoad_sound ho hs h
  · exact h.elim
end
end Go.Proofs.YtffaohckcggkdaaDoor

/- MY OWN ENGINE: what turns the state: ghost steps, new blocks, stores. -/
namespace Go.Proofs.YtffaohckcggkdaaDoor
set_option linter.all false
open Go.RowKit
section
variable {P : Program} [TabC P] {S : Sig} {σ : Sg} {env : Env} {objs : List Ob} {nx : Nat} {o : Oper} {a : Act} {w : World} {x y : Operand}
/-- the objects with another one in a name's place -/
def setO : List Ob → Nat → Nat → SO → Option (List Ob)
  | [], _, _, _ => none
  | (k, so) :: r, n, n', so' => match Nat.beq k n with
    | true => some ((n', so') :: r)
    | false => match setO r n n' so' with
      | some r' => some ((k, so) :: r')
      | none => none
theorem setO_spec : ∀ {l l' : List Ob} {n n' : Nat} {so so' : SO}, lk l n = some so → setO l n n' so' = some l' → SetO l (n, so) (n', so') l'
  | [], _, _, _, _, _, h, _ => by simp [lk] at h
  | (k, u) :: r, l', n, n', so, so', h, h2 => by
    unfold lk at h
    unfold setO at h2
    split at h
    · rename_i hb
      cases h
      rw [hb] at h2
      simp only [Option.some.injEq] at h2; subst h2
      obtain rfl := Nat.eq_of_beq_eq_true hb
      exact .here
    · rename_i hb
      rw [hb] at h2
      simp only at h2
      split at h2
      · rename_i r' hr
        simp only [Option.some.injEq] at h2; subst h2
        exact .there (setO_spec h hr)
      · cases h2
def setK (objs : List Ob) (n n' : Nat) (so : SO) (K : List Ob → Prop) : Prop := match setO objs n n' so with
  | some l => K l
  | none => False
/-! ## ghost steps -/
theorem SetO.owns_le {l m : List Ob} {p q : Ob} (h : SetO l p q m) (hq : ∀ b, q.2.own σ q.1 b → p.2.own σ p.1 b) : ∀ b, owns σ m b → owns σ l b := fun b hb => by
  obtain ⟨R, h1, h2, _⟩ := h.owns_iff (σ := σ)
  rcases (h2 b).1 hb with h | h
  · exact (h1 b).2 (.inl h)
  · exact (h1 b).2 (.inr (hq b h))
/-- an object said otherwise -/
theorem St.ghost {p q : Ob} {objs' : List Ob} (h : St P S σ env objs nx a w) (hs : SetO objs p q objs') (hq : q.2.holds w (S.A σ objs') σ q.1) (hqo : ∀ b, q.2.own σ q.1 b → p.2.own σ p.1 b) : St P S σ env objs' nx a w := by
  have hle := hs.owns_le hqo
  exact h.upd (M := fun _ => False) (Mod.refl _ w) (fun _ x => x.elim) (fun b hb => .inl (hle b hb)) (h.obs.set hs (Mod.refl _ w) hq (fun b hb => .inl (hqo b hb)) h.a0lt)
/-- a row that is written no more -/
theorem rowH.fs {A A' : Own} {k e z : Nat} {α : Type} {enc : α → List SV} {xs : List α} (h : rowH w A σ k e z (xs.map enc)) (hA : ∀ b, A' b → A b) (hv : ∀ b v, σ k = some v → blkO v = some b → ¬ A' b) : ∃ v, σ k = some v ∧ (SV.fs z enc xs).hc w A' sg0 [v] := by
  obtain ⟨v, cs, h0, h1, h2, h3, ho⟩ := h
  refine ⟨v, h0, ?_⟩
  rw [List.length_map] at *
  have hsz : ∀ i (h : i < xs.length), szL (enc xs[i]) = z := fun i hi => h1 _ (List.mem_map.2 ⟨_, List.getElem_mem hi, rfl⟩)
  have hmx : (140737488355328 : Nat) ≤ maxLen := by decide
  rcases ho.2 with ⟨rfl, hn⟩ | ⟨g, cap, cur, rfl, hb0, hg, hn, hc, hs, ht⟩
  · have : xs = [] := List.eq_nil_of_length_eq_zero hn
    subst this
    simp only [SV.hc]
    exact ⟨none, 0, rfl, Nat.le_refl _, by decide, fun _ => by simp, hsz, fun ad had => by cases had⟩
  · simp only [SV.hc, List.cons.injEq, and_true]
    refine ⟨some ⟨g, 0, none⟩, cap, rfl, hn, hc, fun h => (by cases h), hsz, fun ad had => ?_⟩
    simp only [Option.some.injEq] at had; subst had
    refine .inr ⟨rfl, hv g _ h0 rfl, cur, e, (0, 0), hg, fun i hi => ?_⟩
    have h4 := h3.get (z := z) h1 (i := i) (e := enc xs[i]) (by simp [hi])
    have h5 := hL.later (Later.own hA) _ _ _ h4
    have hmul : (i + 1) * z ≤ xs.length * z := Nat.mul_le_mul_right _ hi
    rw [Nat.add_mul, Nat.one_mul] at hmul
    rw [← ht, List.drop_take, List.take_take, Nat.min_eq_left (by omega)] at h5
    simpa using h5
/-- parts that bear no names -/
def noName : List SV → Bool
  | [] => true
  | .ptr _ _ :: _ => false
  | .own _ :: _ => false
  | .rptr _ _ _ _ :: _ => false
  | .cptr _ _ _ :: _ => false
  | .bsl _ _ _ _ :: _ => false
  | _ :: r => noName r
theorem noName_spec : ∀ {l : List SV}, noName l = true → ∀ {w : World} {A : Own} {σ σ' : Sg} {cs : List Value}, hL w A l σ cs → hL w A l σ' cs
  | [], _, w, A, σ, σ', cs, h => h
  | s :: r, hn, w, A, σ, σ', cs, h => by
    simp only [hL] at h ⊢
    obtain ⟨a, b, h1, h2, h3⟩ := h
    refine ⟨a, b, h1, ?_, noName_spec (l := r) (by cases s <;> simp_all [noName]) h3⟩
    cases s <;> first | exact h2 | (simp [noName] at hn) | (simp only [SV.hc] at h2 ⊢; exact h2)
/-- what is frozen: a row, a box -/
def frz (objs : List Ob) (k : Nat) (K : List Ob → Prop) : Prop := match lk objs k with
  | some (.row _ z enc xs) => setK objs k k (.frow z enc xs) K
  | some (.box T ps) => match noName ps with
    | true => setK objs k k (.fbox T ps) K
    | false => False
  | some (.frow _ _ _) => K objs
  | some (.fbox _ _) => K objs
  | _ => False
theorem own_disj {p q : Ob} {objs' : List Ob} (h : St P S σ env objs nx a w) (hs : SetO objs p q objs') (hq : ∀ b, ¬ q.2.own σ q.1 b) : ∀ b, p.2.own σ p.1 b → ¬ (S.A σ objs') b := fun b hb hx => by
  obtain ⟨R, h1, h2, h3⟩ := hs.owns_iff (σ := σ)
  rcases hx with hx | hx
  · exact (h.obs.lt b ((h1 b).2 (.inr hb))).2 hx
  · rcases (h2 b).1 hx with hR | hqq
    · exact h3 h.obs.disj b hR hb
    · exact hq b hqq
/-- the state's half of a ghost step -/
def GS (P : Program) [TabC P] (objs objs' : List Ob) : Prop := (∀ S env nx σ a w, St P S σ env objs nx a w → St P S σ env objs' nx a w) ∧ ∀ σ b, owns σ objs' b → owns σ objs b
theorem frz_sound {k : Nat} {K : List Ob → Prop} (h : frz objs k K) : ∃ objs', K objs' ∧ GS P objs objs' := by
  unfold frz setK at h
  split at h
  · rename_i e z α enc xs hk
    split at h
    · rename_i l hl
      have hs := setO_spec hk hl
      refine ⟨l, h, fun S env nx σ a w hst => ?_, fun σ => hs.owns_le (fun b hb => hb.elim)⟩
      have hd := own_disj hst hs (fun b hb => hb)
      exact hst.ghost hs (rowH.fs (lk_holds hst hk) (fun b hb => hb.imp id (hs.owns_le (fun b hb => hb.elim) b)) (fun b v h1 h2 => hd b ⟨v, h1, h2⟩)) (fun b hb => hb.elim)
    · exact h.elim
  · rename_i T ps hk
    split at h
    · rename_i hn
      split at h
      · rename_i l hl
        have hs := setO_spec hk hl
        refine ⟨l, h, fun S env nx σ a w hst => ?_, fun σ => hs.owns_le (fun b hb => hb.elim)⟩
        have hd := own_disj hst hs (fun b hb => hb)
        obtain ⟨b, cs, h1, h2, h3⟩ := lk_holds hst hk
        refine hst.ghost hs ⟨_, h1, ?_, b, rfl⟩ (fun b hb => hb.elim)
        simp only [SV.hc]
        refine ⟨b, 0, rfl, hd b ⟨_, h1, rfl⟩, _, T, (0, 0), h2, ?_⟩
        have h4 := noName_spec hn (σ' := sg0) (hL.later (Later.own (A := S.A σ objs) (A' := S.A σ l) fun b hb => hb.imp id (hs.owns_le (fun b hb => hb.elim) b)) _ _ _ h3)
        rw [← h3.len]; simpa using h4
      · exact h.elim
    · exact h.elim
  · exact ⟨objs, h, fun _ _ _ _ _ _ h => h, fun _ _ h => h⟩
  · exact ⟨objs, h, fun _ _ _ _ _ _ h => h, fun _ _ h => h⟩
  · exact h.elim

/-! ## operations that turn the state -/
abbrev KS := Env → List Ob → Nat → Prop
variable (P) in
def DoesK (S : Sig) (env : Env) (objs : List Ob) (nx : Nat) (o : Oper) (kept : Bool) (K : KS) : Prop :=
  ∀ σ a w, St P S σ env objs nx a w → ∀ (X : Act → World → Prop) (Q : Exit → Act → World → Prop), (∀ σ' env' objs' nx' a' w', K env' objs' nx' → St P S σ' env' objs' nx' a' w' → (kept = true → Kept w w') → X a' w') → o.wp P a w X Q
theorem DoesK.of {kept : Bool} {K : KS} {env' : Env} {objs' : List Ob} {nx' : Nat} (hk : K env' objs' nx') (h : ∀ σ a w, St P S σ env objs nx a w → ∃ r v w' σ', (execOp a.eval o).run P w = .ok r w' ∧ (r = .value v ∨ (r = .skip ∧ v = undef)) ∧ St P S σ' env' objs' nx' (a.put o.dst v) w' ∧ (kept = true → Kept w w')) : DoesK P S env objs nx o kept K := fun σ a w hst X Q hX => by
  obtain ⟨r, v, w', σ', hrun, hr, hst', hkp⟩ := h σ a w hst
  unfold Oper.wp; rw [hrun]
  rcases hr with rfl | ⟨rfl, rfl⟩
  · exact hX _ _ _ _ _ _ hk hst' hkp
  · exact hX _ _ _ _ _ _ hk hst' hkp
/-- a new block of one's own -/
theorem St.newBox (h : St P S σ env objs nx a w) {C : Array Value} {T : TypeId} {ps : List SV} (hC : hL w (S.A σ objs) ps σ C.toList) :
    St P S (σ.set nx (.pointer (some ⟨w.heap.size, 0, none⟩))) env ((nx, .box T ps) :: objs) (nx + 1) a (w.alloc (.cells C T)) := by
  have h1 := h.name (.pointer (some ⟨w.heap.size, 0, none⟩))
  have hle := Sg.le_set (σ := σ) (v := .pointer (some ⟨w.heap.size, 0, none⟩)) (h.dom nx (Nat.le_refl _))
  have hown : ∀ b, owns (σ.set nx (.pointer (some ⟨w.heap.size, 0, none⟩))) ((nx, .box T ps) :: objs) b → owns (σ.set nx (.pointer (some ⟨w.heap.size, 0, none⟩))) objs b ∨ w.heap.size ≤ b := fun b hb => by
    rcases hb with ⟨v, hv, hb⟩ | hb
    · simp only [Sg.set_self, Option.some.injEq] at hv
      subst hv; simp only [blkO, Option.some.injEq] at hb; subst hb
      exact .inr (Nat.le_refl _)
    · exact .inl hb
  refine h1.upd (M := fun _ => False) (Mod.alloc _ w _) (fun _ x => x.elim) hown (h1.obs.cons (Mod.alloc _ w _) ?_ (fun b hb => ?_) h.a0lt)
  · refine ⟨w.heap.size, C.toList, Sg.set_self _ _ _, by simpa using heap_alloc_new w _, ?_⟩
    have e1 := hL.names _ _ hle hC
    refine hL.later ?_ _ _ _ e1
    refine (Mod.alloc (fun _ => False) w (.cells C T)).later (fun _ x => x.elim) (fun b hb hx => hx.imp id fun hx => ?_)
    have := (hown b hx).resolve_right (by omega)
    exact (owns_names hle h.obs.holds b).1 this
  · obtain ⟨v, hv, hb⟩ := hb
    simp only [Sg.set_self, Option.some.injEq] at hv
    subst hv; simp only [blkO, Option.some.injEq] at hb; subst hb
    exact Nat.le_refl _
variable (P) in
def dstK (n : Nat) (d : Option Nat) (K : Nat → Prop) : Prop := match d with
  | some d => match Nat.blt d n with
    | true => K d
    | false => False
  | none => False
theorem dstK_spec {n : Nat} {d : Option Nat} {K : Nat → Prop} (h : dstK n d K) : ∃ k, d = some k ∧ k < n ∧ K k := by
  unfold dstK at h
  split at h
  · split at h
    · rename_i hb; exact ⟨_, rfl, by simpa [Nat.blt_eq] using hb, h⟩
    · exact h.elim
  · exact h.elim
variable (P) in
def evAlloc (n : Nat) (dst : Option Nat) (env : Env) (objs : List Ob) (nx : Nat) (T : Nat) (K : KS) : Prop := dstK n dst fun d => match zeroOf (TabC.tab P) 9 T with
  | some z => frcL z fun z => K ((d, .ptr nx 0) :: env) ((nx, .box T z) :: objs) (nx + 1)
  | none => False
theorem ptr_self {A : Own} (k : Nat) (b : Nat) : (SV.ptr k 0).hv w A (σ.set k (.pointer (some ⟨b, 0, none⟩))) (.pointer (some ⟨b, 0, none⟩)) := ⟨b, 0, Sg.set_self _ _ _, rfl⟩
theorem evAlloc_sound {T : TypeId} {K : KS} (ho : o.op = .alloc T) (h : evAlloc P S.n o.dst env objs nx T K) : DoesK P S env objs nx o true K := by
  obtain ⟨d, hd, hlt, h⟩ := dstK_spec h
  split at h
  · rename_i z hz
    obtain ⟨inf, zv, hi, hz0, _, hzc⟩ := zero_spec (P := P) hz
    refine DoesK.of (frcL_k (K := fun z => K ((d, .ptr nx 0) :: env) ((nx, .box T z) :: objs) (nx + 1)) h) fun σ a w hst => ⟨.value (.pointer (some ⟨w.heap.size, 0, none⟩)), _, w.alloc (.cells zv.cells T), σ.set nx (.pointer (some ⟨w.heap.size, 0, none⟩)), ?_, .inl rfl, ?_, fun _ => Mod.alloc _ w _⟩
    · simp [execOp, ho, Instr.alloc, zeroValue, typeInfo, hi, hz0, newVar, newRow]
    · rw [hd]
      exact (hst.newBox (hzc w _ _)).put hlt (ptr_self nx _)
  · exact h.elim
variable (P) in
def evBox (n : Nat) (dst : Option Nat) (env : Env) (objs : List Ob) (nx : Nat) (T : Nat) (s : SV) (K : KS) : Prop := dstK n dst fun d => match prt s with
  | some ps => frcL ps fun ps => K ((d, .ptr nx 0) :: env) ((nx, .box T ps) :: objs) (nx + 1)
  | none => False
theorem evBox_sound {T : TypeId} {s : SV} {K : KS} (ho : o.op = .box T x) (hx : evx P env x = some s) (h : evBox S.n o.dst env objs nx T s K) : DoesK P S env objs nx o true K := by
  obtain ⟨d, hd, hlt, h⟩ := dstK_spec h
  split at h
  · rename_i ps hps
    refine DoesK.of (frcL_k (K := fun z => K ((d, .ptr nx 0) :: env) ((nx, .box T z) :: objs) (nx + 1)) h) fun σ a w hst => ⟨.value (.pointer (some ⟨w.heap.size, 0, none⟩)), _, w.alloc (.cells (a.eval x).cells T), σ.set nx (.pointer (some ⟨w.heap.size, 0, none⟩)), ?_, .inl rfl, ?_, fun _ => Mod.alloc _ w _⟩
    · simp [execOp, ho, Instr.box, newVar, newRow]
    · rw [hd]
      exact (hst.newBox (prt_spec hps (hst.ev hx))).put hlt (ptr_self nx _)
  · exact h.elim
end
end Go.Proofs.YtffaohckcggkdaaDoor

/- MY OWN ENGINE: stores. -/
namespace Go.Proofs.YtffaohckcggkdaaDoor
set_option linter.all false
open Go.RowKit
section
variable {P : Program} [TabC P] {S : Sig} {σ : Sg} {env : Env} {objs : List Ob} {nx : Nat} {o : Oper} {a : Act} {w : World} {x y : Operand} {K : KS}
theorem run_storeVar_at {T : Nat} {i : TI} (ht : ty P T = some i) {w : World} {b off : Nat} {C : Array Value} {t' : TypeId} (hg : w.heap[b]? = some (.cells C t' (0, 0)))
    {v : Value} {l : List Value} (hv : v.cells.toList = l) (hs : l.length = i.size) (hfit : off + l.length ≤ C.size) (h1 : ∀ u ∈ l, u.oneCell' = true) :
    (storeVar T ⟨b, off, none⟩ v).run P w = .ok () (w.setRow b (C.toList.take off ++ l ++ C.toList.drop (off + l.length)).toArray) := by
  have hst := run_storeCells_at P b off t' l 0 C w hg (by simpa using hfit) h1
  simp only [Nat.add_zero] at hst
  have hsz : v.cells.size = i.size := by rw [← hs, ← hv]; simp
  simp [storeVar, run_sizeOf' ht, hsz, hv, hst]
/-- a box turned -/
theorem box_turn {k T' : Nat} {ps ps' : List SV} {objs' : List Ob} {T : Nat} {i : TI} {off : Nat} (ho : o.op = .store T x y) (hd : o.dst = none) (ht : ty P T = some i) (hk : lk objs k = some (.box T' ps)) (hl : setO objs k k (.box T' ps') = some objs') (hK : K env objs' nx)
    (hx : ∀ {σ a w}, St P S σ env objs nx a w → ∀ b, σ k = some (.pointer (some ⟨b, 0, none⟩)) → a.eval x = .pointer (some ⟨b, off, none⟩))
    (hv : ∀ {σ a w cs}, St P S σ env objs nx a w → hL w (S.A σ objs) ps σ cs → (a.eval y).cells.toList.length = i.size ∧ (∀ u ∈ (a.eval y).cells.toList, u.oneCell' = true) ∧ off + i.size ≤ cs.length ∧
      hL w (S.A σ objs) ps' σ (cs.take off ++ (a.eval y).cells.toList ++ cs.drop (off + (a.eval y).cells.toList.length))) : DoesK P S env objs nx o false K := by
  have hs := setO_spec hk hl
  refine DoesK.of hK fun σ a w hst => ?_
  obtain ⟨b, cs, h1, h2, h3⟩ := lk_holds hst hk
  obtain ⟨v1, v2, v3, v4⟩ := hv hst h3
  have hrun := run_storeVar_at (P := P) ht h2 rfl v1 (by rw [v1]; simpa using v3) v2
  have hm := Mod.setRow w b (cs.take off ++ (a.eval y).cells.toList ++ cs.drop (off + (a.eval y).cells.toList.length)).toArray
  obtain ⟨R, e1, e2, _⟩ := hs.owns_iff (σ := σ)
  have hbown : ∀ so : SO, (∃ ps, so = .box T' ps) → ∀ c, so.own σ k c ↔ c = b := by
    rintro so ⟨ps, rfl⟩ c
    simp only [SO.own, h1, Option.some.injEq]
    constructor
    · rintro ⟨v, rfl, h⟩; simp only [blkO, Option.some.injEq] at h; exact h.symm
    · rintro rfl; exact ⟨_, rfl, rfl⟩
  have hM : ∀ c, c = b → owns σ objs c := fun c hc => (e1 c).2 (.inr ((hbown _ ⟨ps, rfl⟩ c).2 hc))
  have hown : ∀ c, owns σ objs' c → owns σ objs c ∨ w.heap.size ≤ c := fun c hc => .inl ((e1 c).2 (((e2 c).1 hc).imp id fun h => (hbown _ ⟨ps, rfl⟩ c).2 ((hbown _ ⟨ps', rfl⟩ c).1 h)))
  refine ⟨.skip, undef, w.setRow b (cs.take off ++ (a.eval y).cells.toList ++ cs.drop (off + (a.eval y).cells.toList.length)).toArray, σ, ?_, .inr ⟨rfl, rfl⟩, ?_, fun e => by cases e⟩
  · simp only [execOp, ho, hx hst b h1, Instr.storeAt, Instr.sureAddr, Sem.run_bind, Sem.run_pure, Result.andThen_ok, hrun]
  · rw [hd]
    refine hst.upd hm hM hown (hst.obs.set hs (hm.mono fun c hc => (hbown _ ⟨ps, rfl⟩ c).2 hc) ⟨b, _, h1, setRow_heap w b _ _ T' _ h2, ?_⟩ (fun c hc => .inl ((hbown _ ⟨ps, rfl⟩ c).2 ((hbown _ ⟨ps', rfl⟩ c).1 hc))) hst.a0lt)
    exact hL.later (hst.lat hm hM hown) _ _ _ v4
theorem hE_set {A : Own} {z size off : Nat} {qs e e' : List SV} {ds : List Value} (hs : setP e off size qs = some e') (hd : hL w A qs σ ds) : ∀ {els : List (List SV)} {cs : List Value} {q : Nat}, hE w A σ els cs → (∀ e ∈ els, szL e = z) → els[q]? = some e →
    hE w A σ (els.set q e') (cs.take (q * z + off) ++ ds ++ cs.drop (q * z + off + ds.length)) ∧ ds.length = size ∧ q * z + off + size ≤ cs.length ∧ szL e' = z
  | [], cs, q, h, hz, hq => by simp at hq
  | e0 :: r, cs, 0, ⟨c, rest, hcs, h1, hr⟩, hz, hq => by
    subst hcs
    simp only [List.getElem?_cons_zero, Option.some.injEq] at hq; subst hq
    obtain ⟨s1, s2, s3, s4⟩ := setP_spec hs h1 hd
    have hcz : c.length = z := by rw [h1.len]; exact hz _ (by simp)
    refine ⟨?_, s2, by rw [List.length_append]; omega, by rw [s4]; exact hz _ (by simp)⟩
    simp only [Nat.zero_mul, Nat.zero_add, List.set_cons_zero, hE]
    refine ⟨_, rest, ?_, s1, hr⟩
    rw [List.take_append_of_le_length (by omega), List.drop_append_of_le_length (by omega)]
    simp [List.append_assoc]
  | e0 :: r, cs, q + 1, ⟨c, rest, hcs, h1, hr⟩, hz, hq => by
    subst hcs
    simp only [List.getElem?_cons_succ] at hq
    have hcz : c.length = z := by rw [h1.len]; exact hz _ (by simp)
    obtain ⟨s1, s2, s3, s4⟩ := hE_set hs hd hr (fun e he => hz e (List.mem_cons_of_mem _ he)) hq
    have e1 : (q + 1) * z + off = c.length + (q * z + off) := by rw [Nat.add_mul, Nat.one_mul]; omega
    refine ⟨?_, s2, by rw [List.length_append]; omega, s4⟩
    simp only [List.set_cons_succ, hE]
    refine ⟨c, _, ?_, h1, s1⟩
    rw [e1, List.take_length_add_append, Nat.add_assoc, ← List.drop_drop, List.drop_left]
    simp [List.append_assoc]
/-- a row turned -/
theorem row_turn {k e z q off : Nat} {els : List (List SV)} {so so' : SO} {pe pe' qs : List SV} {objs' : List Ob} {T : Nat} {i : TI} {s : SV} (ho : o.op = .store T x y) (hd : o.dst = none) (ht : ty P T = some i) (hk : lk objs k = some so) (hl : setO objs k k so' = some objs') (hK : K env objs' nx)
    (hso : ∀ w A σ, so.holds w A σ k ↔ rowH w A σ k e z els) (hso' : ∀ w A σ, so'.holds w A σ k ↔ rowH w A σ k e z (els.set q pe')) (hown : ∀ σ b, so.own σ k b ↔ ∃ v, σ k = some v ∧ blkO v = some b) (hown' : ∀ σ b, so'.own σ k b ↔ ∃ v, σ k = some v ∧ blkO v = some b)
    (hx : evx P env x = some (.rptr k q z off)) (hy : evx P env y = some s) (hq : els[q]? = some pe) (hp : prt s = some qs) (hnn : noName qs = true) (hset : setP pe off i.size qs = some pe') : DoesK P S env objs nx o false K := by
  have hs := setO_spec hk hl
  refine DoesK.of hK fun σ a w hst => ?_
  have hh := (hso _ _ _).1 (lk_holds hst hk)
  have hq' : q < els.length := (List.getElem?_eq_some_iff.1 hq).1
  have hlen47 : els.length ≤ 140737488355328 := by obtain ⟨_, _, _, _, h, _⟩ := hh; exact h
  obtain ⟨g, cap, cur, f1, f2, f3, f4, f5, f6, f7⟩ := hh.form hq'
  obtain ⟨g', l, c, e1, e2⟩ := rptr_ev hx hst
  rw [f1] at e1; cases e1
  have hval := noName_spec hnn (σ' := sg0) (prt_spec hp (hst.ev hy))
  obtain ⟨s1, s2, s3, s4⟩ := hE_set hset hval f6 f7 hq
  have hone := hL.one _ _ _ hval
  have s2' : (a.eval y).cells.size = i.size := by simpa using s2
  have hcl : (cur.toList.take (els.length * z)).length = els.length * z := by rw [List.length_take]; have := Nat.mul_le_mul_right z f3; simp; omega
  rw [hcl] at s3
  have hcap : els.length * z ≤ cap * z := Nat.mul_le_mul_right z f3
  have hfit : q * z + off + (a.eval y).cells.toList.length ≤ cur.size := by rw [s2, f5]; omega
  have hrun := run_storeVar_at (P := P) ht f2 (off := q * z + off) rfl s2 hfit hone
  have hm := Mod.setRow w g (cur.toList.take (q * z + off) ++ (a.eval y).cells.toList ++ cur.toList.drop (q * z + off + (a.eval y).cells.toList.length)).toArray
  obtain ⟨R, r1, r2, _⟩ := hs.owns_iff (σ := σ)
  have hb : ∀ b, (∃ v, σ k = some v ∧ blkO v = some b) ↔ b = g := fun b => by
    rw [f1]
    constructor
    · rintro ⟨v, hv, h⟩; cases hv; simp only [blkO, Option.some.injEq] at h; exact h.symm
    · rintro rfl; exact ⟨_, rfl, rfl⟩
  have hM : ∀ c, c = g → owns σ objs c := fun c hc => (r1 c).2 (.inr ((hown σ c).2 ((hb c).2 hc)))
  have how : ∀ c, owns σ objs' c → owns σ objs c ∨ w.heap.size ≤ c := fun c hc => .inl ((r1 c).2 (((r2 c).1 hc).imp id fun h => (hown σ c).2 ((hown' σ c).1 h)))
  refine ⟨.skip, undef, w.setRow g (cur.toList.take (q * z + off) ++ (a.eval y).cells.toList ++ cur.toList.drop (q * z + off + (a.eval y).cells.toList.length)).toArray, σ, ?_, .inr ⟨rfl, rfl⟩, ?_, fun e => by cases e⟩
  · simp only [execOp, ho, e2, Instr.storeAt, Instr.sureAddr, Sem.run_bind, Sem.run_pure, Result.andThen_ok, hrun]
  · rw [hd]
    refine hst.upd hm hM how (hst.obs.set hs (hm.mono fun c hc => (hown σ c).2 ((hb c).2 hc)) ((hso' _ _ _).2 ?_) (fun c hc => .inl ((hown σ c).2 ((hown' σ c).1 hc))) hst.a0lt)
    refine ⟨_, _, f1, fun e' he' => ?_, by simpa using hlen47, s1.later (hst.lat hm hM how), ?_⟩
    · rcases List.mem_or_eq_of_mem_set he' with h | h
      · exact f7 _ h
      · rw [h]; exact s4
    · have hcur : ((cur.toList.take (q * z + off) ++ (a.eval y).cells.toList ++ cur.toList.drop (q * z + off + (a.eval y).cells.toList.length)).toArray.toList.take (els.length * z)) = (cur.toList.take (els.length * z)).take (q * z + off) ++ (a.eval y).cells.toList ++ (cur.toList.take (els.length * z)).drop (q * z + off + (a.eval y).cells.toList.length) := by
        rw [List.take_take, Nat.min_eq_left (by omega), List.drop_take]
        rw [List.take_append, List.take_append]
        have : (List.take (q * z + off) cur.toList).length = q * z + off := by simp; omega
        rw [List.take_of_length_le (l := List.take (q * z + off) cur.toList) (by omega), List.take_of_length_le (l := (a.eval y).cells.toList) (by omega)]
        congr 1
        rw [List.length_append, this, s2]
      refine ⟨?_, .inr ⟨g, cap, (cur.toList.take (q * z + off) ++ (a.eval y).cells.toList ++ cur.toList.drop (q * z + off + (a.eval y).cells.toList.length)).toArray, by simp, Nat.zero_le _, setRow_heap w g cur _ e _ f2, by simpa using f3, f4, ?_, ?_⟩⟩
      · simp only [List.length_append, List.length_take, List.length_drop, List.length_set, Array.length_toList]
        have := f5; omega
      · simp only [List.size_toArray, List.length_append, List.length_take, List.length_drop, Array.length_toList]
        have := f5; omega
      · rw [← hcur]; simp
end
end Go.Proofs.YtffaohckcggkdaaDoor

/- MY OWN ENGINE: stores, by what stands at the address. -/
namespace Go.Proofs.YtffaohckcggkdaaDoor
set_option linter.all false
open Go.RowKit
section
variable {P : Program} [TabC P] {S : Sig} {σ : Sg} {env : Env} {objs : List Ob} {nx : Nat} {o : Oper} {a : Act} {w : World} {x y : Operand} {K : KS}
theorem setK_spec {n n' : Nat} {so' : SO} {K : List Ob → Prop} (h : setK objs n n' so' K) : ∃ l, setO objs n n' so' = some l ∧ K l := by
  unfold setK at h; split at h
  · exact ⟨_, by assumption, h⟩
  · exact h.elim
def stCell (ps : List SV) (off q : Nat) (v : SV) (K : List SV → Prop) : Prop := match takeP ps off with
  | some (a, @SV.arr8 n y :: r) => match v with
    | .u8 x => Idx (q < n) fun h => match app2 a (.arr8 (y.set q x h) :: r) with
      | some ps' => K ps'
      | none => False
    | _ => False
  | some (a, @SV.arr32 n y :: r) => match v with
    | .u32 x => Idx (q < n) fun h => match app2 a (.arr32 (y.set q x h) :: r) with
      | some ps' => K ps'
      | none => False
    | _ => False
  | _ => False
theorem cell_set {c d1 c2 : List Value} {L : List Value} {q : Nat} {f : List Value} {v : Value} (hq : q < d1.length) : (c ++ (d1 ++ c2)).take (c.length + q) ++ [v] ++ (c ++ (d1 ++ c2)).drop (c.length + q + [v].length) = c ++ (d1.set q v ++ c2) := by
  rw [set_chunk (by simp; omega)]
  rw [List.set_append_right _ _ (by omega), Nat.add_sub_cancel_left, List.set_append_left _ _ hq]
theorem stCell_spec {ps : List SV} {off q : Nat} {v : SV} {K : List SV → Prop} (h : stCell ps off q v K) : ∃ ps', K ps' ∧ ∀ {w A σ cs u}, hL w A ps σ cs → v.hv w A σ u → u.cells.toList = [u] ∧ u.oneCell' = true ∧ off + q + 1 ≤ cs.length ∧ hL w A ps' σ (cs.take (off + q) ++ [u] ++ cs.drop (off + q + [u].length)) := by
  unfold stCell at h
  split at h
  · rename_i a n y r ht
    split at h
    · rename_i x
      obtain ⟨hq, h⟩ := h
      split at h
      · rename_i ps' ha
        obtain rfl := app2_eq ha
        refine ⟨_, h, fun {w A σ cs u} hc hv => ?_⟩
        obtain rfl := hv8.1 hv
        obtain ⟨rfl, h1⟩ := takeP_spec ht
        obtain ⟨c1, c2, rfl, hc1, hc2⟩ := hL.split hc
        simp only [hL] at hc2
        obtain ⟨d1, d2, rfl, hd1, hd2⟩ := hc2
        have e1 := hc1.len; have e2 := hd1.len
        simp only [SV.sz] at e2
        refine ⟨rfl, rfl, by simp only [List.length_append]; omega, ?_⟩
        rw [← h1, ← e1, cell_set (L := []) (f := []) (by omega)]
        refine hc1.append ?_
        simp only [hL]
        refine ⟨_, d2, rfl, ?_, hd2⟩
        simp only [SV.hc] at hd1 ⊢
        rw [hd1]; simp [Vector.toList_set, List.map_set]
      · exact h.elim
    · exact h.elim
  · rename_i a n y r ht
    split at h
    · rename_i x
      obtain ⟨hq, h⟩ := h
      split at h
      · rename_i ps' ha
        obtain rfl := app2_eq ha
        refine ⟨_, h, fun {w A σ cs u} hc hv => ?_⟩
        obtain rfl := hv32.1 hv
        obtain ⟨rfl, h1⟩ := takeP_spec ht
        obtain ⟨c1, c2, rfl, hc1, hc2⟩ := hL.split hc
        simp only [hL] at hc2
        obtain ⟨d1, d2, rfl, hd1, hd2⟩ := hc2
        have e1 := hc1.len; have e2 := hd1.len
        simp only [SV.sz] at e2
        refine ⟨rfl, rfl, by simp only [List.length_append]; omega, ?_⟩
        rw [← h1, ← e1, cell_set (L := []) (f := []) (by omega)]
        refine hc1.append ?_
        simp only [hL]
        refine ⟨_, d2, rfl, ?_, hd2⟩
        simp only [SV.hc] at hd1 ⊢
        rw [hd1]; simp [Vector.toList_set, List.map_set]
      · exact h.elim
    · exact h.elim
  · exact h.elim
variable (P) in
def evStore (dst : Option Nat) (env : Env) (objs : List Ob) (nx : Nat) (T : Nat) (s v : SV) (K : KS) : Prop := match dst with
  | some _ => False
  | none => match ty P T with
    | none => False
    | some j => match s with
      | .ptr k off => match lk objs k with
        | some (.box T' ps) => match prt v with
          | some qs => match setP ps off j.size qs with
            | some ps' => frcL ps' fun ps' => setK objs k k (.box T' ps') fun o => K env o nx
            | none => False
          | none => False
        | _ => False
      | .cptr k off q => match Nat.beq j.size 1 with
        | true => match lk objs k with
          | some (.box T' ps) => stCell ps off q v fun ps' => frcL ps' fun ps' => setK objs k k (.box T' ps') fun o => K env o nx
          | _ => False
        | false => False
      | .rptr k q z off => match prt v with
        | some qs => match noName qs with
          | true => match lk objs k with
            | some (.row e z' enc xs) => match Nat.beq z z' with
              | true => Idx (q < xs.length) fun h => match setP (enc xs[q]) off j.size qs with
                | some pe => frcL pe fun pe => Ex (fun x' => enc x' = pe) fun x' => setK objs k k (.row e z enc (xs.set q x')) fun o => K env o nx
                | none => False
              | false => False
            | some (.lits e z' els) => match Nat.beq z z', evLoad.nth' els q with
              | true, some pe0 => match setP pe0 off j.size qs with
                | some pe => frcL pe fun pe => setK objs k k (.lits e z (els.set q pe)) fun o => K env o nx
                | none => False
              | _, _ => False
            | _ => False
          | false => False
        | none => False
      | _ => False
theorem evStore_sound {T : TypeId} {s v : SV} (ho : o.op = .store T x y) (hx : evx P env x = some s) (hy : evx P env y = some v) (h : evStore P o.dst env objs nx T s v K) : DoesK P S env objs nx o false K := by
  unfold evStore at h
  split at h
  · exact h.elim
  · rename_i hd
    split at h
    · exact h.elim
    · rename_i j ht
      split at h
      · rename_i k off
        split at h
        · rename_i T' ps hk
          split at h
          · rename_i qs hp
            split at h
            · rename_i ps' hset
              obtain ⟨l, hl, hK⟩ := setK_spec (frcL_k (K := fun ps' => setK objs k k (.box T' ps') fun o => K env o nx) h)
              refine box_turn (off := off) ho hd ht hk hl hK (fun hst b hb => ?_) (fun {σ a w cs} hst hc => ?_)
              · obtain ⟨b', c, h1, h2⟩ := ptr_ev hx hst
                rw [hb] at h1; cases h1
                simpa using h2
              · have hv := prt_spec hp (hst.ev hy)
                obtain ⟨h1, h2, h3, h4⟩ := setP_spec hset hc hv
                exact ⟨h2, hL.one _ _ _ hv, h3, h1⟩
            · exact h.elim
          · exact h.elim
        · exact h.elim
      · rename_i k off q
        split at h
        · rename_i hz
          split at h
          · rename_i T' ps hk
            obtain ⟨ps', h, hspec⟩ := stCell_spec h
            obtain ⟨l, hl, hK⟩ := setK_spec (frcL_k (K := fun ps' => setK objs k k (.box T' ps') fun o => K env o nx) h)
            have hz' := Nat.eq_of_beq_eq_true hz
            refine box_turn (off := off + q) ho hd ht hk hl hK (fun hst b hb => ?_) (fun {σ a w cs} hst hc => ?_)
            · obtain ⟨b', c, h1, h2⟩ := cptr_ev hx hst
              rw [hb] at h1; cases h1
              simpa using h2
            · obtain ⟨h1, h2, h3, h4⟩ := hspec hc (hst.ev hy)
              rw [h1, hz']
              exact ⟨rfl, fun u hu => by rw [List.mem_singleton] at hu; rw [hu]; exact h2, h3, h4⟩
          · exact h.elim
        · exact h.elim
      · rename_i k q z off
        split at h
        · rename_i qs hp
          split at h
          · rename_i hn
            split at h
            · rename_i e z' α enc xs hk
              split at h
              · rename_i hz
                obtain rfl := Nat.eq_of_beq_eq_true hz
                obtain ⟨hq, h⟩ := h
                split at h
                · rename_i pe hset
                  obtain ⟨x', hx', h⟩ := frcL_k (K := fun pe => Ex (fun x' => enc x' = pe) fun x' => setK objs k k (.row e z enc (xs.set q x')) fun o => K env o nx) h
                  obtain ⟨l, hl, hK⟩ := setK_spec h
                  refine row_turn (els := xs.map enc) (q := q) (pe' := pe) ho hd ht hk hl hK (fun w A σ => Iff.rfl) (fun w A σ => ?_) (fun σ b => Iff.rfl) (fun σ b => Iff.rfl) hx hy (by simp [hq]) hp hn hset
                  rw [← hx', ← List.map_set]; exact Iff.rfl
                · exact h.elim
              · exact h.elim
            · rename_i e z' els hk
              split at h
              · rename_i pe0 hz hq
                obtain rfl := Nat.eq_of_beq_eq_true hz
                rw [nth'_eq] at hq
                split at h
                · rename_i pe hset
                  obtain ⟨l, hl, hK⟩ := setK_spec (frcL_k (K := fun pe => setK objs k k (.lits e z (els.set q pe)) fun o => K env o nx) h)
                  exact row_turn (els := els) (q := q) (pe' := pe) ho hd ht hk hl hK (fun w A σ => Iff.rfl) (fun w A σ => Iff.rfl) (fun σ b => Iff.rfl) (fun σ b => Iff.rfl) hx hy hq hp hn hset
                · exact h.elim
              · exact h.elim
            · exact h.elim
          · exact h.elim
        · exact h.elim
      · exact h.elim
end
end Go.Proofs.YtffaohckcggkdaaDoor

/- MY OWN ENGINE: slice literals, append. -/
namespace Go.Proofs.YtffaohckcggkdaaDoor
set_option linter.all false
open Go.RowKit
abbrev eI (n : Int) : List SV := [.int .i64 n]
section
variable {P : Program} [TabC P] {S : Sig} {σ : Sg} {env : Env} {objs : List Ob} {nx : Nat} {o : Oper} {a : Act} {w : World} {x y : Operand} {K : KS}
/-! ## what is laid into rows bears no names -/
/-- literals of bytes or ints that are frozen -/
def frzL (objs : List Ob) (k : Nat) (K : List Ob → Prop) : Prop := match lk objs k with
  | some (.lits e z els) => match els with
    | [.u8 _] :: _ => match Nat.beq z 1 with
      | true => Ex (fun l : List (BitVec 8) => els = l.map eB) fun l => setK objs k k (.frow 1 eB l) K
      | false => False
    | [.int .i64 _] :: _ => match Nat.beq z 1 with
      | true => Ex (fun l : List Int => els = l.map eI) fun l => setK objs k k (.frow 1 eI l) K
      | false => False
    | _ => False
  | _ => frz objs k K
theorem frzL_sound {k : Nat} {K : List Ob → Prop} (h : frzL objs k K) : ∃ objs', K objs' ∧ GS P objs objs' := by
  unfold frzL at h
  have go : ∀ {e z : Nat} {α : Type} {enc : α → List SV} {l : List α} {els : List (List SV)}, lk objs k = some (.lits e z els) → els = l.map enc → setK objs k k (.frow z enc l) K → ∃ objs', K objs' ∧ GS P objs objs' := by
    intro e z α enc l els hk he h
    subst he
    obtain ⟨l', hl, h⟩ := setK_spec h
    have hs := setO_spec hk hl
    refine ⟨l', h, fun S env nx σ a w hst => ?_, fun σ => hs.owns_le (fun b hb => hb.elim)⟩
    have hd := own_disj hst hs (fun b hb => hb)
    exact hst.ghost hs (rowH.fs (lk_holds hst hk) (fun b hb => hb.imp id (hs.owns_le (fun b hb => hb.elim) b)) (fun b v h1 h2 => hd b ⟨v, h1, h2⟩)) (fun b hb => hb.elim)
  split at h
  · rename_i hk
    split at h
    · split at h
      · rename_i hz
        obtain rfl := Nat.eq_of_beq_eq_true hz
        obtain ⟨l, he, h⟩ := h
        exact go hk he h
      · exact h.elim
    · split at h
      · rename_i hz
        obtain rfl := Nat.eq_of_beq_eq_true hz
        obtain ⟨l, he, h⟩ := h
        exact go hk he h
      · exact h.elim
    · exact h.elim
  · exact frz_sound h
def nn1 (objs : List Ob) (s : SV) (K : List Ob → SV → Prop) : Prop := match s with
  | .own k => frzL objs k fun o => match lk o k with
    | some (.frow z enc xs) => K o (.fs z enc xs)
    | _ => False
  | .bsl k off lo hi => frz objs k fun o => match lk o k with
    | some (.fbox _ ps) => match takeP ps off with
      | some (_, @SV.arr8 n v :: _) => Side (hi ≤ n) (K o (.fs 1 eB ((v.toList.take hi).drop lo)))
      | _ => False
    | _ => False
  | .ptr _ _ => False
  | .rptr _ _ _ _ => False
  | .cptr _ _ _ => False
  | s => K objs s
theorem GS.refl : GS P objs objs := ⟨fun _ _ _ _ _ _ h => h, fun _ _ h => h⟩
theorem GS.trans {o1 o2 o3 : List Ob} (h : GS P o1 o2) (k : GS P o2 o3) : GS P o1 o3 := ⟨fun S env nx σ a w hst => k.1 S env nx σ a w (h.1 S env nx σ a w hst), fun σ b hb => h.2 σ b (k.2 σ b hb)⟩
theorem GS.later {o1 o2 : List Ob} (h : GS P o1 o2) (S : Sig) (σ : Sg) (w : World) : Later w (S.A σ o1) w (S.A σ o2) := Later.own fun b hb => hb.imp id (h.2 σ b)
theorem bsl_fs {k off lo hi n : Nat} {T : Nat} {ps r : List SV} {pa : List SV} {v : Vector (BitVec 8) n} (hst : St P S σ env objs nx a w) (hk : lk objs k = some (.fbox T ps)) (ht : takeP ps off = some (pa, .arr8 v :: r)) (hn : hi ≤ n) {A : Own} {cs : List Value} (h : (SV.bsl k off lo hi).hc w A σ cs) :
    (SV.fs 1 eB ((v.toList.take hi).drop lo)).hc w (S.A σ objs) sg0 cs := by
  obtain ⟨u, h1, h2, b, rfl⟩ := lk_holds hst hk
  simp only [SV.hc] at h h2 ⊢
  obtain ⟨b', c, p, q, g1, rfl, g3, g4, g5, g6⟩ := h
  rw [h1] at g1; cases g1
  obtain ⟨b2, off2, e1, hA, C, t, fr, hg, hc⟩ := h2
  simp only [List.cons.injEq, Value.pointer.injEq, Option.some.injEq, Addr.mk.injEq, and_true] at e1
  obtain ⟨rfl, rfl⟩ := e1
  obtain ⟨rfl, e2⟩ := takeP_spec ht
  have hl : ((v.toList.take hi).drop lo).length = hi - lo := by simp; omega
  refine ⟨some ⟨b, p, none⟩, q, by rw [hl], by omega, g5, fun e => (by cases e), fun i hi => rfl, fun ad had => ?_⟩
  cases had
  by_cases hlt : lo < hi
  · refine .inr ⟨rfl, hA, C, t, fr, hg, fun i hi' => ?_⟩
    rw [hl] at hi'
    have hvi : lo + i < n := by omega
    have hp := g6 hlt
    obtain ⟨c1, c2, hcc, hc1, hc2⟩ := hL.split hc
    simp only [hL] at hc2
    obtain ⟨d1, d2, rfl, hd1, hd2⟩ := hc2
    have f1 := hc1.len; have f2 := hd1.len
    simp only [SV.sz] at f2
    rw [hL.single]
    simp only [SV.hc] at hd1 ⊢
    have hcell : C[p + i]? = some (bV .u8 (v[lo + i]'hvi)) := by
      have h0 : ((C.toList.drop 0).take (szL (pa ++ .arr8 v :: r)))[off + (lo + i)]? = some (bV .u8 (v[lo + i]'hvi)) := by
        rw [hcc, List.getElem?_append_right (by omega), List.getElem?_append_left (by omega), hd1]
        rw [show off + (lo + i) - c1.length = lo + i by omega]
        simp [hvi]
      rw [List.getElem?_take] at h0
      split at h0
      · rw [hp, show 0 + off + lo + i = off + (lo + i) by omega]; simpa using h0
      · cases h0
    apply List.ext_getElem?
    intro q'
    rcases q' with _ | q'
    · simp [List.getElem?_take, hcell]
    · simp [List.getElem?_take]
  · exact .inl (List.eq_nil_of_length_eq_zero (by omega))
theorem nn1_sound {s : SV} {K : List Ob → SV → Prop} (h : nn1 objs s K) : ∃ objs' s', K objs' s' ∧ GS P objs objs' ∧ ∀ {S env nx σ a w cs}, St P S σ env objs nx a w → s.hc w (S.A σ objs) σ cs → s'.hc w (S.A σ objs') sg0 cs := by
  unfold nn1 at h
  split at h
  · rename_i k
    obtain ⟨o', h, g⟩ := frzL_sound (P := P) h
    split at h
    · rename_i z α enc xs hk
      refine ⟨o', _, h, g, fun {S env nx σ a w cs} hst hc => ?_⟩
      obtain ⟨v, h1, h2⟩ := lk_holds (g.1 S env nx σ a w hst) hk
      simp only [SV.hc] at hc
      obtain ⟨u, e1, _, rfl⟩ := hc
      rw [h1] at e1; cases e1
      exact h2
    · exact h.elim
  · rename_i k off lo hi
    obtain ⟨o', h, g⟩ := frz_sound (P := P) h
    split at h
    · rename_i T ps hk
      split at h
      · rename_i n v r ht
        exact ⟨o', _, h.k, g, fun {S env nx σ a w cs} hst hc => bsl_fs (g.1 S env nx σ a w hst) hk ht h.h hc⟩
      · exact h.elim
    · exact h.elim
  · exact h.elim
  · exact h.elim
  · exact h.elim
  · refine ⟨objs, s, h, GS.refl, fun {S env nx σ a w cs} hst hc => ?_⟩
    cases s <;> first | exact hc | (simp only [SV.hc] at hc ⊢; exact hc) | skip
    all_goals first | (simp_all; done) | (exfalso; solve_by_elim)
def nnL : List Ob → List SV → (List Ob → List SV → Prop) → Prop
  | objs, [], K => K objs []
  | objs, s :: r, K => nn1 objs s fun objs s => nnL objs r fun objs r => K objs (s :: r)
theorem nnL_sound : ∀ {l : List SV} {objs : List Ob} {K : List Ob → List SV → Prop}, nnL objs l K → ∃ objs' l', K objs' l' ∧ GS P objs objs' ∧ ∀ {S env nx σ a w cs}, St P S σ env objs nx a w → hL w (S.A σ objs) l σ cs → hL w (S.A σ objs') l' sg0 cs
  | [], objs, K, h => ⟨objs, [], h, GS.refl, fun _ hc => by simp only [hL] at hc ⊢; exact hc⟩
  | s :: r, objs, K, h => by
    obtain ⟨o1, s', h, g1, e1⟩ := nn1_sound (P := P) h
    obtain ⟨o2, r', h, g2, e2⟩ := nnL_sound (l := r) h
    refine ⟨o2, _, h, g1.trans g2, fun {S env nx σ a w cs} hst hc => ?_⟩
    simp only [hL] at hc ⊢
    obtain ⟨c1, c2, rfl, h1, h2⟩ := hc
    exact ⟨c1, c2, rfl, SV.hc.later (g2.later S σ w) _ _ _ (e1 hst h1), e2 (g1.1 S env nx σ a w hst) (hL.later (g1.later S σ w) _ _ _ h2)⟩
/-! ## slice literals -/
variable (P) in
def litsK (z : Nat) (env : Env) : Nat → List Ob → List (Nat × Operand) → (List Ob → List (List SV) → Prop) → Prop
  | _, objs, [], K => K objs []
  | i, objs, (k, x) :: r, K => match Nat.beq k i, evx P env x with
    | true, some s => match prt s with
      | some qs => nnL objs qs fun objs qs => match Nat.beq (szL qs) z with
        | true => litsK z env (i + 1) objs r fun objs els => K objs (qs :: els)
        | false => False
      | none => False
    | _, _ => False
/-- the parts' values as elements -/
def PartsE (w : World) (A : Own) (ev : Operand → Value) (z : Nat) : Nat → List (Nat × Operand) → List (List SV) → Prop
  | _, [], els => els = []
  | i, (k, x) :: r, els => ∃ e m, els = e :: m ∧ k = i ∧ szL e = z ∧ hL w A e sg0 (ev x).cells.toList ∧ PartsE w A ev z (i + 1) r m
theorem PartsE.later {w w' : World} {A A' : Own} {ev : Operand → Value} {z : Nat} (hl : Later w A w' A') : ∀ {i : Nat} {r : List (Nat × Operand)} {els : List (List SV)}, PartsE w A ev z i r els → PartsE w' A' ev z i r els
  | _, [], _, h => h
  | i, (k, x) :: r, _, ⟨e, m, h1, h2, h3, h4, h5⟩ => ⟨e, m, h1, h2, h3, hL.later hl _ _ _ h4, PartsE.later hl h5⟩
theorem litsK_sound {z : Nat} : ∀ {r : List (Nat × Operand)} {i : Nat} {objs : List Ob} {K : List Ob → List (List SV) → Prop}, litsK P z env i objs r K → ∃ objs' els, K objs' els ∧ GS P objs objs' ∧ ∀ {S nx σ a w}, St P S σ env objs nx a w → PartsE w (S.A σ objs') a.eval z i r els
  | [], i, objs, K, h => ⟨objs, [], h, GS.refl, fun _ => rfl⟩
  | (k, x) :: r, i, objs, K, h => by
    unfold litsK at h
    split at h
    · rename_i s hb hs
      split at h
      · rename_i qs hp
        obtain ⟨o1, qs', h, g1, e1⟩ := nnL_sound (P := P) h
        split at h
        · rename_i hz
          obtain ⟨o2, els, h, g2, e2⟩ := litsK_sound (r := r) h
          refine ⟨o2, _, h, g1.trans g2, fun {S nx σ a w} hst => ?_⟩
          exact ⟨qs', els, rfl, Nat.eq_of_beq_eq_true hb, Nat.eq_of_beq_eq_true hz, hL.later (g2.later S σ w) _ _ _ (e1 hst (prt_spec hp (hst.ev hs))), e2 (g1.1 S env nx σ a w hst)⟩
        · exact h.elim
      · exact h.elim
    · exact h.elim
theorem PartsE.len {w : World} {A : Own} {ev : Operand → Value} {z : Nat} : ∀ {i : Nat} {r : List (Nat × Operand)} {els : List (List SV)}, PartsE w A ev z i r els → r.length = els.length ∧ ∀ e ∈ els, szL e = z
  | _, [], _, h => by simp only [PartsE] at h; subst h; simp
  | i, (k, x) :: r, _, ⟨e, m, h1, h2, h3, h4, h5⟩ => by
    have := h5.len
    subst h1
    exact ⟨by simp [this.1], fun u hu => (List.mem_cons.1 hu).elim (fun e => e ▸ h3) (this.2 u)⟩
theorem fill_parts {z : Nat} {A : Own} {ev : Operand → Value} : ∀ {r : List (Nat × Operand)} {i : Nat} {els : List (List SV)}, PartsE w A ev z i r els → ∀ D R : List Value, D.length = i * z → R.length = els.length * z →
    ∃ cs, hE w A sg0 els cs ∧ Instr.fill (fun i => some (i * z, z)) (D ++ R).toArray (r.map fun (i, x) => (i, ev x)) = some (D ++ cs).toArray
  | [], i, els, h, D, R, _, hR => by
    simp only [PartsE] at h; subst h
    have : R = [] := List.eq_nil_of_length_eq_zero (by simpa using hR)
    subst this
    exact ⟨[], rfl, by simp [Instr.fill]⟩
  | (k, x) :: r, i, els, ⟨e, m, h1, h2, h3, h4, h5⟩, D, R, hD, hR => by
    subst h1 h2
    have hel : (ev x).cells.toList.length = z := by rw [h4.len, h3]
    have hR' : R.length = z + m.length * z := by rw [hR, List.length_cons, Nat.add_mul]; omega
    obtain ⟨cs, e1, e2⟩ := fill_parts h5 (D ++ (ev x).cells.toList) (R.drop z) (by rw [List.length_append, hD, hel, Nat.add_mul]; omega) (by rw [List.length_drop, hR']; omega)
    refine ⟨(ev x).cells.toList ++ cs, ⟨_, cs, rfl, h4, e1⟩, ?_⟩
    simp only [List.map_cons]
    rw [fill_cons (off := k * z) (size := z) (l := (ev x).cells.toList) rfl rfl hel (by simp [hD]; omega)]
    have : splice (D ++ R).toArray (k * z) (ev x).cells.toList = ((D ++ (ev x).cells.toList) ++ R.drop z).toArray := by
      unfold splice
      simp only
      rw [hel, ← hD, List.take_left, ← List.drop_drop, List.drop_left]
    rw [this, e2, List.append_assoc]
/-- a new row of one's own -/
theorem St.newRow {e z : Nat} {els : List (List SV)} {so : SO} {C : Array Value} {v : Value} (h : St P S σ env objs nx a w) (hso : ∀ w A σ, rowH w A σ nx e z els → so.holds w A σ nx) (hown : ∀ σ b, so.own σ nx b ↔ ∃ v, σ nx = some v ∧ blkO v = some b)
    (hel : ∀ e ∈ els, szL e = z) (hlen : els.length ≤ 140737488355328) (hC : hE w (S.A σ objs) sg0 els C.toList) (hrow : (w.alloc (.cells C e)).ownsRow 0 e z v els.length C.toList) (hv : blkO v = some w.heap.size) :
    St P S (σ.set nx v) env ((nx, so) :: objs) (nx + 1) a (w.alloc (.cells C e)) := by
  have h1 := h.name v
  have hle := Sg.le_set (σ := σ) (v := v) (h.dom nx (Nat.le_refl _))
  have hn : ∀ b, so.own (σ.set nx v) nx b ↔ b = w.heap.size := fun b => by
    rw [hown, Sg.set_self]
    constructor
    · rintro ⟨u, hu, hb⟩; cases hu; rw [hv] at hb; cases hb; rfl
    · rintro rfl; exact ⟨v, rfl, hv⟩
  have hown2 : ∀ b, owns (σ.set nx v) ((nx, so) :: objs) b → owns (σ.set nx v) objs b ∨ w.heap.size ≤ b := fun b hb => by
    rcases hb with hb | hb
    · rw [(hn b).1 hb]; exact .inr (Nat.le_refl _)
    · exact .inl hb
  refine h1.upd (M := fun _ => False) (Mod.alloc _ w _) (fun _ x => x.elim) hown2 (h1.obs.cons (Mod.alloc _ w _) ?_ (fun b hb => by rw [(hn b).1 hb]; exact Nat.le_refl _) h.a0lt)
  refine hso _ _ _ ⟨v, C.toList, Sg.set_self _ _ _, hel, hlen, hC.later ?_, hrow⟩
  refine (Mod.alloc (fun _ => False) w (.cells C e)).later (fun _ x => x.elim) (fun b hb hx => hx.imp id fun hx => ?_)
  exact (owns_names hle h.obs.holds b).1 ((hown2 b hx).resolve_right (by omega))
theorem own_self {A : Own} (k : Nat) (v : Value) (h : v.oneCell' = true) : (SV.own k).hv w A (σ.set k v) v := ⟨v, Sg.set_self _ _ _, h, rfl⟩
variable (P) in
def evLits (m : Nat) (dst : Option Nat) (env : Env) (objs : List Ob) (nx : Nat) (T n : Nat) (parts : List (Nat × Operand)) (K : KS) : Prop := dstK m dst fun d => match ty P T with
  | some ⟨.sl e, _, _⟩ => match ty P e, zeroOf (TabC.tab P) 9 e with
    | some j, some zp => match Nat.beq (szL zp) j.size, Nat.blt 0 j.size, Nat.ble (n * j.size) 16777216 with
      | true, true, true => litsK P j.size env 0 objs parts fun objs els => match Nat.beq els.length n with
        | true => frcLL els fun els => K ((d, .own nx) :: env) ((nx, .lits e j.size els) :: objs) (nx + 1)
        | false => False
      | _, _, _ => False
    | _, _ => False
  | _ => False
theorem evLits_sound {T n : Nat} {parts : Array (Nat × Operand)} (ho : o.op = .buildSlice T n parts) (h : evLits P S.n o.dst env objs nx T n parts.toList K) : DoesK P S env objs nx o true K := by
  obtain ⟨d, hd, hlt, h⟩ := dstK_spec h
  split at h
  · rename_i e _ _ ht
    split at h
    · rename_i j zp hj hz
      split at h
      · rename_i hzz hpos hsm
        obtain ⟨objs', els, h2, g, hparts⟩ := litsK_sound (P := P) h
        clear h
        split at h2
        · rename_i hn
          obtain rfl := Nat.eq_of_beq_eq_true hn
          have hK := frcLL_k (K := fun els => K ((d, .own nx) :: env) ((nx, .lits e j.size els) :: objs') (nx + 1)) h2
          obtain ⟨inf, zv, hi, hz0, hisz, hzc⟩ := zero_spec (P := P) hz
          have hzsz := Nat.eq_of_beq_eq_true hzz
          have hpos' : 0 < j.size := by simpa [Nat.blt_eq] using hpos
          have hsm' := Nat.le_of_ble_eq_true hsm
          have hle' : els.length ≤ 16777216 := Nat.le_trans (Nat.le_mul_of_pos_right _ hpos') hsm'
          have hm24 : (16777216 : Nat) ≤ 140737488355328 := by decide
          have hmx : (16777216 : Nat) ≤ maxLen := by decide
          refine DoesK.of hK fun σ a w hst0 => ?_
          have hpe := hparts hst0
          have hst := g.1 S env nx σ a w hst0
          obtain ⟨hl1, hl2⟩ := hpe.len
          have key : ∃ cs : List Value, hE w (S.A σ objs') sg0 els cs ∧ (execOp a.eval o).run P w = .ok (.value (.slice (some ⟨w.heap.size, 0, none⟩) els.length els.length)) (w.alloc (.cells cs.toArray e)) := by
            have hpm : (parts.map fun (i, x) => (i, a.eval x)).toList = parts.toList.map fun (i, x) => (i, a.eval x) := by simp
            by_cases hl : els.length = 0
            · have hl' := List.eq_nil_of_length_eq_zero hl
              subst hl'
              have hp : parts.toList = [] := List.eq_nil_of_length_eq_zero (by rw [hl1]; rfl)
              refine ⟨[], rfl, ?_⟩
              have hp' : parts = #[] := by simpa using hp
              simp [execOp, ho, hp', Instr.buildSlice, run_underlying (ty_slice ht rfl), sizeOf, typeInfo, hi, Instr.fill, Go.newRow]
              congr 2
              exact Array.eq_empty_of_size_eq_zero (by simp)
            · have hpos2 : ¬ els.length * inf.size = 0 := by
                rw [hisz, hzsz]
                have := Nat.mul_pos (Nat.pos_of_ne_zero hl) hpos'
                omega
              obtain ⟨cs, hE, hfill⟩ := fill_parts hpe [] (((Array.range (els.length * j.size)).map (zv.cells[· % zv.cells.size]!)).toList) (by simp) (by simp)
              refine ⟨cs, hE, ?_⟩
              have := run_buildSlice (P := P) w T e els.length (parts.map fun (i, x) => (i, a.eval x)) cs.toArray inf zv (ty_slice ht rfl) hi hz0 (by rw [hisz, hzsz]; omega) hpos2 (by rw [hpm, hisz, hzsz]; rw [List.nil_append, Array.toArray_toList] at hfill; exact hfill)
              simp only [execOp, ho, Sem.run_bind, this, Result.andThen_ok, Sem.run_pure]
          obtain ⟨cs, hE, hrun⟩ := key
          have hcl : cs.toArray.size = els.length * j.size := by simpa using hE.len hl2
          refine ⟨_, .slice (some ⟨w.heap.size, 0, none⟩) els.length els.length, w.alloc (.cells cs.toArray e), σ.set nx (.slice (some ⟨w.heap.size, 0, none⟩) els.length els.length), hrun, .inl rfl, ?_, fun _ => Mod.alloc _ w _⟩
          rw [hd]
          refine (hst.newRow (so := .lits e j.size els) (fun _ _ _ h => h) (fun _ _ => Iff.rfl) hl2 (by omega) (by simpa using hE) ?_ rfl).put hlt (own_self nx _ rfl)
          have := World.ownsRow_lit (base := 0) (e := e) (size := j.size) w cs.toArray els.length (Nat.zero_le _) (by omega) hcl
          simpa using this
        · exact h2.elim
      · exact h.elim
    · exact h.elim
  · exact h.elim
end
end Go.Proofs.YtffaohckcggkdaaDoor

/- MY OWN ENGINE: append; pieces of rows of one's own. -/
namespace Go.Proofs.YtffaohckcggkdaaDoor
set_option linter.all false
open Go.RowKit
/-- the content of a row -/
inductive EF : Type 1
  | of {α : Type} (enc : α → List SV) (xs : List α)
  | lit (els : List (List SV))
def EF.els : EF → List (List SV)
  | .of enc xs => xs.map enc
  | .lit els => els
def EF.so (e z : Nat) : EF → SO
  | .of enc xs => .row e z enc xs
  | .lit els => .lits e z els
section
variable {P : Program} [TabC P] {S : Sig} {σ : Sg} {env : Env} {objs : List Ob} {nx : Nat} {o : Oper} {a : Act} {w : World} {x y : Operand} {K : KS}
theorem EF.so_holds {e z k : Nat} (f : EF) (w : World) (A : Own) (σ : Sg) : (f.so e z).holds w A σ k ↔ rowH w A σ k e z f.els := by cases f <;> exact Iff.rfl
theorem EF.so_own {e z k : Nat} (f : EF) (σ : Sg) (b : Nat) : (f.so e z).own σ k b ↔ ∃ v, σ k = some v ∧ blkO v = some b := by cases f <;> exact Iff.rfl
/-- a slice whose cells can be read -/
def SlC (w : World) (A : Own) (z : Nat) (els : List (List SV)) (v : Value) : Prop :=
  (∀ e ∈ els, szL e = z) ∧ ∃ ad c cs, v = .slice ad els.length c ∧ hE w A sg0 els cs ∧ (ad = none → els = [] ∧ c = 0) ∧ ∀ a, ad = some a → ∀ j u, cs[j]? = some u → w.cell? (a.add j) = some u
theorem fs_slc {A : Own} {z : Nat} {α : Type} {enc : α → List SV} {xs : List α} {v : Value} (h : (SV.fs z enc xs).hc w A sg0 [v]) : SlC w A z (xs.map enc) v := by
  simp only [SV.hc, List.cons.injEq, and_true] at h
  obtain ⟨ad, c, rfl, h1, h2, h3, h4, h5⟩ := h
  have hsz : ∀ e ∈ xs.map enc, szL e = z := fun e he => by
    obtain ⟨y, hy, rfl⟩ := List.mem_map.1 he
    obtain ⟨i, hi, rfl⟩ := List.mem_iff_getElem.1 hy
    exact h4 i hi
  refine ⟨hsz, ad, c, ?_⟩
  cases ad with
  | none =>
    obtain ⟨rfl, rfl⟩ := h3 rfl
    exact ⟨[], rfl, rfl, fun _ => ⟨rfl, rfl⟩, fun a h => by cases h⟩
  | some ad =>
    have hcase := h5 ad rfl
    obtain ⟨g, p, sp⟩ := ad
    rcases hcase with rfl | ⟨hsp, hA, C, T, fr, hg, he⟩
    · exact ⟨[], rfl, rfl, fun h => (by cases h), fun a ha j u hu => by simp at hu⟩
    · simp only at hsp; subst hsp
      have hin : xs.length * z ≤ C.size - p ∨ xs.length * z = 0 := by
        rcases Nat.eq_zero_or_pos (xs.length * z) with h0 | h0
        · exact .inr h0
        · left
          have hz : 0 < z := Nat.pos_of_mul_pos_left h0 |> fun _ => by
            rcases Nat.eq_zero_or_pos z with h | h
            · rw [h, Nat.mul_zero] at h0; omega
            · exact h
          have hx : 0 < xs.length := by
            rcases Nat.eq_zero_or_pos xs.length with h | h
            · rw [h, Nat.zero_mul] at h0; omega
            · exact h
          have hl := (he (xs.length - 1) (by omega)).len
          rw [h4 _ (by omega), List.length_take, List.length_drop] at hl
          have e1 : (xs.length - 1) * z + z = xs.length * z := by rw [← Nat.succ_mul]; congr 1; omega
          simp only [Array.length_toList] at hl
          omega
      refine ⟨(C.toList.drop p).take (xs.length * z), by simp, ?_, fun h => (by cases h), fun a ha j u hu => ?_⟩
      · refine hE.of (z := z) (by simp; omega) fun i e hi => ?_
        obtain ⟨hi', rfl⟩ := List.getElem?_eq_some_iff.1 hi
        rw [List.length_map] at hi'
        have hmul : (i + 1) * z ≤ xs.length * z := Nat.mul_le_mul_right _ hi'
        rw [Nat.add_mul, Nat.one_mul] at hmul
        rw [take_drop_part (by omega), List.getElem_map]
        exact he i hi'
      · cases ha
        rw [addr_add, cell_of_row w g (p + j) C T fr hg]
        rw [List.getElem?_take] at hu
        split at hu
        · rw [List.getElem?_drop] at hu; simpa using hu
        · cases hu
theorem row_slc {A : Own} {k e z : Nat} {els : List (List SV)} {v : Value} (h : rowH w A σ k e z els) (hv : σ k = some v) : SlC w A z els v := by
  obtain ⟨u, cs, h0, h1, h2, h3, ho⟩ := h
  rw [hv] at h0; cases h0
  refine ⟨h1, ?_⟩
  rcases ho.2 with ⟨rfl, hn⟩ | ⟨g, cap, cur, rfl, hb0, hg, hn, hc, hs, ht⟩
  · have := List.eq_nil_of_length_eq_zero hn
    subst this
    exact ⟨none, 0, [], rfl, rfl, fun _ => ⟨rfl, rfl⟩, fun a h => by cases h⟩
  · refine ⟨some ⟨g, 0, none⟩, cap, cs, rfl, h3, fun h => (by cases h), fun a ha j u hu => ?_⟩
    cases ha
    rw [addr_add, cell_of_row w g (0 + j) cur e (0, 0) hg]
    rw [← ht, List.getElem?_take] at hu
    split at hu
    · simpa using hu
    · cases hu
theorem SlC.later {w' : World} {A A' : Own} {z : Nat} {els : List (List SV)} {v : Value} (h : SlC w A z els v) (hl : Later w A w A') : SlC w A' z els v := by
  obtain ⟨h1, ad, c, cs, h2, h3, h4, h5⟩ := h
  exact ⟨h1, ad, c, cs, h2, h3.later hl, h4, h5⟩
/-- what is appended -/
def srcE (objs : List Ob) (s : SV) (z : Nat) : Option EF := match s with
  | .fs z' enc xs => match Nat.beq z z' with
    | true => some (.of enc xs)
    | false => none
  | .nils => some (.lit [])
  | .own k => match lk objs k with
    | some (.row _ z' enc xs) => match Nat.beq z z' with
      | true => some (.of enc xs)
      | false => none
    | some (.frow z' enc xs) => match Nat.beq z z' with
      | true => some (.of enc xs)
      | false => none
    | some (.lits _ z' els) => match Nat.beq z z' with
      | true => some (.lit els)
      | false => none
    | _ => none
  | _ => none
theorem srcE_spec {s : SV} {z : Nat} {f : EF} (h : srcE objs s z = some f) (hx : evx P env x = some s) (hst : St P S σ env objs nx a w) : SlC w (S.A σ objs) z f.els (a.eval x) := by
  unfold srcE at h
  split at h
  · split at h
    · rename_i hz
      obtain rfl := Nat.eq_of_beq_eq_true hz
      cases h
      obtain ⟨v, rfl, hc⟩ := fs_ev hx hst
      exact fs_slc hc
    · cases h
  · cases h
    have := hst.ev hx
    simp only [SV.hv, SV.h1, SV.hc, List.cons.injEq, and_true] at this
    rw [this]
    exact ⟨by simp [EF.els], none, 0, [], rfl, rfl, fun _ => ⟨rfl, rfl⟩, fun a h => by cases h⟩
  · split at h
    · rename_i hk
      split at h
      · rename_i hz
        obtain rfl := Nat.eq_of_beq_eq_true hz
        cases h
        exact row_slc (lk_holds hst hk) (own_ev hx hst)
      · cases h
    · rename_i hk
      split at h
      · rename_i hz
        obtain rfl := Nat.eq_of_beq_eq_true hz
        cases h
        obtain ⟨v, rfl, hc⟩ := frow_ev hx hk hst
        exact fs_slc hc
      · cases h
    · rename_i hk
      split at h
      · rename_i hz
        obtain rfl := Nat.eq_of_beq_eq_true hz
        cases h
        exact row_slc (lk_holds hst hk) (own_ev hx hst)
      · cases h
    · cases h
  · cases h
def joinE (b s : EF) (K : EF → Prop) : Prop := match b with
  | @EF.of α enc xs => match s with
    | .of enc' ys => Ex (fun zs : List α => zs.map enc = ys.map enc') fun zs => K (.of enc (xs ++ zs))
    | .lit els => Ex (fun zs : List α => zs.map enc = els) fun zs => K (.of enc (xs ++ zs))
  | .lit [] => match s with
    | .of enc ys => K (.of enc ys)
    | .lit els => K (.lit els)
  | .lit els => match s with
    | @EF.of α enc ys => Ex (fun zs : List α => zs.map enc = els) fun zs => K (.of enc (zs ++ ys))
    | .lit els' => match app2 els els' with
      | some l => K (.lit l)
      | none => False
theorem joinE_spec {b s : EF} {K : EF → Prop} (h : joinE b s K) : ∃ f, K f ∧ f.els = b.els ++ s.els := by
  unfold joinE at h
  split at h
  · split at h
    · obtain ⟨zs, h1, h2⟩ := h; exact ⟨_, h2, by simp [EF.els, h1]⟩
    · obtain ⟨zs, h1, h2⟩ := h; exact ⟨_, h2, by simp [EF.els, h1]⟩
  · split at h
    · exact ⟨_, h, by simp [EF.els]⟩
    · exact ⟨_, h, by simp [EF.els]⟩
  · split at h
    · obtain ⟨zs, h1, h2⟩ := h; exact ⟨_, h2, by simp [EF.els, h1]⟩
    · split at h
      · rename_i hl; exact ⟨_, h, by simp [EF.els, app2_eq hl]⟩
      · exact h.elim
/-- the world behind an append -/
theorem run_app {T et : TypeId} {z : Nat} {zp : List SV} {i j : TI} {v xv : Value} {b m : List (List SV)} {A : Own} (ht : ty P T = some i) (hk : i.k = .sl et) (hj : ty P et = some j) (hzr : zeroOf (TabC.tab P) 9 et = some zp) (hzz : szL zp = z) (hz : 0 < z) (rt : TypeId)
    (hrow : (∃ k e, ∃ σ : Sg, σ k = some v ∧ e = et ∧ rowH w A σ k e z b) ∨ (v = .slice none 0 0 ∧ b = [])) (hsl : SlC w A z m xv) (hb : (b.length + m.length) * j.bytes ≤ 140737488355328) (hb2 : b.length + m.length ≤ 140737488355328) :
    ∃ v' w' cs ds, (Builtin.append_ #[T, T] rt #[v, xv]).run P w = .ok v' w' ∧ w'.ownsRow 0 et z v' (b.length + m.length) (cs ++ ds) ∧ w.grownBy w' v.ownBlock ∧ (∀ c, v'.ownBlock = some c → v.ownBlock = some c ∨ w.heap.size ≤ c) ∧ hE w A sg0 b cs ∧ hE w A sg0 m ds ∧ (∀ e ∈ b, szL e = z) := by
  obtain ⟨inf, zv, hi, hz0, hisz, hzc⟩ := zero_spec (P := P) hzr
  obtain ⟨inf', d', hi', hd', hsz', hby, _, _⟩ := ty_spec hj
  rw [hi] at hi'; cases hi'
  obtain ⟨hmz, xa, c, ds, rfl, hE2, hnil, hcells⟩ := hsl
  have hlen2 : ds.length = m.length * z := hE2.len hmz
  have hone2 := hE2.one
  have hzs : zv.cells.size = z := by rw [← hzz, ← (hzc w A sg0).len]; simp
  have hsz2 : inf.size = z := by rw [hisz, hzz]
  obtain ⟨cs, hez, hE, hown⟩ : ∃ cs, (∀ e ∈ b, szL e = z) ∧ hE w A sg0 b cs ∧ w.ownsRow 0 et z v b.length cs := by
    rcases hrow with ⟨k, e, σ, h0, rfl, u, cs, h1, h2, h3, h4, h5⟩ | ⟨rfl, rfl⟩
    · rw [h0] at h1; cases h1; exact ⟨cs, h2, h4, h5⟩
    · exact ⟨[], by simp, rfl, World.ownsRow_nil _ _ _ _⟩
  have key : ∃ v' w', (Builtin.append_ #[T, T] rt #[v, .slice xa m.length c]).run P w = .ok v' w' ∧ w'.ownsRow 0 et z v' (b.length + m.length) (cs ++ ds) ∧ w.grownBy w' v.ownBlock ∧ ∀ b, v'.ownBlock = some b → v.ownBlock = some b ∨ w.heap.size ≤ b := by
    cases xa with
    | none =>
      obtain ⟨rfl, rfl⟩ := hnil rfl
      have hds : ds = [] := List.eq_nil_of_length_eq_zero (by simpa using hlen2)
      subst hds
      exact ⟨v, w, run_append_owned_none (P := P) (w := w) 0 T rt et inf z (ty_slice ht hk) hi v b.length cs hown, by simpa using hown, ⟨rfl, rfl, rfl, Nat.le_refl _, fun _ _ _ => rfl⟩, fun b hb => .inl hb⟩
    | some ad =>
      rcases hown.2 with ⟨rfl, hl0⟩ | ⟨g, cap, cur, rfl, hbg, hg, hnc, hcm, hcs, htake⟩
      · have hcs0 : cs = [] := List.eq_nil_of_length_eq_zero (by rw [hown.1, hl0]; simp)
        subst hcs0
        rw [hl0] at hb hb2 hown ⊢
        obtain ⟨v', w', hr, h2, h3, _⟩ := run_append_own (P := P) w w.heap.size T rt et inf zv z j.bytes (ty_slice ht hk) hi hz0 hsz2 hby hzs hz (.slice none 0 0) 0 [] (World.ownsRow_nil _ _ _ _) ad m.length c ds hlen2 (hcells ad rfl) hone2 (Nat.le_trans hb2 (by decide)) hb (Nat.le_refl _)
        exact ⟨v', w', hr, ⟨h2.1, h2.2.imp id (fun ⟨g, cap, cur, e1, _, e3⟩ => ⟨g, cap, cur, e1, Nat.zero_le _, e3⟩)⟩, h3, fun b hb => .inr (h2.lt b hb).1⟩
      · obtain ⟨v', w', hr, h2, h3, _⟩ := run_append_own (P := P) w 0 T rt et inf zv z j.bytes (ty_slice ht hk) hi hz0 hsz2 hby hzs hz _ b.length cs hown ad m.length c ds hlen2 (hcells ad rfl) hone2 (Nat.le_trans hb2 (by decide)) hb (Nat.zero_le _)
        refine ⟨v', w', hr, h2, h3, fun b' hb' => ?_⟩
        by_cases hroom : b.length + m.length ≤ cap
        · have hfit : b.length * inf.size + ds.length ≤ cur.size := by rw [hlen2, hcs, hsz2, ← Nat.add_mul]; exact Nat.mul_le_mul_right _ hroom
          have hr2 := run_append_room (P := P) w T rt et inf (ty_slice ht hk) hi g b.length cap cur hg ad m.length c ds (by rw [hsz2]; exact hlen2) (hcells ad rfl) hone2 hroom hfit
          rw [hr] at hr2
          cases hr2
          exact .inl hb'
        · have hr2 := run_append_grow (P := P) w T rt et inf zv (ty_slice ht hk) hi hz0 ⟨g, 0, none⟩ b.length cap cs (by rw [hsz2]; exact hown.1) (hown.cells (g := g) rfl) ad m.length c ds (by rw [hsz2]; exact hlen2) (hcells ad rfl) (by omega) (by omega) (growslice_fits (by omega) (by rw [hby]; exact hb))
          rw [hr] at hr2
          cases hr2
          simp only [Value.ownBlock, Option.some.injEq] at hb'
          exact .inr (by omega)
  obtain ⟨v', w', h1, h2, h3, h4⟩ := key
  exact ⟨v', w', cs, ds, h1, h2, h3, h4, hE, hE2, hez⟩
variable (P) in
def evAppend (m : Nat) (dst : Option Nat) (env : Env) (objs : List Ob) (nx : Nat) (T : Nat) (s u : SV) (K : KS) : Prop := dstK m dst fun d => match ty P T with
  | some ⟨.sl et, _, _⟩ => match ty P et, zeroOf (TabC.tab P) 9 et with
    | some j, some zp => match Nat.beq (szL zp) j.size, Nat.blt 0 j.size, srcE objs u j.size with
      | true, true, some f => match s with
        | .nils => Side (f.els.length * j.bytes ≤ 140737488355328 ∧ f.els.length ≤ 140737488355328) (K ((d, .own nx) :: env) ((nx, f.so et j.size) :: objs) (nx + 1))
        | .own k => match lk objs k with
          | some (.row e z enc xs) => match Nat.beq e et, Nat.beq z j.size with
            | true, true => joinE (.of enc xs) f fun g => Side (g.els.length * j.bytes ≤ 140737488355328 ∧ g.els.length ≤ 140737488355328) (setK objs k nx (g.so et j.size) fun o => K ((d, .own nx) :: env) o (nx + 1))
            | _, _ => False
          | some (.lits e z els) => match Nat.beq e et, Nat.beq z j.size with
            | true, true => joinE (.lit els) f fun g => Side (g.els.length * j.bytes ≤ 140737488355328 ∧ g.els.length ≤ 140737488355328) (setK objs k nx (g.so et j.size) fun o => K ((d, .own nx) :: env) o (nx + 1))
            | _, _ => False
          | _ => False
        | _ => False
      | _, _, _ => False
    | _, _ => False
  | _ => False
theorem own_blk' {w : World} {e : TypeId} {z : Nat} {v : Value} {n : Nat} {cs : List Value} (h : w.ownsRow 0 e z v n cs) : blkO v = v.ownBlock := (own_blk h).1
theorem app_own {T et k : TypeId} {j i : TI} {zp : List SV} {d : Nat} {u : SV} {f b g : EF} {so : SO} {objs' : List Ob} (ho : o.op = .call { callee := .builtin .append, args := #[x, y], argTypes := #[T, T] }) (hd : o.dst = some d) (hlt : d < S.n) (hx : evx P env x = some (.own k)) (hy : evx P env y = some u)
    (ht : ty P T = some i) (hik : i.k = .sl et) (hj : ty P et = some j) (hz : zeroOf (TabC.tab P) 9 et = some zp) (hzz : szL zp = j.size) (hpos : 0 < j.size) (hf : srcE objs u j.size = some f) (hk : lk objs k = some so) (hso : ∀ w A σ, so.holds w A σ k ↔ rowH w A σ k et j.size b.els) (hsown : ∀ σ c, so.own σ k c ↔ ∃ v, σ k = some v ∧ blkO v = some c)
    (hg : g.els = b.els ++ f.els) (hb : g.els.length * j.bytes ≤ 140737488355328 ∧ g.els.length ≤ 140737488355328) (hl : setO objs k nx (g.so et j.size) = some objs') (hK : K ((d, .own nx) :: env) objs' (nx + 1)) : DoesK P S env objs nx o false K := by
  have hs := setO_spec hk hl
  refine DoesK.of hK fun σ a w hst => ?_
  have hrow := (hso _ _ _).1 (lk_holds hst hk)
  have hv := own_ev hx hst
  have hgl : g.els.length = b.els.length + f.els.length := by rw [hg, List.length_append]
  obtain ⟨v', w', cs, ds, hrun, hown', hgr, hgrow, hE1, hE2, hez⟩ := run_app (P := P) ht hik hj hz hzz hpos o.type (.inl ⟨k, et, σ, hv, rfl, hrow⟩) (srcE_spec hf hy hst) (by rw [← hgl]; exact hb.1) (by rw [← hgl]; exact hb.2)
  have hfz : ∀ e ∈ f.els, szL e = j.size := (srcE_spec hf hy hst).1
  have hblk : blkO (a.eval x) = (a.eval x).ownBlock := by
    obtain ⟨u, cs', h1, _, _, _, h5⟩ := hrow
    rw [hv] at h1; cases h1; exact own_blk' h5
  have h1 := hst.name v'
  have hle := Sg.le_set (σ := σ) (v := v') (hst.dom nx (Nat.le_refl _))
  obtain ⟨R, r1, r2, _⟩ := hs.owns_iff (σ := σ.set nx v')
  have hold : ∀ c, so.own (σ.set nx v') k c ↔ (a.eval x).ownBlock = some c := fun c => by
    rw [hsown, hle _ _ hv]
    exact ⟨fun ⟨u, hu, hb⟩ => by cases hu; rw [← hblk]; exact hb, fun h => ⟨_, rfl, by rw [hblk]; exact h⟩⟩
  have hnew : ∀ c, (g.so et j.size).own (σ.set nx v') nx c ↔ v'.ownBlock = some c := fun c => by
    rw [EF.so_own, Sg.set_self]
    exact ⟨fun ⟨u, hu, hb⟩ => by cases hu; rw [← own_blk' hown']; exact hb, fun h => ⟨_, rfl, by rw [own_blk' hown']; exact h⟩⟩
  have hm := Mod.grown hgr
  have hM : ∀ c, (a.eval x).ownBlock = some c → owns (σ.set nx v') objs c := fun c hc => (r1 c).2 (.inr ((hold c).2 hc))
  have how : ∀ c, owns (σ.set nx v') objs' c → owns (σ.set nx v') objs c ∨ w.heap.size ≤ c := fun c hc => by
    rcases (r2 c).1 hc with h | h
    · exact .inl ((r1 c).2 (.inl h))
    · rcases hgrow c ((hnew c).1 h) with h | h
      · exact .inl (hM c h)
      · exact .inr h
  have hlat := h1.lat hm hM how
  have hl0 : Later w (S.A σ objs) w' (S.A (σ.set nx v') objs') := (Later.own fun b hb => hb.imp id (owns_names hle hst.obs.holds b).1).trans hlat
  refine ⟨.value v', v', w', σ.set nx v', ?_, .inl rfl, ?_, fun e => by cases e⟩
  · simp only [execOp, ho, resolve, invoke, builtin, Sem.run_bind, Sem.run_pure, Result.andThen_ok, List.map_toArray, List.map_cons, List.map_nil, hrun]
  · rw [hd]
    refine (h1.upd hm hM how (h1.obs.set hs (hm.mono fun c hc => (hold c).2 hc) ((EF.so_holds g _ _ _).2 ⟨v', cs ++ ds, Sg.set_self _ _ _, ?_, hb.2, ?_, by rw [hgl]; exact hown'⟩) (fun c hc => ?_) h1.a0lt)).put hlt (own_self nx v' (own_blk hown').2)
    · rw [hg]; exact fun e he => (List.mem_append.1 he).elim (hez e) (hfz e)
    · rw [hg]; exact (hE1.later hl0).append (hE2.later hl0)
    · rcases hgrow c ((hnew c).1 hc) with h | h
      · exact .inl ((hold c).2 h)
      · exact .inr h
theorem app_new {T et : TypeId} {j i : TI} {zp : List SV} {d : Nat} {u : SV} {f : EF} (ho : o.op = .call { callee := .builtin .append, args := #[x, y], argTypes := #[T, T] }) (hd : o.dst = some d) (hlt : d < S.n) (hx : evx P env x = some .nils) (hy : evx P env y = some u)
    (ht : ty P T = some i) (hik : i.k = .sl et) (hj : ty P et = some j) (hz : zeroOf (TabC.tab P) 9 et = some zp) (hzz : szL zp = j.size) (hpos : 0 < j.size) (hf : srcE objs u j.size = some f)
    (hb : f.els.length * j.bytes ≤ 140737488355328 ∧ f.els.length ≤ 140737488355328) (hK : K ((d, .own nx) :: env) ((nx, f.so et j.size) :: objs) (nx + 1)) : DoesK P S env objs nx o false K := by
  refine DoesK.of hK fun σ a w hst => ?_
  have hxv : a.eval x = .slice none 0 0 := by have := hst.ev hx; simpa [SV.hv, SV.h1, SV.hc] using this
  obtain ⟨v', w', cs, ds, hrun, hown', hgr, hgrow, hE1, hE2, _⟩ := run_app (P := P) (v := a.eval x) (b := []) ht hik hj hz hzz hpos o.type (.inr ⟨hxv, rfl⟩) (srcE_spec hf hy hst) (by simpa using hb.1) (by simpa using hb.2)
  simp only [hE] at hE1; subst hE1
  have hfz : ∀ e ∈ f.els, szL e = j.size := (srcE_spec hf hy hst).1
  have h1 := hst.name v'
  have hle := Sg.le_set (σ := σ) (v := v') (hst.dom nx (Nat.le_refl _))
  have hnew : ∀ c, (f.so et j.size).own (σ.set nx v') nx c → w.heap.size ≤ c := fun c hc => by
    rw [EF.so_own, Sg.set_self] at hc
    obtain ⟨u, hu, hb⟩ := hc
    cases hu
    rw [own_blk' hown'] at hb
    rcases hgrow c hb with h | h
    · rw [hxv] at h; cases h
    · exact h
  have hm : Kept w w' := (Mod.grown hgr).mono fun b hb => by rw [hxv] at hb; cases hb
  have how : ∀ c, owns (σ.set nx v') ((nx, f.so et j.size) :: objs) c → owns (σ.set nx v') objs c ∨ w.heap.size ≤ c := fun c hc => hc.elim (fun h => .inr (hnew c h)) .inl
  have hlat := h1.lat hm (fun _ x => x.elim) how
  have hl0 : Later w (S.A σ objs) w' (S.A (σ.set nx v') ((nx, f.so et j.size) :: objs)) := (Later.own fun b hb => hb.imp id (owns_names hle hst.obs.holds b).1).trans hlat
  refine ⟨.value v', v', w', σ.set nx v', ?_, .inl rfl, ?_, fun e => by cases e⟩
  · simp only [execOp, ho, resolve, invoke, builtin, Sem.run_bind, Sem.run_pure, Result.andThen_ok, List.map_toArray, List.map_cons, List.map_nil, hrun]
  · rw [hd]
    refine (h1.upd hm (fun _ x => x.elim) how (h1.obs.cons hm ((EF.so_holds f _ _ _).2 ⟨v', ds, Sg.set_self _ _ _, hfz, hb.2, hE2.later hl0, by simpa using hown'⟩) hnew h1.a0lt)).put hlt (own_self nx v' (own_blk hown').2)
theorem evAppend_sound {T : TypeId} {s u : SV} (ho : o.op = .call { callee := .builtin .append, args := #[x, y], argTypes := #[T, T] }) (hx : evx P env x = some s) (hy : evx P env y = some u) (h : evAppend P S.n o.dst env objs nx T s u K) : DoesK P S env objs nx o false K := by
  obtain ⟨d, hd, hlt, h⟩ := dstK_spec h
  split at h
  · rename_i et _ _ ht
    split at h
    · rename_i j zp hj hz
      split at h
      · rename_i f hzz hpos hf
        have hzz' := Nat.eq_of_beq_eq_true hzz
        have hpos' : 0 < j.size := by simpa [Nat.blt_eq] using hpos
        split at h
        · exact app_new ho hd hlt hx hy ht rfl hj hz hzz' hpos' hf h.h h.k
        · split at h
          · rename_i k e z α enc xs hk
            split at h
            · rename_i he hze
              obtain rfl := Nat.eq_of_beq_eq_true he
              obtain rfl := Nat.eq_of_beq_eq_true hze
              obtain ⟨g, hg, hgj⟩ := joinE_spec h
              obtain ⟨l, hl, hK⟩ := setK_spec hg.k
              exact app_own (b := .of enc xs) ho hd hlt hx hy ht rfl hj hz hzz' hpos' hf hk (fun _ _ _ => Iff.rfl) (fun _ _ => Iff.rfl) hgj hg.h hl hK
            · exact h.elim
          · rename_i k e z els hk
            split at h
            · rename_i he hze
              obtain rfl := Nat.eq_of_beq_eq_true he
              obtain rfl := Nat.eq_of_beq_eq_true hze
              obtain ⟨g, hg, hgj⟩ := joinE_spec h
              obtain ⟨l, hl, hK⟩ := setK_spec hg.k
              exact app_own (b := .lit els) ho hd hlt hx hy ht rfl hj hz hzz' hpos' hf hk (fun _ _ _ => Iff.rfl) (fun _ _ => Iff.rfl) hgj hg.h hl hK
            · exact h.elim
          · exact h.elim
        · exact h.elim
      · exact h.elim
    · exact h.elim
  · exact h.elim
end
end Go.Proofs.YtffaohckcggkdaaDoor

/- MY OWN ENGINE: rows that are made; rows of one's own, cut off. -/
namespace Go.Proofs.YtffaohckcggkdaaDoor
set_option linter.all false
open Go.RowKit
section
variable {P : Program} [TabC P] {S : Sig} {σ : Sg} {env : Env} {objs : List Ob} {nx : Nat} {o : Oper} {a : Act} {w : World} {x y : Operand} {K : KS}
/-- a new row of one's own, with room -/
theorem St.newRow' {e z : Nat} {els : List (List SV)} {so : SO} {C : Array Value} {cs : List Value} {v : Value} (h : St P S σ env objs nx a w) (hso : ∀ w A σ, rowH w A σ nx e z els → so.holds w A σ nx) (hown : ∀ σ b, so.own σ nx b ↔ ∃ v, σ nx = some v ∧ blkO v = some b)
    (hel : ∀ e ∈ els, szL e = z) (hlen : els.length ≤ 140737488355328) (hC : hE w (S.A σ objs) sg0 els cs) (hrow : (w.alloc (.cells C e)).ownsRow 0 e z v els.length cs) (hv : blkO v = some w.heap.size) :
    St P S (σ.set nx v) env ((nx, so) :: objs) (nx + 1) a (w.alloc (.cells C e)) := by
  have h1 := h.name v
  have hle := Sg.le_set (σ := σ) (v := v) (h.dom nx (Nat.le_refl _))
  have hn : ∀ b, so.own (σ.set nx v) nx b ↔ b = w.heap.size := fun b => by
    rw [hown, Sg.set_self]
    constructor
    · rintro ⟨u, hu, hb⟩; cases hu; rw [hv] at hb; cases hb; rfl
    · rintro rfl; exact ⟨v, rfl, hv⟩
  have hown2 : ∀ b, owns (σ.set nx v) ((nx, so) :: objs) b → owns (σ.set nx v) objs b ∨ w.heap.size ≤ b := fun b hb => by
    rcases hb with hb | hb
    · rw [(hn b).1 hb]; exact .inr (Nat.le_refl _)
    · exact .inl hb
  refine h1.upd (M := fun _ => False) (Mod.alloc _ w _) (fun _ x => x.elim) hown2 (h1.obs.cons (Mod.alloc _ w _) ?_ (fun b hb => by rw [(hn b).1 hb]; exact Nat.le_refl _) h.a0lt)
  refine hso _ _ _ ⟨v, cs, Sg.set_self _ _ _, hel, hlen, hC.later ?_, hrow⟩
  refine (Mod.alloc (fun _ => False) w (.cells C e)).later (fun _ x => x.elim) (fun b hb hx => hx.imp id fun hx => ?_)
  exact (owns_names hle h.obs.holds b).1 ((hown2 b hx).resolve_right (by omega))
def isZ : Int → Bool
  | .ofNat 0 => true
  | _ => false
theorem isZ_spec {n : Int} (h : isZ n = true) : n = 0 := by
  unfold isZ at h; split at h
  · rfl
  · cases h
variable (P) in
/-- a row made: of no length, with room; or full of zeros -/
def evMake (m : Nat) (dst : Option Nat) (env : Env) (objs : List Ob) (nx : Nat) (T : Nat) (s u : SV) (K : KS) : Prop := dstK m dst fun d => match ty P T with
  | some ⟨.sl et, _, _⟩ => match ty P et, zeroOf (TabC.tab P) 9 et with
    | some j, some zp => match Nat.beq (szL zp) j.size with
      | true => match s, u with
        | .int .i64 l, .int .i64 c => match isZ l with
          | true => Side (0 ≤ c ∧ j.bytes * c ≤ 281474976710656) (K ((d, .own nx) :: env) ((nx, .lits et j.size []) :: objs) (nx + 1))
          | false => Side (l = c ∧ 0 ≤ c ∧ c ≤ 140737488355328 ∧ j.bytes * c ≤ 281474976710656) (K ((d, .own nx) :: env) ((nx, .lits et j.size (List.replicate c.toNat zp)) :: objs) (nx + 1))
        | _, _ => False
      | false => False
    | _, _ => False
  | _ => False
theorem madeCells_chunk {z : Array Value} {n i : Nat} (hi : i < n) : ((madeCells z (n * z.size)).toList.drop (i * z.size)).take z.size = z.toList := by
  have hle : i * z.size + z.size ≤ n * z.size := by rw [← Nat.succ_mul]; exact Nat.mul_le_mul_right _ hi
  refine List.ext_getElem (by simp [madeCells]; omega) fun j h1 h2 => ?_
  simp only [List.length_take, List.length_drop] at h1
  have hj : j < z.size := by simpa using h2
  rw [List.getElem_take, List.getElem_drop]
  simp only [madeCells, Array.toList_map, Array.toList_range, List.getElem_map, List.getElem_range, Array.getElem_toList]
  rw [show (i * z.size + j) % z.size = j by rw [Nat.mul_comm, Nat.mul_add_mod, Nat.mod_eq_of_lt hj]]
  exact getElem!_pos z j hj
theorem evMake_sound {T : TypeId} {s u : SV} (ho : o.op = .makeSlice T x y) (hx : evx P env x = some s) (hy : evx P env y = some u) (h : evMake P S.n o.dst env objs nx T s u K) : DoesK P S env objs nx o true K := by
  obtain ⟨d, hd, hlt, h2⟩ := dstK_spec h
  replace h := h2
  clear h2
  split at h
  · rename_i et _ _ ht
    split at h
    · rename_i j zp hj hz
      split at h
      · rename_i hzz
        have hzz' := Nat.eq_of_beq_eq_true hzz
        obtain ⟨inf, zv, hi, hz0, hisz, hzc⟩ := zero_spec (P := P) hz
        obtain ⟨inf', _, hi', _, hsz, hby, _⟩ := ty_spec hj
        rw [hi] at hi'; cases hi'
        have hzs : zv.cells.size = inf.size := by
          have := (hzc ⟨#[], default, default, default, default⟩ (fun _ => False) sg0).len
          rw [hisz, ← this]; simp
        split at h
        · rename_i l c
          split at h
          · rename_i hl
            have := isZ_spec hl; subst this
            refine DoesK.of h.k fun σ a w hst => ?_
            obtain ⟨h0, hb⟩ := h.h
            have e1 := (hvI.1 (hst.ev hx)).1
            obtain ⟨e2, hr⟩ := hvI.1 (hst.ev hy)
            have hr := hr rfl
            have hmx : c.toNat ≤ maxLen := by
              have : maxLen = 9223372036854775807 := by decide
              have := hr.2; omega
            have hrun := run_make (P := P) w T et inf zv (ty_slice ht rfl) hi hz0 .i64 .i64 0 c (Int.le_refl _) h0 (by rw [hby]; exact hb) (by have := hr.2; omega)
            refine ⟨.value (.slice (some ⟨w.heap.size, 0, none⟩) 0 c.toNat), _, w.alloc (.cells (madeCells zv.cells (c.toNat * inf.size)) et), σ.set nx (.slice (some ⟨w.heap.size, 0, none⟩) 0 c.toNat), ?_, .inl rfl, ?_, fun _ => Mod.alloc _ w _⟩
            · simp only [execOp, ho, e1, e2, Sem.run_bind, hrun, Result.andThen_ok, Sem.run_pure, Int.toNat_zero]
            · rw [hd]
              refine (hst.newRow' (so := .lits et j.size []) (cs := []) (fun _ _ _ h => h) (fun _ _ => Iff.rfl) (by simp) (by simp) rfl ?_ rfl).put hlt (own_self nx _ rfl)
              exact World.ownsRow_made w _ c.toNat (Nat.zero_le _) hmx (by rw [size_madeCells, hsz])
          · refine DoesK.of h.k fun σ a w hst => ?_
            obtain ⟨rfl, h0, hmx0, hb⟩ := h.h
            have e1 := (hvI.1 (hst.ev hx)).1
            obtain ⟨e2, hr⟩ := hvI.1 (hst.ev hy)
            have hr := hr rfl
            have hmx : l.toNat ≤ maxLen := by
              have : maxLen = 9223372036854775807 := by decide
              have := hr.2; omega
            have hrun := run_make (P := P) w T et inf zv (ty_slice ht rfl) hi hz0 .i64 .i64 l l h0 (Int.le_refl _) (by rw [hby]; exact hb) (by have := hr.2; omega)
            refine ⟨.value (.slice (some ⟨w.heap.size, 0, none⟩) l.toNat l.toNat), _, w.alloc (.cells (madeCells zv.cells (l.toNat * inf.size)) et), σ.set nx (.slice (some ⟨w.heap.size, 0, none⟩) l.toNat l.toNat), ?_, .inl rfl, ?_, fun _ => Mod.alloc _ w _⟩
            · simp only [execOp, ho, e1, e2, Sem.run_bind, hrun, Result.andThen_ok, Sem.run_pure]
            · rw [hd]
              refine (hst.newRow' (so := .lits et j.size (List.replicate l.toNat zp)) (cs := (madeCells zv.cells (l.toNat * inf.size)).toList) (fun _ _ _ h => h) (fun _ _ => Iff.rfl) (fun e he => ?_) (by simp; omega) ?_ ?_ rfl).put hlt (own_self nx _ rfl)
              · rw [(List.mem_replicate.1 he).2]; exact hzz'
              · refine hE.of (z := inf.size) (by simp [size_madeCells]) fun i e hi => ?_
                obtain ⟨h1, h2⟩ := List.getElem?_eq_some_iff.1 hi
                have hl : i < l.toNat := by simpa using h1
                rw [List.getElem_replicate] at h2; subst h2
                rw [← hzs, madeCells_chunk hl]
                exact hzc _ _ _
              · have := World.ownsRow_lit (base := 0) (e := et) (size := j.size) w (madeCells zv.cells (l.toNat * inf.size)) l.toNat (Nat.zero_le _) hmx (by rw [size_madeCells, hsz])
                simpa using this
        · exact h.elim
      · exact h.elim
    · exact h.elim
  · exact h.elim
/-! ## a row of one's own, cut off -/
theorem hE.take {A : Own} {z : Nat} {els : List (List SV)} {cs : List Value} (h : hE w A σ els cs) (hz : ∀ e ∈ els, szL e = z) (k : Nat) (hk : k ≤ els.length) : hE w A σ (els.take k) (cs.take (k * z)) := by
  have hl := h.len hz
  have hkz : k * z ≤ els.length * z := Nat.mul_le_mul_right _ hk
  refine hE.of (z := z) (by rw [List.length_take, List.length_take]; rw [Nat.min_eq_left hk, Nat.min_eq_left (by omega)]) fun i e hi => ?_
  obtain ⟨h1, h2⟩ := List.getElem?_eq_some_iff.1 hi
  have hik : i < k := by rw [List.length_take] at h1; omega
  rw [List.getElem_take] at h2
  have := h.get hz (i := i) (e := e) (by rw [← h2]; exact List.getElem?_eq_getElem (by omega))
  rw [List.drop_take, List.take_take, Nat.min_eq_left]
  · exact this
  · rw [← Nat.sub_mul]
    exact Nat.le_mul_of_pos_left _ (by omega)
variable (P) in
def evTrunc (m : Nat) (dst : Option Nat) (env : Env) (objs : List Ob) (nx : Nat) (T : Nat) (s u : SV) (K : KS) : Prop := dstK m dst fun d => match ty P T with
  | some ⟨.sl et, _, _⟩ => match ty P et with
    | some j => match s, u with
      | .own k, .int .i64 h => match lk objs k with
        | some (.row e z enc xs) => Side (0 ≤ h ∧ h ≤ xs.length) (setK objs k nx (.row e z enc (xs.take h.toNat)) fun o => K ((d, .own nx) :: env) o (nx + 1))
        | some (.lits e z els) => Side (0 ≤ h ∧ h ≤ els.length) (setK objs k nx (.lits e z (els.take h.toNat)) fun o => K ((d, .own nx) :: env) o (nx + 1))
        | _ => False
      | _, _ => False
    | none => False
  | _ => False
theorem trunc_own {T et k : TypeId} {j i : TI} {d : Nat} {e z : Nat} {els : List (List SV)} {so so' : SO} {objs' : List Ob} {n : Int} (ho : o.op = .slice T x none (some y) none) (hd : o.dst = some d) (hlt : d < S.n) (hx : evx P env x = some (.own k)) (hy : evx P env y = some (.int .i64 n))
    (ht : ty P T = some i) (hik : i.k = .sl et) (hj : ty P et = some j) (hk : lk objs k = some so) (hso : ∀ w A σ, so.holds w A σ k ↔ rowH w A σ k e z els) (hsown : ∀ σ c, so.own σ k c ↔ ∃ v, σ k = some v ∧ blkO v = some c)
    (hso' : ∀ w A σ, so'.holds w A σ nx ↔ rowH w A σ nx e z (els.take n.toNat)) (hsown' : ∀ σ c, so'.own σ nx c ↔ ∃ v, σ nx = some v ∧ blkO v = some c)
    (hn : 0 ≤ n ∧ n ≤ els.length) (hl : setO objs k nx so' = some objs') (hK : K ((d, .own nx) :: env) objs' (nx + 1)) : DoesK P S env objs nx o true K := by
  have hs := setO_spec hk hl
  refine DoesK.of hK fun σ a w hst => ?_
  have hrow := (hso _ _ _).1 (lk_holds hst hk)
  have hv := own_ev hx hst
  obtain ⟨v, cs, hv0, hz, hlen, hE0, hown⟩ := hrow
  rw [hv] at hv0; cases hv0
  have hyv := (hvI.1 (hst.ev hy)).1
  -- the value
  have key : ∃ v', (execOp a.eval o).run P w = .ok (.value v') w ∧ w.ownsRow 0 e z v' (els.take n.toNat).length (cs.take (n.toNat * z)) ∧ v'.ownBlock = (a.eval x).ownBlock := by
    have htl : (els.take n.toNat).length = n.toNat := by rw [List.length_take]; omega
    rw [htl]
    have hcl : cs.length = els.length * z := hE0.len hz
    have hnz : n.toNat * z ≤ els.length * z := Nat.mul_le_mul_right _ (by omega)
    have htk : (cs.take (n.toNat * z)).length = n.toNat * z := by rw [List.length_take]; omega
    rcases hown.2 with ⟨hv1, hl0⟩ | ⟨g, cap, cur, hv1, hb0, hg, hnc, hcm, hcs, hcut⟩
    · have hn0 : n.toNat = 0 := by omega
      have hb := run_bounds (P := P) (sl := true) (n := 0) (c := 0) (lo := none) (hi := some (a.eval y)) (mx := none) (l := none) (h := some n) (m := none) (.inl ⟨rfl, rfl⟩) (.inr ⟨.i64, n, by rw [hyv], rfl⟩) (.inl ⟨rfl, rfl⟩) (.inl rfl) (Int.le_refl _) (by show (0 : Int) ≤ n; exact hn.1) (by show n ≤ ((0 : Nat) : Int); have := hn.2; omega) (Int.le_refl _) w
      refine ⟨.slice none 0 0, ?_, ⟨htk, .inl ⟨rfl, hn0⟩⟩, by rw [hv1]⟩
      have hz0 : n = 0 := by omega
      subst hz0
      simp only [loI, hiI] at hb
      simp [execOp, ho, hv1, Instr.sliceAt, Instr.slice, run_underlying (ty_slice ht hik), hb, run_sizeOf' hj]
    · have hb := run_bounds (P := P) (sl := true) (n := els.length) (c := cap) (lo := none) (hi := some (a.eval y)) (mx := none) (l := none) (h := some n) (m := none) (.inl ⟨rfl, rfl⟩) (.inr ⟨.i64, n, by rw [hyv], rfl⟩) (.inl ⟨rfl, rfl⟩) (.inl rfl) (Int.le_refl _) (by show (0 : Int) ≤ n; exact hn.1) (by show n ≤ (cap : Int); omega) (Int.le_refl _) w
      refine ⟨.slice (some ⟨g, 0, none⟩) n.toNat cap, ?_, ⟨htk, .inr ⟨g, cap, cur, rfl, hb0, hg, by omega, hcm, hcs, by rw [← hcut, List.take_take, Nat.min_eq_left hnz]⟩⟩, by rw [hv1]; rfl⟩
      simp only [loI, hiI] at hb
      simp [execOp, ho, hv1, Instr.sliceAt, Instr.slice, run_underlying (ty_slice ht hik), hb, run_sizeOf' hj, Addr.add]
  obtain ⟨v', hrun, hown', hblk⟩ := key
  have h1 := hst.name v'
  have hle := Sg.le_set (σ := σ) (v := v') (hst.dom nx (Nat.le_refl _))
  obtain ⟨R, r1, r2, _⟩ := hs.owns_iff (σ := σ.set nx v')
  have hold : ∀ c, so.own (σ.set nx v') k c ↔ (a.eval x).ownBlock = some c := fun c => by
    rw [hsown, hle _ _ hv]
    exact ⟨fun ⟨u, hu, hb⟩ => by cases hu; rw [← own_blk' hown]; exact hb, fun h => ⟨_, rfl, by rw [own_blk' hown]; exact h⟩⟩
  have hnew : ∀ c, so'.own (σ.set nx v') nx c ↔ (a.eval x).ownBlock = some c := fun c => by
    rw [hsown', Sg.set_self, ← hblk]
    exact ⟨fun ⟨u, hu, hb⟩ => by cases hu; rw [← own_blk' hown']; exact hb, fun h => ⟨_, rfl, by rw [own_blk' hown']; exact h⟩⟩
  have how : ∀ c, owns (σ.set nx v') objs' c → owns (σ.set nx v') objs c ∨ w.heap.size ≤ c := fun c hc => by
    rcases (r2 c).1 hc with h | h
    · exact .inl ((r1 c).2 (.inl h))
    · exact .inl ((r1 c).2 (.inr ((hold c).2 ((hnew c).1 h))))
  have hm : Kept w w := Mod.refl _ w
  have hlat := h1.lat hm (fun _ x => x.elim) how
  have hl0 : Later w (S.A σ objs) w (S.A (σ.set nx v') objs') := (Later.own fun b hb => hb.imp id (owns_names hle hst.obs.holds b).1).trans hlat
  refine ⟨.value v', v', w, σ.set nx v', hrun, .inl rfl, ?_, fun _ => hm⟩
  rw [hd]
  refine (h1.upd hm (fun _ x => x.elim) how (h1.obs.set hs (hm.mono fun c hc => hc.elim) ((hso' _ _ _).2 ⟨v', cs.take (n.toNat * z), Sg.set_self _ _ _, fun e he => hz e (List.mem_of_mem_take he), by rw [List.length_take]; omega, (hE0.take hz _ (by omega)).later hl0, hown'⟩) (fun c hc => .inl ((hold c).2 ((hnew c).1 hc))) h1.a0lt)).put hlt (own_self nx v' (own_blk hown').2)
theorem evTrunc_sound {T : TypeId} {s u : SV} (ho : o.op = .slice T x none (some y) none) (hx : evx P env x = some s) (hy : evx P env y = some u) (h : evTrunc P S.n o.dst env objs nx T s u K) : DoesK P S env objs nx o true K := by
  obtain ⟨d, hd, hlt, h2⟩ := dstK_spec h
  replace h := h2
  clear h2
  split at h
  · rename_i et _ _ ht
    split at h
    · rename_i j hj
      split at h
      · rename_i k n
        split at h
        · rename_i e z α enc xs hk
          obtain ⟨l, hl, hK⟩ := setK_spec h.k
          have hh := h.h
          exact trunc_own (els := xs.map enc) ho hd hlt hx hy ht rfl hj hk (fun _ _ _ => Iff.rfl) (fun _ _ => Iff.rfl) (fun _ _ _ => by simp only [SO.holds, List.map_take]) (fun _ _ => Iff.rfl) (by simpa using hh) hl hK
        · rename_i e z els hk
          obtain ⟨l, hl, hK⟩ := setK_spec h.k
          exact trunc_own (els := els) ho hd hlt hx hy ht rfl hj hk (fun _ _ _ => Iff.rfl) (fun _ _ => Iff.rfl) (fun _ _ _ => Iff.rfl) (fun _ _ => Iff.rfl) h.h hl hK
        · exact h.elim
      · exact h.elim
    · exact h.elim
  · exact h.elim
end
end Go.Proofs.YtffaohckcggkdaaDoor

/- MY OWN ENGINE: loads and stores, seen from other worlds. -/
namespace Go.Proofs.YtffaohckcggkdaaDoor
set_option linter.all false
open Go.RowKit
section
variable {P : Program} [TabC P] {o : Oper} {a : Act} {w w' : World} {x y : Operand}
theorem load_same {b off : Nat} {C : Array Value} {t : TypeId} {fr : Nat × Nat} (h1 : w.heap[b]? = some (.cells C t fr)) (h2 : w'.heap[b]? = some (.cells C t fr)) {v : Value} {w1 : World}
    (h : (load ⟨b, off, none⟩).run P w = .ok v w1) : (load ⟨b, off, none⟩).run P w' = .ok v w' := by
  simp only [load, Sem.run, World.cell?, h1, h2, World.farLoad] at h ⊢
  cases hc : C[off]? with
  | some u => simp [hc, Sem.run] at h ⊢; exact h.1
  | none => simp [hc, Sem.run] at h
theorem add_plain (b off i : Nat) : (⟨b, off, none⟩ : Addr).add i = ⟨b, off + i, none⟩ := by simp [Addr.add]
theorem load_world {b off : Nat} {C : Array Value} {t : TypeId} {fr : Nat × Nat} (h1 : w.heap[b]? = some (.cells C t fr)) {v : Value} {w1 : World} (h : (load ⟨b, off, none⟩).run P w = .ok v w1) : w1 = w := by
  simp only [load, Sem.run, World.cell?, h1, World.farLoad] at h
  cases hc : C[off]? with
  | some z => simp [hc, Sem.run] at h; exact h.2.symm
  | none => simp [hc, Sem.run] at h
theorem loads_same {b off : Nat} {C : Array Value} {t : TypeId} {fr : Nat × Nat} (h1 : w.heap[b]? = some (.cells C t fr)) (h2 : w'.heap[b]? = some (.cells C t fr)) : ∀ (n i : Nat) (acc : Array Value) {v : Array Value} {w1 : World},
    (loadCellsFrom ⟨b, off, none⟩ i n acc).run P w = .ok v w1 → (loadCellsFrom ⟨b, off, none⟩ i n acc).run P w' = .ok v w'
  | 0, i, acc, v, w1, h => by simp [loadCellsFrom] at h ⊢; exact h.1
  | n + 1, i, acc, v, w1, h => by
    simp only [loadCellsFrom, Sem.run_bind, add_plain] at h ⊢
    cases hl : (load (⟨b, off + i, none⟩ : Addr)).run P w with
    | ok u w2 =>
      rw [hl] at h
      simp only [Result.andThen_ok] at h
      rw [load_same (P := P) h1 h2 hl]
      simp only [Result.andThen_ok]
      have e := load_world (P := P) h1 hl
      rw [e] at h
      exact loads_same h1 h2 n _ _ h
    | halt e w2 => rw [hl] at h; cases h
/-- a load sees its block alone -/
theorem loadOp_same {T b off : Nat} {i : TI} {C : Array Value} {t : TypeId} {fr : Nat × Nat} (ho : o.op = .load T x) (ht : ty P T = some i) (hx : a.eval x = .pointer (some ⟨b, off, none⟩)) (h1 : w.heap[b]? = some (.cells C t fr)) (h2 : w'.heap[b]? = some (.cells C t fr)) {v : Value}
    (h : (execOp a.eval o).run P w = .ok (.value v) w) : (execOp a.eval o).run P w' = .ok (.value v) w' := by
  simp only [execOp, ho, hx, Instr.loadAt, Instr.sureAddr, Sem.run_bind, Sem.run_pure, Result.andThen_ok, loadVar, run_isAgg' ht] at h ⊢
  cases hr : i.row with
  | true =>
    simp only [hr, if_true, Sem.run_bind, run_sizeOf' ht, Result.andThen_ok, loadCells] at h ⊢
    cases hl : (loadCellsFrom (⟨b, off, none⟩ : Addr) 0 i.size #[]).run P w with
    | ok u w2 =>
      rw [hl] at h
      rw [loads_same (P := P) h1 h2 _ _ _ hl]
      simp only [Result.andThen_ok, Sem.run_pure] at h ⊢
      cases h; rfl
    | halt e w2 => rw [hl] at h; cases h
  | false =>
    simp only [hr, Bool.false_eq_true, if_false] at h ⊢
    cases hl : (load (⟨b, off, none⟩ : Addr)).run P w with
    | ok u w2 =>
      rw [hl] at h
      rw [load_same (P := P) h1 h2 hl]
      simp only [Result.andThen_ok, Sem.run_pure] at h ⊢
      cases h; rfl
    | halt e w2 => rw [hl] at h; cases h
/-! stores turn their block alone -/
theorem Mod.setCell (w : World) (ad : Addr) (v : Value) : Mod (fun b => b = ad.block) w (w.setCell ad v) :=
  ⟨rfl, rfl, rfl, by simp [World.setCell], fun k hk hm => by simp only [World.setCell]; rw [Array.getElem?_modify]; rw [if_neg (fun e => hm e.symm)]⟩
theorem store_mod {b off : Nat} {C : Array Value} {t : TypeId} {fr : Nat × Nat} (h1 : w.heap[b]? = some (.cells C t fr)) {v : Value} {u : Unit} {w1 : World} (h : (store ⟨b, off, none⟩ v).run P w = .ok u w1) :
    Mod (fun c => c = b) w w1 ∧ ∃ C', w1.heap[b]? = some (.cells C' t fr) := by
  have key : ∀ x, w.cell? ⟨b, off, none⟩ = some x → Mod (fun c => c = b) w (w.setCell ⟨b, off, none⟩ v) ∧ ∃ C', (w.setCell ⟨b, off, none⟩ v).heap[b]? = some (.cells C' t fr) := fun x _ =>
    ⟨Mod.setCell w ⟨b, off, none⟩ v, by simp only [World.setCell]; rw [Array.getElem?_modify]; simp [h1]⟩
  have fin : ∀ r : Result Unit, r = (match w.cell? ⟨b, off, none⟩ with
      | some _ => if w.frozen? ⟨b, off, none⟩ then .halt (.unsupported (.unsafePointer "a write to bytes that a string shares")) w else .ok () (w.setCell ⟨b, off, none⟩ v)
      | none => match w.farStore P ⟨b, off, none⟩ v false with
        | .ok (w, _) => .ok () w
        | .error h => .halt h w) → r = .ok u w1 → Mod (fun c => c = b) w w1 ∧ ∃ C', w1.heap[b]? = some (.cells C' t fr) := by
    intro r hr hr2
    rw [hr] at hr2
    cases hc : w.cell? ⟨b, off, none⟩ with
    | some x =>
      simp only [hc] at hr2
      split at hr2
      · cases hr2
      · cases hr2; exact key x hc
    | none =>
      simp only [hc, World.farStore, h1] at hr2
      cases hr2
  cases v <;> first | (simp [store, Sem.run] at h; done) | exact fin _ rfl h
theorem stores_mod {b off : Nat} {t : TypeId} {fr : Nat × Nat} : ∀ (l : List Value) (i : Nat) {w : World} {C : Array Value} {u : Unit} {w1 : World}, w.heap[b]? = some (.cells C t fr) → (storeCells ⟨b, off, none⟩ l i).run P w = .ok u w1 →
    Mod (fun c => c = b) w w1
  | [], i, w, C, u, w1, h1, h => by simp [storeCells] at h; subst h; exact Mod.refl _ _
  | v :: r, i, w, C, u, w1, h1, h => by
    simp only [storeCells, Sem.run_bind, add_plain] at h
    cases hl : (store (⟨b, off + i, none⟩ : Addr) v).run P w with
    | ok u2 w2 =>
      rw [hl] at h
      simp only [Result.andThen_ok] at h
      obtain ⟨m1, C', h2⟩ := store_mod (P := P) h1 hl
      exact m1.trans (stores_mod r (i + 1) h2 h)
    | halt e w2 => rw [hl] at h; cases h
/-- a store, and what it turns -/
theorem storeOp_mod {T b off : Nat} {i : TI} {C : Array Value} {t : TypeId} {fr : Nat × Nat} {X : Act → World → Prop} {Q : Exit → Act → World → Prop} (ho : o.op = .store T x y) (ht : ty P T = some i) (hx : a.eval x = .pointer (some ⟨b, off, none⟩)) (h1 : w.heap[b]? = some (.cells C t fr))
    (h : o.wp P a w X Q) : o.wp P a w (fun a' w' => X a' w' ∧ Mod (fun c => c = b) w w') Q := by
  unfold Oper.wp at h ⊢
  have e : (execOp a.eval o).run P w = ((storeVar T ⟨b, off, none⟩ (a.eval y)).run P w).andThen fun _ w' => .ok .skip w' := by
    simp only [execOp, ho, hx, Instr.storeAt, Instr.sureAddr, Sem.run_bind, Sem.run_pure, Result.andThen_ok]
  rw [e] at h ⊢
  cases hl : (storeVar T ⟨b, off, none⟩ (a.eval y)).run P w with
  | ok u w1 =>
    rw [hl] at h
    simp only [Result.andThen_ok, Oper.upon] at h ⊢
    refine ⟨h, ?_⟩
    simp only [storeVar, Sem.run_bind, run_sizeOf' ht, Result.andThen_ok] at hl
    split at hl
    · simp [stuck] at hl
    · exact stores_mod _ 0 h1 (by simpa using hl)
  | halt e w1 =>
    rw [hl] at h
    cases e <;> exact h
end
end Go.Proofs.YtffaohckcggkdaaDoor

/- MY OWN ENGINE: what is there, held against what is asked. -/
namespace Go.Proofs.YtffaohckcggkdaaDoor
set_option linter.all false
open Go.RowKit
abbrev Rn := List (Nat × Nat)
def lkN : Rn → Nat → Option Nat
  | [], _ => none
  | (j, k) :: r, t => match Nat.beq j t with
    | true => some k
    | false => lkN r t
/-- the names, seen through a renaming -/
def Sg.via (σ : Sg) (ρ : Rn) : Sg := fun j => match lkN ρ j with
  | some k => σ k
  | none => none
def Rn.le (ρ ρ' : Rn) : Prop := ∀ j k, lkN ρ j = some k → lkN ρ' j = some k
theorem Rn.le.refl (ρ : Rn) : Rn.le ρ ρ := fun _ _ h => h
theorem Rn.le.trans {a b c : Rn} (h : Rn.le a b) (k : Rn.le b c) : Rn.le a c := fun j n e => k j n (h j n e)
theorem via_le {σ σ' : Sg} {ρ ρ' : Rn} (h : Sg.le σ σ') (k : Rn.le ρ ρ') : Sg.le (σ.via ρ) (σ'.via ρ') := fun j v e => by
  unfold Sg.via at e ⊢
  split at e
  · rename_i n hn
    rw [k _ _ hn]; exact h _ _ e
  · cases e
def bindN (ρ : Rn) (j k : Nat) (K : Rn → Prop) : Prop := match lkN ρ j with
  | some k' => match Nat.beq k' k with
    | true => K ρ
    | false => False
  | none => K ((j, k) :: ρ)
theorem bindN_spec {ρ : Rn} {j k : Nat} {K : Rn → Prop} (h : bindN ρ j k K) : ∃ ρ', K ρ' ∧ Rn.le ρ ρ' ∧ lkN ρ' j = some k := by
  unfold bindN at h
  split at h
  · rename_i k' hk
    split at h
    · rename_i hb
      obtain rfl := Nat.eq_of_beq_eq_true hb
      exact ⟨ρ, h, Rn.le.refl _, hk⟩
    · exact h.elim
  · rename_i hn
    refine ⟨_, h, fun j' n e => ?_, ?_⟩
    · unfold lkN
      split
      · rename_i hb
        have := Nat.eq_of_beq_eq_true hb
        subst this; rw [hn] at e; cases e
      · exact e
    · simp [lkN, Nat.beq_refl]
abbrev KF := Rn → List Ob → Nat → Prop
section
variable {P : Program} [TabC P] {S : Sig} {σ : Sg} {env : Env} {objs : List Ob} {nx : Nat} {a : Act} {w : World}
/-- a slice that nobody writes is asked -/
def fitFs (objs : List Ob) (z : Nat) {α : Type} (enc : α → List SV) (xs : List α) (act : SV) (K : List Ob → Prop) : Prop := match act with
  | .fs z' enc' ys => Side (SV.fs z' enc' ys = SV.fs z enc xs) (K objs)
  | .nils => Side (xs = []) (K objs)
  | .own k => match lk objs k with
    | some (.row e z' enc' ys) => frz objs k fun o => Side (SV.fs z' enc' ys = SV.fs z enc xs) (K o)
    | some (.frow z' enc' ys) => Side (SV.fs z' enc' ys = SV.fs z enc xs) (K objs)
    | some (.lits e z' els) => match Nat.beq z' z with
      | true => Side (els = xs.map enc) (setK objs k k (.frow z enc xs) K)
      | false => False
    | _ => False
  | .bsl k off lo hi => nn1 objs (.bsl k off lo hi) fun o s => match s with
    | .fs z' enc' ys => Side (SV.fs z' enc' ys = SV.fs z enc xs) (K o)
    | _ => False
  | _ => False
theorem frz_lk {k e z : Nat} {α : Type} {enc : α → List SV} {xs : List α} {K : List Ob → Prop} (hk : lk objs k = some (.row e z enc xs)) (h : frz objs k K) : ∃ l, setO objs k k (.frow z enc xs) = some l ∧ K l := by
  unfold frz at h
  rw [hk] at h
  exact setK_spec h
theorem lk_setO : ∀ {l l' : List Ob} {n n' : Nat} {so : SO}, setO l n n' so = some l' → n = n' → lk l' n = some so
  | [], _, _, _, _, h, _ => by simp [setO] at h
  | (k, u) :: r, l', n, n', so, h, e => by
    unfold setO at h
    split at h
    · simp only [Option.some.injEq] at h; subst h; subst e
      simp [lk, Nat.beq_refl]
    · rename_i hb
      split at h
      · rename_i r' hr
        simp only [Option.some.injEq] at h; subst h
        simp only [lk, hb]; exact lk_setO hr e
      · cases h
/-- a ghost step, and what it makes of a value -/
theorem fitFs_sound {z : Nat} {α : Type} {enc : α → List SV} {xs : List α} {act : SV} {K : List Ob → Prop} (h : fitFs objs z enc xs act K) : ∃ objs', K objs' ∧ GS P objs objs' ∧ ∀ {S env nx σ a w cs}, St P S σ env objs nx a w → act.hc w (S.A σ objs) σ cs → (SV.fs z enc xs).hc w (S.A σ objs') sg0 cs := by
  unfold fitFs at h
  split at h
  · rename_i z' β enc' ys
    refine ⟨objs, h.k, GS.refl, fun {S env nx σ a w cs} hst hc => ?_⟩
    rw [← h.h]
    exact hc
  · refine ⟨objs, h.k, GS.refl, fun {S env nx σ a w cs} hst hc => ?_⟩
    have := h.h; subst this
    simp only [SV.hc] at hc ⊢
    subst hc
    exact ⟨none, 0, rfl, Nat.le_refl _, by decide, fun _ => by simp, fun i hi => absurd hi (by simp), fun ad had => by cases had⟩
  · rename_i k
    split at h
    · rename_i e z' β enc' ys hk
      obtain ⟨l, hl, hK⟩ := frz_lk hk h
      obtain ⟨o', ho', g1, g2⟩ := frz_sound (P := P) (K := fun o => o = l) (objs := objs) (k := k) (by unfold frz setK; rw [hk]; simp [hl])
      subst ho'
      refine ⟨o', hK.k, ⟨g1, g2⟩, fun {S env nx σ a w cs} hst hc => ?_⟩
      obtain ⟨v, h1, h2⟩ := lk_holds (g1 S env nx σ a w hst) (lk_setO hl rfl)
      simp only [SV.hc] at hc
      obtain ⟨u, e1, _, rfl⟩ := hc
      rw [h1] at e1; cases e1
      rw [← hK.h]; exact h2
    · rename_i z' β enc' ys hk
      refine ⟨objs, h.k, GS.refl, fun {S env nx σ a w cs} hst hc => ?_⟩
      obtain ⟨v, h1, h2⟩ := lk_holds hst hk
      simp only [SV.hc] at hc
      obtain ⟨u, e1, _, rfl⟩ := hc
      rw [h1] at e1; cases e1
      rw [← h.h]; exact h2
    · rename_i e z' els hk
      split at h
      · rename_i hz
        obtain rfl := Nat.eq_of_beq_eq_true hz
        obtain ⟨l, hl, hK⟩ := setK_spec h.k
        have he := h.h; subst he
        have hs := setO_spec hk hl
        have hle : ∀ σ b, owns σ l b → owns σ objs b := fun σ => hs.owns_le (fun b hb => hb.elim)
        have g1 : ∀ S env nx σ a w, St P S σ env objs nx a w → St P S σ env l nx a w := fun S env nx σ a w hst => by
          have hd := own_disj hst hs (fun b hb => hb)
          exact hst.ghost hs (rowH.fs (lk_holds hst hk) (fun b hb => hb.imp id (hle σ b)) (fun b v h1 h2 => hd b ⟨v, h1, h2⟩)) (fun b hb => hb.elim)
        refine ⟨l, hK, ⟨g1, hle⟩, fun {S env nx σ a w cs} hst hc => ?_⟩
        obtain ⟨v, h1, h2⟩ := lk_holds (g1 S env nx σ a w hst) (lk_setO hl rfl)
        simp only [SV.hc] at hc
        obtain ⟨u, e1, _, rfl⟩ := hc
        rw [h1] at e1; cases e1
        exact h2
      · exact h.elim
    · exact h.elim
  · obtain ⟨o', s', h, g, e⟩ := nn1_sound (P := P) h
    split at h
    · refine ⟨o', h.k, g, fun {S env nx σ a w cs} hst hc => ?_⟩
      rw [← h.h]; exact e hst hc
    · exact h.elim
  · exact h.elim
/-- one part -/
def fit1 (ρ : Rn) (objs : List Ob) (nx : Nat) (exp act : SV) (K : KF) : Prop := match exp with
  | .own j => match act with
    | .own k => bindN ρ j k fun ρ => K ρ objs nx
    | .nils => bindN ρ j nx fun ρ => K ρ ((nx, .nrow) :: objs) (nx + 1)
    | _ => False
  | .ptr j off => match act with
    | .ptr k off' => match Nat.beq off' off with
      | true => bindN ρ j k fun ρ => K ρ objs nx
      | false => False
    | _ => False
  | .fs z enc xs => fitFs objs z enc xs act fun o => K ρ o nx
  | .bool b => match asB act with
    | some c => Side (c = b) (K ρ objs nx)
    | none => False
  | .dec p i => match asP act with
    | some d => Side (d.p ↔ p) (K ρ objs nx)
    | none => False
  | .rptr _ _ _ _ => False
  | .cptr _ _ _ => False
  | .bsl _ _ _ _ => False
  | exp => Side (act = exp) (K ρ objs nx)
/-- what a fit owes: the state goes on, and what was there is what is asked -/
def FitS (P : Program) [TabC P] (ρ : Rn) (objs : List Ob) (nx : Nat) (ρ' : Rn) (objs' : List Ob) (nx' : Nat) (Φ : Sg → World → Own → Sg → Own → Prop) : Prop :=
  Rn.le ρ ρ' ∧ ∀ S env σ a w, St P S σ env objs nx a w → ∃ σ', Sg.le σ σ' ∧ St P S σ' env objs' nx' a w ∧ Later w (S.A σ objs) w (S.A σ' objs') ∧ Φ σ w (S.A σ objs) (σ'.via ρ') (S.A σ' objs')
theorem FitS.id {ρ : Rn} {Φ : Sg → World → Own → Sg → Own → Prop} (h : ∀ S env σ a w, St P S σ env objs nx a w → Φ σ w (S.A σ objs) (σ.via ρ) (S.A σ objs)) : FitS P ρ objs nx ρ objs nx Φ :=
  ⟨Rn.le.refl _, fun S env σ a w hst => ⟨σ, Sg.le.refl _, hst, Later.refl _ _, h S env σ a w hst⟩⟩
theorem GS.fit {ρ : Rn} {objs' : List Ob} {Φ : Sg → World → Own → Sg → Own → Prop} (g : GS P objs objs') (h : ∀ S env σ a w, St P S σ env objs nx a w → Φ σ w (S.A σ objs) (σ.via ρ) (S.A σ objs')) : FitS P ρ objs nx ρ objs' nx Φ :=
  ⟨Rn.le.refl _, fun S env σ a w hst => ⟨σ, Sg.le.refl _, g.1 S env nx σ a w hst, g.later S σ w, h S env σ a w hst⟩⟩
theorem asB_hc {s : SV} {b : Bool} (h : asB s = some b) {A : Own} {cs : List Value} : s.hc w A σ cs ↔ cs = [.bool b] := by
  cases s <;> simp only [asB, reduceCtorEq, Option.some.injEq] at h <;> subst h <;> simp only [SV.hc]
theorem asP_hc {s : SV} {d : DP} (h : asP s = some d) {A : Own} {cs : List Value} : s.hc w A σ cs ↔ cs = [.bool (@decide d.p d.i)] := by
  cases s <;> simp only [asP, reduceCtorEq, Option.some.injEq] at h <;> subst h <;> simp only [SV.hc]
  simp
theorem St.nilName (h : St P S σ env objs nx a w) : St P S (σ.set nx (.slice none 0 0)) env ((nx, .nrow) :: objs) (nx + 1) a w ∧ Later w (S.A σ objs) w (S.A (σ.set nx (.slice none 0 0)) ((nx, .nrow) :: objs)) := by
  have h1 := h.name (.slice none 0 0)
  have hle := Sg.le_set (σ := σ) (v := .slice none 0 0) (h.dom nx (Nat.le_refl _))
  have hno : ∀ b, ¬ SO.own (σ.set nx (.slice none 0 0)) nx .nrow b := fun b ⟨v, hv, hb⟩ => by rw [Sg.set_self] at hv; cases hv; cases hb
  have how : ∀ b, owns (σ.set nx (.slice none 0 0)) ((nx, .nrow) :: objs) b → owns (σ.set nx (.slice none 0 0)) objs b := fun b hb => hb.elim (fun x => (hno b x).elim) (fun x => x)
  refine ⟨h1.upd (M := fun _ => False) (Mod.refl _ w) (fun _ x => x.elim) (fun b hb => .inl (how b hb)) (h1.obs.cons (Mod.refl _ w) (Sg.set_self _ _ _) (fun b hb => (hno b hb).elim) h1.a0lt), Later.own fun b hb => hb.imp id fun hb => (owns_names hle h.obs.holds b).1 (how b hb)⟩
theorem fit1_sound {ρ : Rn} {exp act : SV} {K : KF} (h : fit1 ρ objs nx exp act K) : ∃ ρ' objs' nx', K ρ' objs' nx' ∧ FitS P ρ objs nx ρ' objs' nx' fun σ w A σ' A' => ∀ cs, act.hc w A σ cs → exp.hc w A' σ' cs := by
  unfold fit1 at h
  split at h
  · rename_i j
    split at h
    · rename_i k
      obtain ⟨ρ', hK, hle, hj⟩ := bindN_spec h
      refine ⟨ρ', objs, nx, hK, hle, fun S env σ a w hst => ⟨σ, Sg.le.refl _, hst, Later.refl _ _, fun cs hc => ?_⟩⟩
      simp only [SV.hc, Sg.via, hj] at hc ⊢; exact hc
    · obtain ⟨ρ', hK, hle, hj⟩ := bindN_spec h
      refine ⟨ρ', _, nx + 1, hK, hle, fun S env σ a w hst => ⟨_, Sg.le_set (hst.dom nx (Nat.le_refl _)), hst.nilName.1, hst.nilName.2, fun cs hc => ?_⟩⟩
      simp only [SV.hc, Sg.via, hj] at hc ⊢
      exact ⟨_, Sg.set_self _ _ _, rfl, hc⟩
    · exact h.elim
  · rename_i j off
    split at h
    · rename_i k off'
      split at h
      · rename_i hb
        obtain rfl := Nat.eq_of_beq_eq_true hb
        obtain ⟨ρ', hK, hle, hj⟩ := bindN_spec h
        refine ⟨ρ', objs, nx, hK, hle, fun S env σ a w hst => ⟨σ, Sg.le.refl _, hst, Later.refl _ _, fun cs hc => ?_⟩⟩
        simp only [SV.hc, Sg.via, hj] at hc ⊢; exact hc
      · exact h.elim
    · exact h.elim
  · obtain ⟨o', hK, g, e⟩ := fitFs_sound (P := P) h
    exact ⟨ρ, o', nx, hK, g.fit fun S env σ a w hst cs hc => SV.hc.names _ _ (fun k v e => by cases e) (e hst hc)⟩
  · split at h
    · rename_i hb
      refine ⟨ρ, objs, nx, h.k, FitS.id fun S env σ a w hst cs hc => ?_⟩
      rw [asB_hc hb] at hc; simp only [SV.hc]; rw [hc, h.h]
    · exact h.elim
  · split at h
    · rename_i d hd
      refine ⟨ρ, objs, nx, h.k, FitS.id fun S env σ a w hst cs hc => ?_⟩
      rw [asP_hc hd] at hc; simp only [SV.hc]; rw [hc]
      congr 2
      exact decide_eq_decide.2 h.h
    · exact h.elim
  · exact h.elim
  · exact h.elim
  · exact h.elim
  · refine ⟨ρ, objs, nx, h.k, FitS.id fun S env σ a w hst cs hc => ?_⟩
    have e := h.h; subst e
    cases act <;> first | exact hc | (simp only [SV.hc] at hc ⊢; exact hc) | skip
    all_goals first | (simp_all; done) | (exfalso; solve_by_elim)
theorem FitS.trans {ρ1 ρ2 ρ3 : Rn} {o1 o2 o3 : List Ob} {n1 n2 n3 : Nat} {Φ Ψ X : Sg → World → Own → Sg → Own → Prop} (h : FitS P ρ1 o1 n1 ρ2 o2 n2 Φ) (k : FitS P ρ2 o2 n2 ρ3 o3 n3 Ψ)
    (hx : ∀ {S : Sig} {σ σ1 σ2 : Sg} {w : World}, Sg.le σ σ1 → Sg.le (σ1.via ρ2) (σ2.via ρ3) → Later w (S.A σ o1) w (S.A σ1 o2) → Later w (S.A σ1 o2) w (S.A σ2 o3) → Φ σ w (S.A σ o1) (σ1.via ρ2) (S.A σ1 o2) → Ψ σ1 w (S.A σ1 o2) (σ2.via ρ3) (S.A σ2 o3) → X σ w (S.A σ o1) (σ2.via ρ3) (S.A σ2 o3)) : FitS P ρ1 o1 n1 ρ3 o3 n3 X :=
  ⟨h.1.trans k.1, fun S env σ a w hst => by
    obtain ⟨σ1, l1, s1, t1, p1⟩ := h.2 S env σ a w hst
    obtain ⟨σ2, l2, s2, t2, p2⟩ := k.2 S env σ1 a w s1
    exact ⟨σ2, l1.trans l2, s2, t1.trans t2, hx l1 (via_le l2 k.1) t1 t2 p1 p2⟩⟩
/-- part by part (told by what it is worth, so that nobody reckons it but by its rule) -/
structure FitL (ρ : Rn) (objs : List Ob) (nx : Nat) (es ss : List SV) (K : KF) : Prop where
  h : ∀ {P : Program} [TabC P], ∃ ρ' objs' nx', K ρ' objs' nx' ∧ FitS P ρ objs nx ρ' objs' nx' fun σ w A σ' A' => ∀ cs, hL w A ss σ cs → hL w A' es σ' cs
def fitLS (ρ : Rn) (objs : List Ob) (nx : Nat) (es ss : List SV) (K : KF) : Prop := match es with
  | [] => match ss with
    | [] => K ρ objs nx
    | _ :: _ => False
  | e :: r => match ss with
    | [] => False
    | s :: t => fit1 ρ objs nx e s fun ρ objs nx => FitL ρ objs nx r t K
theorem FitL.unf {ρ : Rn} {es ss : List SV} {K : KF} (h : fitLS ρ objs nx es ss K) : FitL ρ objs nx es ss K := ⟨fun {P} _ => by
  match es, ss, h with
  | [], [], h => exact ⟨ρ, objs, nx, h, FitS.id fun S env σ a w hst cs hc => by simp only [hL] at hc ⊢; exact hc⟩
  | e :: r, s :: t, h =>
    simp only [fitLS] at h
    obtain ⟨ρ1, o1, n1, h, f1⟩ := fit1_sound (P := P) h
    obtain ⟨ρ2, o2, n2, h, f2⟩ := h.h (P := P)
    refine ⟨ρ2, o2, n2, h, f1.trans f2 fun hs hv l1 l2 p1 p2 cs hc => ?_⟩
    simp only [hL] at hc ⊢
    obtain ⟨c1, c2, rfl, h1, h2⟩ := hc
    exact ⟨c1, c2, rfl, SV.hc.names _ _ hv (SV.hc.later l2 _ _ _ (p1 c1 h1)), p2 c2 (hL.names _ _ hs (hL.later l1 _ _ _ h2))⟩
  | [], _ :: _, h => exact h.elim
  | _ :: _, [], h => exact h.elim⟩
/-- one value -/
def fitA (ρ : Rn) (objs : List Ob) (nx : Nat) (exp act : SV) (K : KF) : Prop := match exp with
  | .agg es => match act with
    | .agg ss => FitL ρ objs nx es ss K
    | _ => False
  | .tup _ => False
  | .undef => K ρ objs nx
  | exp => match act with
    | .agg _ => False
    | .tup _ => False
    | .undef => False
    | act => fit1 ρ objs nx exp act K
theorem fitA_sound {ρ : Rn} {exp act : SV} {K : KF} (h : fitA ρ objs nx exp act K) : ∃ ρ' objs' nx', K ρ' objs' nx' ∧ FitS P ρ objs nx ρ' objs' nx' fun σ w A σ' A' => ∀ v, act.h1 w A σ v → exp.h1 w A' σ' v := by
  have single : fit1 ρ objs nx exp act K → (∀ ps, exp ≠ .agg ps) → exp ≠ .undef → (∀ ps, act ≠ .agg ps) → act ≠ .undef → ∃ ρ' objs' nx', K ρ' objs' nx' ∧ FitS P ρ objs nx ρ' objs' nx' fun σ w A σ' A' => ∀ v, act.h1 w A σ v → exp.h1 w A' σ' v := fun h e1 e2 e3 e4 => by
    obtain ⟨ρ', o', n', hK, f⟩ := fit1_sound (P := P) h
    have c1 : ∀ {w A σ v}, act.h1 w A σ v → act.hc w A σ [v] := fun {w A σ v} h => by cases act <;> first | exact h | exact absurd rfl (e3 _) | exact absurd rfl e4
    have c2 : ∀ {w A σ v}, exp.hc w A σ [v] → exp.h1 w A σ v := fun {w A σ v} h => by cases exp <;> first | exact h | exact absurd rfl (e1 _) | exact absurd rfl e2
    exact ⟨ρ', o', n', hK, f.1, fun S env σ a w hst => by obtain ⟨σ', l, s, t, p⟩ := f.2 S env σ a w hst; exact ⟨σ', l, s, t, fun v hv => c2 (p _ (c1 hv))⟩⟩
  unfold fitA at h
  split at h
  · split at h
    · obtain ⟨ρ', o', n', hK, f⟩ := h.h (P := P)
      exact ⟨ρ', o', n', hK, f.1, fun S env σ a w hst => by obtain ⟨σ', l, s, t, p⟩ := f.2 S env σ a w hst; exact ⟨σ', l, s, t, fun v ⟨cs, h1, h2⟩ => ⟨cs, h1, p cs h2⟩⟩⟩
    · exact h.elim
  · exact h.elim
  · exact ⟨ρ, objs, nx, h, FitS.id fun S env σ a w hst v hv => trivial⟩
  · rename_i e1 e2 e3
    split at h
    · exact h.elim
    · exact h.elim
    · exact h.elim
    · rename_i f1 f2 f3
      exact single h (fun ps e => e1 ps e) (fun e => e3 e) (fun ps e => f1 ps e) (fun e => f3 e)
structure FitAs (ρ : Rn) (objs : List Ob) (nx : Nat) (es ss : List SV) (K : KF) : Prop where
  h : ∀ {P : Program} [TabC P], ∃ ρ' objs' nx', K ρ' objs' nx' ∧ FitS P ρ objs nx ρ' objs' nx' fun σ w A σ' A' => ∀ vs, hvs w A σ ss vs → hvs w A' σ' es vs
def fitAsS (ρ : Rn) (objs : List Ob) (nx : Nat) (es ss : List SV) (K : KF) : Prop := match es with
  | [] => match ss with
    | [] => K ρ objs nx
    | _ :: _ => False
  | e :: r => match ss with
    | [] => False
    | s :: t => fitA ρ objs nx e s fun ρ objs nx => FitAs ρ objs nx r t K
theorem FitAs.unf {ρ : Rn} {es ss : List SV} {K : KF} (h : fitAsS ρ objs nx es ss K) : FitAs ρ objs nx es ss K := ⟨fun {P} _ => by
  match es, ss, h with
  | [], [], h => exact ⟨ρ, objs, nx, h, FitS.id fun S env σ a w hst vs hv => hv⟩
  | e :: r, s :: t, h =>
    simp only [fitAsS] at h
    obtain ⟨ρ1, o1, n1, h, f1⟩ := fitA_sound (P := P) h
    obtain ⟨ρ2, o2, n2, h, f2⟩ := h.h (P := P)
    refine ⟨ρ2, o2, n2, h, f1.trans f2 fun hs hv l1 l2 p1 p2 vs hc => ?_⟩
    obtain ⟨v, m, rfl, h1, h2⟩ := hc
    exact ⟨v, m, rfl, ((p1 v h1).later l2).names hv, p2 m ((h2.later l1).names hs)⟩
  | [], _ :: _, h => exact h.elim
  | _ :: _, [], h => exact h.elim⟩
def fitV (ρ : Rn) (objs : List Ob) (nx : Nat) (exp act : SV) (K : KF) : Prop := match exp with
  | .tup es => match act with
    | .tup ss => FitAs ρ objs nx es ss K
    | _ => False
  | exp => fitA ρ objs nx exp act K
theorem fitV_sound {ρ : Rn} {exp act : SV} {K : KF} (h : fitV ρ objs nx exp act K) : ∃ ρ' objs' nx', K ρ' objs' nx' ∧ FitS P ρ objs nx ρ' objs' nx' fun σ w A σ' A' => ∀ v, act.hv w A σ v → exp.hv w A' σ' v := by
  unfold fitV at h
  split at h
  · split at h
    · obtain ⟨ρ', o', n', hK, f⟩ := h.h (P := P)
      exact ⟨ρ', o', n', hK, f.1, fun S env σ a w hst => by obtain ⟨σ', l, s, t, p⟩ := f.2 S env σ a w hst; exact ⟨σ', l, s, t, fun v ⟨cs, h1, h2⟩ => ⟨cs, h1, p cs h2⟩⟩⟩
    · exact h.elim
  · rename_i e1
    obtain ⟨ρ', o', n', hK, f⟩ := fitA_sound (P := P) h
    refine ⟨ρ', o', n', hK, f.1, fun S env σ a w hst => by
      obtain ⟨σ', l, s, t, p⟩ := f.2 S env σ a w hst
      refine ⟨σ', l, s, t, fun v hv => ?_⟩
      have hv1 : act.h1 w (S.A σ objs) σ v ∨ ∃ vs, act = .tup vs := by cases act <;> first | exact .inl hv | exact .inr ⟨_, rfl⟩
      rcases hv1 with hv1 | ⟨vs, rfl⟩
      · have := p v hv1
        cases exp <;> first | exact this | exact absurd rfl (e1 _)
      · unfold fitA at h
        cases exp <;> first | trivial | exact absurd rfl (e1 _) | (simp at h)⟩
end
end Go.Proofs.YtffaohckcggkdaaDoor

/- MY OWN ENGINE: contracts and calls. -/
namespace Go.Proofs.YtffaohckcggkdaaDoor
set_option linter.all false
open Go.RowKit
section
variable {P : Program} [TabC P] {S : Sig} {σ : Sg} {env : Env} {objs : List Ob} {nx : Nat} {a : Act} {w : World}
def fitSO (ρ : Rn) (objs : List Ob) (nx : Nat) (exp act : SO) (K : KF) : Prop := match exp with
  | .box T ps => match act with
    | .box T' qs => match Nat.beq T' T with
      | true => FitL ρ objs nx ps qs K
      | false => False
    | _ => False
  | .row e z enc xs => match act with
    | .row e' z' enc' ys => Side (SO.row e' z' enc' ys = SO.row e z enc xs) (K ρ objs nx)
    | .lits e' z' els => match Nat.beq e' e, Nat.beq z' z with
      | true, true => Side (els = xs.map enc) (K ρ objs nx)
      | _, _ => False
    | .nrow => Side (xs = []) (K ρ objs nx)
    | _ => False
  | .lits e z els => match act with
    | .lits e' z' els' => Side (SO.lits e' z' els' = SO.lits e z els) (K ρ objs nx)
    | .nrow => Side (els = []) (K ρ objs nx)
    | _ => False
  | .ab b => match act with
    | .ab c => Side (SO.ab c = SO.ab b) (K ρ objs nx)
    | _ => False
  | .fbox T ps => match act with
    | .fbox T' qs => Side (SO.fbox T' qs = SO.fbox T ps) (K ρ objs nx)
    | _ => False
  | .frow z enc xs => match act with
    | .frow z' enc' ys => Side (SO.frow z' enc' ys = SO.frow z enc xs) (K ρ objs nx)
    | _ => False
  | _ => False
/-- what was there is what is asked -/
def SOk (exp act : SO) (ρ' : Rn) : Sg → World → Own → Sg → Own → Prop := fun σ w A σ' A' => ∀ j k, lkN ρ' j = some k → (∀ v, σ k = some v → σ' j = some v) → act.holds w A σ k → exp.holds w A' σ' j ∧ ∀ b, exp.own σ' j b ↔ act.own σ k b
theorem nrow_row {A : Own} {k e z : Nat} (h : σ k = some (.slice none 0 0)) : rowH w A σ k e z [] := ⟨_, [], h, by simp, by decide, rfl, World.ownsRow_nil _ _ _ _⟩
theorem rowH.via {A A' : Own} {σ' : Sg} {k j e z : Nat} {els : List (List SV)} (h : rowH w A σ k e z els) (hl : Later w A w A') (hv : ∀ v, σ k = some v → σ' j = some v) : rowH w A' σ' j e z els := by
  obtain ⟨v, cs, h1, h2, h3, h4, h5⟩ := h
  exact ⟨v, cs, hv _ h1, h2, h3, h4.later hl, h5⟩
theorem own_via {A : Own} {σ' : Sg} {k j : Nat} {so act : SO} (hs : (∃ T ps, so = .box T ps) ∨ (∃ e z α, ∃ enc : α → List SV, ∃ xs, so = .row e z enc xs) ∨ (∃ e z els, so = .lits e z els)) (ha : (∃ T ps, act = .box T ps) ∨ (∃ e z α, ∃ enc : α → List SV, ∃ xs, act = .row e z enc xs) ∨ (∃ e z els, act = .lits e z els) ∨ act = .nrow)
    (h : act.holds w A σ k) (hv : ∀ v, σ k = some v → σ' j = some v) (b : Nat) : so.own σ' j b ↔ act.own σ k b := by
  have hn : ∃ v, σ k = some v := by
    rcases h.named with ⟨a, rfl⟩ | h
    · rcases ha with ⟨_, _, h⟩ | ⟨_, _, _, _, _, h⟩ | ⟨_, _, _, h⟩ | h <;> cases h
    · exact h
  obtain ⟨v, hk⟩ := hn
  have e1 : so.own σ' j b ↔ ∃ v, σ' j = some v ∧ blkO v = some b := by rcases hs with ⟨_, _, rfl⟩ | ⟨_, _, _, _, _, rfl⟩ | ⟨_, _, _, rfl⟩ <;> exact Iff.rfl
  have e2 : act.own σ k b ↔ ∃ v, σ k = some v ∧ blkO v = some b := by rcases ha with ⟨_, _, rfl⟩ | ⟨_, _, _, _, _, rfl⟩ | ⟨_, _, _, rfl⟩ | rfl <;> exact Iff.rfl
  rw [e1, e2, hk, hv v hk]
theorem fitSO_sound {ρ : Rn} {exp act : SO} {K : KF} (h : fitSO ρ objs nx exp act K) : ∃ ρ' objs' nx', K ρ' objs' nx' ∧ FitS P ρ objs nx ρ' objs' nx' fun σ w A σ' A' => SOk exp act ρ' σ w A σ' A' := by
  unfold fitSO at h
  split at h
  · rename_i T ps
    split at h
    · rename_i T' qs
      split at h
      · rename_i hT
        obtain rfl := Nat.eq_of_beq_eq_true hT
        obtain ⟨ρ', o', n', hK, f⟩ := h.h (P := P)
        refine ⟨ρ', o', n', hK, f.1, fun S env σ a w hst => ?_⟩
        obtain ⟨σ', l, s, t, p⟩ := f.2 S env σ a w hst
        refine ⟨σ', l, s, t, fun j k hjk hv hh => ⟨?_, own_via (.inl ⟨_, _, rfl⟩) (.inl ⟨_, _, rfl⟩) hh hv⟩⟩
        obtain ⟨b, cs, h1, h2, h3⟩ := hh
        exact ⟨b, cs, hv _ h1, h2, p cs h3⟩
      · exact h.elim
    · exact h.elim
  · rename_i e z α enc xs
    split at h
    · refine ⟨ρ, objs, nx, h.k, FitS.id fun S env σ a w hst j k hjk hv hh => ?_⟩
      rw [← h.h]
      exact ⟨rowH.via hh (Later.refl _ _) hv, own_via (.inr (.inl ⟨_, _, _, _, _, rfl⟩)) (.inr (.inl ⟨_, _, _, _, _, rfl⟩)) hh hv⟩
    · split at h
      · rename_i he hz
        obtain rfl := Nat.eq_of_beq_eq_true he
        obtain rfl := Nat.eq_of_beq_eq_true hz
        refine ⟨ρ, objs, nx, h.k, FitS.id fun S env σ a w hst j k hjk hv hh => ?_⟩
        have e := h.h; subst e
        exact ⟨rowH.via hh (Later.refl _ _) hv, own_via (.inr (.inl ⟨_, _, _, _, _, rfl⟩)) (.inr (.inr (.inl ⟨_, _, _, rfl⟩))) hh hv⟩
      · exact h.elim
    · refine ⟨ρ, objs, nx, h.k, FitS.id fun S env σ a w hst j k hjk hv hh => ?_⟩
      have e := h.h; subst e
      exact ⟨nrow_row (hv _ hh), own_via (.inr (.inl ⟨_, _, _, _, _, rfl⟩)) (.inr (.inr (.inr rfl))) hh hv⟩
    · exact h.elim
  · split at h
    · refine ⟨ρ, objs, nx, h.k, FitS.id fun S env σ a w hst j k hjk hv hh => ?_⟩
      rw [← h.h]
      exact ⟨rowH.via hh (Later.refl _ _) hv, own_via (.inr (.inr ⟨_, _, _, rfl⟩)) (.inr (.inr (.inl ⟨_, _, _, rfl⟩))) hh hv⟩
    · refine ⟨ρ, objs, nx, h.k, FitS.id fun S env σ a w hst j k hjk hv hh => ?_⟩
      have e := h.h; subst e
      exact ⟨nrow_row (hv _ hh), own_via (.inr (.inr ⟨_, _, _, rfl⟩)) (.inr (.inr (.inr rfl))) hh hv⟩
    · exact h.elim
  · split at h
    · refine ⟨ρ, objs, nx, h.k, FitS.id fun S env σ a w hst j k hjk hv hh => ?_⟩
      rw [← h.h]
      exact ⟨hh, fun b => Iff.rfl⟩
    · exact h.elim
  · split at h
    · refine ⟨ρ, objs, nx, h.k, FitS.id fun S env σ a w hst j k hjk hv hh => ?_⟩
      rw [← h.h]
      obtain ⟨v, h1, h2, h3⟩ := hh
      exact ⟨⟨v, hv _ h1, h2, h3⟩, fun b => Iff.rfl⟩
    · exact h.elim
  · split at h
    · refine ⟨ρ, objs, nx, h.k, FitS.id fun S env σ a w hst j k hjk hv hh => ?_⟩
      rw [← h.h]
      obtain ⟨v, h1, h2⟩ := hh
      exact ⟨⟨v, hv _ h1, h2⟩, fun b => Iff.rfl⟩
    · exact h.elim
  · exact h.elim
/-- an object out of the list -/
def rmO : List Ob → Nat → Option (SO × List Ob)
  | [], _ => none
  | (k, so) :: r, n => match Nat.beq k n with
    | true => some (so, r)
    | false => match rmO r n with
      | some (so', r') => some (so', (k, so) :: r')
      | none => none
theorem rmO_perm : ∀ {l r : List Ob} {n : Nat} {so : SO}, rmO l n = some (so, r) → List.Perm l ((n, so) :: r)
  | [], _, _, _, h => by simp [rmO] at h
  | (k, u) :: l, r, n, so, h => by
    unfold rmO at h
    split at h
    · rename_i hb
      obtain rfl := Nat.eq_of_beq_eq_true hb
      simp only [Option.some.injEq, Prod.mk.injEq] at h
      obtain ⟨rfl, rfl⟩ := h
      exact List.Perm.refl _
    · split at h
      · rename_i so' r' hr
        simp only [Option.some.injEq, Prod.mk.injEq] at h
        obtain ⟨rfl, rfl⟩ := h
        exact (List.Perm.cons _ (rmO_perm hr)).trans (List.Perm.swap _ _ _)
      · cases h
abbrev KO := Rn → List Ob → List Ob → Nat → Prop
theorem St.perm {m : List Ob} (h : St P S σ env objs nx a w) (hp : List.Perm objs m) : St P S σ env m nx a w :=
  { slots := fun t s ht => (h.slots t s ht).later (ownsA_perm hp), dom := h.dom, size := h.size, defers := h.defers, obs := h.obs.perm hp, hist := h.hist, own0 := fun b hb => h.own0 b ((owns_perm hp b).2 hb), a0 := h.a0, glob := h.glob.later (ownsA_perm hp), base := h.base, nnx := h.nnx }
/-- the state of some objects alone; the others are somebody's -/
theorem St.local {tk : List Ob} (h : St P S σ env (tk ++ objs) nx a w) : St P ⟨fun b => S.A0 b ∨ owns σ tk b, owns σ objs, w, S.n, S.s0, S.nn⟩ σ env objs nx a w := by
  have hd := Disj_append.1 h.obs.disj
  have hA : ∀ b, ((S.A0 b ∨ owns σ tk b) ∨ owns σ objs b) ↔ S.A σ (tk ++ objs) b := fun b => by simp only [Sig.A, owns_append, or_assoc]
  have hl : Later w (S.A σ (tk ++ objs)) w (fun b => (S.A0 b ∨ owns σ tk b) ∨ owns σ objs b) := Later.own fun b hb => (hA b).1 hb
  refine { slots := fun t s ht => (h.slots t s ht).later hl, dom := h.dom, size := h.size, defers := h.defers, obs := ⟨fun o ho => (h.obs.holds o (List.mem_append_right _ ho)).later hl (fun _ _ => rfl), hd.2.1, fun b hb => ?_⟩, hist := Mod.refl _ _, own0 := fun b hb => .inl hb, a0 := fun b hb => ?_, glob := h.glob.later hl, base := h.base, nnx := h.nnx }
  · have := h.obs.lt b (by rw [owns_append]; exact .inr hb)
    exact ⟨this.1, fun hx => hx.elim this.2 fun hx => hd.2.2 b hx hb⟩
  · rcases hb with hb | hb
    · exact ⟨h.a0lt b hb, fun hx => (h.obs.lt b (by rw [owns_append]; exact .inr hx)).2 hb⟩
    · exact ⟨(h.obs.lt b (by rw [owns_append]; exact .inl hb)).1, fun hx => hd.2.2 b hb hx⟩
/-- back to all of them -/
theorem St.global {tk objs' : List Ob} {σ' : Sg} {nx' : Nat} (h : St P S σ env (tk ++ objs) nx a w) (hle : Sg.le σ σ') (h' : St P ⟨fun b => S.A0 b ∨ owns σ tk b, owns σ objs, w, S.n, S.s0, S.nn⟩ σ' env objs' nx' a w) :
    St P S σ' env (tk ++ objs') nx' a w ∧ Later w (S.A σ (tk ++ objs)) w (S.A σ' (tk ++ objs')) := by
  have htk : ∀ o ∈ tk, o.2.holds w (S.A σ (tk ++ objs)) σ o.1 := fun o ho => h.obs.holds o (List.mem_append_left _ ho)
  have hot : ∀ b, owns σ' tk b ↔ owns σ tk b := owns_names hle htk
  have hoo : ∀ b, owns σ' objs' b → owns σ objs b := fun b hb => (h'.own0 b hb).resolve_right (fun hx => by have := (h'.obs.lt b hb).1; simp only at hx; omega)
  have hle2 : ∀ b, owns σ' (tk ++ objs') b → owns σ (tk ++ objs) b := fun b hb => by
    rw [owns_append] at hb ⊢
    exact hb.imp (hot b).1 (hoo b)
  have hl : Later w (S.A σ (tk ++ objs)) w (S.A σ' (tk ++ objs')) := Later.own fun b hb => hb.imp id (hle2 b)
  have hd := Disj_append.1 h.obs.disj
  have hA : ∀ b, ((S.A0 b ∨ owns σ tk b) ∨ owns σ' objs' b) ↔ S.A σ' (tk ++ objs') b := fun b => by simp only [Sig.A, owns_append, or_assoc, hot]
  have hl2 : Later w (fun b => (S.A0 b ∨ owns σ tk b) ∨ owns σ' objs' b) w (S.A σ' (tk ++ objs')) := Later.own fun b hb => (hA b).2 hb
  refine ⟨{ slots := fun t s ht => (h'.slots t s ht).later hl2, dom := h'.dom, size := h'.size, defers := h'.defers, obs := ⟨fun o ho => ?_, ?_, fun b hb => h.obs.lt b (hle2 b hb)⟩, hist := h.hist, own0 := fun b hb => h.own0 b (hle2 b hb), a0 := h.a0, glob := h.glob.later hl, base := h'.base, nnx := h'.nnx }, hl⟩
  · rcases List.mem_append.1 ho with ho | ho
    · exact ((htk o ho).names hle).later hl (fun _ _ => rfl)
    · exact (h'.obs.holds o ho).later hl2 (fun _ _ => rfl)
  · refine Disj_append.2 ⟨Disj_names hle htk hd.1, h'.obs.disj, fun b hb hx => ?_⟩
    exact hd.2.2 b ((hot b).1 hb) (hoo b hx)
/-- objects as they are asked, beside those that are there -/
def MatchO (σ : Sg) (ρ : Rn) (w : World) (A : Own) : List Ob → List Ob → Prop
  | [], tn => tn = []
  | (j, so) :: r, tn => ∃ k act m, tn = (k, act) :: m ∧ lkN ρ j = some k ∧ so.holds w A (σ.via ρ) j ∧ (∀ b, so.own (σ.via ρ) j b ↔ act.own σ k b) ∧ MatchO σ ρ w A r m
/-- object by object (told by what it is worth) -/
structure FitOs (ρ : Rn) (tk objs : List Ob) (nx : Nat) (exps : List Ob) (K : KO) : Prop where
  h : ∀ {P : Program} [TabC P], ∃ ρ' tn objs' nx', K ρ' (tn.reverse ++ tk) objs' nx' ∧ Rn.le ρ ρ' ∧ ∀ S env σ a w, St P S σ env (tk ++ objs) nx a w →
    ∃ σ', Sg.le σ σ' ∧ St P S σ' env ((tn.reverse ++ tk) ++ objs') nx' a w ∧ Later w (S.A σ (tk ++ objs)) w (S.A σ' ((tn.reverse ++ tk) ++ objs')) ∧ MatchO σ' ρ' w (S.A σ' ((tn.reverse ++ tk) ++ objs')) exps tn
def fitOsS (ρ : Rn) (tk objs : List Ob) (nx : Nat) (exps : List Ob) (K : KO) : Prop := match exps with
  | [] => K ρ tk objs nx
  | (j, so) :: r => match lkN ρ j with
    | some k => match rmO objs k with
      | some (act, rest) => fitSO ρ rest nx so act fun ρ rest nx => FitOs ρ ((k, act) :: tk) rest nx r K
      | none => False
    | none => False
theorem FitOs.unf {ρ : Rn} {tk exps : List Ob} {K : KO} (h : fitOsS ρ tk objs nx exps K) : FitOs ρ tk objs nx exps K := ⟨fun {P} _ => by
  match exps, h with
  | [], h => exact ⟨ρ, [], objs, nx, h, Rn.le.refl _, fun S env σ a w hst => ⟨σ, Sg.le.refl _, hst, Later.refl _ _, rfl⟩⟩
  | (j, so) :: r, h =>
    simp only [fitOsS] at h
    split at h
    · rename_i k hk
      split at h
      · rename_i act rest hrm
        obtain ⟨ρ1, o1, n1, h, f1⟩ := fitSO_sound (P := P) h
        obtain ⟨ρ2, tn, o2, n2, h, l2, f2⟩ := h.h (P := P)
        refine ⟨ρ2, (k, act) :: tn, o2, n2, by simpa using h, f1.1.trans l2, fun S env σ a w hst => ?_⟩
        have hp : List.Perm (tk ++ objs) (((k, act) :: tk) ++ rest) := by
          refine (List.Perm.append_left tk (rmO_perm hrm)).trans ?_
          simpa using List.perm_middle (a := (k, act)) (l₁ := tk) (l₂ := rest)
        have hst1 := hst.perm hp
        have lp : Later w (S.A σ (tk ++ objs)) w (S.A σ (((k, act) :: tk) ++ rest)) := ownsA_perm hp
        obtain ⟨σ1, le1, s1, t1, p1⟩ := f1.2 _ _ _ _ _ hst1.local
        obtain ⟨g1, g2⟩ := hst1.global le1 s1
        obtain ⟨σ2, le2, s2, t2, p2⟩ := f2 S env σ1 a w g1
        have e : (((k, act) :: tn).reverse ++ tk) ++ o2 = (tn.reverse ++ (k, act) :: tk) ++ o2 := by simp
        rw [e]
        refine ⟨σ2, le1.trans le2, s2, lp.trans (g2.trans t2), k, act, tn, rfl, l2 _ _ (f1.1 _ _ hk), ?_⟩
        have hact : act.holds w (fun b => (S.A0 b ∨ owns σ ((k, act) :: tk) b) ∨ owns σ rest b) σ k := by
          have := hst1.obs.holds (k, act) (by simp)
          exact this.later (Later.own fun b hb => by simp only [Sig.A, owns_append]; exact hb.elim (fun h => h.elim .inl (fun h => .inr (.inl h))) (fun h => .inr (.inr h))) (fun _ _ => rfl)
        obtain ⟨q1, q2⟩ := p1 j k (f1.1 _ _ hk) (fun v hv => by unfold Sg.via; rw [f1.1 _ _ hk]; exact le1 _ _ hv) hact
        have hl3 : Later w (fun b => (S.A0 b ∨ owns σ ((k, act) :: tk) b) ∨ owns σ1 o1 b) w (S.A σ2 ((tn.reverse ++ (k, act) :: tk) ++ o2)) := by
          refine Later.trans (Later.own fun b hb => ?_) t2
          have ht1 : ∀ b, owns σ1 ((k, act) :: tk) b ↔ owns σ ((k, act) :: tk) b := owns_names le1 (fun o ho => hst1.obs.holds o (List.mem_append_left _ ho))
          rcases hb with hb | hb
          · exact .inl (.inl hb)
          · rw [owns_append] at hb
            exact hb.elim (fun h => .inl (.inr ((ht1 b).1 h))) .inr
        refine ⟨(q1.later hl3 (fun _ _ => rfl)).names (via_le le2 l2), fun b => ?_, p2⟩
        have hw : ∀ b, act.own σ2 k b ↔ act.own σ k b := fun b => SO.own_names (le1.trans le2) hact b
        rw [hw b, ← q2 b]
        exact SO.own_names (via_le le2 l2) q1 b
      · exact h.elim
    · exact h.elim⟩
end
end Go.Proofs.YtffaohckcggkdaaDoor

/- MY OWN ENGINE: contracts, the call. -/
namespace Go.Proofs.YtffaohckcggkdaaDoor
set_option linter.all false
open Go.RowKit
/-- what a function does: for all data d that meet 'pre', called with the values 'args' beside the objects 'objs' (their names are below 'nn') it hands back 'res', for some e that meets 'post', and leaves the objects 'out' (at most 'mm' more names) -/
structure Ctr where
  D : Type
  pre : D → Prop := fun _ => True
  args : D → List SV
  objs : D → List Ob := fun _ => []
  nn : Nat := 0
  E : Type := Unit
  post : D → E → Prop := fun _ _ => True
  res : D → E → SV
  out : D → E → List Ob := fun _ _ => []
  mm : Nat := 0
abbrev Av (A0 : Own) (σ : Sg) (objs : List Ob) : Own := fun b => A0 b ∨ owns σ objs b
def Ctr.Ok (P : Program) [TabC P] (f : Nat) (c : Ctr) : Prop := ∀ d, c.pre d → ∀ (A0 : Own) (w : World) (σ : Sg) (vs : List Value), (∀ b, A0 b → b < w.heap.size) → Obs σ A0 (c.objs d) w → hvs w (Av A0 σ (c.objs d)) σ (c.args d) vs → (∀ k, c.nn ≤ k → σ k = none) → Glob P w (Av A0 σ (c.objs d)) →
  Calls P f vs.toArray w fun e w' => ∃ (e' : c.E) (v : Value) (σ' : Sg), e = .returned v ∧ c.post d e' ∧ (∀ k, k < c.nn → ∀ v, σ' k = some v → σ k = some v) ∧ (∀ k, c.nn + c.mm ≤ k → σ' k = none) ∧ (c.res d e').hv w' (Av A0 σ' (c.out d e')) σ' v ∧ Mod (owns σ (c.objs d)) w w' ∧ Obs σ' A0 (c.out d e') w' ∧
    (∀ b, owns σ' (c.out d e') b → owns σ (c.objs d) b ∨ w.heap.size ≤ b)
/-! ## other names -/
def ren1 (f : Nat → Nat) : SV → SV
  | .ptr o off => .ptr (f o) off
  | .own o => .own (f o)
  | .rptr o q z off => .rptr (f o) q z off
  | .cptr o off q => .cptr (f o) off q
  | .bsl o off lo hi => .bsl (f o) off lo hi
  | s => s
def renL (f : Nat → Nat) : List SV → List SV
  | [] => []
  | s :: r => ren1 f s :: renL f r
def renA (f : Nat → Nat) : SV → SV
  | .agg ps => .agg (renL f ps)
  | s => ren1 f s
def renAs (f : Nat → Nat) : List SV → List SV
  | [] => []
  | s :: r => renA f s :: renAs f r
def renV (f : Nat → Nat) : SV → SV
  | .tup vs => .tup (renAs f vs)
  | s => renA f s
def renO (f : Nat → Nat) : SO → SO
  | .box T ps => .box T (renL f ps)
  | so => so
def renOs (f : Nat → Nat) : List Ob → List Ob
  | [] => []
  | (j, so) :: r => (f j, renO f so) :: renOs f r
section
variable {P : Program} [TabC P] {S : Sig} {σ σ' : Sg} {env : Env} {objs : List Ob} {nx : Nat} {a : Act} {w : World} {A : Own} {f : Nat → Nat} {o : Oper}
theorem ren1_hc (hf : ∀ j v, σ j = some v → σ' (f j) = some v) {s : SV} {cs : List Value} (h : s.hc w A σ cs) : (ren1 f s).hc w A σ' cs := by
  cases s <;> simp only [ren1, SV.hc] at h ⊢ <;> first | exact h | skip
  · obtain ⟨b, c, h1, h2⟩ := h; exact ⟨b, c, hf _ _ h1, h2⟩
  · obtain ⟨v, h1, h2⟩ := h; exact ⟨v, hf _ _ h1, h2⟩
  · obtain ⟨g, l, c, h1, h2⟩ := h; exact ⟨g, l, c, hf _ _ h1, h2⟩
  · obtain ⟨b, c, h1, h2⟩ := h; exact ⟨b, c, hf _ _ h1, h2⟩
  · obtain ⟨b, c, p, k, h1, h2⟩ := h; exact ⟨b, c, p, k, hf _ _ h1, h2⟩
theorem renL_hL (hf : ∀ j v, σ j = some v → σ' (f j) = some v) : ∀ {l : List SV} {cs : List Value}, hL w A l σ cs → hL w A (renL f l) σ' cs
  | [], cs, h => h
  | s :: r, cs, h => by
    simp only [hL, renL] at h ⊢
    obtain ⟨a, b, h1, h2, h3⟩ := h
    exact ⟨a, b, h1, ren1_hc hf h2, renL_hL hf h3⟩
theorem renA_h1 (hf : ∀ j v, σ j = some v → σ' (f j) = some v) {s : SV} {v : Value} (h : s.h1 w A σ v) : (renA f s).h1 w A σ' v := by
  cases s <;> first
    | (obtain ⟨cs, h1, h2⟩ := h; exact ⟨cs, h1, renL_hL hf h2⟩)
    | trivial
    | exact ren1_hc (σ := σ) (σ' := σ') hf (s := _) h
    | skip
  all_goals (simp only [SV.h1, renA, ren1] at h ⊢; exact ren1_hc hf h)
theorem renAs_hvs (hf : ∀ j v, σ j = some v → σ' (f j) = some v) : ∀ {l : List SV} {vs : List Value}, hvs w A σ l vs → hvs w A σ' (renAs f l) vs
  | [], vs, h => h
  | s :: r, vs, ⟨v, m, h1, h2, h3⟩ => ⟨v, m, h1, renA_h1 hf h2, renAs_hvs hf h3⟩
theorem renV_hv (hf : ∀ j v, σ j = some v → σ' (f j) = some v) {s : SV} {v : Value} (h : s.hv w A σ v) : (renV f s).hv w A σ' v := by
  cases s with
  | tup vs => obtain ⟨l, h1, h2⟩ := h; exact ⟨l, h1, renAs_hvs hf h2⟩
  | agg ps => exact renA_h1 (s := .agg ps) hf h
  | _ => (simp only [SV.hv] at h; have := renA_h1 hf h; simpa only [SV.hv, renV, renA, ren1] using this)
theorem renO_holds (hf : ∀ j v, σ j = some v → σ' (f j) = some v) {so : SO} {j : Nat} (h : so.holds w A σ j) : (renO f so).holds w A σ' (f j) := by
  cases so with
  | box T ps => obtain ⟨b, cs, h1, h2, h3⟩ := h; exact ⟨b, cs, hf _ _ h1, h2, renL_hL hf h3⟩
  | row e z enc xs => exact rowH.via h (Later.refl _ _) (hf j)
  | lits e z els => exact rowH.via h (Later.refl _ _) (hf j)
  | fbox T ps => obtain ⟨v, h1, h2⟩ := h; exact ⟨v, hf _ _ h1, h2⟩
  | frow z enc xs => obtain ⟨v, h1, h2⟩ := h; exact ⟨v, hf _ _ h1, h2⟩
  | nrow => exact hf _ _ h
  | ab a => exact h
theorem renO_own (hf : ∀ j v, σ j = some v → σ' (f j) = some v) {so : SO} {j : Nat} (h : so.holds w A σ j) (b : Nat) : (renO f so).own σ' (f j) b ↔ so.own σ j b := by
  rcases h.named with ⟨a, rfl⟩ | ⟨v, hv⟩
  · exact Iff.rfl
  · have hv' := hf _ _ hv
    cases so <;> simp only [renO, SO.own, hv, hv']
theorem renOs_owns (hf : ∀ j v, σ j = some v → σ' (f j) = some v) : ∀ {l : List Ob}, (∀ o ∈ l, o.2.holds w A σ o.1) → ∀ b, owns σ' (renOs f l) b ↔ owns σ l b
  | [], _, b => Iff.rfl
  | (j, so) :: r, h, b => by
    simp only [renOs, owns]
    rw [renO_own hf (h (j, so) (by simp)), renOs_owns hf (fun o ho => h o (List.mem_cons_of_mem _ ho))]
theorem renOs_disj (hf : ∀ j v, σ j = some v → σ' (f j) = some v) : ∀ {l : List Ob}, (∀ o ∈ l, o.2.holds w A σ o.1) → Disj σ l → Disj σ' (renOs f l)
  | [], _, _ => trivial
  | (j, so) :: r, h, ⟨h1, h2⟩ => by
    refine ⟨fun b hb hx => h1 b ((renO_own hf (h (j, so) (by simp)) b).1 hb) ((renOs_owns hf (fun o ho => h o (List.mem_cons_of_mem _ ho)) b).1 hx), renOs_disj hf (fun o ho => h o (List.mem_cons_of_mem _ ho)) h2⟩
theorem renOs_holds {A' : Own} (hf : ∀ j v, σ j = some v → σ' (f j) = some v) (hl : Later w A w A') : ∀ {l : List Ob}, (∀ o ∈ l, o.2.holds w A σ o.1) → ∀ o ∈ renOs f l, o.2.holds w A' σ' o.1
  | [], _, o, ho => by cases ho
  | (j, so) :: r, h, o, ho => by
    rcases List.mem_cons.1 ho with rfl | ho
    · exact (renO_holds hf (h (j, so) (by simp))).later hl (fun _ _ => rfl)
    · exact renOs_holds hf hl (fun o ho => h o (List.mem_cons_of_mem _ ho)) o ho
def rnB (nn : Nat) : Rn → Bool
  | [] => true
  | (j, _) :: r => match Nat.blt j nn with
    | true => rnB nn r
    | false => false
theorem rnB_spec {nn : Nat} : ∀ {ρ : Rn}, rnB nn ρ = true → ∀ j, nn ≤ j → lkN ρ j = none
  | [], _, j, hj => rfl
  | (k, _) :: r, h, j, hj => by
    unfold rnB at h
    split at h
    · rename_i hb
      have hk : k < nn := by simpa [Nat.blt_eq] using hb
      unfold lkN
      split
      · rename_i he; have := Nat.eq_of_beq_eq_true he; omega
      · exact rnB_spec h j hj
    · cases h
def renF (ρ : Rn) (nn nx : Nat) : Nat → Nat := fun j => match lkN ρ j with
  | some k => k
  | none => nx + (j - nn)
def frcAs : List SV → (List SV → Prop) → Prop
  | [], K => K []
  | s :: r, K => frcA s fun s => frcAs r fun r => K (s :: r)
theorem frcAs_k : ∀ {l : List SV} {K : List SV → Prop}, frcAs l K → K l
  | [], K, h => h
  | s :: r, K, h => frcAs_k (l := r) (K := fun r => K (s :: r)) (frcA_k (K := fun s => frcAs r fun r => K (s :: r)) h)
def frcV (v : SV) (K : SV → Prop) : Prop := match v with
  | .tup vs => frcAs vs fun vs => K (.tup vs)
  | v => frcA v K
theorem frcV_k {v : SV} {K : SV → Prop} (h : frcV v K) : K v := by
  unfold frcV at h; split at h
  · exact frcAs_k (K := fun vs => K (.tup vs)) h
  · exact frcA_k h
/-- objects ahead of others, told by their form -/
def frcOs : List Ob → List Ob → (List Ob → Prop) → Prop
  | [], r, K => K r
  | (k, .box T ps) :: l, r, K => frcL ps fun ps => frcOs l r fun o => K ((k, .box T ps) :: o)
  | (k, .row e z enc xs) :: l, r, K => frcOs l r fun o => K ((k, .row e z enc xs) :: o)
  | (k, so) :: l, r, K => frcOs l r fun o => K ((k, so) :: o)
theorem frcOs_k : ∀ {l r : List Ob} {K : List Ob → Prop}, frcOs l r K → K (l ++ r)
  | [], r, K, h => h
  | (k, .box T ps) :: l, r, K, h => frcOs_k (l := l) (K := fun o => K ((k, .box T ps) :: o)) (frcL_k (K := fun ps => frcOs l r fun o => K ((k, .box T ps) :: o)) h)
  | (k, .row e z enc xs) :: l, r, K, h => frcOs_k (l := l) (K := fun o => K ((k, .row e z enc xs) :: o)) h
  | (k, .lits e z els) :: l, r, K, h => frcOs_k (l := l) (K := fun o => K ((k, .lits e z els) :: o)) h
  | (k, .fbox T ps) :: l, r, K, h => frcOs_k (l := l) (K := fun o => K ((k, .fbox T ps) :: o)) h
  | (k, .frow z enc xs) :: l, r, K, h => frcOs_k (l := l) (K := fun o => K ((k, .frow z enc xs) :: o)) h
  | (k, .nrow) :: l, r, K, h => frcOs_k (l := l) (K := fun o => K ((k, .nrow) :: o)) h
  | (k, .ab a) :: l, r, K, h => frcOs_k (l := l) (K := fun o => K ((k, .ab a) :: o)) h
/-- a call of what keeps a contract -/
inductive CallS (c : Ctr) (Q : c.D → Prop) : Prop
  | mk (d : c.D) (h : Q d)
/-- what it hands back -/
structure Got (c : Ctr) (d : c.D) (K : c.E → Prop) : Prop where
  got : ∀ e, c.post d e → K e
def dstV (n : Nat) (dst : Option Nat) (env : Env) (s : SV) (K : Env → Prop) : Prop := match dst with
  | none => K env
  | some d => match Nat.blt d n with
    | true => frcV s fun s => K ((d, s) :: env)
    | false => False
def callG (c : Ctr) (n : Nat) (dst : Option Nat) (acts : List SV) (env : Env) (objs : List Ob) (nx : Nat) (K : KS) : Prop :=
  CallS c fun d => FitAs [] objs nx (c.args d) acts fun ρ objs nx => FitOs ρ [] objs nx (c.objs d) fun ρ tk rest nx => match rnB c.nn ρ with
    | true => Side (c.pre d) (Got c d fun e => dstV n dst env (renV (renF ρ c.nn nx) (c.res d e)) fun env => frcOs (renOs (renF ρ c.nn nx) (c.out d e)) rest fun objs => K env objs (nx + c.mm))
    | false => False
variable (P) in
def evs (env : Env) : List Operand → Option (List SV)
  | [] => some []
  | x :: r => match evx P env x with
    | some s => match evs env r with
      | some l => some (s :: l)
      | none => none
    | none => none
def noTup : SV → Bool
  | .tup _ => false
  | _ => true
def noTups : List SV → Bool
  | [] => true
  | s :: r => match noTup s with
    | true => noTups r
    | false => false
theorem evs_spec : ∀ {l : List Operand} {ss : List SV}, evs P env l = some ss → noTups ss = true → ∀ {σ a w}, St P S σ env objs nx a w → hvs w (S.A σ objs) σ ss (l.map a.eval)
  | [], ss, h, hn, σ, a, w, hst => by simp only [evs, Option.some.injEq] at h; subst h; rfl
  | x :: r, ss, h, hn, σ, a, w, hst => by
    unfold evs at h
    split at h
    · rename_i s hs
      split at h
      · rename_i l hl
        simp only [Option.some.injEq] at h; subst h
        unfold noTups at hn
        split at hn
        · rename_i ht
          refine ⟨a.eval x, r.map a.eval, rfl, ?_, evs_spec hl hn hst⟩
          have := hst.ev hs
          cases s <;> first | exact this | (simp [noTup] at ht)
        · cases hn
      · cases h
    · cases h
theorem run_call {f : Nat} {as : Array Operand} {ts : Array TypeId} (ho : o.op = .call { callee := .value (.func f), args := as, argTypes := ts }) (hf : nth (TabC.cl P) f = some true) (a : Act) (w : World) :
    (execOp a.eval o).run P w = .ok (.enter f (as.map a.eval)) w := by
  obtain ⟨fn, h1, h2, h3⟩ := call_spec (P := P) hf
  have h4 : ¬ fn.body = none := by intro e; rw [e] at h3; cases h3
  have h5 : ¬ fn.name = "runtime.NumGoroutine" := by simpa using h2
  simp [execOp, ho, resolve, Act.eval, Deferred.ofValue, invoke, callFunc, h1, h5, h4]
theorem MatchO.owns {ρ : Rn} : ∀ {exps tn : List Ob}, MatchO σ ρ w A exps tn → ∀ b, owns (σ.via ρ) exps b ↔ owns σ tn b
  | [], tn, h, b => by simp only [MatchO] at h; subst h; exact Iff.rfl
  | (j, so) :: r, tn, h, b => by
    obtain ⟨k, act, m, rfl, h1, h2, h3, h4⟩ := h
    exact or_congr (h3 b) (MatchO.owns h4 b)
theorem MatchO.disj {ρ : Rn} : ∀ {exps tn : List Ob}, MatchO σ ρ w A exps tn → Disj σ tn → Disj (σ.via ρ) exps
  | [], tn, h, hd => trivial
  | (j, so) :: r, tn, h, hd => by
    obtain ⟨k, act, m, rfl, h1, h2, h3, h4⟩ := h
    exact ⟨fun b hb hx => hd.1 b ((h3 b).1 hb) ((h4.owns b).1 hx), h4.disj hd.2⟩
theorem MatchO.holds {ρ : Rn} : ∀ {exps tn : List Ob}, MatchO σ ρ w A exps tn → ∀ o ∈ exps, o.2.holds w A (σ.via ρ) o.1
  | [], tn, h, o, ho => by cases ho
  | (j, so) :: r, tn, h, o, ho => by
    obtain ⟨k, act, m, rfl, h1, h2, h3, h4⟩ := h
    rcases List.mem_cons.1 ho with rfl | ho
    · exact h2
    · exact h4.holds o ho
theorem owns_rev {l : List Ob} (b : Nat) : owns σ l.reverse b ↔ owns σ l b := owns_perm (List.reverse_perm l) b
theorem callG_sound {c : Ctr} {f : Nat} {as : Array Operand} {ts : Array TypeId} {ss : List SV} {K : KS} (hc : c.Ok P f) (ho : o.op = .call { callee := .value (.func f), args := as, argTypes := ts }) (hf : nth (TabC.cl P) f = some true) (ha : evs P env as.toList = some ss) (hnt : noTups ss = true)
    (h : callG c S.n o.dst ss env objs nx K) : DoesK P S env objs nx o (Nat.beq c.nn 0) K := by
  intro σ a w hst X Q hX
  obtain ⟨d, h⟩ := h
  obtain ⟨ρ1, o1, n1, h, f1⟩ := h.h (P := P)
  obtain ⟨ρ, tn, rest, n2, h, l2, f2⟩ := h.h (P := P)
  split at h
  · rename_i hrn
    obtain ⟨hpre, hgot⟩ := h
    obtain ⟨σ1, le1, s1, t1, p1⟩ := f1.2 S env σ a w hst
    obtain ⟨σ2, le2, s2, t2, p2⟩ := f2 S env σ1 a w s1
    simp only [List.append_nil] at s2 t2 p2
    have hargs : hvs w (S.A σ2 (tn.reverse ++ rest)) (σ2.via ρ) (c.args d) (as.toList.map a.eval) := ((p1 _ (evs_spec ha hnt hst)).later t2).names (via_le le2 l2)
    unfold Oper.wp
    rw [run_call ho hf a w, Oper.upon_enter]
    have hargs' : as.map a.eval = (as.toList.map a.eval).toArray := by rw [← Array.toList_map]
    rw [hargs']
    have hd := Disj_append.1 s2.obs.disj
    have hown : ∀ b, owns (σ2.via ρ) (c.objs d) b ↔ owns σ2 tn b := p2.owns
    have hA : ∀ b, S.A σ2 (tn.reverse ++ rest) b ↔ Av (fun b => S.A0 b ∨ owns σ2 rest b) (σ2.via ρ) (c.objs d) b := fun b => by
      simp only [Sig.A, Av, owns_append, owns_rev, hown b]
      exact ⟨fun h => h.elim (fun h => .inl (.inl h)) (fun h => h.elim .inr (fun h => .inl (.inr h))), fun h => h.elim (fun h => h.imp id .inr) (fun h => .inr (.inl h))⟩
    have hl : Later w (S.A σ2 (tn.reverse ++ rest)) w (Av (fun b => S.A0 b ∨ owns σ2 rest b) (σ2.via ρ) (c.objs d)) := Later.own fun b hb => (hA b).2 hb
    have hdisj : Disj (σ2.via ρ) (c.objs d) := p2.disj (Disj_perm (List.reverse_perm tn) hd.1)
    refine (hc d hpre (fun b => S.A0 b ∨ owns σ2 rest b) w (σ2.via ρ) _ ?_ ⟨fun o ho => (p2.holds o ho).later hl (fun _ _ => rfl), hdisj, fun b hb => ?_⟩ (hargs.later hl) (fun k hk => by unfold Sg.via; rw [rnB_spec hrn k hk]) (s2.glob.later hl)).mono ?_
    · rintro b (hb | hb)
      · exact s2.a0lt b hb
      · exact (s2.obs.lt b (by rw [owns_append]; exact .inr hb)).1
    · have hb' : owns σ2 tn.reverse b := (owns_rev b).2 ((hown b).1 hb)
      have := s2.obs.lt b (by rw [owns_append]; exact .inl hb')
      exact ⟨this.1, fun hx => hx.elim this.2 (hd.2.2 b hb')⟩
    · rintro e w' ⟨e', v, σc, rfl, hpost, hsame, hdom, hres, hm, hobs, hnew⟩
      have hkp : Nat.beq c.nn 0 = true → Kept w w' := fun hz => by
        have hz' := Nat.eq_of_beq_eq_true hz
        cases ho : c.objs d with
        | nil => rw [ho] at hm; exact hm
        | cons x r =>
          obtain ⟨j, so⟩ := x
          rw [ho] at p2
          obtain ⟨k, _, _, _, h1, _⟩ := p2
          rw [rnB_spec hrn j (by omega)] at h1; cases h1
      have hK := hgot.got e' hpost
      -- the names behind the call
      let f := renF ρ c.nn n2
      let σ3 : Sg := fun k => if k < n2 then σ2 k else σc (k - n2 + c.nn)
      have le3 : Sg.le σ2 σ3 := fun k v hv => by
        have : k < n2 := by
          rcases Nat.lt_or_ge k n2 with h | h
          · exact h
          · rw [s2.dom k h] at hv; cases hv
        show (if k < n2 then σ2 k else _) = _
        rw [if_pos this]; exact hv
      have hf3 : ∀ j v, σc j = some v → σ3 (f j) = some v := fun j v hv => by
        show σ3 (renF ρ c.nn n2 j) = some v
        unfold renF
        rcases Nat.lt_or_ge j c.nn with hj | hj
        · replace hv := hsame j hj v hv
          unfold Sg.via at hv
          split at hv
          · rename_i k hk
            simp only [hk]
            exact le3 _ _ hv
          · cases hv
        · rw [rnB_spec hrn j hj]
          show (if n2 + (j - c.nn) < n2 then _ else σc (n2 + (j - c.nn) - n2 + c.nn)) = some v
          rw [if_neg (by omega), show n2 + (j - c.nn) - n2 + c.nn = j by omega]
          exact hv
      have hrest : ∀ o ∈ rest, o.2.holds w (S.A σ2 (tn.reverse ++ rest)) σ2 o.1 := fun o ho => s2.obs.holds o (List.mem_append_right _ ho)
      have howr : ∀ b, owns σ3 rest b ↔ owns σ2 rest b := owns_names le3 hrest
      have howo : ∀ b, owns σ3 (renOs f (c.out d e')) b ↔ owns σc (c.out d e') b := renOs_owns hf3 hobs.holds
      have hA3 : ∀ b, S.A σ3 (renOs f (c.out d e') ++ rest) b ↔ Av (fun b => S.A0 b ∨ owns σ2 rest b) σc (c.out d e') b := fun b => by
        simp only [Sig.A, Av, owns_append, howo b, howr b]
        exact ⟨fun h => h.elim (fun h => .inl (.inl h)) (fun h => h.elim .inr (fun h => .inl (.inr h))), fun h => h.elim (fun h => h.imp id .inr) (fun h => .inr (.inl h))⟩
      have hback : Later w' (Av (fun b => S.A0 b ∨ owns σ2 rest b) σc (c.out d e')) w' (S.A σ3 (renOs f (c.out d e') ++ rest)) := Later.own fun b hb => (hA3 b).1 hb
      have hmod : Mod (owns σ2 tn) w w' := hm.mono fun b hb => (hown b).1 hb
      have hnew' : ∀ b, owns σ3 (renOs f (c.out d e') ++ rest) b → owns σ2 (tn.reverse ++ rest) b ∨ w.heap.size ≤ b := fun b hb => by
        rw [owns_append] at hb ⊢
        rcases hb with hb | hb
        · exact (hnew b ((howo b).1 hb)).imp (fun h => .inl ((owns_rev b).2 ((hown b).1 h))) id
        · exact .inl (.inr ((howr b).1 hb))
      have hfwd : Later w (S.A σ2 (tn.reverse ++ rest)) w' (S.A σ3 (renOs f (c.out d e') ++ rest)) := hmod.later (fun b hb => .inr (by rw [owns_append]; exact .inl ((owns_rev b).2 hb))) (fun b hb hx => hx.imp id fun hx => (hnew' b hx).resolve_right (by omega))
      have hst3 : St P S σ3 env (renOs f (c.out d e') ++ rest) (n2 + c.mm) a w' := by
        refine { slots := fun t s ht => ((s2.slots t s ht).later hfwd).names le3, dom := fun k hk => ?_, size := s2.size, defers := s2.defers, obs := ⟨fun o ho => ?_, ?_, fun b hb => ?_⟩, hist := s2.hist.step hmod fun b hb => s2.own0 b (by rw [owns_append]; exact .inl ((owns_rev b).2 hb)), own0 := fun b hb => ?_, a0 := s2.a0, glob := s2.glob.later hfwd, base := fun k hk v hv => ?_, nnx := Nat.le_trans s2.nnx (Nat.le_add_right _ _) }
        · show (if k < n2 then _ else σc (k - n2 + c.nn)) = none
          rw [if_neg (by omega)]; exact hdom _ (by omega)
        · rcases List.mem_append.1 ho with ho | ho
          · exact renOs_holds hf3 hback hobs.holds o ho
          · refine ((hrest o ho).names le3).later hfwd (fun b hb => ?_)
            have hb2 : owns σ2 rest b := owns_mem ho ((SO.own_names le3 (hrest o ho) b).1 hb)
            exact hmod.block b (s2.obs.lt b (by rw [owns_append]; exact .inr hb2)).1 (fun hx => hd.2.2 b ((owns_rev b).2 hx) hb2)
        · refine Disj_append.2 ⟨renOs_disj hf3 hobs.holds hobs.disj, Disj_names le3 hrest hd.2.1, fun b hb hx => ?_⟩
          exact (hobs.lt b ((howo b).1 hb)).2 (.inr ((howr b).1 hx))
        · rw [owns_append] at hb
          rcases hb with hb | hb
          · have := hobs.lt b ((howo b).1 hb)
            exact ⟨this.1, fun hx => this.2 (.inl hx)⟩
          · have := s2.obs.lt b (by rw [owns_append]; exact .inr ((howr b).1 hb))
            exact ⟨Nat.lt_of_lt_of_le this.1 hm.size, this.2⟩
        · exact (hnew' b hb).elim (s2.own0 b) (fun x => .inr (Nat.le_trans s2.hist.size x))
        · have hk2 := s2.nnx
          have hv' : (if k < n2 then σ2 k else σc (k - n2 + c.nn)) = some v := hv
          rw [if_pos (by omega)] at hv'
          exact s2.base k hk v hv'
      have hresv : (renV f (c.res d e')).hv w' (S.A σ3 (renOs f (c.out d e') ++ rest)) σ3 v := (renV_hv hf3 hres).later hback
      unfold dstV at hK
      split at hK
      · rename_i hd0
        have hK2 := frcOs_k hK
        rw [hd0]
        exact hX σ3 _ _ _ _ _ hK2 hst3 hkp
      · rename_i dd hd0
        split at hK
        · rename_i hlt
          have hK2 := frcOs_k (frcV_k hK)
          rw [hd0]
          exact hX σ3 _ _ _ _ _ hK2 (hst3.put (by simpa [Nat.blt_eq] using hlt) hresv) hkp
        · exact hK.elim
  · exact h.elim
end
end Go.Proofs.YtffaohckcggkdaaDoor

/- MY OWN ENGINE: conversions that turn the state. -/
namespace Go.Proofs.YtffaohckcggkdaaDoor
set_option linter.all false
open Go.RowKit
section
variable {P : Program} [TabC P] {S : Sig} {σ : Sg} {env : Env} {objs : List Ob} {nx : Nat} {o : Oper} {a : Act} {w : World} {x y : Operand}
theorem Mod.freeze (w : World) (g n : Nat) : Mod (fun x => x = g) w (w.freeze ⟨g, n, none⟩ 1) := by
  have : (w.freeze ⟨g, n, none⟩ 1).heap.size = w.heap.size := by simp [World.freeze]
  exact ⟨rfl, rfl, rfl, by omega, fun k _ hk => by simp only [World.freeze]; simp [Array.getElem?_modify, Ne.symm hk]⟩
/-- bytes of one's own that are marked: they are written no more -/
theorem St.mark {objs' : List Ob} {k e : Nat} {so : SO} {l : List (BitVec 8)} {T et : TypeId} {i j : TI} (h : St P S σ env objs nx a w) (hs : SetO objs (k, so) (k, .frow 1 eB l) objs')
    (hso : ∀ w A σ, so.holds w A σ k ↔ rowH w A σ k e 1 (l.map eB)) (hown : ∀ σ b, so.own σ k b ↔ ∃ v, σ k = some v ∧ blkO v = some b) (hl : 0 < l.length)
    (ho : o.op = .convert T T x) (hx : evx P env x = some (.own k)) (hty : ty P T = some i) (hk : i.k = .sl et) (hj : ty P et = some j) (hu : j.k = .int .u8) :
    ∃ v w', (execOp a.eval o).run P w = .ok (.value v) w' ∧ St P S σ env objs' nx a w' ∧ (SV.fs 1 eB l).hv w' (S.A σ objs') σ v := by
  have hh := (hso _ _ _).1 (h.obs.holds _ hs.mem)
  have hsz := fun i (hi : i < l.length) => (rfl : szL (eB l[i]) = 1)
  obtain ⟨v, cs, h0, h1, h2, h3, hr⟩ := hh
  have hv := h.ev hx
  simp only [SV.hv, SV.h1, SV.hc, List.cons.injEq, and_true] at hv
  obtain ⟨v', hv1, _, hv2⟩ := hv
  rw [h0] at hv1; cases hv1
  rw [List.length_map] at *
  rcases hr.2 with ⟨rfl, hn⟩ | ⟨g, cap, cur, rfl, hb0, hg, hn, hc, hcs, ht⟩
  · omega
  · have hm := Mod.freeze w g cur.size
    have hpo : ∀ b, so.own σ k b ↔ b = g := fun b => by
      rw [hown, h0]
      exact ⟨fun ⟨v, h1, h2⟩ => by cases h1; cases h2; rfl, fun e => ⟨_, rfl, by rw [e]; rfl⟩⟩
    have hgo : ∀ b, b = g → owns σ objs b := fun b hb => owns_mem hs.mem ((hpo b).2 hb)
    have hle : ∀ b, owns σ objs' b → owns σ objs b := hs.owns_le (fun b hb => hb.elim)
    have hd := own_disj h hs (fun b hb => hb)
    have hlat := h.lat hm hgo (fun b hb => .inl (hle b hb))
    have hfz : (w.freeze ⟨g, cur.size, none⟩ 1).heap[g]? = some (.cells cur e (cur.size, cur.size + 1)) := by
      simp only [World.freeze]; simp [Array.getElem?_modify, hg]
    have hfs : (SV.fs 1 eB l).hc (w.freeze ⟨g, cur.size, none⟩ 1) (S.A σ objs') sg0 [.slice (some ⟨g, 0, none⟩) l.length cap] := by
      simp only [SV.hc, List.cons.injEq, and_true]
      refine ⟨some ⟨g, 0, none⟩, cap, rfl, hn, hc, fun h => (by cases h), hsz, fun ad had => ?_⟩
      simp only [Option.some.injEq] at had; subst had
      refine .inr ⟨rfl, hd g ((hpo g).2 rfl), cur, e, _, hfz, fun i hi => ?_⟩
      have h4 := h3.get (z := 1) h1 (i := i) (e := eB l[i]) (by simp [hi])
      have h5 := hL.later hlat _ _ _ h4
      have hmul : (i + 1) * 1 ≤ l.length * 1 := Nat.mul_le_mul_right _ hi
      rw [← ht, List.drop_take, List.take_take, Nat.min_eq_left (by omega)] at h5
      simpa using h5
    have hobs : Obs σ S.A0 objs' (w.freeze ⟨g, cur.size, none⟩ 1) := h.obs.set hs (hm.mono fun b hb => (hpo b).2 hb) ⟨_, h0, hfs⟩ (fun b hb => hb.elim) h.a0lt
    refine ⟨.slice (some ⟨g, 0, none⟩) l.length cap, w.freeze ⟨g, cur.size, none⟩ 1, ?_, h.upd hm hgo (fun b hb => .inl (hle b hb)) hobs, ?_⟩
    · have hsh : w.shape? g = some (e, cur.size) := by simp [World.shape?, hg]
      simp [execOp, ho, hv2, convert, run_underlying (ty_slice hty hk), run_underlying (ty_int hj hu), markStringish, hsh]
    · simp only [SV.hv, SV.h1]
      simp only [SV.hc] at hfs ⊢; exact hfs
variable (P) in
def cvMark (env : Env) (objs : List Ob) (nx : Nat) (T d k : Nat) (els : List (List SV)) (K : KS) : Prop := match ty P T with
  | some ⟨.sl et, _, _⟩ => match ty P et with
    | some ⟨.int .u8, _, _⟩ => Ex (fun l : List (BitVec 8) => l.map eB = els) fun l => Side (0 < l.length) (setK objs k k (.frow 1 eB l) fun o => K ((d, .fs 1 eB l) :: env) o nx)
    | _ => False
  | _ => False
variable (P) in
/-- a conversion of a type into itself -/
def evCvS (n : Nat) (dst : Option Nat) (env : Env) (objs : List Ob) (nx : Nat) (T : Nat) (s : SV) (K : KS) : Prop := dstK n dst fun d => match s with
  | .own k => match lk objs k with
    | some (.row e 1 enc xs) => cvMark P env objs nx T d k (xs.map enc) K
    | some (.lits e 1 els) => cvMark P env objs nx T d k els K
    | _ => False
  | s => evConv P T T s fun s => K ((d, s) :: env) objs nx
theorem evCvS_sound {T : TypeId} {s : SV} {K : KS} (ho : o.op = .convert T T x) (hx : evx P env x = some s) (h : evCvS P S.n o.dst env objs nx T s K) : DoesK P S env objs nx o false K := by
  obtain ⟨d, hd, hlt, h⟩ := dstK_spec h
  have core : ∀ {k e : Nat} {so : SO} {els : List (List SV)}, lk objs k = some so → evx P env x = some (.own k) → (∀ w A σ, so.holds w A σ k ↔ rowH w A σ k e 1 els) → (∀ σ b, so.own σ k b ↔ ∃ v, σ k = some v ∧ blkO v = some b) → cvMark P env objs nx T d k els K → DoesK P S env objs nx o false K := by
    intro k e so els hk hx hso hown h
    unfold cvMark at h
    split at h
    · rename_i ht
      split at h
      · rename_i hj
        obtain ⟨l, hl, hpos, h⟩ := h
        unfold setK at h
        split at h
        · rename_i o' hset
          refine DoesK.of h fun σ a w hst => ?_
          obtain ⟨v, w', h1, h2, h3⟩ := hst.mark (setO_spec hk hset) (fun w A σ => by rw [hso, hl]) hown hpos ho hx ht rfl hj rfl
          exact ⟨_, v, w', σ, h1, .inl rfl, by rw [hd]; exact h2.put hlt h3, fun e => by cases e⟩
        · exact h.elim
      · exact h.elim
    · exact h.elim
  split at h
  · rename_i k
    split at h
    · rename_i hk; exact core hk hx (fun _ _ _ => Iff.rfl) (fun _ _ => Iff.rfl) h
    · rename_i hk; exact core hk hx (fun _ _ _ => Iff.rfl) (fun _ _ => Iff.rfl) h
    · exact h.elim
  · have := evConv_sound (S := S) (nx := nx) (objs := objs) ho hx h
    intro σ a w hst X Q hX
    obtain ⟨s', v, h1, h2, h3⟩ := this σ a w hst
    unfold Oper.wp
    rw [h3 w]
    simp only [Oper.upon, hd]
    exact hX σ _ _ _ _ _ h1 (hst.put hlt h2) (fun e => by cases e)
end
end Go.Proofs.YtffaohckcggkdaaDoor

/- MY OWN ENGINE: copy into an array of one's own. -/
namespace Go.Proofs.YtffaohckcggkdaaDoor
set_option linter.all false
open Go.RowKit
/-- an array with some bytes put into it -/
def vput {n : Nat} (y : Vector (BitVec 8) n) (lo : Nat) (l : List (BitVec 8)) : Vector (BitVec 8) n := Vector.ofFn fun i => if h : lo ≤ i.1 ∧ i.1 - lo < l.length then l[i.1 - lo]'h.2 else y[i]
section
variable {P : Program} [TabC P] {S : Sig} {σ : Sg} {env : Env} {objs : List Ob} {nx : Nat} {o : Oper} {a : Act} {w : World} {x y : Operand} {K : KS}
theorem vput_list {n : Nat} (y : Vector (BitVec 8) n) (lo : Nat) (l : List (BitVec 8)) (h : lo + l.length ≤ n) : (vput y lo l).toList = y.toList.take lo ++ l ++ y.toList.drop (lo + l.length) := by
  apply List.ext_getElem
  · simp; omega
  · intro i h1 h2
    have hi : i < n := by simpa using h1
    simp only [vput, Vector.getElem_toList, Vector.getElem_ofFn]
    by_cases hlo : i < lo
    · rw [dif_neg (by omega), List.getElem_append_left (by simp; omega), List.getElem_append_left (by simp; omega)]
      simp
    · by_cases hl : i - lo < l.length
      · rw [dif_pos ⟨by omega, hl⟩, List.getElem_append_left (by simp; omega), List.getElem_append_right (by simp; omega)]
        congr 1
        simp; omega
      · rw [dif_neg (by omega), List.getElem_append_right (by simp; omega)]
        simp only [List.getElem_drop, Vector.getElem_toList]
        show y[i] = _
        congr 1
        simp; omega
theorem hE_bytes {w : World} {A : Own} : ∀ {l : List (BitVec 8)} {cs : List Value}, hE w A sg0 (l.map eB) cs → cs = l.map (bV .u8)
  | [], cs, h => by simp only [List.map_nil, hE] at h; subst h; rfl
  | b :: r, cs, h => by
    simp only [List.map_cons, hE] at h
    obtain ⟨c, rest, rfl, h1, h2⟩ := h
    rw [hL.single] at h1
    simp only [SV.hc] at h1
    subst h1
    rw [hE_bytes h2]; rfl
variable (P) in
def evCopy (n : Nat) (dst : Option Nat) (env : Env) (objs : List Ob) (nx : Nat) (T : Nat) (s u : SV) (K : KS) : Prop := match s with
  | .bsl k off lo hi => match ty P T with
    | some ⟨.sl et, _, _⟩ => match ty P et with
      | some ⟨_, 1, _⟩ => match lk objs k, srcE objs u 1 with
        | some (.box T' ps), some f => match takeP ps off with
          | some (pa, @SV.arr8 m v :: r) => Ex (fun l : List (BitVec 8) => l.map eB = f.els) fun l => Side (lo < hi ∧ hi ≤ m) (match app2 pa (.arr8 (vput v lo (l.take (hi - lo))) :: r) with
            | some ps' => frcL ps' fun ps' => setK objs k k (.box T' ps') fun o => dstV n dst env (.int .i64 (min l.length (hi - lo) : Nat)) fun env => K env o nx
            | none => False)
          | _ => False
        | _, _ => False
      | _ => False
    | _ => False
  | _ => False
theorem evCopy_sound {T T' : TypeId} {s u : SV} (ho : o.op = .call { callee := .builtin .copy, args := #[x, y], argTypes := #[T, T'] }) (hx : evx P env x = some s) (hy : evx P env y = some u) (h : evCopy P S.n o.dst env objs nx T s u K) : DoesK P S env objs nx o false K := by
  unfold evCopy at h
  split at h
  · rename_i k off lo hi
    split at h
    · rename_i et _ _ hT
      split at h
      · rename_i ek _ hE
        split at h
        · rename_i T2 ps f hk hf
          split at h
          · rename_i pa m v r htk
            obtain ⟨l, hl, hside, h⟩ := h
            obtain ⟨hlo, hhi⟩ := hside
            split at h
            · rename_i ps' happ
              obtain ⟨objs', hset, hK⟩ := setK_spec (frcL_k (K := fun ps' => setK objs k k (.box T2 ps') fun o' => dstV S.n o.dst env (.int .i64 (min l.length (hi - lo) : Nat)) fun env => K env o' nx) h)
              obtain rfl := app2_eq happ
              have hs := setO_spec hk hset
              have hlen : (l.take (hi - lo)).length = min l.length (hi - lo) := by simp [Nat.min_comm]
              intro σ a w hst X Q hX
              obtain ⟨b, cs, h1, h2, h3⟩ := lk_holds hst hk
              obtain ⟨rfl, htl⟩ := takeP_spec htk
              obtain ⟨c1, c2, rfl, hc1, hc2⟩ := hL.split h3
              simp only [hL] at hc2
              obtain ⟨d1, d2, rfl, hd1, hd2⟩ := hc2
              have f1 := hc1.len; have f2 := hd1.len
              simp only [SV.sz] at f2
              have hbx := hst.ev hx
              simp only [SV.hv, SV.h1, SV.hc, List.cons.injEq, and_true] at hbx
              obtain ⟨b', c, p, q, g1, g2, g3, g4, g5, g6⟩ := hbx
              rw [h1] at g1; cases g1
              have hsl := srcE_spec hf hy hst
              rw [← hl] at hsl
              obtain ⟨_, ad, cap, ds, e1, e2, e3, e4⟩ := hsl
              obtain rfl := hE_bytes e2
              rw [List.length_map] at e1
              have hinfo : (P.info? et).map (·.size) = some 1 := by
                obtain ⟨inf, d, hi1, _, hi2, _⟩ := ty_spec hE
                rw [hi1]; simpa using hi2
              have hp : p = off + lo := by have := g6 hlo; omega
              have hnew : (vput v lo (l.take (hi - lo))).toList.map (bV .u8) = d1.take lo ++ (l.take (hi - lo)).map (bV .u8) ++ d1.drop (lo + (l.take (hi - lo)).length) := by
                rw [vput_list _ _ _ (by omega)]
                simp only [SV.hc] at hd1
                rw [hd1]; simp [List.map_take, List.map_drop]
              have hcells : hL w (S.A σ objs) (pa ++ .arr8 (vput v lo (l.take (hi - lo))) :: r) σ (c1 ++ (d1.take lo ++ (l.take (hi - lo)).map (bV .u8) ++ d1.drop (lo + (l.take (hi - lo)).length) ++ d2)) := by
                refine hc1.append ?_
                simp only [hL]
                exact ⟨_, d2, rfl, by simp only [SV.hc]; rw [hnew], hd2⟩
              have hset2 : (c1 ++ (d1 ++ d2)).take (off + lo) ++ (l.take (hi - lo)).map (bV .u8) ++ (c1 ++ (d1 ++ d2)).drop (off + lo + ((l.take (hi - lo)).map (bV .u8)).length) = c1 ++ (d1.take lo ++ (l.take (hi - lo)).map (bV .u8) ++ d1.drop (lo + (l.take (hi - lo)).length) ++ d2) := by
                have e5 : c1.length = off := by rw [f1, htl]
                rw [← e5, List.take_length_add_append, List.take_append_of_le_length (by omega), List.length_map, Nat.add_assoc, List.drop_length_add_append, List.drop_append_of_le_length (by omega)]
                simp [List.append_assoc]
              have key : ∃ w', (execOp a.eval o).run P w = .ok (.value (.int .i64 (min l.length (hi - lo) : Nat))) w' ∧ Mod (fun c => c = b) w w' ∧ w'.heap[b]? = some (.cells (c1 ++ (d1.take lo ++ (l.take (hi - lo)).map (bV .u8) ++ d1.drop (lo + (l.take (hi - lo)).length) ++ d2)).toArray T2 (0, 0)) := by
                have hcall : ∀ r w', (Builtin.copy_ #[T, T'] o.type #[a.eval x, a.eval y]).run P w = .ok r w' → (execOp a.eval o).run P w = .ok (.value r) w' := fun r w' hr => by
                  simp [execOp, ho, resolve, invoke, builtin, hr]
                rw [g2, e1] at hcall
                cases ad with
                | none =>
                  obtain ⟨e5, rfl⟩ := e3 rfl
                  have : l = [] := by simpa using e5
                  subst this
                  refine ⟨w, hcall _ _ ?_, Mod.refl _ _, ?_⟩
                  · rw [List.length_nil, run_copy_nil (P := P) w T T' o.type et ⟨b, p, none⟩ (hi - lo) q (ty_slice hT rfl) (by rw [hinfo]; rfl)]
                    simp [goInt]
                  · rw [h2]; simp
                | some ad =>
                  have hrow := run_copy_row (P := P) w T T' o.type et b p (hi - lo) q ad l.length cap (c1 ++ (d1 ++ d2)).toArray T2 ((l.take (hi - lo)).map (bV .u8)) (ty_slice hT rfl) hinfo h2 (by simp [Nat.min_comm]) (fun j u hu => ?_) ?_ ?_
                  · have hq : goInt (((l.take (hi - lo)).map (bV .u8)).length) = .int .i64 (min l.length (hi - lo) : Nat) := by rw [List.length_map, hlen]; rfl
                    rw [hq] at hrow
                    refine ⟨_, hcall _ _ hrow, Mod.setRow _ _ _, ?_⟩
                    · rw [hp, setRow_heap w b _ _ T2 _ h2]
                      rw [← hset2]
                  · refine e4 ad rfl j u ?_
                    rw [List.map_take, List.getElem?_take] at hu
                    split at hu
                    · exact hu
                    · cases hu
                  · simp only [List.length_map, List.size_toArray, List.length_append]; omega
                  · intro u hu
                    obtain ⟨b, _, rfl⟩ := List.mem_map.1 hu; rfl
              obtain ⟨w', hrun, hm, hheap⟩ := key
              obtain ⟨R, r1, r2, _⟩ := hs.owns_iff (σ := σ)
              have hbown : ∀ so : SO, (∃ ps, so = .box T2 ps) → ∀ c, so.own σ k c ↔ c = b := by
                rintro so ⟨ps, rfl⟩ c
                simp only [SO.own, h1, Option.some.injEq]
                constructor
                · rintro ⟨v, rfl, h⟩; simp only [blkO, Option.some.injEq] at h; exact h.symm
                · rintro rfl; exact ⟨_, rfl, rfl⟩
              have hM : ∀ c, c = b → owns σ objs c := fun c hc => (r1 c).2 (.inr ((hbown _ ⟨_, rfl⟩ c).2 hc))
              have hown : ∀ c, owns σ objs' c → owns σ objs c ∨ w.heap.size ≤ c := fun c hc => .inl ((r1 c).2 (((r2 c).1 hc).imp id fun h => (hbown _ ⟨_, rfl⟩ c).2 ((hbown _ ⟨_, rfl⟩ c).1 h)))
              have hst' := hst.upd hm hM hown (hst.obs.set hs (hm.mono fun c hc => (hbown _ ⟨_, rfl⟩ c).2 hc) ⟨b, _, h1, hheap, hL.later (hst.lat hm hM hown) _ _ _ hcells⟩ (fun c hc => .inl ((hbown _ ⟨_, rfl⟩ c).2 ((hbown _ ⟨_, rfl⟩ c).1 hc))) hst.a0lt)
              unfold Oper.wp
              rw [hrun]
              simp only [Oper.upon]
              unfold dstV at hK
              split at hK
              · rename_i hd0
                rw [hd0]
                exact hX σ _ _ _ _ _ hK hst' (fun e => by cases e)
              · rename_i d hd0
                split at hK
                · rename_i hlt
                  have hK2 := frcV_k hK
                  rw [hd0]
                  refine hX σ _ _ _ _ _ hK2 (hst'.put (by simpa [Nat.blt_eq] using hlt) (hvI.2 ⟨rfl, fun _ => ?_⟩)) (fun e => by cases e)
                  unfold inR
                  have : maxLen ≤ 9223372036854775807 := by decide
                  omega
                · exact hK.elim
            · exact h.elim
          · exact h.elim
        · exact h.elim
      · exact h.elim
    · exact h.elim
  · exact h.elim
end
end Go.Proofs.YtffaohckcggkdaaDoor

/- MY OWN ENGINE: what a function's text owes. -/
namespace Go.Proofs.YtffaohckcggkdaaDoor
set_option linter.all false
open Go.RowKit
abbrev Ord := OT
/-- what the walk is told: contracts, by a function's number; the slots into which a row of one's own is cut off; the conditions and blocks behind which ways meet; how a region that draws its order is walked -/
structure Hints where
  cs : List (Nat × Ctr)
  tr : List Nat
  cut : List Nat
  cutb : List Nat
def memB : List Nat → Nat → Bool
  | [], _ => false
  | k :: r, n => match Nat.beq k n with
    | true => true
    | false => memB r n
section
variable {P : Program} [TabC P] {S : Sig} {σ : Sg} {env : Env} {objs : List Ob} {nx : Nat} {o : Oper} {a : Act} {w : World} {x y : Operand} {K : KS}
/-! ## plain operations, with what they turn in the state's words -/
variable (P) in
def PureG (S : Sig) (env : Env) (objs : List Ob) (nx : Nat) (o : Oper) (K : SV → List Ob → Nat → Prop) : Prop :=
  ∀ σ a w, St P S σ env objs nx a w → ∃ s v σ' objs' nx', K s objs' nx' ∧ St P S σ' env objs' nx' a w ∧ s.hv w (S.A σ' objs') σ' v ∧ ∀ w', (execOp a.eval o).run P w' = .ok (.value v) w'
theorem PureK.g {K : SV → List Ob → Nat → Prop} (h : PureK P S env objs nx o fun s => K s objs nx) : PureG P S env objs nx o K := fun σ a w hst => by
  obtain ⟨s, v, h1, h2, h3⟩ := h σ a w hst
  exact ⟨s, v, σ, objs, nx, h1, hst, h2, h3⟩
variable (P) in
def evSl (env : Env) (objs : List Ob) (nx : Nat) (op : Op) (K : SV → List Ob → Nat → Prop) : Prop := match op with
  | .slice _ x _ _ _ => match evx P env x with
    | some (.own k) => frzL objs k fun o => evPure P env o op fun s => K s o nx
    | _ => evPure P env objs op fun s => K s objs nx
  | op => evPure P env objs op fun s => K s objs nx
theorem evSl_sound {K : SV → List Ob → Nat → Prop} (h : evSl P env objs nx o.op K) : PureG P S env objs nx o K := by
  unfold evSl at h
  split at h
  · rename_i hop
    split at h
    · obtain ⟨o', h, g⟩ := frzL_sound (P := P) h
      have := evPure_sound (S := S) (nx := nx) h
      intro σ a w hst
      obtain ⟨s, v, h1, h2, h3⟩ := this σ a w (g.1 S env nx σ a w hst)
      exact ⟨s, v, σ, o', nx, h1, g.1 S env nx σ a w hst, h2, h3⟩
    · exact (evPure_sound h).g
  · exact (evPure_sound h).g
/-! ## operations, one by one -/
def lkC : List (Nat × Ctr) → Nat → Option Ctr
  | [], _ => none
  | (k, c) :: r, n => match Nat.beq k n with
    | true => some c
    | false => lkC r n
def CsOk (P : Program) [TabC P] : List (Nat × Ctr) → Prop
  | [] => True
  | (k, c) :: r => c.Ok P k ∧ CsOk P r
theorem CsOk.get : ∀ {l : List (Nat × Ctr)} {k : Nat} {c : Ctr}, CsOk P l → lkC l k = some c → c.Ok P k
  | [], _, _, _, h => by simp [lkC] at h
  | (j, d) :: r, k, c, ⟨h1, h2⟩, h => by
    unfold lkC at h
    split at h
    · rename_i hb
      obtain rfl := Nat.eq_of_beq_eq_true hb
      cases h; exact h1
    · exact h2.get h
variable (P) in
/-- an operation that turns the state -/
def vcEff (cs : List (Nat × Ctr)) (n : Nat) (o : Oper) (env : Env) (objs : List Ob) (nx : Nat) (K : KS) : Prop := match o.op with
  | .alloc T => evAlloc P n o.dst env objs nx T K
  | .box T x => ev1 P env x fun s => evBox n o.dst env objs nx T s K
  | .store T x y => ev1 P env x fun s => ev1 P env y fun u => evStore P o.dst env objs nx T s u K
  | .buildSlice T m ps => evLits P n o.dst env objs nx T m ps.toList K
  | .convert T T' x => match Nat.beq T T' with
    | true => ev1 P env x fun s => evCvS P n o.dst env objs nx T s K
    | false => False
  | .makeSlice T x y => ev1 P env x fun s => ev1 P env y fun u => evMake P n o.dst env objs nx T s u K
  | .load T x => dstK n o.dst fun d => ev1 P env x fun s => evLoad P objs T s fun s => K ((d, s) :: env) objs nx
  | .call c => match c with
    | { callee := .builtin .append, args := ⟨[x, y]⟩, argTypes := ⟨[T, T']⟩ } => match Nat.beq T T' with
      | true => ev1 P env x fun s => ev1 P env y fun u => evAppend P n o.dst env objs nx T s u K
      | false => False
    | { callee := .builtin .copy, args := ⟨[x, y]⟩, argTypes := ⟨[T, T']⟩ } => ev1 P env x fun s => ev1 P env y fun u => evCopy P n o.dst env objs nx T s u K
    | { callee := .value (.func f), args := as, argTypes := _ } => match lkC cs f, nth (TabC.cl P) f, evs P env as.toList with
      | some c, some true, some ss => match noTups ss with
        | true => callG c n o.dst ss env objs nx K
        | false => False
      | _, _, _ => False
    | _ => False
  | _ => False
/-- does it keep what stands? -/
def keptB (cs : List (Nat × Ctr)) (op : Op) : Bool := match op with
  | .alloc _ => true
  | .box _ _ => true
  | .buildSlice _ _ _ => true
  | .makeSlice _ _ _ => true
  | .load _ _ => true
  | .call c => match c with
    | { callee := .value (.func f), .. } => match lkC cs f with
      | some c => Nat.beq c.nn 0
      | none => false
    | _ => false
  | _ => false
theorem DoesK.weak {k k' : Bool} {K : KS} (h : DoesK P S env objs nx o k K) (hk : k' = true → k = true) : DoesK P S env objs nx o k' K := fun σ a w hst X Q hX => h σ a w hst X Q fun σ' e' o' n' a' w' h1 h2 h3 => hX σ' e' o' n' a' w' h1 h2 fun e => h3 (hk e)
theorem vcEff_sound {cs : List (Nat × Ctr)} (hcs : CsOk P cs) (h : vcEff P cs S.n o env objs nx K) : DoesK P S env objs nx o (keptB cs o.op) K := by
  unfold vcEff at h
  split at h
  · rename_i ho; rw [ho]; exact evAlloc_sound ho h
  · rename_i ho; rw [ho]; obtain ⟨s, hs, h⟩ := ev1_spec h; exact evBox_sound ho hs h
  · rename_i ho; rw [ho]; obtain ⟨s, hs, h⟩ := ev1_spec h; obtain ⟨u, hu, h⟩ := ev1_spec h; exact evStore_sound ho hs hu h
  · rename_i ho; rw [ho]; exact evLits_sound ho h
  · rename_i ho
    split at h
    · rename_i hT
      obtain rfl := Nat.eq_of_beq_eq_true hT
      obtain ⟨s, hs, h⟩ := ev1_spec h
      rw [ho]; exact evCvS_sound ho hs h
    · exact h.elim
  · rename_i ho; rw [ho]; obtain ⟨s, hs, h⟩ := ev1_spec h; obtain ⟨u, hu, h⟩ := ev1_spec h; exact evMake_sound ho hs hu h
  · rename_i ho
    obtain ⟨d, hd, hlt, h⟩ := dstK_spec h
    obtain ⟨s, hs, h⟩ := ev1_spec h
    have := evLoad_sound (S := S) (nx := nx) ho hs h
    intro σ a w hst X Q hX
    obtain ⟨s, v, h1, h2, h3⟩ := this σ a w hst
    unfold Oper.wp
    rw [h3 w (Mod.refl _ _)]
    simp only [Oper.upon, hd]
    exact hX σ _ _ _ _ _ h1 (hst.put hlt h2) (fun _ => Mod.refl _ _)
  · rename_i ho
    rw [ho]
    split at h
    · split at h
      · rename_i hT
        obtain rfl := Nat.eq_of_beq_eq_true hT
        obtain ⟨s, hs, h⟩ := ev1_spec h; obtain ⟨u, hu, h⟩ := ev1_spec h; exact evAppend_sound ho hs hu h
      · exact h.elim
    · obtain ⟨s, hs, h⟩ := ev1_spec h; obtain ⟨u, hu, h⟩ := ev1_spec h; exact evCopy_sound ho hs hu h
    · split at h
      · rename_i f as ts _ _ _ c ss hc hf hs
        split at h
        · rename_i hn
          refine (callG_sound (hcs.get hc) ho hf hs hn h).weak fun hk => ?_
          simp only [keptB, hc] at hk; exact hk
        · exact h.elim
      · exact h.elim
    · exact h.elim
  · exact h.elim
def isEff : Op → Bool
  | .alloc _ => true
  | .box _ _ => true
  | .store _ _ _ => true
  | .buildSlice _ _ _ => true
  | .makeSlice _ _ _ => true
  | .load _ _ => true
  | .convert T T' _ => Nat.beq T T'
  | .call c => match c.callee with
    | .builtin .append => true
    | .builtin .copy => true
    | .value _ => true
    | _ => false
  | _ => false
variable (P) in
/-- an operation in its turn -/
def vcOp (cs : List (Nat × Ctr)) (n : Nat) (o : Oper) (env : Env) (objs : List Ob) (nx : Nat) (K : KS) : Prop := match isEff o.op with
  | true => vcEff P cs n o env objs nx K
  | false => dstK n o.dst fun d => evSl P env objs nx o.op fun s objs nx => K ((d, s) :: env) objs nx
theorem vcOp_sound {cs : List (Nat × Ctr)} (hcs : CsOk P cs) (h : vcOp P cs S.n o env objs nx K) : DoesK P S env objs nx o false K := by
  unfold vcOp at h
  split at h
  · exact (vcEff_sound hcs h).weak (fun e => by cases e)
  · obtain ⟨d, hd, hlt, h⟩ := dstK_spec h
    have := evSl_sound (P := P) (S := S) h
    intro σ a w hst X Q hX
    obtain ⟨s, v, σ', objs', nx', h1, h2, h3, h4⟩ := this σ a w hst
    unfold Oper.wp
    rw [h4 w]
    simp only [Oper.upon, hd]
    exact hX σ' _ _ _ _ _ h1 (h2.put hlt h3) (fun e => by cases e)
/-! ## guards -/
theorem St.shadowT {d : Nat} {p : Prop} {i : Decidable p} {b : Bool} (h : St P S σ env objs nx a w) (hd : lk env d = some (.dec p i)) (hp : b = @decide p i) : St P S σ ((d, .bool b) :: env) objs nx a w :=
  h.reenv (fun t s ht => by
    unfold lk at ht
    split at ht
    · rename_i hb
      obtain rfl := Nat.eq_of_beq_eq_true hb
      cases ht
      rw [hvB, hp]
      exact hvD.1 (h.slots _ _ hd)
    · exact h.slots t s ht) h.size h.defers
/-- the guard's slot, and what it asks -/
def gdSlot (ops : List Oper) (o : Oper) : Option (Option (Nat × Bool)) := match o.guard with
  | none => some none
  | some (j, want) => match opAt ops j with
    | some oj => match oj.dst with
      | some d => some (some (d, want))
      | none => none
    | none => none
def skipE (n : Nat) (dst : Option Nat) (env : Env) (K : Env → Prop) : Prop := match dst with
  | none => K env
  | some d => match Nat.blt d n with
    | true => K ((d, .tup []) :: env)
    | false => False
/-- carried out, or not -/
def vcGuard (ops : List Oper) (n : Nat) (o : Oper) (env : Env) (run : Env → Prop) (skip : Env → Prop) : Prop := match gdSlot ops o with
  | none => False
  | some none => run env
  | some (some (d, want)) => match lk env d with
    | some (.bool b) => match b, want with
      | true, true => run env
      | false, false => run env
      | _, _ => skipE n o.dst env skip
    | some (.dec p i) => match want with
      | true => Fork p (run ((d, .bool true) :: env)) (skipE n o.dst ((d, .bool false) :: env) skip)
      | false => Fork p (skipE n o.dst ((d, .bool true) :: env) skip) (run ((d, .bool false) :: env))
    | some (.tup []) => skipE n o.dst env skip
    | _ => False
theorem wanted_of {ops : Array Oper} {d : Nat} {want b : Bool} (hg : gdSlot ops.toList o = some (some (d, want))) (hst : St P S σ env objs nx a w) (hd : lk env d = some (.bool b)) : Region.wanted o (yielded ops a.tmps) = (b == want) := by
  unfold gdSlot at hg
  split at hg
  · cases hg
  · rename_i j want' hgd
    split at hg
    · rename_i oj hoj
      split at hg
      · rename_i d' hd'
        simp only [Option.some.injEq, Prod.mk.injEq] at hg
        obtain ⟨rfl, rfl⟩ := hg
        have h1 := hvB.1 (hst.slots d' _ hd)
        have h2 := opAt_spec hoj
        have hsz : d' < a.tmps.size := by
          rcases Nat.lt_or_ge d' a.tmps.size with hh | hh
          · exact hh
          · simp [Array.getD_eq_getD_getElem?, Array.getElem?_eq_none hh, undef] at h1
        have h3 : a.tmps[d']? = some (.bool b) := by
          rw [Array.getD_eq_getD_getElem?, Array.getElem?_eq_getElem hsz] at h1
          rw [Array.getElem?_eq_getElem hsz]; simpa using h1
        unfold Region.wanted
        rw [hgd]
        simp only [yielded, h2, Option.bind_some, hd', h3]
        cases b <;> cases want' <;> rfl
      · cases hg
    · cases hg
theorem wanted_no {ops : Array Oper} {d : Nat} {want : Bool} (hg : gdSlot ops.toList o = some (some (d, want))) (hst : St P S σ env objs nx a w) (hd : lk env d = some (.tup [])) : Region.wanted o (yielded ops a.tmps) = false := by
  unfold gdSlot at hg
  split at hg
  · cases hg
  · rename_i j want' hgd
    split at hg
    · rename_i oj hoj
      split at hg
      · rename_i d' hd'
        simp only [Option.some.injEq, Prod.mk.injEq] at hg
        obtain ⟨rfl, rfl⟩ := hg
        obtain ⟨l, h1, h2⟩ := hst.slots d' _ hd
        simp only [hvs] at h2; subst h2
        have h2 := opAt_spec hoj
        unfold Region.wanted
        rw [hgd]
        simp only [yielded, h2, Option.bind_some, hd']
        cases ht : a.tmps[d']? with
        | none => simp
        | some v =>
          have : a.tmps.getD d' undef = v := by simp [Array.getD_eq_getD_getElem?, ht]
          rw [h1] at this
          subst this
          simp
      · cases hg
    · cases hg
theorem St.skip (hst : St P S σ env objs nx a w) {K : Env → Prop} (h : skipE S.n o.dst env K) : ∃ env', K env' ∧ St P S σ env' objs nx (a.put o.dst undef) w := by
  unfold skipE at h
  split at h
  · rename_i hd; rw [hd]; exact ⟨env, h, hst⟩
  · rename_i d hd
    split at h
    · rename_i hb
      rw [hd]
      exact ⟨_, h, hst.put (by simpa [Nat.blt_eq] using hb) ⟨[], rfl, rfl⟩⟩
    · exact h.elim
/-- a guard's two ways -/
theorem guard_sound {ops : Array Oper} {run skip : Env → Prop} (h : vcGuard ops.toList S.n o env run skip) (hst : St P S σ env objs nx a w) :
    (∃ env', run env' ∧ St P S σ env' objs nx a w ∧ Region.wanted o (yielded ops a.tmps) = true) ∨ (∃ env', skip env' ∧ St P S σ env' objs nx (a.put o.dst undef) w ∧ Region.wanted o (yielded ops a.tmps) = false) := by
  unfold vcGuard at h
  split at h
  · exact h.elim
  · rename_i hg
    refine .inl ⟨env, h, hst, ?_⟩
    unfold gdSlot at hg
    unfold Region.wanted
    split at hg
    · rename_i hn; rw [hn]
    · split at hg
      · split at hg <;> cases hg
      · cases hg
  · rename_i d want hg
    have two : ∀ {b : Bool} {env' : Env}, St P S σ env' objs nx a w → lk env' d = some (.bool b) → (b = want → run env') → (b ≠ want → skipE S.n o.dst env' skip) → (∃ env', run env' ∧ St P S σ env' objs nx a w ∧ Region.wanted o (yielded ops a.tmps) = true) ∨ (∃ env', skip env' ∧ St P S σ env' objs nx (a.put o.dst undef) w ∧ Region.wanted o (yielded ops a.tmps) = false) := by
      intro b env' hst' hd hr hs
      have hw := wanted_of hg hst' hd
      by_cases hb : b = want
      · exact .inl ⟨env', hr hb, hst', by rw [hw, hb]; simp⟩
      · obtain ⟨env2, h1, h2⟩ := hst'.skip (hs hb)
        exact .inr ⟨env2, h1, h2, by rw [hw]; simpa using hb⟩
    split at h
    · rename_i b hd
      refine two hst hd (fun e => ?_) (fun e => ?_)
      · subst e; cases b <;> exact h
      · cases b <;> cases want <;> first | exact absurd rfl e | exact h
    · rename_i p i hd
      have self : ∀ b, lk ((d, SV.bool b) :: env) d = some (.bool b) := fun b => by simp [lk, Nat.beq_refl]
      split at h
      · by_cases hp : p
        · exact two (b := true) (hst.shadowT hd (by simp [hp])) (self true) (fun _ => h.t hp) (fun e => absurd rfl e)
        · exact two (b := false) (hst.shadowT hd (by simp [hp])) (self false) (fun e => by cases e) (fun _ => h.f hp)
      · by_cases hp : p
        · exact two (b := true) (hst.shadowT hd (by simp [hp])) (self true) (fun e => by cases e) (fun _ => h.t hp)
        · exact two (b := false) (hst.shadowT hd (by simp [hp])) (self false) (fun _ => h.f hp) (fun e => absurd rfl e)
    · rename_i hd
      obtain ⟨env2, h1, h2⟩ := hst.skip h
      exact .inr ⟨env2, h1, h2, wanted_no hg hst hd⟩
    · exact h.elim
/-! ## rows of one's own that are cut off -/
def isTr (tr : List Nat) (o : Oper) : Bool := match o.dst with
  | some d => memB tr d
  | none => false
variable (P) in
def vcOpT (tr : List Nat) (cs : List (Nat × Ctr)) (n : Nat) (o : Oper) (env : Env) (objs : List Ob) (nx : Nat) (K : KS) : Prop := match isTr tr o with
  | true => match o.op with
    | .slice T x none (some y) none => ev1 P env x fun s => ev1 P env y fun u => evTrunc P n o.dst env objs nx T s u K
    | _ => False
  | false => vcOp P cs n o env objs nx K
theorem vcOpT_sound {tr : List Nat} {cs : List (Nat × Ctr)} (hcs : CsOk P cs) (h : vcOpT P tr cs S.n o env objs nx K) : DoesK P S env objs nx o false K := by
  unfold vcOpT at h
  split at h
  · split at h
    · rename_i ho
      obtain ⟨s, hs, h⟩ := ev1_spec h; obtain ⟨u, hu, h⟩ := ev1_spec h
      exact (evTrunc_sound ho hs hu h).weak (fun e => by cases e)
    · exact h.elim
  · exact vcOp_sound hcs h
/-! ## lists of operations (told by what they are worth) -/
structure Cfg where
  cs : List (Nat × Ctr)
  dr : List (Nat × List Nat × List Nat × Ord × List Nat)
  cut : List Nat
  cutb : List Nat
  n : Nat
  nn : Nat
  tr : List Nat := []
  cutr : List Nat := []
variable (P) in
structure OpsK (H : Cfg) (all r : List Oper) (K : KS) (env : Env) (objs : List Ob) (nx : Nat) : Prop where
  h : ∀ {S : Sig} {Q : Exit → Act → World → Prop} {ops : Array Oper}, CsOk P H.cs → H.n = S.n → ops.toList = all → (∀ env objs nx, K env objs nx → Pr P S env objs nx (Q .normal)) → Pr P S env objs nx (wpList P ops Q r)
variable (P) in
def opsS (H : Cfg) (all r : List Oper) (K : KS) (env : Env) (objs : List Ob) (nx : Nat) : Prop := match r with
  | [] => K env objs nx
  | o :: r => vcGuard all H.n o env (fun env => vcOpT P H.tr H.cs H.n o env objs nx (OpsK P H all r K)) (fun env => OpsK P H all r K env objs nx)
theorem OpsK.unf {H : Cfg} {all r : List Oper} {K : KS} (h : opsS P H all r K env objs nx) : OpsK P H all r K env objs nx := ⟨fun {S Q ops} hcs hn ha hK => by
  match r, h with
  | [], h => exact hK _ _ _ h
  | o :: r, h =>
    simp only [opsS] at h
    subst ha
    rw [hn] at h
    intro σ a w hst
    unfold wpList
    rcases guard_sound h hst with ⟨env', h, hst', hw⟩ | ⟨env', h, hst', hw⟩
    · rw [if_pos hw]
      exact .inl (vcOpT_sound hcs h σ a w hst' _ _ fun σ' e' o' n' a' w' h1 h2 _ => h1.h hcs hn rfl hK σ' a' w' h2)
    · rw [if_neg (by rw [hw]; simp)]
      exact h.h hcs hn rfl hK σ _ w hst'⟩
/-! ## a region that draws its order -/
def kAnd : Bool → Bool → Bool
  | true, b => b
  | false, _ => false
def impB : Bool → Bool → Bool
  | true, b => b
  | false, _ => true
/-! loads behind effects: of what stood at the region's head -/
def nmS : SV → Option Nat
  | .ptr k _ => some k
  | .rptr k _ _ _ => some k
  | .cptr k _ _ => some k
  | _ => none
def flatS : SV → Bool
  | .bool _ => true
  | .dec _ _ => true
  | .int _ _ => true
  | .u8 _ => true
  | .u16 _ => true
  | .u32 _ => true
  | .u64 _ => true
  | .str _ => true
  | .nilp => true
  | .nils => true
  | .nilm => true
  | .nilf => true
  | .fn _ => true
  | .arr8 _ => true
  | .arr32 _ => true
  | _ => false
def flatL : List SV → Bool
  | [] => true
  | s :: r => match flatS s with
    | true => flatL r
    | false => false
def flatV : SV → Bool
  | .agg ps => flatL ps
  | s => flatS s
theorem flatS_hc {s : SV} (h : flatS s = true) {w w' : World} {A A' : Own} {σ σ' : Sg} {cs : List Value} (hc : s.hc w A σ cs) : s.hc w' A' σ' cs := by
  cases s <;> first | (simp [flatS] at h; done) | (simp only [SV.hc] at hc ⊢; exact hc)
theorem flatL_hL {w w' : World} {A A' : Own} {σ σ' : Sg} : ∀ {l : List SV}, flatL l = true → ∀ {cs : List Value}, hL w A l σ cs → hL w' A' l σ' cs
  | [], _, cs, hc => by simp only [hL] at hc ⊢; exact hc
  | s :: r, h, cs, hc => by
    simp only [hL] at hc ⊢
    unfold flatL at h
    split at h
    · rename_i hs
      obtain ⟨a, b, h1, h2, h3⟩ := hc
      exact ⟨a, b, h1, flatS_hc hs h2, flatL_hL h h3⟩
    · cases h
theorem flatV_hv {s : SV} (h : flatV s = true) {w w' : World} {A A' : Own} {σ σ' : Sg} {v : Value} (hc : s.hv w A σ v) : s.hv w' A' σ' v := by
  cases s with
  | agg ps => obtain ⟨cs, h1, h2⟩ := hc; exact ⟨cs, h1, flatL_hL h h2⟩
  | tup vs => simp [flatV, flatS] at h
  | undef => trivial
  | _ =>
    simp only [flatV] at h
    simp only [SV.hv, SV.h1] at hc ⊢
    exact flatS_hc h hc
variable (P) in
def evLd2 (env : Env) (o0 : List Ob) (op : Op) (K : SV → Prop) : Prop := match op with
  | .load T (.tmp t) => match lk env t with
    | some s => match nmS s with
      | some k => match lk o0 k with
        | some (.ab _) => False
        | some _ => evLoad P o0 T s fun v => match flatV v with
          | true => K v
          | false => False
        | none => False
      | none => False
    | none => False
  | _ => False
theorem evLd2_sound {o0 : List Ob} {K : SV → Prop} (h : evLd2 P env o0 o.op K) {e0 : Env} {a0 : Act} {w0 : World} (hst0 : St P S S.s0 e0 o0 S.nn a0 w0) (hst : St P S σ env objs nx a w) :
    ∃ s v, K s ∧ s.hv w (S.A σ objs) σ v ∧ ∀ w', Kept w0 w' → (execOp a.eval o).run P w' = .ok (.value v) w' := by
  unfold evLd2 at h
  split at h
  · rename_i T t hop
    split at h
    · rename_i s hs
      split at h
      · rename_i k hk
        have main : ∀ so, lk o0 k = some so → (∀ a, so ≠ .ab a) → (evLoad P o0 T s fun v => match flatV v with
          | true => K v
          | false => False) → ∃ s v, K s ∧ s.hv w (S.A σ objs) σ v ∧ ∀ w', Kept w0 w' → (execOp a.eval o).run P w' = .ok (.value v) w' := by
          intro so hso hab hl
          have hnm : ∃ v, S.s0 k = some v := by
            rcases (lk_holds hst0 hso).named with ⟨a, e⟩ | h
            · exact absurd e (hab a)
            · exact h
          obtain ⟨v0, hv0⟩ := hnm
          have hkn : k < S.nn := by
            rcases Nat.lt_or_ge k S.nn with h | h
            · exact h
            · rw [hst0.dom k h] at hv0; cases hv0
          have hb : ∀ v, σ k = some v → S.s0 k = some v := hst.base k hkn
          have hsv : s.hv w0 (S.A S.s0 o0) S.s0 (a.tmps.getD t undef) := by
            have h1 := hst.slots t s hs
            cases s <;> simp only [nmS, reduceCtorEq, Option.some.injEq] at hk <;> subst hk <;> simp only [SV.hv, SV.h1, SV.hc] at h1 ⊢
            · obtain ⟨b, c, h1, h2⟩ := h1; exact ⟨b, c, hb _ h1, h2⟩
            · obtain ⟨g, l, c, h1, h2⟩ := h1; exact ⟨g, l, c, hb _ h1, h2⟩
            · obtain ⟨b, c, h1, h2⟩ := h1; exact ⟨b, c, hb _ h1, h2⟩
          have hst' : St P S S.s0 [(t, s)] o0 S.nn a w0 := { hst0 with
            slots := fun t' s' h' => by
              unfold lk at h'
              split at h'
              · rename_i he
                obtain rfl := Nat.eq_of_beq_eq_true he
                cases h'; exact hsv
              · cases h'
            size := hst.size, defers := hst.defers }
          obtain ⟨s', v, h1, h2, h3⟩ := evLoad_sound (S := S) (nx := S.nn) (env := [(t, s)]) (x := .tmp t) hop (by simp [evx, lk, Nat.beq_refl]) hl S.s0 a w0 hst'
          split at h1
          · rename_i hf
            exact ⟨s', v, h1, flatV_hv hf h2, h3⟩
          · exact h1.elim
        split at h
        · exact h.elim
        · rename_i so hab hso
          exact main so hso (fun a e => hab a e) h
        · exact h.elim
      · exact h.elim
    · exact h.elim
  · exact h.elim
/-! what a region may write: the boxes of some names -/
def isOwnSO : SO → Bool
  | .box _ _ => true
  | .row _ _ _ _ => true
  | .lits _ _ _ => true
  | _ => false
def nOk (o0 : List Ob) : List Nat → Bool
  | [] => true
  | j :: r => match lk o0 j with
    | some so => match isOwnSO so with
      | true => nOk o0 r
      | false => false
    | none => false
def MN (σ : Sg) (N : List Nat) : Own := fun b => ∃ k v, memB N k = true ∧ σ k = some v ∧ blkO v = some b
theorem own_blkO {so : SO} {k b : Nat} (h : isOwnSO so = true) : so.own σ k b ↔ ∃ v, σ k = some v ∧ blkO v = some b := by
  cases so <;> first | (simp [isOwnSO] at h; done) | exact Iff.rfl
theorem own_cells {so : SO} {k b : Nat} {A : Own} {v : Value} (h : isOwnSO so = true) (hh : so.holds w A σ k) (hv : σ k = some v) (hb : blkO v = some b) : b < w.heap.size ∧ ∃ C T fr, w.heap[b]? = some (.cells C T fr) := by
  refine ⟨SO.own_lt hh b ((own_blkO h).2 ⟨v, hv, hb⟩), ?_⟩
  have row : ∀ {e z els}, rowH w A σ k e z els → ∃ C T fr, w.heap[b]? = some (.cells C T fr) := by
    rintro e z els ⟨u, cs, h1, _, _, _, ho⟩
    rw [hv] at h1; cases h1
    rcases ho.2 with ⟨rfl, _⟩ | ⟨g, cap, cur, rfl, _, hg, _⟩
    · cases hb
    · cases hb; exact ⟨_, _, _, hg⟩
  cases so with
  | box T ps =>
    obtain ⟨c, cs, h1, h2, _⟩ := hh
    rw [hv] at h1; cases h1; cases hb; exact ⟨_, _, _, h2⟩
  | row e z enc xs => exact row hh
  | lits e z els => exact row hh
  | _ => simp [isOwnSO] at h
theorem nOk_spec {o0 : List Ob} : ∀ {N : List Nat}, nOk o0 N = true → ∀ k, memB N k = true → ∃ so, lk o0 k = some so ∧ isOwnSO so = true
  | [], _, k, h => by simp [memB] at h
  | j :: r, h, k, hk => by
    unfold nOk at h
    split at h
    · rename_i so hso
      split at h
      · rename_i ho
        unfold memB at hk
        split at hk
        · rename_i hb
          obtain rfl := Nat.eq_of_beq_eq_true hb
          exact ⟨so, hso, ho⟩
        · exact nOk_spec h k hk
      · cases h
    · cases h
theorem Disj_lk : ∀ {l : List Ob} {j k b : Nat} {so so' : SO}, Disj σ l → lk l j = some so → lk l k = some so' → j ≠ k → so.own σ j b → ¬ so'.own σ k b
  | [], _, _, _, _, _, _, h, _, _, _ => by simp [lk] at h
  | (i, u) :: r, j, k, b, so, so', hd, h1, h2, hne, ho => by
    intro ho'
    unfold lk at h1 h2
    split at h1
    · rename_i hb1
      obtain rfl := Nat.eq_of_beq_eq_true hb1
      cases h1
      split at h2
      · rename_i hb2
        exact hne (Nat.eq_of_beq_eq_true hb2)
      · exact hd.1 b ho (owns_mem (lk_mem h2) ho')
    · split at h2
      · rename_i hb2
        obtain rfl := Nat.eq_of_beq_eq_true hb2
        cases h2
        exact hd.1 b ho' (owns_mem (lk_mem h1) ho)
      · exact Disj_lk hd.2 h1 h2 hne ho ho'
theorem name_lt {e0 : Env} {o0 : List Ob} {a0 : Act} {w0 : World} (hst0 : St P S S.s0 e0 o0 S.nn a0 w0) {k : Nat} {v : Value} (h : S.s0 k = some v) : k < S.nn := by
  rcases Nat.lt_or_ge k S.nn with h1 | h1
  · exact h1
  · rw [hst0.dom k h1] at h; cases h
/-- the block that an address of a name is in -/
theorem nm_block {s : SV} {k : Nat} {v : Value} {A : Own} (hk : nmS s = some k) (h : s.hv w A σ v) : ∃ b off u, v = .pointer (some ⟨b, off, none⟩) ∧ σ k = some u ∧ blkO u = some b := by
  cases s <;> simp only [nmS, reduceCtorEq, Option.some.injEq] at hk <;> subst hk <;> simp only [SV.hv, SV.h1, SV.hc, List.cons.injEq, and_true] at h
  · obtain ⟨b, c, h1, h2⟩ := h; exact ⟨b, _, _, h2, h1, rfl⟩
  · obtain ⟨g, l, c, h1, h2⟩ := h; exact ⟨g, _, _, h2, h1, rfl⟩
  · obtain ⟨b, c, h1, h2⟩ := h; exact ⟨b, _, _, h2, h1, rfl⟩
variable (P) in
/-- is what is loaded none of what may be written? -/
def ldSep (env : Env) (o0 : List Ob) (N : List Nat) (op : Op) : Bool := match N with
  | [] => true
  | _ :: _ => match op with
    | .load T (.tmp t) => match ty P T, lk env t with
      | some _, some s => match nmS s with
        | some k => match memB N k, lk o0 k with
          | false, some so => isOwnSO so
          | _, _ => false
        | none => false
      | _, _ => false
    | _ => false
theorem ldSep_sound {o0 : List Ob} {N : List Nat} (h : ldSep P env o0 N o.op = true) (hN : nOk o0 N = true) {e0 : Env} {a0 : Act} {w0 : World} (hst0 : St P S S.s0 e0 o0 S.nn a0 w0) (hst : St P S σ env objs nx a w) {v : Value}
    (hr : ∀ w', Kept w0 w' → (execOp a.eval o).run P w' = .ok (.value v) w') : ∀ w', Mod (MN S.s0 N) w0 w' → (execOp a.eval o).run P w' = .ok (.value v) w' := by
  intro w' hm
  unfold ldSep at h
  split at h
  · exact hr w' (hm.mono fun b ⟨k, v, hk, _⟩ => by simp [memB] at hk)
  · split at h
    · rename_i T t hop
      split at h
      · rename_i i s hty hs
        split at h
        · rename_i k hk
          split at h
          · rename_i so hmem hso
            obtain ⟨b, off, u, h1, h2, h3⟩ := nm_block hk (hst.slots t s hs)
            have hnamed : ∃ v, S.s0 k = some v := by
              rcases (lk_holds hst0 hso).named with ⟨a, e⟩ | h'
              · subst e; simp [isOwnSO] at h
              · exact h'
            obtain ⟨u', hu'⟩ := hnamed
            have hb0 := hst.base k (name_lt hst0 hu') u h2
            obtain ⟨hlt, C, T', fr, hc⟩ := own_cells h (lk_holds hst0 hso) hb0 h3
            refine loadOp_same hop hty h1 hc ((hm.block b hlt ?_).trans hc) (hr w0 (Mod.refl _ _))
            · rintro ⟨j, vj, hj, hvj, hbj⟩
              obtain ⟨so', hso', ho'⟩ := nOk_spec hN j hj
              have hne : j ≠ k := fun e => by subst e; rw [hmem] at hj; cases hj
              exact Disj_lk hst0.obs.disj hso' hso hne ((own_blkO ho').2 ⟨vj, hvj, hbj⟩) ((own_blkO h).2 ⟨u, hb0, h3⟩)
          · cases h
        · cases h
      · cases h
    · cases h
variable (P) in
/-- does it write only what may be written? -/
def stN (env : Env) (objs : List Ob) (N : List Nat) (op : Op) : Bool := match op with
  | .store T (.tmp t) _ => match ty P T, lk env t with
    | some _, some s => match nmS s with
      | some k => match memB N k, lk objs k with
        | true, some so => isOwnSO so
        | _, _ => false
      | none => false
    | _, _ => false
  | _ => false
theorem stN_sound {o0 : List Ob} {N : List Nat} (h : stN P env objs N o.op = true) (hN : nOk o0 N = true) {e0 : Env} {a0 : Act} {w0 : World} (hst0 : St P S S.s0 e0 o0 S.nn a0 w0) (hst : St P S σ env objs nx a w) {X : Act → World → Prop} {Q : Exit → Act → World → Prop}
    (hX : o.wp P a w X Q) : o.wp P a w (fun a' w' => X a' w' ∧ Mod (MN S.s0 N) w w') Q := by
  unfold stN at h
  split at h
  · rename_i T t y hop
    split at h
    · rename_i i s hty hs
      split at h
      · rename_i k hk
        split at h
        · rename_i so hmem hso
          obtain ⟨b, off, u, h1, h2, h3⟩ := nm_block hk (hst.slots t s hs)
          obtain ⟨hlt, C, T', fr, hc⟩ := own_cells h (lk_holds hst hso) h2 h3
          refine Oper.wp_mono (fun a' w' h' => ⟨h'.1, h'.2.mono fun c hc => ?_⟩) (storeOp_mod (P := P) hop hty h1 hc hX)
          subst hc
          obtain ⟨so', hso', ho'⟩ := nOk_spec hN k hmem
          have hnamed : ∃ v, S.s0 k = some v := by
            rcases (lk_holds hst0 hso').named with ⟨a, e⟩ | h'
            · subst e; simp [isOwnSO] at ho'
            · exact h'
          obtain ⟨u', hu'⟩ := hnamed
          exact ⟨k, u, hmem, hst.base k (name_lt hst0 hu') u h2, h3⟩
        · cases h
      · cases h
    · cases h
  · cases h
def orB : Bool → Bool → Bool
  | true, _ => true
  | false, b => b
variable (P) in
structure OrdK (H : Cfg) (all : List Oper) (o0 : List Ob) (N : List Nat) (r : Ord) (ph k : Bool) (K : KS) (env : Env) (objs : List Ob) (nx : Nat) : Prop where
  h : ∀ {S : Sig} {Q : Exit → Act → World → Prop} {ops : Array Oper}, CsOk P H.cs → H.n = S.n → ops.toList = all → nOk o0 N = true → (∀ env objs nx, K env objs nx → Pr P S env objs nx (Q .normal)) →
    ∀ σ a w w0 e0 a0, St P S S.s0 e0 o0 S.nn a0 w0 → St P S σ env objs nx a w → (ph = true → w = w0) → (k = true → Mod (MN S.s0 N) w0 w) → wpTree P ops Q (fun w' => Mod (MN S.s0 N) w0 w') r a w
variable (P) in
def loudS (H : Cfg) (all : List Oper) (o0 : List Ob) (N : List Nat) (o : Oper) (need : Bool) (r : Ord) (ph k : Bool) (K : KS) (env : Env) (objs : List Ob) (nx : Nat) : Prop := vcGuard all H.n o env (fun env => match kAnd k (orB (keptB H.cs o.op) (stN P env objs N o.op)) with
  | true => vcEff P H.cs H.n o env objs nx (OrdK P H all o0 N r false true K)
  | false => match need with
    | true => False
    | false => vcEff P H.cs H.n o env objs nx (OrdK P H all o0 N r false false K)) (fun env => match impB need k with
    | true => OrdK P H all o0 N r ph k K env objs nx
    | false => False)
/-- both are owed -/
structure Both (p q : Prop) : Prop where
  l : p
  r : q
variable (P) in
def ordS (H : Cfg) (all : List Oper) (o0 : List Ob) (N : List Nat) (r : Ord) (ph k : Bool) (K : KS) (env : Env) (objs : List Ob) (nx : Nat) : Prop := match r with
  | .nil => K env objs nx
  | .one i kind need r => match opAt all i with
    | none => False
    | some o => match kind with
      | 0 => vcGuard all H.n o env (fun env => dstK H.n o.dst fun d => evSl P env objs nx o.op fun s objs nx => OrdK P H all o0 N r ph k K ((d, s) :: env) objs nx) (fun env => OrdK P H all o0 N r ph k K env objs nx)
      | 1 => vcGuard all H.n o env (fun env => match ldSep P env o0 N o.op with
        | true => match ph with
          | true => dstK H.n o.dst fun d => evLd P env objs o.op fun s => OrdK P H all o0 N r true k K ((d, s) :: env) objs nx
          | false => dstK H.n o.dst fun d => evLd2 P env o0 o.op fun s => OrdK P H all o0 N r false k K ((d, s) :: env) objs nx
        | false => False) (fun env => OrdK P H all o0 N r ph k K env objs nx)
      | _ => loudS P H all o0 N o need r ph k K env objs nx
  | .alt i need r t => match opAt all i with
    | none => False
    | some o => Both (loudS P H all o0 N o need r ph k K env objs nx) (OrdK P H all o0 N t ph k K env objs nx)
theorem loudS_sound {H : Cfg} {o0 : List Ob} {N : List Nat} {o : Oper} {need : Bool} {r : Ord} {ph k : Bool} {K : KS} {Q : Exit → Act → World → Prop} {ops : Array Oper} {i : Nat} (h : loudS P H ops.toList o0 N o need r ph k K env objs nx) (ho : opAt ops.toList i = some o) (hcs : CsOk P H.cs) (hn : H.n = S.n) (hN : nOk o0 N = true)
    (hK : ∀ env objs nx, K env objs nx → Pr P S env objs nx (Q .normal)) {w0 : World} {e0 : Env} {a0 : Act} (hst0 : St P S S.s0 e0 o0 S.nn a0 w0) (hst : St P S σ env objs nx a w) (hph : ph = true → w = w0) (hk : k = true → Mod (MN S.s0 N) w0 w) :
    wpTree P ops Q (fun w' => Mod (MN S.s0 N) w0 w') (.one i 2 need r) a w := by
  unfold loudS at h
  rw [hn] at h
  obtain h0 := guard_sound h hst
  clear h
  rcases h0 with ⟨env', h, hst', hw⟩ | ⟨env', h, hst', hw⟩
  · refine tree_loud ho hw fun X hX => ?_
    have plain : ∀ k2 : Bool, vcEff P H.cs S.n o env' objs nx (OrdK P H ops.toList o0 N r false k2 K) → (need = true → k2 = true) → (k2 = true → k = true ∧ keptB H.cs o.op = true) → o.wp P a w X Q := by
      intro k2 h hk1 hk2
      refine vcEff_sound hcs h σ a w hst' X Q fun σ' e' o' n' a' w' h1 h2 h3 => hX _ _ ⟨fun hn => ?_, ?_⟩
      · obtain ⟨e1, e2⟩ := hk2 (hk1 hn)
        exact (hk e1).trans ((h3 e2).mono fun _ x => x.elim)
      · refine h1.h hcs hn rfl hN hK σ' a' w' w0 e0 a0 hst0 h2 (fun e => by cases e) (fun e => ?_)
        obtain ⟨e1, e2⟩ := hk2 e
        exact (hk e1).trans ((h3 e2).mono fun _ x => x.elim)
    split at h
    · rename_i hkk
      have hkt : k = true := by cases k <;> simp [kAnd] at hkk ⊢
      subst hkt
      cases hkp : keptB H.cs o.op with
      | true => exact plain true h (fun _ => rfl) (fun _ => ⟨rfl, hkp⟩)
      | false =>
        have hs : stN P env' objs N o.op = true := by simpa [kAnd, hkp, orB] using hkk
        have hwp := stN_sound hs hN hst0 hst' (vcEff_sound hcs h σ a w hst' (fun a' w' => ∃ σ' e' o' n', OrdK P H ops.toList o0 N r false true K e' o' n' ∧ St P S σ' e' o' n' a' w') Q fun σ' e' o' n' a' w' h1 h2 _ => ⟨σ', e', o', n', h1, h2⟩)
        refine Oper.wp_mono (fun a' w' h' => ?_) hwp
        obtain ⟨⟨σ', e', o', n', h1, h2⟩, h3⟩ := h'
        have hmm := (hk rfl).trans h3
        exact hX _ _ ⟨fun _ => hmm, h1.h hcs hn rfl hN hK σ' a' w' w0 e0 a0 hst0 h2 (fun e => by cases e) (fun _ => hmm)⟩
    · cases need with
      | true => exact h.elim
      | false => exact plain false h (fun e => by cases e) (fun e => by cases e)
  · split at h
    · exact tree_skip ho hw (h.h hcs hn rfl hN hK σ _ w w0 e0 a0 hst0 hst' hph hk)
    · exact h.elim
theorem OrdK.unf {H : Cfg} {all : List Oper} {o0 : List Ob} {N : List Nat} {r : Ord} {ph k : Bool} {K : KS} (h : ordS P H all o0 N r ph k K env objs nx) : OrdK P H all o0 N r ph k K env objs nx := ⟨fun {S Q ops} hcs hn ha hN hK => by
  subst ha
  match r, h with
  | .nil, h => exact fun σ a w w0 e0 a0 hst0 hst _ _ => hK _ _ _ h σ a w hst
  | .one i kind need r, h =>
    simp only [ordS] at h
    intro σ a w w0 e0 a0 hst0 hst hph hk
    split at h
    · exact h.elim
    · rename_i o ho
      split at h
      · rw [hn] at h
        rcases guard_sound h hst with ⟨env', h, hst', hw⟩ | ⟨env', h, hst', hw⟩
        · obtain ⟨d, hd, hlt, h⟩ := dstK_spec h
          obtain ⟨s, v, σ', o', n', h1, h2, h3, h4⟩ := evSl_sound (P := P) (S := S) h σ a w hst'
          refine tree_pure ho hw h4 ?_
          rw [hd]
          exact h1.h hcs hn rfl hN hK σ' _ w w0 e0 a0 hst0 (h2.put hlt h3) hph hk
        · exact tree_skip ho hw (h.h hcs hn rfl hN hK σ _ w w0 e0 a0 hst0 hst' hph hk)
      · rw [hn] at h
        rcases guard_sound h hst with ⟨env', h, hst', hw⟩ | ⟨env', h, hst', hw⟩
        · split at h
          · rename_i hsep
            split at h
            · obtain ⟨d, hd, hlt, h⟩ := dstK_spec h
              obtain ⟨s, v, h1, h2, h3⟩ := evLd_sound (P := P) (S := S) (nx := nx) h σ a w hst'
              have hww := hph rfl
              subst hww
              refine tree_load ho hw (ldSep_sound hsep hN hst0 hst' h3) ?_
              rw [hd]
              exact h1.h hcs hn rfl hN hK σ _ w w e0 a0 hst0 (hst'.put hlt h2) (fun _ => rfl) hk
            · obtain ⟨d, hd, hlt, h⟩ := dstK_spec h
              obtain ⟨s, v, h1, h2, h3⟩ := evLd2_sound (P := P) (S := S) h hst0 hst'
              refine tree_load ho hw (ldSep_sound hsep hN hst0 hst' h3) ?_
              rw [hd]
              exact h1.h hcs hn rfl hN hK σ _ w w0 e0 a0 hst0 (hst'.put hlt h2) (fun e => by cases e) hk
          · exact h.elim
        · exact tree_skip ho hw (h.h hcs hn rfl hN hK σ _ w w0 e0 a0 hst0 hst' hph hk)
      · rename_i hk0 hk1
        have h2 := loudS_sound (Q := Q) h ho hcs hn hN hK hst0 hst hph hk
        match kind, h2, hk0, hk1 with
        | 0, _, hk0, _ => exact absurd rfl hk0
        | 1, _, _, hk1 => exact absurd rfl hk1
        | m + 2, h2, _, _ => exact h2
  | .alt i need r t, h =>
    simp only [ordS] at h
    intro σ a w w0 e0 a0 hst0 hst hph hk
    split at h
    · exact h.elim
    · rename_i o ho
      exact tree_alt (loudS_sound (Q := Q) h.l ho hcs hn hN hK hst0 hst hph hk) (h.r.h hcs hn rfl hN hK σ a w w0 e0 a0 hst0 hst hph hk)⟩
end
end Go.Proofs.YtffaohckcggkdaaDoor

/- MY OWN ENGINE: the forms of code, loops, whole functions. -/
namespace Go.Proofs.YtffaohckcggkdaaDoor
set_option linter.all false
open Go.RowKit
inductive Way
  | normal
  | ret
  | exit (i : Nat)
abbrev KW := Way → KS
/-- a region's order: the loads, the loud ones, the walk -/
abbrev Draw := Nat × List Nat × List Nat × Ord × List Nat
def lkD : List Draw → Nat → Option (List Nat × List Nat × Ord × List Nat)
  | [], _ => none
  | (k, t, l, o) :: r, n => match Nat.beq k n with
    | true => some (t, l, o)
    | false => lkD r n
/-- may all regions that draw be walked so? -/
def drawsOk (dr : List Draw) : Code → Bool
  | .region id ops true => match lkD dr id with
    | some (t, l, o, _) => Region.noSelect ops && (o.depth == ops.size) && treeOk ops t l o (Array.replicate ops.size false) true []
    | none => false
  | .region _ _ false => true
  | .seq a b => drawsOk dr a && drawsOk dr b
  | .cond _ a b => drawsOk dr a && drawsOk dr b
  | .block _ c => drawsOk dr c
  | .loop c => drawsOk dr c
  | _ => true
section
variable {P : Program} [TabC P] {S : Sig} {σ : Sg} {env : Env} {objs : List Ob} {nx : Nat} {o : Oper} {a : Act} {w : World}
/-! ## states that are gone into -/
/-- slot by slot (told by what it is worth) -/
structure FitE (env : Env) (ρ : Rn) (objs : List Ob) (nx : Nat) (E : Env) (K : KF) : Prop where
  h : ∀ {P : Program} [TabC P], ∃ ρ' objs' nx', K ρ' objs' nx' ∧ Rn.le ρ ρ' ∧ ∀ S σ a w, St P S σ env objs nx a w → ∃ σ', Sg.le σ σ' ∧ St P S σ' env objs' nx' a w ∧ Later w (S.A σ objs) w (S.A σ' objs') ∧
    ∀ t s, (t, s) ∈ E → s.hv w (S.A σ' objs') (σ'.via ρ') (a.tmps.getD t undef)
def fitES (env : Env) (ρ : Rn) (objs : List Ob) (nx : Nat) (E : Env) (K : KF) : Prop := match E with
  | [] => K ρ objs nx
  | (t, e) :: r => match lk env t with
    | some s => fitV ρ objs nx e s fun ρ objs nx => FitE env ρ objs nx r K
    | none => False
theorem FitE.unf {E : Env} {ρ : Rn} {K : KF} (h : fitES env ρ objs nx E K) : FitE env ρ objs nx E K := ⟨fun {P} _ => by
  match E, h with
  | [], h => exact ⟨ρ, objs, nx, h, Rn.le.refl _, fun S σ a w hst => ⟨σ, Sg.le.refl _, hst, Later.refl _ _, fun t s hm => by cases hm⟩⟩
  | (t, e) :: r, h =>
    simp only [fitES] at h
    split at h
    · rename_i s hs
      obtain ⟨ρ1, o1, n1, h, f1⟩ := fitV_sound (P := P) h
      obtain ⟨ρ2, o2, n2, h, l2, f2⟩ := h.h (P := P)
      refine ⟨ρ2, o2, n2, h, f1.1.trans l2, fun S σ a w hst => ?_⟩
      obtain ⟨σ1, le1, s1, t1, p1⟩ := f1.2 S env σ a w hst
      obtain ⟨σ2, le2, s2, t2, p2⟩ := f2 S σ1 a w s1
      refine ⟨σ2, le1.trans le2, s2, t1.trans t2, fun t' s' hm => ?_⟩
      rcases List.mem_cons.1 hm with he | hm
      · cases he
        exact ((p1 _ (hst.slots t s hs)).later t2).names (via_le le2 l2)
      · exact p2 t' s' hm
    · exact h.elim⟩
/-- the names below stand for themselves -/
def idB (nn : Nat) : Rn → Bool
  | [] => true
  | (j, k) :: r => match Nat.blt j nn with
    | true => match Nat.beq j k with
      | true => idB nn r
      | false => false
    | false => idB nn r
theorem idB_spec {nn : Nat} : ∀ {ρ : Rn}, idB nn ρ = true → ∀ j k, j < nn → lkN ρ j = some k → j = k
  | [], _, j, k, _, h => by cases h
  | (i, n) :: r, hb, j, k, hj, h => by
    unfold lkN at h
    unfold idB at hb
    split at h
    · rename_i he
      obtain rfl := Nat.eq_of_beq_eq_true he
      cases h
      have hlt : Nat.blt i nn = true := by simpa [Nat.blt_eq] using hj
      rw [hlt] at hb
      simp only at hb
      split at hb
      · rename_i hq; exact Nat.eq_of_beq_eq_true hq
      · cases hb
    · refine idB_spec (ρ := r) ?_ j k hj h
      split at hb
      · split at hb
        · exact hb
        · cases hb
      · exact hb
/-- from the one state into the other -/
def Into (nn : Nat) (env : Env) (objs : List Ob) (nx : Nat) (E : Env) (O : List Ob) (N : Nat) : Prop :=
  FitE env [] objs nx E fun ρ objs nx => FitOs ρ [] objs nx O fun ρ tk rest nx => match rnB N ρ, idB nn ρ, Nat.ble nn N with
    | true, true, true => True
    | _, _, _ => False
theorem Into.sound {E : Env} {O : List Ob} {N : Nat} (h : Into S.nn env objs nx E O N) (hst : St P S σ env objs nx a w) : ∃ σ', St P S σ' E O N a w := by
  obtain ⟨ρ1, o1, n1, h, _, f1⟩ := h.h (P := P)
  obtain ⟨ρ, tn, rest, n2, h, l2, f2⟩ := h.h (P := P)
  split at h
  · rename_i hrn hid hnN
    obtain ⟨σ1, le1, s1, t1, p1⟩ := f1 S σ a w hst
    obtain ⟨σ2, le2, s2, t2, p2⟩ := f2 S env σ1 a w s1
    simp only [List.append_nil] at s2 t2 p2
    have hd := Disj_append.1 s2.obs.disj
    have hown : ∀ b, owns (σ2.via ρ) O b ↔ owns σ2 tn b := p2.owns
    have hle : ∀ b, owns (σ2.via ρ) O b → owns σ2 (tn.reverse ++ rest) b := fun b hb => by rw [owns_append]; exact .inl ((owns_rev b).2 ((hown b).1 hb))
    have hl : Later w (S.A σ2 (tn.reverse ++ rest)) w (S.A (σ2.via ρ) O) := Later.own fun b hb => hb.imp id (hle b)
    refine ⟨σ2.via ρ, { slots := fun t s ht => ?_, dom := fun k hk => by unfold Sg.via; rw [rnB_spec hrn k hk], size := s2.size, defers := s2.defers, obs := ⟨fun o ho => (p2.holds o ho).later hl (fun _ _ => rfl), p2.disj (Disj_perm (List.reverse_perm tn) hd.1), fun b hb => s2.obs.lt b (hle b hb)⟩, hist := s2.hist, own0 := fun b hb => s2.own0 b (hle b hb), a0 := s2.a0, glob := s2.glob.later hl, base := fun k hk v hv => ?_, nnx := Nat.le_of_ble_eq_true hnN }⟩
    · exact (((p1 t s (lk_mem ht)).later t2).names (via_le le2 l2)).later hl
    · unfold Sg.via at hv
      split at hv
      · rename_i k' hk'
        obtain rfl := idB_spec hid k k' hk hk'
        exact s2.base _ hk v hv
      · cases hv
  · exact h.elim
/-- the slots that a text writes -/
def asgO : List Oper → List Nat → List Nat
  | [], r => r
  | o :: l, r => match o.dst with
    | some d => d :: asgO l r
    | none => asgO l r
def asgC : Code → List Nat → List Nat
  | .region _ ops _, r => asgO ops.toList r
  | .seq a b, r => asgC a (asgC b r)
  | .cond _ a b, r => asgC a (asgC b r)
  | .block _ c, r => asgC c r
  | .loop c, r => asgC c r
  | .rangeFunc _ ps a b, r => ps.toList ++ asgC a (asgC b r)
  | .scope c, r => asgC c r
  | _, r => r
def natsK : List Nat → (List Nat → Prop) → Prop
  | [], K => K []
  | k :: r, K => natsK r fun l => K (k :: l)
theorem natsK_k : ∀ {l : List Nat} {K : List Nat → Prop}, natsK l K → K l
  | [], K, h => h
  | k :: r, K, h => natsK_k (l := r) (K := fun l => K (k :: l)) h
def keepS : SV → Bool
  | .own _ => false
  | .rptr _ _ _ _ => false
  | .cptr _ _ _ => false
  | .bsl _ _ _ _ => false
  | .undef => false
  | .tup _ => false
  | _ => true
def pruneK (ks : List Nat) : Env → (Env → Prop) → Prop
  | [], K => K []
  | (t, s) :: r, K => match memB ks t with
    | true => pruneK ks r K
    | false => match keepS s with
      | true => pruneK (t :: ks) r fun l => K ((t, s) :: l)
      | false => pruneK (t :: ks) r K
theorem pruneK_k : ∀ {env : Env} {ks : List Nat} {K : Env → Prop}, pruneK ks env K → ∃ L, K L
  | [], ks, K, h => ⟨_, h⟩
  | (t, s) :: r, ks, K, h => by
    unfold pruneK at h
    split at h
    · exact pruneK_k h
    · split at h
      · obtain ⟨L, h⟩ := pruneK_k h; exact ⟨_, h⟩
      · exact pruneK_k h
/-- what stands of the slots behind a text that writes others -/
def stillK (c : Code) (env : Env) (K : Env → Prop) : Prop := natsK (asgC c []) fun ks => pruneK ks env K
theorem stillK_k {c : Code} {env : Env} {K : Env → Prop} (h : stillK c env K) : ∃ L, K L := pruneK_k (natsK_k (K := fun ks => pruneK ks env K) h)
def catE : Env → Env → Env
  | [], L => L
  | x :: r, L => x :: catE r L
/-! ### what is owed behind a text: each as a constant of its own, so that nobody reckons it but by its rules -/
def seqK (Y : Env → List Ob → Nat → KW → Prop) (K : KW) : KW := fun way env objs nx => match way with
  | .normal => Y env objs nx K
  | .ret => K .ret env objs nx
  | .exit i => K (.exit i) env objs nx
theorem seqK_n {Y : Env → List Ob → Nat → KW → Prop} {K : KW} {env : Env} {objs : List Ob} {nx : Nat} (h : Y env objs nx K) : seqK Y K .normal env objs nx := h
theorem seqK_r {Y : Env → List Ob → Nat → KW → Prop} {K : KW} {env : Env} {objs : List Ob} {nx : Nat} (h : K .ret env objs nx) : seqK Y K .ret env objs nx := h
theorem seqK_e {Y : Env → List Ob → Nat → KW → Prop} {K : KW} {env : Env} {objs : List Ob} {nx i : Nat} (h : K (.exit i) env objs nx) : seqK Y K (.exit i) env objs nx := h
def blockK (id : Nat) (K : KW) : KW := fun way env objs nx => match way with
  | .normal => K .normal env objs nx
  | .ret => K .ret env objs nx
  | .exit i => match Nat.beq i id with
    | true => K .normal env objs nx
    | false => K (.exit i) env objs nx
theorem blockK_n {id : Nat} {K : KW} {env : Env} {objs : List Ob} {nx : Nat} (h : K .normal env objs nx) : blockK id K .normal env objs nx := h
theorem blockK_r {id : Nat} {K : KW} {env : Env} {objs : List Ob} {nx : Nat} (h : K .ret env objs nx) : blockK id K .ret env objs nx := h
theorem blockK_e {id : Nat} {K : KW} {env : Env} {objs : List Ob} {nx i : Nat} (h : match Nat.beq i id with
    | true => K .normal env objs nx
    | false => K (.exit i) env objs nx) : blockK id K (.exit i) env objs nx := h
def loopK (nn : Nat) {I : Type} (Φ : I → Prop) (E : I → Env) (O : I → List Ob) (N : Nat) (m : I → Nat) (i : I) (K : KW) : KW := fun way env objs n => match way with
  | .normal => ∃ j, (m j < m i ∧ Φ j) ∧ Into nn env objs n (E j) (O j) N
  | .ret => K .ret env objs n
  | .exit id => K (.exit id) env objs n
theorem loopK_n {nn : Nat} {I : Type} {Φ : I → Prop} {E : I → Env} {O : I → List Ob} {N : Nat} {m : I → Nat} {i : I} {K : KW} {env : Env} {objs : List Ob} {n : Nat} (h : ∃ j, (m j < m i ∧ Φ j) ∧ Into nn env objs n (E j) (O j) N) : loopK nn Φ E O N m i K .normal env objs n := h
theorem loopK_r {nn : Nat} {I : Type} {Φ : I → Prop} {E : I → Env} {O : I → List Ob} {N : Nat} {m : I → Nat} {i : I} {K : KW} {env : Env} {objs : List Ob} {n : Nat} (h : K .ret env objs n) : loopK nn Φ E O N m i K .ret env objs n := h
theorem loopK_e {nn : Nat} {I : Type} {Φ : I → Prop} {E : I → Env} {O : I → List Ob} {N : Nat} {m : I → Nat} {i : I} {K : KW} {env : Env} {objs : List Ob} {n id : Nat} (h : K (.exit id) env objs n) : loopK nn Φ E O N m i K (.exit id) env objs n := h
def cutK (nn : Nat) {I : Type} (Φ : I → Prop) (E : I → Env) (O : I → List Ob) (N : Nat) (K : KW) : KW := fun way env objs n => match way with
  | .normal => ∃ j, Φ j ∧ Into nn env objs n (E j) (O j) N
  | .ret => K .ret env objs n
  | .exit id => K (.exit id) env objs n
theorem cutK_n {nn : Nat} {I : Type} {Φ : I → Prop} {E : I → Env} {O : I → List Ob} {N : Nat} {K : KW} {env : Env} {objs : List Ob} {n : Nat} (h : ∃ j, Φ j ∧ Into nn env objs n (E j) (O j) N) : cutK nn Φ E O N K .normal env objs n := h
theorem cutK_r {nn : Nat} {I : Type} {Φ : I → Prop} {E : I → Env} {O : I → List Ob} {N : Nat} {K : KW} {env : Env} {objs : List Ob} {n : Nat} (h : K .ret env objs n) : cutK nn Φ E O N K .ret env objs n := h
theorem cutK_e {nn : Nat} {I : Type} {Φ : I → Prop} {E : I → Env} {O : I → List Ob} {N : Nat} {K : KW} {env : Env} {objs : List Ob} {n id : Nat} (h : K (.exit id) env objs n) : cutK nn Φ E O N K (.exit id) env objs n := h
/-- a loop: which of a family of states its head is in; 'm' falls; L: what stands of the slots -/
inductive LoopS (nn : Nat) (B : Env → List Ob → Nat → KW → Prop) (L : Env) (env : Env) (objs : List Ob) (nx : Nat) (K : KW) : Prop
  | mk {I : Type} (Φ : I → Prop) (E : I → Env) (O : I → List Ob) (N : Nat) (m : I → Nat) (i0 : I) (h0 : Φ i0) (hin : Into nn env objs nx (E i0) (O i0) N)
    (round : ∀ i, Φ i → B (E i) (O i) N (loopK nn Φ E O N m i K))
/-- ways that meet -/
inductive CutS (nn : Nat) (B : Env → List Ob → Nat → KW → Prop) (C : Env → List Ob → Nat → KW → Prop) (L : Env) (env : Env) (objs : List Ob) (nx : Nat) (K : KW) : Prop
  | mk {I : Type} (Φ : I → Prop) (E : I → Env) (O : I → List Ob) (N : Nat)
    (first : B env objs nx (cutK nn Φ E O N K))
    (rest : ∀ i, Φ i → C (E i) (O i) N K)
/-- a loop, told by the slots that it writes -/
theorem LoopS.auto {nn : Nat} {B : Env → List Ob → Nat → KW → Prop} {L env : Env} {objs : List Ob} {nx : Nat} {K : KW} {I : Type} (Φ : I → Prop) (E : I → Env) (O : I → List Ob) (m : I → Nat) (i0 : I) (h0 : Φ i0) (hin : Into nn env objs nx (catE (E i0) L) (O i0) nx)
    (round : ∀ i, Φ i → B (catE (E i) L) (O i) nx (loopK nn Φ (fun i => catE (E i) L) O nx m i K)) : LoopS nn B L env objs nx K := .mk Φ (fun i => catE (E i) L) O nx m i0 h0 hin round
/-- the same, with a bound of names of its own -/
theorem LoopS.autoN {nn : Nat} {B : Env → List Ob → Nat → KW → Prop} {L env : Env} {objs : List Ob} {nx : Nat} {K : KW} {I : Type} (Φ : I → Prop) (E : I → Env) (O : I → List Ob) (N : Nat) (m : I → Nat) (i0 : I) (h0 : Φ i0) (hin : Into nn env objs nx (catE (E i0) L) (O i0) N)
    (round : ∀ i, Φ i → B (catE (E i) L) (O i) N (loopK nn Φ (fun i => catE (E i) L) O N m i K)) : LoopS nn B L env objs nx K := .mk Φ (fun i => catE (E i) L) O N m i0 h0 hin round
/-- ways that meet, told by the slots that they write -/
theorem CutS.auto {nn : Nat} {B C : Env → List Ob → Nat → KW → Prop} {L env : Env} {objs : List Ob} {nx : Nat} {K : KW} {I : Type} (Φ : I → Prop) (E : I → Env) (O : I → List Ob) (N : Nat)
    (first : B env objs nx (cutK nn Φ (fun i => catE (E i) L) O N K))
    (rest : ∀ i, Φ i → C (catE (E i) L) (O i) N K) : CutS nn B C L env objs nx K := .mk Φ (fun i => catE (E i) L) O N first rest
def cutQ (H : Cfg) : Code → Bool
  | .cond (.tmp t) _ _ => memB H.cut t
  | .block id _ => memB H.cutb id
  | .region id _ _ => memB H.cutr id
  | .seq _ y => cutQ H y
  | _ => false
def exW : Way → Exit
  | .normal => .normal
  | .ret => .ret
  | .exit i => .exit i
/-- after a panic nothing of the slots is asked -/
def PanicQ (Q : Exit → Act → World → Prop) : Prop := ∀ c d v a w, Q (.panic c) (a.put d v) w → Q (.panic c) a w
/-- the names of some slots -/
def nmE (env : Env) : List Nat → Option (List Nat)
  | [] => some []
  | t :: r => match lk env t with
    | some s => match nmS s with
      | some k => match nmE env r with
        | some l => some (k :: l)
        | none => none
      | none => none
    | none => none
variable (P) in
/-- what a text owes (told by what it is worth) -/
structure Vc (H : Cfg) (c : Code) (env : Env) (objs : List Ob) (nx : Nat) (K : KW) : Prop where
  h : ∀ {S : Sig} {Q : Exit → Act → World → Prop}, CsOk P H.cs → H.n = S.n → H.nn = S.nn → drawsOk H.dr c = true → PanicQ Q → (∀ way env objs nx, K way env objs nx → Pr P S env objs nx (Q (exW way))) → Pr P S env objs nx (c.wp P Q)
variable (P) in
def condS (x y : Code) (s : SV) (H : Cfg) (env : Env) (objs : List Ob) (nx : Nat) (K : KW) : Prop := match s with
  | .bool true => Vc P H x env objs nx K
  | .bool false => Vc P H y env objs nx K
  | .dec p _ => Fork p (Vc P H x env objs nx K) (Vc P H y env objs nx K)
  | _ => False
variable (P) in
def vcS (H : Cfg) (c : Code) (env : Env) (objs : List Ob) (nx : Nat) (K : KW) : Prop := match c with
  | .skip => K .normal env objs nx
  | .region id ops draw => match ops with
    | ⟨l⟩ => match draw with
      | false => OpsK P H l l (K .normal) env objs nx
      | true => match lkD H.dr id with
        | some (_, _, ord, sl) => match nmE env sl with
          | some N => match nOk objs N with
            | true => OrdK P H l objs N ord true true (K .normal) env objs nx
            | false => False
          | none => False
        | none => False
  | .seq x y => match cutQ H x with
    | true => stillK x env fun L => CutS H.nn (Vc P H x) (Vc P H y) L env objs nx K
    | false => Vc P H x env objs nx (seqK (Vc P H y) K)
  | .cond c x y => ev1 P env c fun s => condS P x y s H env objs nx K
  | .ret => K .ret env objs nx
  | .exit i => K (.exit i) env objs nx
  | .block id c => Vc P H c env objs nx (blockK id K)
  | .loop c => stillK c env fun L => LoopS H.nn (Vc P H c) L env objs nx K
  | _ => False
theorem Vc.unf {H : Cfg} {c : Code} {K : KW} (h : vcS P H c env objs nx K) : Vc P H c env objs nx K := ⟨fun {S Q} hcs hn hnn hd hp hK => by
  match c, hd, h with
  | .skip, hd, h => exact fun σ a w hst => wp_skip (hK .normal _ _ _ h σ a w hst)
  | .region id ops false, hd, h =>
    intro σ a w hst
    obtain ⟨l⟩ := ops
    simp only [vcS] at h
    exact wp_region_lit (h.h (ops := ⟨l⟩) hcs hn rfl (fun e o n hk => hK .normal e o n hk) σ a w hst)
  | .region id ops true, hd, h =>
    intro σ a w hst
    obtain ⟨l⟩ := ops
    simp only [vcS] at h
    split at h
    · rename_i t ll ord sl hl
      unfold drawsOk at hd
      rw [hl] at hd
      simp only [Bool.and_eq_true, beq_iff_eq] at hd
      obtain ⟨⟨h1, h2⟩, h3⟩ := hd
      split at h
      · rename_i N hNe
        split at h
        · rename_i hN
          have hst2 := hst.drewW
          let S' : Sig := { S with s0 := σ, nn := nx }
          have hst3 : St P S' σ env objs nx a w.drew := { slots := hst2.slots, dom := hst2.dom, size := hst2.size, defers := hst2.defers, obs := hst2.obs, hist := hst2.hist, own0 := hst2.own0, a0 := hst2.a0, glob := hst2.glob, base := fun k _ v hv => hv, nnx := Nat.le_refl _ }
          have := h.h (S := S') (ops := ⟨l⟩) (Q := Q) hcs hn rfl hN (fun e o n hk => fun σ' a' w' hst' => hK .normal e o n hk σ' a' w' { slots := hst'.slots, dom := hst'.dom, size := hst'.size, defers := hst'.defers, obs := hst'.obs, hist := hst'.hist, own0 := hst'.own0, a0 := hst'.a0, glob := hst'.glob, base := fun k hk v hv => hst2.base k hk v (hst'.base k (Nat.lt_of_lt_of_le hk hst2.nnx) v hv), nnx := Nat.le_trans hst2.nnx hst'.nnx }) σ a w.drew w.drew env a hst3 hst3 (fun _ => rfl) (fun _ => Mod.refl _ _)
          exact wp_region_tree (fun w' => Mod (MN σ N) w.drew w') t ll ord (TabC.mix (P := P)) h1 h2 h3 hp (Mod.refl _ _) this
        · exact h.elim
      · exact h.elim
    · exact h.elim
  | .seq x y, hd, h =>
    intro σ a w hst
    simp only [drawsOk, Bool.and_eq_true] at hd
    have hpt : PanicQ (Exit.then (y.wp P Q) Q) := fun c d v a w h => hp c d v a w h
    simp only [vcS] at h
    split at h
    · obtain ⟨L, h⟩ := stillK_k h
      obtain ⟨Φ, E, O, N, first, rest⟩ := h
      refine wp_seq (first.h hcs hn hnn hd.1 hpt (fun way e o n hk => ?_) σ a w hst)
      cases way with
      | normal =>
        obtain ⟨j, hj, hin⟩ := hk
        intro σ2 a2 w2 hst2
        obtain ⟨σ3, hst3⟩ := (hnn ▸ hin).sound hst2
        exact (rest j hj).h hcs hn hnn hd.2 hp hK σ3 a2 w2 hst3
      | ret => exact fun σ a w hst => hK .ret e o n hk σ a w hst
      | exit i => exact fun σ a w hst => hK (.exit i) e o n hk σ a w hst
    · refine wp_seq (h.h hcs hn hnn hd.1 hpt (fun way e o n hk => ?_) σ a w hst)
      cases way with
      | normal => exact fun σ a w hst => (show Vc P H y e o n K from hk).h hcs hn hnn hd.2 hp hK σ a w hst
      | ret => exact fun σ a w hst => hK .ret e o n hk σ a w hst
      | exit i => exact fun σ a w hst => hK (.exit i) e o n hk σ a w hst
  | .cond c x y, hd, h =>
    intro σ a w hst
    simp only [drawsOk, Bool.and_eq_true] at hd
    obtain ⟨s, hs, h⟩ := ev1_spec h
    unfold condS at h
    split at h
    · exact wp_cond_true (hvB.1 (hst.ev hs)) (h.h hcs hn hnn hd.1 hp hK σ a w hst)
    · exact wp_cond_false (hvB.1 (hst.ev hs)) (h.h hcs hn hnn hd.2 hp hK σ a w hst)
    · rename_i p i
      have he := hvD.1 (hst.ev hs)
      by_cases hpp : p
      · exact wp_cond_true (by rw [he]; simp [hpp]) ((h.t hpp).h hcs hn hnn hd.1 hp hK σ a w hst)
      · exact wp_cond_false (by rw [he]; simp [hpp]) ((h.f hpp).h hcs hn hnn hd.2 hp hK σ a w hst)
    · exact h.elim
  | .ret, hd, h => exact fun σ a w hst => wp_ret (hK .ret _ _ _ h σ a w hst)
  | .exit i, hd, h => exact fun σ a w hst => wp_exit (hK (.exit i) _ _ _ h σ a w hst)
  | .block id c, hd, h =>
    intro σ a w hst
    have hpt : PanicQ (Exit.inBlock id Q) := fun c d v a w h => hp c d v a w h
    simp only [vcS] at h
    refine wp_block (h.h hcs hn hnn hd hpt (fun way e o n hk => ?_) σ a w hst)
    cases way with
    | normal => exact fun σ a w hst => hK .normal e o n hk σ a w hst
    | ret => exact fun σ a w hst => hK .ret e o n hk σ a w hst
    | exit i =>
      intro σ a w hst
      show if i = id then _ else _
      unfold blockK at hk
      simp only at hk
      split at hk
      · rename_i hb
        rw [if_pos (Nat.eq_of_beq_eq_true hb)]; exact hK .normal e o n hk σ a w hst
      · rename_i hb
        rw [if_neg (fun e => by rw [e, Nat.beq_refl] at hb; cases hb)]; exact hK (.exit i) e o n hk σ a w hst
  | .loop c, hd, h =>
    intro σ a w hst
    obtain ⟨L, h⟩ := stillK_k h
    obtain ⟨Φ, E, O, N, m, i0, h0, hin, round⟩ := h
    refine wp_loop_ghost (fun n a w => ∃ i, m i = n ∧ Φ i ∧ ∃ σ, St P S σ (E i) (O i) N a w) (m i0) ⟨i0, rfl, h0, (hnn ▸ hin).sound hst⟩ ?_
    rintro n a w ⟨i, rfl, hi, σ2, hst2⟩
    have hq : PanicQ (Exit.then (fun a w => ∃ j, m j < m i ∧ Φ j ∧ ∃ σ, St P S σ (E j) (O j) N a w) Q) := fun c d v a w h => hp c d v a w h
    refine wp_mono ((round i hi).h hcs hn hnn hd hq (fun way e o n hk => ?_) σ2 a w hst2) ?_
    · cases way with
      | normal =>
        obtain ⟨j, ⟨h1, h2⟩, h3⟩ := hk
        exact fun σ a w hst => ⟨j, h1, h2, (hnn ▸ h3).sound hst⟩
      | ret => exact fun σ a w hst => hK .ret e o n hk σ a w hst
      | exit i => exact fun σ a w hst => hK (.exit i) e o n hk σ a w hst
    · intro e a' w' hq
      cases e with
      | normal => obtain ⟨j, h1, h2, h3⟩ := hq; exact ⟨m j, h1, j, rfl, h2, h3⟩
      | exit id => exact hq
      | goto l => exact hq
      | ret => exact hq
      | panic ch => exact hq
      | outgrown => exact hq⟩
end
attribute [irreducible] seqK blockK loopK cutK
end Go.Proofs.YtffaohckcggkdaaDoor

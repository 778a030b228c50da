import Derived.Test.YtdflndjlnkoliaaGreatDoorAddr
import Derived.Test.YtdflndjlnkoliaaGreatDoorBin
import Derived.ChangeKeysEq
/- MY OWN ENGINE: arrays and structs held against one another. -/
namespace Go.Proofs.YtdflndjlnkoliaaGreatDoor
set_option linter.all false
open Go.RowKit
/-- cells of some kinds; none: a flag -/
def KFit : List (Option IntKind) → List Value → Prop
  | [], cs => cs = []
  | some k :: r, cs => ∃ n rest, cs = .int k n :: rest ∧ KFit r rest
  | none :: r, cs => ∃ b rest, cs = .bool b :: rest ∧ KFit r rest
theorem KFit.len : ∀ {ks : List (Option IntKind)} {cs : List Value}, KFit ks cs → cs.length = ks.length
  | [], cs, h => by simp only [KFit] at h; rw [h]; rfl
  | some k :: r, cs, h => by obtain ⟨n, rest, rfl, h⟩ := h; simp [KFit.len h]
  | none :: r, cs, h => by obtain ⟨n, rest, rfl, h⟩ := h; simp [KFit.len h]
theorem KFit.app : ∀ {a b : List (Option IntKind)} {cs : List Value}, KFit (a ++ b) cs → KFit a (cs.take a.length) ∧ KFit b (cs.drop a.length)
  | [], b, cs, h => by simpa [KFit] using h
  | some k :: r, b, cs, h => by
    obtain ⟨n, rest, rfl, h⟩ := h
    obtain ⟨h1, h2⟩ := KFit.app (a := r) h
    exact ⟨⟨n, _, by simp, h1⟩, by simpa using h2⟩
  | none :: r, b, cs, h => by
    obtain ⟨n, rest, rfl, h⟩ := h
    obtain ⟨h1, h2⟩ := KFit.app (a := r) h
    exact ⟨⟨n, _, by simp, h1⟩, by simpa using h2⟩
theorem KFit.mk : ∀ {a b : List (Option IntKind)} {cs ds : List Value}, KFit a cs → KFit b ds → KFit (a ++ b) (cs ++ ds)
  | [], b, cs, ds, h, h2 => by simp only [KFit] at h; subst h; exact h2
  | some k :: r, b, cs, ds, h, h2 => by obtain ⟨n, rest, rfl, h⟩ := h; exact ⟨n, _, rfl, KFit.mk h h2⟩
  | none :: r, b, cs, ds, h, h2 => by obtain ⟨n, rest, rfl, h⟩ := h; exact ⟨n, _, rfl, KFit.mk h h2⟩
def repL {α : Type} : Nat → List α → List α
  | 0, _ => []
  | n + 1, l => l ++ repL n l
theorem repL_len {α : Type} (l : List α) : ∀ n, (repL n l).length = n * l.length
  | 0 => by simp [repL]
  | n + 1 => by simp only [repL, List.length_append, repL_len l n, Nat.add_mul, Nat.one_mul]; omega
theorem KFit.rep {ks : List (Option IntKind)} : ∀ {n : Nat} {cs : List Value}, KFit (repL n ks) cs → ∀ i, i < n → KFit ks ((cs.drop (i * ks.length)).take ks.length)
  | 0, cs, h, i, hi => absurd hi (by omega)
  | n + 1, cs, h, i, hi => by
    obtain ⟨h1, h2⟩ := KFit.app (a := ks) (b := repL n ks) h
    rcases i with _ | i
    · simpa using h1
    · have := KFit.rep h2 i (by omega)
      rw [List.drop_drop] at this
      rwa [show ks.length + i * ks.length = (i + 1) * ks.length by rw [Nat.add_mul, Nat.one_mul]; omega] at this
def kindsS (f : Nat → Option (List (Option IntKind))) : List (Nat × Nat) → Nat → Option (List (Option IntKind))
  | [], _ => some []
  | (o, t) :: r, p => match Nat.beq o p with
    | true => match f t with
      | some ks => match kindsS f r (p + ks.length) with
        | some rest => some (ks ++ rest)
        | none => none
      | none => none
    | false => none
section
variable (P : Program) [TabC P]
def memN : List Nat → Nat → Bool
  | [], _ => false
  | k :: r, n => match Nat.beq k n with
    | true => true
    | false => memN r n
theorem memN_spec : ∀ {l : List Nat} {n : Nat}, memN l n = true → n ∈ l
  | [], _, h => by cases h
  | k :: r, n, h => by
    unfold memN at h
    split at h
    · rename_i hb; rw [Nat.eq_of_beq_eq_true hb]; simp
    · exact List.mem_cons_of_mem _ (memN_spec h)
/-- the kinds of a type's cells, if all are plain -/
def kindsT : Nat → Nat → Option (List (Option IntKind))
  | 0, _ => none
  | d + 1, t => match ty P t with
    | some ⟨.bool, 1, _⟩ => some [none]
    | some ⟨.int k, 1, _⟩ => some [some k]
    | some ⟨.ar n e, z, _⟩ => match kindsT d e with
      | some ks => match Nat.beq z (repL n ks).length with
        | true => some (repL n ks)
        | false => none
      | none => none
    | some ⟨.st fs, z, _⟩ => match memN (TabC.eqs P) t with
      | true => match kindsS (kindsT d) fs 0 with
        | some ks => match Nat.beq z ks.length with
          | true => some ks
          | false => none
        | none => none
      | false => none
    | _ => none
end
section
variable {P : Program} [TabC P] {w : World}
theorem ty_boolE {t : Nat} {z b : Nat} (h : ty P t = some ⟨.bool, z, b⟩) : P.underlying t = some .bool := by
  obtain ⟨inf, d, _, hd, _, _, hb, _⟩ := ty_spec h
  cases d <;> simp [tkB] at hb
  exact hd
theorem ty_sizeOf {t : Nat} {i : TI} (h : ty P t = some i) : P.cellsOf t = i.size := by
  obtain ⟨inf, d, hi, _, hs, _⟩ := ty_spec h
  simp [Program.cellsOf, hi, hs]
theorem run_part_len {off : Nat} {t : TypeId} {j : TI} {cs : List Value} (hj : ty P t = some j) (h1 : (j.row || Nat.beq j.size 1) = true) (hl : off + j.size ≤ cs.length) :
    (part t cs.toArray off).run P w = .ok (vOf j.row ((cs.drop off).take j.size)) w := by
  simp only [part, Sem.run_bind, run_isAgg' hj, Result.andThen_ok]
  cases hr : j.row with
  | true =>
    simp only [if_true, Sem.run_bind, run_sizeOf' hj, Result.andThen_ok, Sem.run_pure, vOf]
    congr 2
    apply Array.ext'
    simp only [Array.toList_extract, List.extract_eq_drop_take]
    rw [Nat.add_sub_cancel_left]
  | false =>
    rw [hr, Bool.false_or] at h1
    have h1' := Nat.eq_of_beq_eq_true h1
    have hlt : off < cs.length := by omega
    have : (cs.drop off).take j.size = [cs[off]] := by
      rw [h1', List.drop_eq_getElem_cons hlt]; rfl
    simp [this, vOf, hlt]
/-- held against one another: equal just if the cells are -/
def EqAt (P : Program) [TabC P] (w : World) (d t : Nat) (ks : List (Option IntKind)) : Prop :=
  ∃ i, ty P t = some i ∧ i.size = ks.length ∧ (i.row || Nat.beq i.size 1) = true ∧ ∀ xs ys, KFit ks xs → KFit ks ys → ∀ d', d ≤ d' → ∃ r, (Op.equalIn d' t (vOf i.row xs) (vOf i.row ys)).run P w = .ok r w ∧ (r = true ↔ xs = ys)
theorem eqItems_run {d e : Nat} {ks : List (Option IntKind)} (h : EqAt P w d e ks) {xs ys : List Value} : ∀ {is : List Nat}, (∀ i ∈ is, KFit ks ((xs.drop (i * ks.length)).take ks.length) ∧ KFit ks ((ys.drop (i * ks.length)).take ks.length) ∧ i * ks.length + ks.length ≤ xs.length ∧ i * ks.length + ks.length ≤ ys.length) → ∀ d', d ≤ d' →
    ∃ r, (Op.eqItems d' e (P.cellsOf e) xs.toArray ys.toArray is).run P w = .ok r w ∧ (r = true ↔ ∀ i ∈ is, (xs.drop (i * ks.length)).take ks.length = (ys.drop (i * ks.length)).take ks.length)
  | [], _, d', hd => ⟨true, by simp [Op.eqItems], by simp⟩
  | i :: is, hf, d', hd => by
    obtain ⟨j, hj, hsz, hrow, heq⟩ := h
    obtain ⟨f1, f2, f3, f4⟩ := hf i (by simp)
    obtain ⟨r, hr, hiff⟩ := heq _ _ f1 f2 d' hd
    obtain ⟨r', hr', hiff'⟩ := eqItems_run ⟨j, hj, hsz, hrow, heq⟩ (is := is) (fun k hk => hf k (List.mem_cons_of_mem _ hk)) d' hd
    have hc : P.cellsOf e = ks.length := by rw [ty_sizeOf hj, hsz]
    have p1 := run_part_len (w := w) (cs := xs) (off := i * ks.length) hj hrow (by rw [hsz]; exact f3)
    have p2 := run_part_len (w := w) (cs := ys) (off := i * ks.length) hj hrow (by rw [hsz]; exact f4)
    rw [hsz] at p1 p2
    rw [hc] at hr' ⊢
    simp only [Op.eqItems, Sem.run_bind, p1, p2, hr, Result.andThen_ok]
    cases r with
    | false => exact ⟨false, by simp, by simp only [Bool.false_eq_true, false_iff]; intro hh; exact absurd (hiff.2 (hh i (by simp))) (by simp)⟩
    | true =>
      refine ⟨r', by simpa using hr', ?_⟩
      rw [hiff']
      simp [hiff.1 rfl]
theorem chunks_eq {z : Nat} : ∀ {n : Nat} {xs ys : List Value}, xs.length = n * z → ys.length = n * z → (∀ i < n, (xs.drop (i * z)).take z = (ys.drop (i * z)).take z) → xs = ys
  | 0, xs, ys, h1, h2, _ => by
    rw [Nat.zero_mul] at h1 h2
    rw [List.eq_nil_of_length_eq_zero h1, List.eq_nil_of_length_eq_zero h2]
  | n + 1, xs, ys, h1, h2, h => by
    have h0 := h 0 (by omega)
    simp only [Nat.zero_mul, List.drop_zero] at h0
    have e := chunks_eq (z := z) (n := n) (xs := xs.drop z) (ys := ys.drop z) (by rw [List.length_drop, h1, Nat.add_mul, Nat.one_mul]; omega) (by rw [List.length_drop, h2, Nat.add_mul, Nat.one_mul]; omega) (fun i hi => by
      have := h (i + 1) (by omega)
      rw [List.drop_drop, List.drop_drop]
      rwa [Nat.add_mul, Nat.one_mul, Nat.add_comm] at this)
    rw [← List.take_append_drop z xs, ← List.take_append_drop z ys, h0, e]
theorem eqFields_run {d : Nat} {f : Nat → Option (List (Option IntKind))} (hf : ∀ t ks, f t = some ks → EqAt P w d t ks) {xs ys : List Value} : ∀ {gs : List Field} {p : Nat} {ks : List (Option IntKind)}, kindsS f (gs.map (fun g => (g.offset, g.type))) p = some ks → (∀ g ∈ gs, g.name ≠ "_") → KFit ks (xs.drop p) → KFit ks (ys.drop p) → p ≤ xs.length → p ≤ ys.length → ∀ d', d ≤ d' →
    ∃ r, (Op.eqFields d' xs.toArray ys.toArray gs).run P w = .ok r w ∧ (r = true ↔ xs.drop p = ys.drop p)
  | [], p, ks, h, hn, hx, hy, px, py, d', hd => by
    simp only [List.map_nil, kindsS, Option.some.injEq] at h
    subst h
    simp only [KFit] at hx hy
    exact ⟨true, by simp [Op.eqFields], by rw [hx, hy]; simp⟩
  | g :: gs, p, ks, h, hn, hx, hy, px, py, d', hd => by
    simp only [List.map_cons, kindsS] at h
    split at h
    · rename_i hp
      have hp' := Nat.eq_of_beq_eq_true hp
      split at h
      · rename_i k1 hk1
        split at h
        · rename_i rest hrest
          simp only [Option.some.injEq] at h; subst h
          obtain ⟨j, hj, hsz, hrow, heq⟩ := hf _ _ hk1
          obtain ⟨x1, x2⟩ := hx.app
          obtain ⟨y1, y2⟩ := hy.app
          rw [List.drop_drop] at x2 y2
          have lx := hx.len; have ly := hy.len
          simp only [List.length_drop, List.length_append] at lx ly
          have lx1 := x1.len; have ly1 := y1.len
          simp only [List.length_take, List.length_drop] at lx1 ly1
          obtain ⟨r, hr, hiff⟩ := heq _ _ x1 y1 d' hd
          obtain ⟨r', hr', hiff'⟩ := eqFields_run hf (gs := gs) hrest (fun g hg => hn g (List.mem_cons_of_mem _ hg)) x2 y2 (by omega) (by omega) d' hd
          have hname : g.name ≠ "_" := hn g (by simp)
          have p1 := run_part_len (w := w) (cs := xs) (off := g.offset) hj hrow (by rw [hsz, hp']; omega)
          have p2 := run_part_len (w := w) (cs := ys) (off := g.offset) hj hrow (by rw [hsz, hp']; omega)
          rw [hsz, hp'] at p1 p2
          have hg : Op.eqFields d' xs.toArray ys.toArray (g :: gs) = (do
              let a ← part g.type xs.toArray g.offset
              let b ← part g.type ys.toArray g.offset
              let r ← Op.equalIn d' g.type a b
              if (!r) = true then pure false else Op.eqFields d' xs.toArray ys.toArray gs) := by
            simp [Op.eqFields, hname]
          rw [hg]
          simp only [Sem.run_bind, hp', p1, p2, hr, Result.andThen_ok]
          have split : ∀ (l : List Value), l.drop p = (l.drop p).take k1.length ++ l.drop (p + k1.length) := fun l => by
            rw [← List.drop_drop, List.take_append_drop]
          cases r with
          | false =>
            refine ⟨false, by simp, ?_⟩
            simp only [Bool.false_eq_true, false_iff]
            intro hh
            rw [hh] at hiff
            exact absurd (hiff.2 rfl) (by simp)
          | true =>
            refine ⟨r', by simpa using hr', ?_⟩
            rw [hiff']
            have e := hiff.1 rfl
            constructor
            · intro h2; rw [split xs, split ys, e, h2]
            · intro h2
              have := congrArg (List.drop k1.length) h2
              simpa [List.drop_drop] using this
        · cases h
      · cases h
    · cases h
theorem eq_ok {t : Nat} (h : memN (TabC.eqs P) t = true) : P.stoodInHeld t = false ∧ (∀ f ∈ (P.fieldsOf t).toList, f.name ≠ "_") ∧ P.eqGuardType P.depth t = false := by
  have hok := List.all_eq_true.1 (TabC.eqok (P := P)) t (memN_spec h)
  simp only [eqOkB, Bool.and_eq_true, Bool.not_eq_true', List.all_eq_true, decide_eq_true_eq] at hok
  exact ⟨hok.1.1, hok.1.2, hok.2⟩
theorem run_flat : ∀ {d t : Nat} {ks : List (Option IntKind)}, kindsT P d t = some ks → EqAt P w d t ks
  | 0, _, _, h => by cases h
  | d + 1, t, ks, h => by
    unfold kindsT at h
    split at h
    · rename_i ht
      cases h
      refine ⟨_, ht, rfl, rfl, fun xs ys hx hy d' hd => ?_⟩
      obtain ⟨a, r1, rfl, h1⟩ := hx
      obtain ⟨b, r2, rfl, h2⟩ := hy
      simp only [KFit] at h1 h2; subst h1 h2
      obtain ⟨d', rfl⟩ : ∃ q, d' = q + 1 := ⟨d' - 1, by omega⟩
      refine ⟨a == b, ?_, by simp⟩
      simp [vOf, TI.row, Op.equalIn, run_underlying (ty_boolE ht)]
    · rename_i k _ ht
      cases h
      refine ⟨_, ht, rfl, rfl, fun xs ys hx hy d' hd => ?_⟩
      obtain ⟨a, r1, rfl, h1⟩ := hx
      obtain ⟨b, r2, rfl, h2⟩ := hy
      simp only [KFit] at h1 h2; subst h1 h2
      obtain ⟨d', rfl⟩ : ∃ q, d' = q + 1 := ⟨d' - 1, by omega⟩
      refine ⟨a == b, ?_, by simp⟩
      simp [vOf, TI.row, Op.equalIn, run_underlying (ty_int ht rfl)]
    · rename_i n e z _ ht
      split at h
      · rename_i k1 hk1
        split at h
        · rename_i hz
          cases h
          have hz' := Nat.eq_of_beq_eq_true hz
          have ih := run_flat (d := d) hk1
          refine ⟨_, ht, hz', rfl, fun xs ys hx hy d' hd => ?_⟩
          obtain ⟨d', rfl⟩ : ∃ q, d' = q + 1 := ⟨d' - 1, by omega⟩
          obtain ⟨i, hi⟩ : ∃ i, P.info? e = some i := by
            obtain ⟨j, hj, _⟩ := ih
            obtain ⟨inf, _, hi, _⟩ := ty_spec hj
            exact ⟨inf, hi⟩
          have lx := hx.len; have ly := hy.len
          rw [repL_len] at lx ly
          have hmul : ∀ i, i < n → i * k1.length + k1.length ≤ n * k1.length := fun i hi => by
            have := Nat.mul_le_mul_right k1.length (show i + 1 ≤ n from hi)
            rwa [Nat.add_mul, Nat.one_mul] at this
          obtain ⟨r, hr, hiff⟩ := eqItems_run ih (xs := xs) (ys := ys) (is := List.range n) (fun i hi => by
            have hi' := List.mem_range.1 hi
            exact ⟨hx.rep i hi', hy.rep i hi', by rw [lx]; exact hmul i hi', by rw [ly]; exact hmul i hi'⟩) d' (by omega)
          refine ⟨r, ?_, hiff.trans ⟨fun hh => chunks_eq lx ly (fun i hi => hh i (List.mem_range.2 hi)), fun hh => by rw [hh]; simp⟩⟩
          show (Op.equalIn (d' + 1) t (.agg xs.toArray) (.agg ys.toArray)).run P w = _
          rw [run_equalIn_array w d' xs.toArray ys.toArray (ty_array ht rfl) hi, hr]
        · cases h
      · cases h
    · rename_i fs z _ ht
      split at h
      · rename_i hm
        split at h
        · rename_i k1 hk1
          split at h
          · rename_i hz
            cases h
            have hz' := Nat.eq_of_beq_eq_true hz
            have hok := eq_ok hm
            refine ⟨_, ht, hz', rfl, fun xs ys hx hy d' hd => ?_⟩
            obtain ⟨d', rfl⟩ : ∃ q, d' = q + 1 := ⟨d' - 1, by omega⟩
            obtain ⟨gs, hu, hg⟩ := ty_struct ht rfl
            have hfo : P.fieldsOf t = gs := by simp [Program.fieldsOf, hu]
            rw [hfo] at hok
            obtain ⟨r, hr, hiff⟩ := eqFields_run (fun t ks h => run_flat (d := d) h) (xs := xs) (ys := ys) (gs := gs.toList) (p := 0) (by rw [hg]; exact hk1) hok.2.1 (by simpa using hx) (by simpa using hy) (Nat.zero_le _) (Nat.zero_le _) d' (by omega)
            refine ⟨r, ?_, by simpa using hiff⟩
            show (Op.equalIn (d' + 1) t (.agg xs.toArray) (.agg ys.toArray)).run P w = _
            rw [run_equalIn_struct w d' t xs.toArray ys.toArray (by rw [hfo]; exact hu) hok.1, hfo, hr]
          · cases h
        · cases h
      · cases h
    · cases h
/-! ## symbolic values held against one another -/
def kSV : SV → Option (List (Option IntKind))
  | .bool _ => some [none]
  | .dec _ _ => some [none]
  | .int k _ => some [some k]
  | .u8 _ => some [some .u8]
  | .u16 _ => some [some .u16]
  | .u32 _ => some [some .u32]
  | .u64 _ => some [some .u64]
  | @SV.arr8 n _ => some (repL n [some .u8])
  | @SV.arr32 n _ => some (repL n [some .u32])
  | _ => none
def kL : List SV → Option (List (Option IntKind))
  | [] => some []
  | s :: r => match kSV s with
    | some a => match kL r with
      | some b => some (a ++ b)
      | none => none
    | none => none
theorem kfit_vec {n w' : Nat} {k : IntKind} (x : Vector (BitVec w') n) : KFit (repL n [some k]) (x.toList.map (bV k)) := by
  have : ∀ (l : List (BitVec w')), KFit (repL l.length [some k]) (l.map (bV k)) := by
    intro l
    induction l with
    | nil => rfl
    | cons a r ih => exact ⟨_, _, rfl, ih⟩
  have h := this x.toList
  rwa [Vector.length_toList] at h
theorem kSV_fit {A : Own} {σ : Sg} {s : SV} {ks : List (Option IntKind)} {cs : List Value} (h : kSV s = some ks) (hc : s.hc w A σ cs) : KFit ks cs := by
  cases s <;> simp only [kSV, Option.some.injEq, reduceCtorEq] at h <;> subst h <;> simp only [SV.hc] at hc
  · subst hc; exact ⟨_, _, rfl, rfl⟩
  · subst hc; exact ⟨_, _, rfl, rfl⟩
  · obtain ⟨rfl, _⟩ := hc; exact ⟨_, _, rfl, rfl⟩
  · subst hc; exact ⟨_, _, rfl, rfl⟩
  · subst hc; exact ⟨_, _, rfl, rfl⟩
  · subst hc; exact ⟨_, _, rfl, rfl⟩
  · subst hc; exact ⟨_, _, rfl, rfl⟩
  · subst hc; exact kfit_vec _
  · subst hc; exact kfit_vec _
theorem kL_fit {A : Own} {σ : Sg} : ∀ {l : List SV} {ks : List (Option IntKind)} {cs : List Value}, kL l = some ks → hL w A l σ cs → KFit ks cs
  | [], ks, cs, h, hc => by
    simp only [kL, Option.some.injEq] at h; subst h
    simp only [hL] at hc; exact hc
  | s :: r, ks, cs, h, hc => by
    simp only [hL] at hc
    obtain ⟨a, b, rfl, h1, h2⟩ := hc
    unfold kL at h
    split at h
    · rename_i ka hka
      split at h
      · rename_i kb hkb
        simp only [Option.some.injEq] at h; subst h
        exact (kSV_fit hka h1).mk (kL_fit hkb h2)
      · cases h
    · cases h
def eqK (k k' : IntKind) : Bool := decide (k = k')
/-- when they are equal -/
def eqS : SV → SV → Option DP
  | .int k n, .int k' m => match eqK k k' with
    | true => some ⟨n = m, inferInstance⟩
    | false => none
  | .u8 x, .u8 y => some ⟨x = y, inferInstance⟩
  | .u16 x, .u16 y => some ⟨x = y, inferInstance⟩
  | .u32 x, .u32 y => some ⟨x = y, inferInstance⟩
  | .u64 x, .u64 y => some ⟨x = y, inferInstance⟩
  | @SV.arr8 n x, @SV.arr8 n' y => match Nat.beq n n' with
    | true => some ⟨x.toList = y.toList, inferInstance⟩
    | false => none
  | @SV.arr32 n x, @SV.arr32 n' y => match Nat.beq n n' with
    | true => some ⟨x.toList = y.toList, inferInstance⟩
    | false => none
  | s, u => match asP s with
    | some ⟨p, _⟩ => match asP u with
      | some ⟨q, _⟩ => some ⟨p ↔ q, inferInstance⟩
      | none => none
    | none => none
theorem asP_hq {A : Own} {σ : Sg} {s : SV} {p : Prop} {i : Decidable p} {cs : List Value} (h : asP s = some ⟨p, i⟩) (hc : s.hc w A σ cs) : cs = [.bool (@decide p i)] := by
  cases s <;> simp only [asP, Option.some.injEq, reduceCtorEq] at h <;> cases h
  · rename_i b; simp only [SV.hc] at hc; rw [hc]; cases b <;> rfl
  · simp only [SV.hc] at hc; exact hc
theorem vec_eq {n n' w' : Nat} {k : IntKind} {x : Vector (BitVec w') n} {y : Vector (BitVec w') n'} : x.toList.map (bV k) = y.toList.map (bV k) ↔ x.toList = y.toList := by
  constructor
  · intro h
    refine List.map_inj_right (f := bV k) (fun a b hab => ?_) |>.1 h
    simp only [bV, Value.int.injEq, true_and] at hab
    exact BitVec.eq_of_toNat_eq (by exact_mod_cast hab)
  · intro h; rw [h]
theorem bV_eq {w' : Nat} {k : IntKind} {x y : BitVec w'} : ([bV k x] : List Value) = [bV k y] ↔ x = y := by
  constructor
  · intro h
    simp only [bV, List.cons.injEq, Value.int.injEq, true_and, and_true] at h
    exact BitVec.eq_of_toNat_eq (by exact_mod_cast h)
  · intro h; rw [h]
theorem eqS_spec {A : Own} {σ : Sg} {s u : SV} {q : DP} {cs ds : List Value} (h : eqS s u = some q) (h1 : s.hc w A σ cs) (h2 : u.hc w A σ ds) : cs = ds ↔ q.p := by
  unfold eqS at h
  split at h
  · split at h
    · rename_i hk
      cases h
      simp only [eqK, decide_eq_true_eq] at hk
      subst hk
      simp only [SV.hc] at h1 h2
      rw [h1.1, h2.1]; simp
    · cases h
  · cases h; simp only [SV.hc] at h1 h2; rw [h1, h2]; exact bV_eq
  · cases h; simp only [SV.hc] at h1 h2; rw [h1, h2]; exact bV_eq
  · cases h; simp only [SV.hc] at h1 h2; rw [h1, h2]; exact bV_eq
  · cases h; simp only [SV.hc] at h1 h2; rw [h1, h2]; exact bV_eq
  · split at h
    · cases h; simp only [SV.hc] at h1 h2; rw [h1, h2]; exact vec_eq
    · cases h
  · split at h
    · cases h; simp only [SV.hc] at h1 h2; rw [h1, h2]; exact vec_eq
    · cases h
  · split at h
    · rename_i p i hp
      split at h
      · rename_i q' i' hq
        cases h
        rw [asP_hq hp h1, asP_hq hq h2]
        simp
      · cases h
    · cases h
theorem asP_sz {s : SV} {q : DP} (h : asP s = some q) : s.sz = 1 := by cases s <;> simp only [asP, reduceCtorEq] at h <;> rfl
theorem eqS_sz {s u : SV} {q : DP} (h : eqS s u = some q) : s.sz = u.sz := by
  unfold eqS at h
  split at h
  · rfl
  · rfl
  · rfl
  · rfl
  · rfl
  · split at h
    · rename_i hn; exact Nat.eq_of_beq_eq_true hn
    · cases h
  · split at h
    · rename_i hn; exact Nat.eq_of_beq_eq_true hn
    · cases h
  · split at h
    · rename_i hp
      split at h
      · rename_i hq; rw [asP_sz hp, asP_sz hq]
      · cases h
    · cases h
/-- when lists of parts are equal -/
def eqLs : List SV → List SV → Option DP
  | [], m => match m with
    | [] => some ⟨True, inferInstance⟩
    | _ => none
  | s :: r, m => match m with
    | [] => none
    | u :: r' => match r with
      | [] => match r' with
        | [] => eqS s u
        | _ => none
      | _ :: _ => match eqS s u with
        | some ⟨p, _⟩ => match eqLs r r' with
          | some ⟨q, _⟩ => some ⟨p ∧ q, inferInstance⟩
          | none => none
        | none => none
theorem eqLs_spec {A : Own} {σ : Sg} : ∀ {l m : List SV} {q : DP} {cs ds : List Value}, eqLs l m = some q → hL w A l σ cs → hL w A m σ ds → (cs = ds ↔ q.p)
  | [], m, q, cs, ds, h, h1, h2 => by
    cases m with
    | nil =>
      simp only [eqLs, Option.some.injEq] at h; subst h
      simp only [hL] at h1 h2
      rw [h1, h2]; simp
    | cons u r => simp [eqLs] at h
  | s :: r, m, q, cs, ds, h, h1, h2 => by
    cases m with
    | nil => simp [eqLs] at h
    | cons u r' =>
      simp only [hL] at h1 h2
      obtain ⟨a, b, rfl, h1, h3⟩ := h1
      obtain ⟨c, d, rfl, h2, h4⟩ := h2
      have split : ∀ {p : DP}, eqS s u = some p → (a ++ b = c ++ d ↔ p.p ∧ b = d) := fun {p} hp => by
        have hl : a.length = c.length := by rw [h1.len, h2.len, eqS_sz hp]
        rw [← eqS_spec hp h1 h2]
        exact ⟨fun e => List.append_inj e hl, fun e => by rw [e.1, e.2]⟩
      cases r with
      | nil =>
        cases r' with
        | nil =>
          simp only [eqLs] at h
          rw [split h]
          simp only [hL] at h3 h4
          rw [h3, h4]; simp
        | cons _ _ => simp [eqLs] at h
      | cons s2 r2 =>
        unfold eqLs at h
        simp only at h
        split at h
        · rename_i p _ hp
          split at h
          · rename_i q' _ hq
            cases h
            rw [split hp, eqLs_spec hq h3 h4]
          · cases h
        · cases h
def eqKs : List (Option IntKind) → List (Option IntKind) → Bool
  | [], [] => true
  | none :: r, none :: r' => eqKs r r'
  | some k :: r, some k' :: r' => match eqK k k' with
    | true => eqKs r r'
    | false => false
  | _, _ => false
theorem eqKs_spec : ∀ {a b : List (Option IntKind)}, eqKs a b = true → a = b
  | [], [], _ => rfl
  | none :: r, none :: r', h => by rw [eqKs_spec (a := r) (b := r') h]
  | some k :: r, some k' :: r', h => by
    unfold eqKs at h
    split at h
    · rename_i hk
      simp only [eqK, decide_eq_true_eq] at hk
      rw [hk, eqKs_spec h]
    · cases h
  | [], _ :: _, h => by cases h
  | none :: _, [], h => by cases h
  | some _ :: _, [], h => by cases h
  | none :: _, some _ :: _, h => by cases h
  | some _ :: _, none :: _, h => by cases h
section
variable {S : Sig} {σ : Sg} {env : Env} {objs : List Ob} {nx : Nat} {o : Oper} {a : Act} {x y : Operand} {K : SV → Prop}
theorem run_eqA {op : BinOp} {t t' : TypeId} {ev : Operand → Value} {xs ys : Array Value} {r : Bool} (ho : o.op = .binOp op t x y t') (hx : ev x = .agg xs) (hy : ev y = .agg ys) (hg : P.eqGuardType P.depth t = false)
    (hop : op = .eql ∨ op = .neq) (he : ∀ w', (Op.equal t (.agg xs) (.agg ys)).run P w' = .ok r w') :
    ∀ w', (execOp ev o).run P w' = .ok (.value (.bool (if op = .eql then r else !r))) w' := fun w' => by
  have hgd : (eqGuard op t x y (.agg xs) (.agg ys)).run P w' = .ok () w' := by
    rcases hop with rfl | rfl <;> simp [eqGuard, hg]
  simp only [execOp, ho, hx, hy, Sem.run_bind, hgd, Result.andThen_ok]
  rcases hop with rfl | rfl
  · simp [binOp, he w']
  · simp [binOp, he w']
variable (P) in
def evEqA (op : BinOp) (T : Nat) (ps qs : List SV) (K : SV → Prop) : Prop := match memN (TabC.eqs P) T, ty P T with
  | true, some i => match i.row with
    | true => match kindsT P 9 T with
      | some k0 => match kL ps, kL qs with
        | some k1, some k2 => match eqKs k0 k1, eqKs k0 k2 with
          | true, true => evEq op (eqLs ps qs) K
          | _, _ => False
        | _, _ => False
      | none => False
    | false => False
  | _, _ => False
theorem evEqA_sound {op : BinOp} {T T' : TypeId} {ps qs : List SV} (ho : o.op = .binOp op T x y T') (hx : evx P env x = some (.agg ps)) (hy : evx P env y = some (.agg qs)) (h : evEqA P op T ps qs K) : PureK P S env objs nx o K := by
  unfold evEqA at h
  split at h
  · rename_i i hm hi
    split at h
    · rename_i hrow
      split at h
      · rename_i k0 hk0
        split at h
        · rename_i k1 k2 hk1 hk2
          split at h
          · rename_i e1 e2
            obtain rfl := eqKs_spec e1
            obtain rfl := eqKs_spec e2
            obtain ⟨d, hd, hcase⟩ := evEq_sound h
            have hguard := (eq_ok hm).2.2
            have run : ∀ {σ a w}, St P S σ env objs nx a w → (op = .eql ∨ op = .neq) → ∀ w', (execOp a.eval o).run P w' = .ok (.value (.bool (if op = .eql then @decide d.p d.i else !(@decide d.p d.i)))) w' := by
              intro σ a w hst hop
              obtain ⟨cs, e3, c1⟩ := hst.ev hx
              obtain ⟨ds, e4, c2⟩ := hst.ev hy
              refine run_eqA ho e3 e4 hguard hop fun w' => ?_
              obtain ⟨j, hj, _, _, heq⟩ := run_flat (P := P) (w := w') hk0
              rw [hi] at hj; cases hj
              obtain ⟨r, hr, hiff⟩ := heq _ _ (kL_fit hk1 c1) (kL_fit hk2 c2) 10000 (by omega)
              rw [hrow] at hr
              have : r = @decide d.p d.i := by
                have h3 := hiff.trans (eqLs_spec hd c1 c2)
                cases r
                · simp only [Bool.false_eq_true, false_iff] at h3
                  exact (@decide_eq_false _ d.i h3).symm
                · exact (@decide_eq_true _ d.i (h3.1 rfl)).symm
              rw [← this]; exact hr
            rcases hcase with ⟨rfl, hk⟩ | ⟨rfl, hk⟩
            · refine PureK.mk hk fun σ a w hst => ⟨_, hvD.2 rfl, ?_⟩
              have := run hst (.inl rfl)
              simpa using this
            · refine PureK.mk hk fun σ a w hst => ⟨.bool (!(@decide d.p d.i)), hvD.2 (by rw [notD_dec]), ?_⟩
              have := run hst (.inr rfl)
              simpa using this
          · exact h.elim
        · exact h.elim
      · exact h.elim
    · exact h.elim
  · exact h.elim
variable (P) in
def evBin2 (op : BinOp) (T : Nat) (s u : SV) (K : SV → Prop) : Prop := match s with
  | .agg ps => match u with
    | .agg qs => evEqA P op T ps qs K
    | _ => False
  | s => evBin P op T s u K
theorem evBin2_sound {op : BinOp} {T T' : TypeId} {s u : SV} (ho : o.op = .binOp op T x y T') (hx : evx P env x = some s) (hy : evx P env y = some u) (h : evBin2 P op T s u K) : PureK P S env objs nx o K := by
  unfold evBin2 at h
  split at h
  · split at h
    · exact evEqA_sound ho hx hy h
    · exact h.elim
  · exact evBin_sound ho hx hy h
end
end
end Go.Proofs.YtdflndjlnkoliaaGreatDoor

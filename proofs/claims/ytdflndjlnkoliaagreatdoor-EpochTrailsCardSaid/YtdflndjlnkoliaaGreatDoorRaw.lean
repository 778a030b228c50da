import Derived.Test.YtdflndjlnkoliaaGreatDoorTypes
/- MY OWN ENGINE: what plain operations yield. -/
namespace Go.Proofs.YtdflndjlnkoliaaGreatDoor
set_option linter.all false
open Go.RowKit
section
variable {P : Program} [TabC P] {ev : Operand → Value} {o : Oper}
/-- bits of two integers, as the model has them -/
def bitsI (op : BinOp) (k : IntKind) (a b : Int) : Int :=
  match op with
  | .and => k.wrap (BitVec.ofInt k.bits a &&& BitVec.ofInt k.bits b).toNat
  | .or => k.wrap (BitVec.ofInt k.bits a ||| BitVec.ofInt k.bits b).toNat
  | .xor => k.wrap (BitVec.ofInt k.bits a ^^^ BitVec.ofInt k.bits b).toNat
  | _ => k.wrap (BitVec.ofInt k.bits a &&& ~~~ BitVec.ofInt k.bits b).toNat
def intOp (op : BinOp) (k : IntKind) (a b : Int) : Option Value :=
  match op with
  | .add => some (.int k (k.wrap (a + b)))
  | .sub => some (.int k (k.wrap (a - b)))
  | .mul => some (.int k (k.wrap (a * b)))
  | .and => some (.int k (bitsI .and k a b))
  | .or => some (.int k (bitsI .or k a b))
  | .xor => some (.int k (bitsI .xor k a b))
  | .andNot => some (.int k (bitsI .andNot k a b))
  | .eql => some (.bool (decide (a = b)))
  | .neq => some (.bool (!decide (a = b)))
  | .lss => some (.bool (decide (a < b)))
  | .leq => some (.bool (decide (a ≤ b)))
  | .gtr => some (.bool (decide (b < a)))
  | .geq => some (.bool (decide (b ≤ a)))
  | _ => none
theorem run_eqGuard_plain {op : BinOp} {t : TypeId} {x y : Operand} {a b : Value} (w : World) (h : ∀ cs ds, ¬ (a = .agg cs ∧ b = .agg ds)) (h2 : ¬ (a = .nilIface ∧ b = .nilIface)) : (eqGuard op t x y a b).run P w = .ok () w := by
  unfold eqGuard
  cases op <;> cases a <;> cases b <;> simp_all

theorem rn_int {op : BinOp} {t t' : TypeId} {x y : Operand} {k : IntKind} {a b : Int} {v : Value} (ho : o.op = .binOp op t x y t') (hx : ev x = .int k a) (hy : ev y = .int k b) (hv : intOp op k a b = some v) : ∀ w', (execOp ev o).run P w' = .ok (.value v) w' := fun w' => by
  have hg : ∀ w', (eqGuard op t x y (.int k a) (.int k b)).run P w' = .ok () w' := fun w' => run_eqGuard_plain (P := P) (op := op) (t := t) (x := x) (y := y) w' (fun _ _ h => by cases h.1) (fun h => by cases h.1)
  · simp only [execOp, ho, hx, hy, Sem.run_bind, hg, Result.andThen_ok]
    cases op <;> simp [intOp] at hv <;> subst hv <;> simp [binOp, Op.intArith, Op.intBits, Op.intCmp, bitsI]
    all_goals first | rfl | (rw [Bool.eq_iff_iff]; simp)

theorem rn_quo {t t' : TypeId} {x y : Operand} {k : IntKind} {a b : Int} (ho : o.op = .binOp .quo t x y t') (hx : ev x = .int k a) (hy : ev y = .int k b) (hb : b ≠ 0) : ∀ w', (execOp ev o).run P w' = .ok (.value (.int k (k.wrap (a.tdiv b)))) w' := fun w' => by
  simp only [execOp, ho, hx, hy, Sem.run_bind, run_eqGuard_plain (P := P) (op := .quo) (t := t) (x := x) (y := y) (a := .int k a) (b := .int k b) w' (fun _ _ h => by cases h.1) (fun h => by cases h.1), Result.andThen_ok]
  simp [binOp, Op.intDiv, hb]

theorem rn_rem {t t' : TypeId} {x y : Operand} {k : IntKind} {a b : Int} (ho : o.op = .binOp .rem t x y t') (hx : ev x = .int k a) (hy : ev y = .int k b) (hb : b ≠ 0) : ∀ w', (execOp ev o).run P w' = .ok (.value (.int k (a.tmod b))) w' := fun w' => by
  simp only [execOp, ho, hx, hy, Sem.run_bind, run_eqGuard_plain (P := P) (op := .rem) (t := t) (x := x) (y := y) (a := .int k a) (b := .int k b) w' (fun _ _ h => by cases h.1) (fun h => by cases h.1), Result.andThen_ok]
  simp [binOp, Op.intDiv, hb]

theorem rn_shl {t t' : TypeId} {x y : Operand} {k k' : IntKind} {a b : Int} (ho : o.op = .binOp .shl t x y t') (hx : ev x = .int k a) (hy : ev y = .int k' b) (hb : 0 ≤ b) : ∀ w', (execOp ev o).run P w' = .ok (.value (.int k (k.wrap (a * 2 ^ (min b.toNat k.bits))))) w' := fun w' => by
  simp only [execOp, ho, hx, hy, Sem.run_bind, run_eqGuard_plain (P := P) (op := .shl) (t := t) (x := x) (y := y) (a := .int k a) (b := .int k' b) w' (fun _ _ h => by cases h.1) (fun h => by cases h.1), Result.andThen_ok]
  simp [binOp, Op.shift, Int.not_lt.2 hb]

theorem rn_shr {t t' : TypeId} {x y : Operand} {k k' : IntKind} {a b : Int} (ho : o.op = .binOp .shr t x y t') (hx : ev x = .int k a) (hy : ev y = .int k' b) (hb : 0 ≤ b) : ∀ w', (execOp ev o).run P w' = .ok (.value (.int k (a.fdiv (2 ^ (min b.toNat k.bits))))) w' := fun w' => by
  simp only [execOp, ho, hx, hy, Sem.run_bind, run_eqGuard_plain (P := P) (op := .shr) (t := t) (x := x) (y := y) (a := .int k a) (b := .int k' b) w' (fun _ _ h => by cases h.1) (fun h => by cases h.1), Result.andThen_ok]
  simp [binOp, Op.shift, Int.not_lt.2 hb]

theorem rn_not {t : TypeId} {x : Operand} {b : Bool} (ho : o.op = .unOp .not t x) (hx : ev x = .bool b) : ∀ w', (execOp ev o).run P w' = .ok (.value (.bool (!b))) w' := fun w' => by
  simp [execOp, ho, hx, Op.unary]

theorem rn_neg {t : TypeId} {x : Operand} {k : IntKind} {a : Int} (ho : o.op = .unOp .neg t x) (hx : ev x = .int k a) : ∀ w', (execOp ev o).run P w' = .ok (.value (.int k (k.wrap (0 - a)))) w' := fun w' => by
  simp [execOp, ho, hx, Op.unary, Op.intArith]

theorem rn_xor1 {t : TypeId} {x : Operand} {k : IntKind} {a : Int} (ho : o.op = .unOp .xor t x) (hx : ev x = .int k a) : ∀ w', (execOp ev o).run P w' = .ok (.value (.int k (bitsI .xor k (if k.signed then -1 else k.max) a))) w' := fun w' => by
  simp [execOp, ho, hx, Op.unary, Op.intBits, bitsI]

theorem rn_conv {src dst : TypeId} {x : Operand} {k k' : IntKind} {a : Int} {i j : TI} (ho : o.op = .convert src dst x) (hx : ev x = .int k a) (hs : ty P src = some j) (hd : ty P dst = some i) (hk : i.k = .int k') (hj : j.k = .int k) : ∀ w', (execOp ev o).run P w' = .ok (.value (.int k' (k'.wrap a))) w' := fun w' => by
  simp [execOp, ho, hx, convert, run_underlying (ty_int hs hj), run_underlying (ty_int hd hk), Conv.intToInt]

theorem rn_nilCheck {x : Operand} {ad : Addr} (ho : o.op = .nilCheck x) (hx : ev x = .pointer (some ad)) : ∀ w', (execOp ev o).run P w' = .ok (.value (.pointer (some ad))) w' := fun w' => by
  simp [execOp, ho, hx]

theorem rn_eqNil {t t' : TypeId} {x y : Operand} {p : Option Addr} {i : TI} {e : Nat} (ho : o.op = .binOp .eql t x y t') (hx : ev x = .pointer p) (hy : ev y = .pointer none) (ht : ty P t = some i) (hk : i.k = .ptr e) : ∀ w', (execOp ev o).run P w' = .ok (.value (.bool p.isNone)) w' := fun w' => by
  simp only [execOp, ho, hx, hy, Sem.run_bind, run_eqGuard_plain (P := P) (op := .eql) (t := t) (x := x) (y := y) (a := .pointer p) (b := .pointer none) w' (fun _ _ h => by cases h.1) (fun h => by cases h.1), Result.andThen_ok]
  have he : ∀ d : Nat, (Op.equalIn (d + 1) t (.pointer p) (.pointer none)).run P w' = .ok p.isNone w' := fun d => by
    cases p <;> simp [Op.equalIn, run_underlying (ty_ptr ht hk)]
  cases p <;> (simp only [binOp]; simp [Op.equal, Op.maxDepth, he 9999])

theorem rn_neNil {t t' : TypeId} {x y : Operand} {p : Option Addr} {i : TI} {e : Nat} (ho : o.op = .binOp .neq t x y t') (hx : ev x = .pointer p) (hy : ev y = .pointer none) (ht : ty P t = some i) (hk : i.k = .ptr e) : ∀ w', (execOp ev o).run P w' = .ok (.value (.bool (!p.isNone))) w' := fun w' => by
  simp only [execOp, ho, hx, hy, Sem.run_bind, run_eqGuard_plain (P := P) (op := .neq) (t := t) (x := x) (y := y) (a := .pointer p) (b := .pointer none) w' (fun _ _ h => by cases h.1) (fun h => by cases h.1), Result.andThen_ok]
  have he : ∀ d : Nat, (Op.equalIn (d + 1) t (.pointer p) (.pointer none)).run P w' = .ok p.isNone w' := fun d => by
    cases p <;> simp [Op.equalIn, run_underlying (ty_ptr ht hk)]
  cases p <;> (simp only [binOp]; simp [Op.equal, Op.maxDepth, he 9999])

theorem rn_fieldAddr {T f : Nat} {x : Operand} {b off fo ft : Nat} {i j : TI} {fl : List (Nat × Nat)} (ho : o.op = .fieldAddr T x f) (hx : ev x = .pointer (some ⟨b, off, none⟩))
    (ht : ty P T = some i) (hk : i.k = .st fl) (hf : nth fl f = some (fo, ft)) (hj : ty P ft = some j) (hz : Nat.beq j.size 0 = false) : ∀ w', (execOp ev o).run P w' = .ok (.value (.pointer (some ⟨b, off + fo, none⟩))) w' := fun w' => by
  obtain ⟨gs, hu, hm⟩ := ty_struct ht hk
  rw [nth_eq, ← hm, List.getElem?_map] at hf
  cases hg : gs.toList[f]? with
  | none => simp [hg] at hf
  | some g =>
    simp only [hg, Option.map_some, Option.some.injEq, Prod.mk.injEq] at hf
    obtain ⟨rfl, rfl⟩ := hf
    have hg' : gs[f]? = some g := by simpa using hg
    have hz' : j.size ≠ 0 := fun e => by rw [e] at hz; cases hz
    simp [execOp, ho, hx, Instr.fieldAt, run_underlying hu, hg', Instr.sureAddr, fieldPlace, run_sizeOf' hj, hz', Addr.add]
    try (split <;> simp_all)

theorem rn_indexAddr {T : Nat} {x ix : Operand} {b off n e : Nat} {k : IntKind} {m : Int} {i j : TI} (ho : o.op = .indexAddr T x ix) (hx : ev x = .pointer (some ⟨b, off, none⟩)) (hi : ev ix = .int k m)
    (ht : ty P T = some i) (hk : i.k = .ar n e) (hj : ty P e = some j) (h0 : 0 ≤ m) (h1 : m < n) : ∀ w', (execOp ev o).run P w' = .ok (.value (.pointer (some ⟨b, off + m.toNat * j.size, none⟩))) w' := fun w' => by
  simp [execOp, ho, hx, hi, Instr.indexAt, asIntOf, run_underlying (ty_array ht hk), Instr.sureAddr, run_sizeOf' hj, h0, h1, Addr.add]
  try (split <;> simp_all)

/-! ## integers without a sign -/
def bwOp (op : BinOp) {w : Nat} (a b : BitVec w) : Option (BitVec w) :=
  match op with
  | .add => some (a + b)
  | .sub => some (a - b)
  | .mul => some (a * b)
  | .and => some (a &&& b)
  | .or => some (a ||| b)
  | .xor => some (a ^^^ b)
  | .andNot => some (a &&& ~~~ b)
  | _ => none
def bwCmp (op : BinOp) {w : Nat} (a b : BitVec w) : Option Bool :=
  match op with
  | .eql => some (decide (a = b))
  | .neq => some (!decide (a = b))
  | .lss => some (decide (a.toNat < b.toNat))
  | .leq => some (decide (a.toNat ≤ b.toNat))
  | .gtr => some (decide (b.toNat < a.toNat))
  | .geq => some (decide (b.toNat ≤ a.toNat))
  | _ => none
theorem wrap_uns {k : IntKind} (hk : k.signed = false) {w : Nat} (hw : k.bits = w) (n : Int) : k.wrap n = ((BitVec.ofInt w n).toNat : Int) := by
  subst hw
  cases k <;> simp [IntKind.signed] at hk <;> simp [IntKind.wrap, IntKind.signed, IntKind.bits, BitVec.toNat_ofInt] <;> omega

theorem rn_ubin {op : BinOp} {t t' : TypeId} {x y : Operand} {k : IntKind} {w : Nat} {a b : Value} {A B C : BitVec w} (ho : o.op = .binOp op t x y t') (hx : ev x = a) (hy : ev y = b) (hk : k.signed = false) (hw : k.bits = w) (hA : a = bV k A) (hB : b = bV k B) (hC : bwOp op A B = some C) : ∀ w', (execOp ev o).run P w' = .ok (.value (bV k C)) w' := fun w' => by
  subst hA hB hw
  have key : intOp op k (A.toNat : Int) (B.toNat : Int) = some (bV k C) := by
    have hA' : BitVec.ofInt k.bits (A.toNat : Int) = A := by simp
    have hB' : BitVec.ofInt k.bits (B.toNat : Int) = B := by simp
    have hlt : ∀ D : BitVec k.bits, k.wrap (D.toNat : Int) = (D.toNat : Int) := fun D => by rw [wrap_uns hk rfl]; simp
    cases op <;> simp only [bwOp, Option.some.injEq, reduceCtorEq] at hC <;> subst hC <;> simp only [intOp, bitsI, hA', hB', hlt, bV, Option.some.injEq, Value.int.injEq, true_and]
    · rw [wrap_uns hk rfl, BitVec.ofInt_add, hA', hB']
    · rw [wrap_uns hk rfl, Int.sub_eq_add_neg, BitVec.ofInt_add, BitVec.ofInt_neg, hA', hB', BitVec.sub_eq_add_neg]
    · rw [wrap_uns hk rfl, BitVec.ofInt_mul, hA', hB']
  exact rn_int ho hx hy key w'

theorem rn_ucmp {op : BinOp} {t t' : TypeId} {x y : Operand} {k : IntKind} {w : Nat} {a b : Value} {A B : BitVec w} {c : Bool} (ho : o.op = .binOp op t x y t') (hx : ev x = a) (hy : ev y = b) (hw : k.bits = w) (hA : a = bV k A) (hB : b = bV k B) (hC : bwCmp op A B = some c) : ∀ w', (execOp ev o).run P w' = .ok (.value (.bool c)) w' := fun w' => by
  subst hA hB hw
  have key : intOp op k (A.toNat : Int) (B.toNat : Int) = some (.bool c) := by
    have h1 : ((A.toNat : Int) = (B.toNat : Int)) ↔ A = B := by rw [Int.natCast_inj]; exact BitVec.toNat_inj
    cases op <;> simp only [bwCmp, Option.some.injEq, reduceCtorEq] at hC <;> subst hC <;> simp [intOp, h1]
  exact rn_int ho hx hy key w'

theorem rn_uquo {t t' : TypeId} {x y : Operand} {k : IntKind} {w : Nat} {a b : Value} {A B : BitVec w} (ho : o.op = .binOp .quo t x y t') (hx : ev x = a) (hy : ev y = b) (hk : k.signed = false) (hw : k.bits = w) (hA : a = bV k A) (hB : b = bV k B) (hb : B ≠ 0) : ∀ w', (execOp ev o).run P w' = .ok (.value (bV k (A / B))) w' := fun w' => by
  subst hA hB hw
  have hb' : (B.toNat : Int) ≠ 0 := fun e => hb (BitVec.eq_of_toNat_eq (by simpa using e))
  have := rn_quo (P := P) ho hx hy hb' w'
  rw [show k.wrap ((A.toNat : Int).tdiv (B.toNat : Int)) = ((A / B).toNat : Int) by
    have e := Int.natCast_ediv A.toNat B.toNat
    have h1 := (A / B).isLt
    rw [BitVec.toNat_udiv] at h1
    rw [wrap_uns hk rfl, Int.tdiv_eq_ediv_of_nonneg (by omega), ← e, BitVec.ofInt_natCast, BitVec.toNat_ofNat, BitVec.toNat_udiv, Nat.mod_eq_of_lt h1]] at this
  exact this

theorem rn_urem {t t' : TypeId} {x y : Operand} {k : IntKind} {w : Nat} {a b : Value} {A B : BitVec w} (ho : o.op = .binOp .rem t x y t') (hx : ev x = a) (hy : ev y = b) (hw : k.bits = w) (hA : a = bV k A) (hB : b = bV k B) (hb : B ≠ 0) : ∀ w', (execOp ev o).run P w' = .ok (.value (bV k (A % B))) w' := fun w' => by
  subst hA hB hw
  have hb' : (B.toNat : Int) ≠ 0 := fun e => hb (BitVec.eq_of_toNat_eq (by simpa using e))
  have := rn_rem (P := P) ho hx hy hb' w'
  rw [show ((A.toNat : Int).tmod (B.toNat : Int)) = ((A % B).toNat : Int) by
    rw [Int.tmod_eq_emod_of_nonneg (by omega), ← Int.natCast_emod, BitVec.toNat_umod]] at this
  exact this

theorem rn_ushl {t t' : TypeId} {x y : Operand} {k k' : IntKind} {w : Nat} {a : Value} {A : BitVec w} {b : Int} (ho : o.op = .binOp .shl t x y t') (hx : ev x = a) (hy : ev y = .int k' b) (hk : k.signed = false) (hw : k.bits = w) (hA : a = bV k A) (hb : 0 ≤ b) : ∀ w', (execOp ev o).run P w' = .ok (.value (bV k (A <<< b.toNat))) w' := fun w' => by
  subst hA hw
  have := rn_shl (P := P) ho hx hy hb w'
  rw [show k.wrap ((A.toNat : Int) * 2 ^ (min b.toNat k.bits)) = ((A <<< b.toNat).toNat : Int) by
    rw [wrap_uns hk rfl]
    congr 1
    rw [show ((A.toNat : Int) * 2 ^ (min b.toNat k.bits)) = ((A.toNat * 2 ^ (min b.toNat k.bits) : Nat) : Int) by push_cast; rfl]
    rw [BitVec.ofInt_natCast, BitVec.toNat_ofNat, BitVec.toNat_shiftLeft, Nat.shiftLeft_eq]
    rcases Nat.le_total b.toNat k.bits with h | h
    · rw [Nat.min_eq_left h]
    · rw [Nat.min_eq_right h]
      obtain ⟨d, hd⟩ := Nat.exists_eq_add_of_le h
      rw [hd, Nat.pow_add, ← Nat.mul_assoc, Nat.mul_right_comm, Nat.mul_mod_left, Nat.mul_mod_left]] at this
  exact this

theorem rn_ushr {t t' : TypeId} {x y : Operand} {k k' : IntKind} {w : Nat} {a : Value} {A : BitVec w} {b : Int} (ho : o.op = .binOp .shr t x y t') (hx : ev x = a) (hy : ev y = .int k' b) (hw : k.bits = w) (hA : a = bV k A) (hb : 0 ≤ b) : ∀ w', (execOp ev o).run P w' = .ok (.value (bV k (A >>> b.toNat))) w' := fun w' => by
  subst hA hw
  have := rn_shr (P := P) ho hx hy hb w'
  rw [show (A.toNat : Int).fdiv (2 ^ (min b.toNat k.bits)) = ((A >>> b.toNat).toNat : Int) by
    rw [BitVec.toNat_ushiftRight, Nat.shiftRight_eq_div_pow]
    rw [Int.fdiv_eq_ediv_of_nonneg _ (Int.le_of_lt (Int.pow_pos (by decide)))]
    rw [show ((2 : Int) ^ (min b.toNat k.bits)) = ((2 ^ (min b.toNat k.bits) : Nat) : Int) by push_cast; rfl]
    rw [← Int.natCast_ediv]
    congr 1
    rcases Nat.le_total b.toNat k.bits with h | h
    · rw [Nat.min_eq_left h]
    · rw [Nat.min_eq_right h, Nat.div_eq_of_lt A.isLt, Nat.div_eq_of_lt (Nat.lt_of_lt_of_le A.isLt (Nat.pow_le_pow_right (by omega) h))]] at this
  exact this

theorem rn_unot {t : TypeId} {x : Operand} {k : IntKind} {w : Nat} {a : Value} {A : BitVec w} (ho : o.op = .unOp .xor t x) (hx : ev x = a) (hk : k.signed = false) (hw : k.bits = w) (hA : a = bV k A) : ∀ w', (execOp ev o).run P w' = .ok (.value (bV k (~~~ A))) w' := fun w' => by
  subst hA hw
  have := rn_xor1 (P := P) ho hx w'
  rw [show bitsI .xor k (if k.signed = true then -1 else k.max) (A.toNat : Int) = ((~~~ A).toNat : Int) by
    have hA' : BitVec.ofInt k.bits (A.toNat : Int) = A := by simp
    simp only [bitsI, hk, Bool.false_eq_true, if_false, hA']
    have hm : BitVec.ofInt k.bits k.max = BitVec.allOnes k.bits := by cases k <;> simp [IntKind.signed] at hk <;> decide
    rw [hm, BitVec.allOnes_xor]
    rw [wrap_uns hk rfl, BitVec.ofInt_natCast, BitVec.ofNat_toNat, BitVec.setWidth_eq]] at this
  exact this

theorem rn_uconv {src dst : TypeId} {x : Operand} {k k' : IntKind} {w v' : Nat} {a : Value} {A : BitVec w} {i j : TI} (ho : o.op = .convert src dst x) (hx : ev x = a) (hs : ty P src = some j) (hd : ty P dst = some i) (hk : i.k = .int k') (hj : j.k = .int k) (hk' : k'.signed = false) (hw : k'.bits = v') (hA : a = bV k A) : ∀ w', (execOp ev o).run P w' = .ok (.value (bV k' (A.setWidth v'))) w' := fun w' => by
  subst hA hw
  have := rn_conv (P := P) ho hx hs hd hk hj w'
  rw [show k'.wrap (A.toNat : Int) = ((A.setWidth k'.bits).toNat : Int) by rw [wrap_uns hk' rfl, BitVec.ofInt_natCast]; simp] at this
  exact this

theorem rn_uofInt {src dst : TypeId} {x : Operand} {k k' : IntKind} {v' : Nat} {a : Int} {i j : TI} (ho : o.op = .convert src dst x) (hx : ev x = .int k a) (hs : ty P src = some j) (hd : ty P dst = some i) (hk : i.k = .int k') (hj : j.k = .int k) (hk' : k'.signed = false) (hw : k'.bits = v') : ∀ w', (execOp ev o).run P w' = .ok (.value (bV k' (BitVec.ofInt v' a))) w' := fun w' => by
  subst hw
  have := rn_conv (P := P) ho hx hs hd hk hj w'
  rwa [wrap_uns hk' rfl] at this

theorem rn_utoInt {src dst : TypeId} {x : Operand} {k k' : IntKind} {w : Nat} {a : Value} {A : BitVec w} {i j : TI} (ho : o.op = .convert src dst x) (hx : ev x = a) (hs : ty P src = some j) (hd : ty P dst = some i) (hk : i.k = .int k') (hj : j.k = .int k) (hk' : k'.signed = true) (hw : Nat.blt w k'.bits = true) (hA : a = bV k A) : ∀ w', (execOp ev o).run P w' = .ok (.value (.int k' (A.toNat : Int))) w' := fun w' => by
  subst hA
  have := rn_conv (P := P) ho hx hs hd hk hj w'
  rw [show k'.wrap (A.toNat : Int) = (A.toNat : Int) by
    have h1 := A.isLt
    have h2 : w < k'.bits := by simpa [Nat.blt_eq] using hw
    have h3 : 2 ^ w ≤ 2 ^ (k'.bits - 1) := Nat.pow_le_pow_right (by omega) (by omega)
    cases k' <;> simp [IntKind.signed] at hk' <;> simp [IntKind.bits] at h2 h3 <;> simp [IntKind.wrap, IntKind.signed, IntKind.bits, Int.bmod] <;> omega] at this
  exact this

theorem wrap_i64 {n : Int} (h0 : -9223372036854775808 ≤ n) (h1 : n < 9223372036854775808) : IntKind.i64.wrap n = n := by
  simp [IntKind.wrap, IntKind.signed, IntKind.bits, Int.bmod]; omega

theorem rn_beq {t t' : TypeId} {x y : Operand} {a b : Bool} {i : TI} (ho : o.op = .binOp .eql t x y t') (hx : ev x = .bool a) (hy : ev y = .bool b) (ht : ty P t = some i) (hk : i.k = .bool) : ∀ w', (execOp ev o).run P w' = .ok (.value (.bool (a == b))) w' := fun w' => by
  obtain ⟨inf, d, _, hd, _, _, hb, _⟩ := ty_spec ht
  rw [hk] at hb
  have hd : P.underlying t = some .bool := by cases d <;> simp [tkB] at hb; exact hd
  simp only [execOp, ho, hx, hy, Sem.run_bind, run_eqGuard_plain (P := P) (op := .eql) (t := t) (x := x) (y := y) (a := .bool a) (b := .bool b) w' (fun _ _ h => by cases h.1) (fun h => by cases h.1), Result.andThen_ok]
  have he : ∀ d : Nat, (Op.equalIn (d + 1) t (.bool a) (.bool b)).run P w' = .ok (a == b) w' := fun d => by
    simp [Op.equalIn, run_underlying hd]
  simp only [binOp]; simp [Op.equal, Op.maxDepth, he 9999]

theorem rn_bne {t t' : TypeId} {x y : Operand} {a b : Bool} {i : TI} (ho : o.op = .binOp .neq t x y t') (hx : ev x = .bool a) (hy : ev y = .bool b) (ht : ty P t = some i) (hk : i.k = .bool) : ∀ w', (execOp ev o).run P w' = .ok (.value (.bool (!(a == b)))) w' := fun w' => by
  obtain ⟨inf, d, _, hd, _, _, hb, _⟩ := ty_spec ht
  rw [hk] at hb
  have hd : P.underlying t = some .bool := by cases d <;> simp [tkB] at hb; exact hd
  simp only [execOp, ho, hx, hy, Sem.run_bind, run_eqGuard_plain (P := P) (op := .neq) (t := t) (x := x) (y := y) (a := .bool a) (b := .bool b) w' (fun _ _ h => by cases h.1) (fun h => by cases h.1), Result.andThen_ok]
  have he : ∀ d : Nat, (Op.equalIn (d + 1) t (.bool a) (.bool b)).run P w' = .ok (a == b) w' := fun d => by
    simp [Op.equalIn, run_underlying hd]
  simp only [binOp]; simp [Op.equal, Op.maxDepth, he 9999]

theorem rn_max {x y : Operand} {k : IntKind} {a b : Int} {ts : Array TypeId} (ho : o.op = .call { callee := .builtin .max, args := #[x, y], argTypes := ts }) (hx : ev x = .int k a) (hy : ev y = .int k b) : ∀ w', (execOp ev o).run P w' = .ok (.value (.int k (max a b))) w' := fun w' => by
  simp [execOp, ho, resolve, invoke, builtin, hx, hy, Builtin.max_, Builtin.max2]
  split <;> omega

theorem rn_min {x y : Operand} {k : IntKind} {a b : Int} {ts : Array TypeId} (ho : o.op = .call { callee := .builtin .min, args := #[x, y], argTypes := ts }) (hx : ev x = .int k a) (hy : ev y = .int k b) : ∀ w', (execOp ev o).run P w' = .ok (.value (.int k (min a b))) w' := fun w' => by
  simp [execOp, ho, resolve, invoke, builtin, hx, hy, Builtin.min_, Builtin.min2]
  split <;> omega
end
end Go.Proofs.YtdflndjlnkoliaaGreatDoor

import Derived.Test.YtdflndjlnkoliaaGreatDoorSt
import Derived.DeepKeys
/- MY OWN ENGINE: plain operations. -/
namespace Go.Proofs.YtdflndjlnkoliaaGreatDoor
set_option linter.all false
open Go.RowKit
def ikB : IntKind → IntKind → Bool
  | .i8, .i8 | .i16, .i16 | .i32, .i32 | .i64, .i64 | .u8, .u8 | .u16, .u16 | .u32, .u32 | .u64, .u64 => true
  | _, _ => false
theorem ikB_eq {a b : IntKind} (h : ikB a b = true) : a = b := by cases a <;> cases b <;> first | rfl | cases h
structure DP where
  p : Prop
  i : Decidable p
abbrev DP.sv (d : DP) : SV := .dec d.p d.i
def cmpI (op : BinOp) (a b : Int) : Option DP := match op with
  | .eql => some ⟨a = b, inferInstance⟩
  | .neq => some ⟨¬ a = b, inferInstance⟩
  | .lss => some ⟨a < b, inferInstance⟩
  | .leq => some ⟨a ≤ b, inferInstance⟩
  | .gtr => some ⟨b < a, inferInstance⟩
  | .geq => some ⟨b ≤ a, inferInstance⟩
  | _ => none
def evI (op : BinOp) (a b : Int) (K : SV → Prop) : Prop := match op with
  | .add => Side (inR a → inR b → inR (a + b)) (K (.int .i64 (a + b)))
  | .sub => Side (inR a → inR b → inR (a - b)) (K (.int .i64 (a - b)))
  | .mul => Side (inR a → inR b → inR (a * b)) (K (.int .i64 (a * b)))
  | .quo => Side (0 ≤ a ∧ 0 < b) (K (.int .i64 (a / b)))
  | .rem => Side (0 ≤ a ∧ 0 < b) (K (.int .i64 (a % b)))
  | .and => Side (0 ≤ a ∧ 0 ≤ b) (K (.int .i64 ((a.toNat &&& b.toNat : Nat) : Int)))
  | .or => Side (0 ≤ a ∧ 0 ≤ b) (K (.int .i64 ((a.toNat ||| b.toNat : Nat) : Int)))
  | .xor => Side (0 ≤ a ∧ 0 ≤ b) (K (.int .i64 ((a.toNat ^^^ b.toNat : Nat) : Int)))
  | op => match cmpI op a b with
    | some ⟨p, i⟩ => K (.dec p i)
    | none => False
def evISh (op : BinOp) (a b : Int) (K : SV → Prop) : Prop := match op with
  | .shl => Side (0 ≤ b ∧ b < 64 ∧ inR (a * 2 ^ b.toNat)) (K (.int .i64 (a * 2 ^ b.toNat)))
  | .shr => Side (0 ≤ b ∧ b < 64) (K (.int .i64 (a / 2 ^ b.toNat)))
  | _ => False
def cmpU (op : BinOp) {w : Nat} (a b : BitVec w) : Option DP := match op with
  | .eql => some ⟨a = b, inferInstance⟩
  | .neq => some ⟨¬ a = b, inferInstance⟩
  | .lss => some ⟨a.toNat < b.toNat, inferInstance⟩
  | .leq => some ⟨a.toNat ≤ b.toNat, inferInstance⟩
  | .gtr => some ⟨b.toNat < a.toNat, inferInstance⟩
  | .geq => some ⟨b.toNat ≤ a.toNat, inferInstance⟩
  | _ => none
def evU (op : BinOp) {w : Nat} (a b : BitVec w) (K : SV → Prop) (C : BitVec w → SV) : Prop := match op with
  | .add => K (C (a + b))
  | .sub => K (C (a - b))
  | .mul => K (C (a * b))
  | .and => K (C (a &&& b))
  | .or => K (C (a ||| b))
  | .xor => K (C (a ^^^ b))
  | .andNot => K (C (a &&& ~~~ b))
  | .quo => Side (b ≠ 0#w) (K (C (a / b)))
  | .rem => Side (b ≠ 0#w) (K (C (a % b)))
  | op => match cmpU op a b with
    | some ⟨p, i⟩ => K (.dec p i)
    | none => False
def evUSh (op : BinOp) {w : Nat} (a : BitVec w) (n : Nat) (K : SV → Prop) (C : BitVec w → SV) : Prop := match op with
  | .shl => K (C (a <<< n))
  | .shr => K (C (a >>> n))
  | _ => False
def isSh : BinOp → Bool
  | .shl => true
  | .shr => true
  | _ => false
/-- the count of a shift -/
def cntSV : SV → Option (Int × Bool)
  | .int _ n => some (n, true)
  | .u8 x => some ((x.toNat : Int), false)
  | .u16 x => some ((x.toNat : Int), false)
  | .u32 x => some ((x.toNat : Int), false)
  | .u64 x => some ((x.toNat : Int), false)
  | _ => none
def cntK (s : SV) (K : Nat → Prop) : Prop := match s with
  | .int _ n => Side (0 ≤ n) (K n.toNat)
  | .u8 x => K x.toNat
  | .u16 x => K x.toNat
  | .u32 x => K x.toNat
  | .u64 x => K x.toNat
  | _ => False
def asP : SV → Option DP
  | .bool b => some ⟨b = true, inferInstance⟩
  | .dec p i => some ⟨p, i⟩
  | _ => none
/-- is it a pointer, or a function, that is not nil? -/
def notNil : SV → Bool
  | .ptr _ _ => true
  | .rptr _ _ _ _ => true
  | .cptr _ _ _ => true
  | .fpt _ => true
  | _ => false
def isNil : SV → Bool
  | .nilp => true
  | _ => false
/-- two parts held against one another -/
def eqPart : SV → SV → Option DP
  | .bool a, .bool b => some ⟨a = b, inferInstance⟩
  | .bool a, .dec q j => some ⟨a = @decide q j, inferInstance⟩
  | .dec p i, .bool b => some ⟨@decide p i = b, inferInstance⟩
  | .dec p i, .dec q j => some ⟨@decide p i = @decide q j, inferInstance⟩
  | .int k a, .int k' b => match ikB k k' with
    | true => some ⟨a = b, inferInstance⟩
    | false => none
  | .u8 a, .u8 b => some ⟨a = b, inferInstance⟩
  | .u16 a, .u16 b => some ⟨a = b, inferInstance⟩
  | .u32 a, .u32 b => some ⟨a = b, inferInstance⟩
  | .u64 a, .u64 b => some ⟨a = b, inferInstance⟩
  | .str a, .str b => some ⟨a = b, inferInstance⟩
  | .arr8 a, .arr8 b => some ⟨a.toList = b.toList, inferInstance⟩
  | .arr32 a, .arr32 b => some ⟨a.toList = b.toList, inferInstance⟩
  | _, _ => none
def andD : DP → DP → DP
  | ⟨p, i⟩, ⟨q, j⟩ => ⟨p ∧ q, @instDecidableAnd p q i j⟩
def notD : DP → DP
  | ⟨p, i⟩ => ⟨¬ p, @instDecidableNot p i⟩
def eqParts : List SV → List SV → Option DP
  | [a], [b] => eqPart a b
  | a :: r, b :: s => match eqPart a b, eqParts r s with
    | some d, some e => some (andD d e)
    | _, _ => none
  | _, _ => none
theorem bV_inj {k : IntKind} {w : Nat} {x y : BitVec w} (h : bV k x = bV k y) : x = y := by
  simp only [bV, Value.int.injEq, true_and, Int.natCast_inj] at h
  exact BitVec.toNat_inj.1 h
theorem map_bV_inj {k : IntKind} {w : Nat} : ∀ {l m : List (BitVec w)}, l.map (bV k) = m.map (bV k) → l = m
  | [], [], _ => rfl
  | [], _ :: _, h => by cases h
  | _ :: _, [], h => by cases h
  | a :: l, b :: m, h => by
    simp only [List.map_cons, List.cons.injEq] at h
    rw [bV_inj h.1, map_bV_inj h.2]
theorem baOf_inj {a b : List (BitVec 8)} (h : baOf a = baOf b) : a = b := by
  simp only [baOf, ByteArray.mk.injEq, List.toArray_eq_toArray_eq] at h
  first
    | exact (List.map_inj_right (fun x y h => by cases h; rfl)).1 h
    | skip
theorem eqPart_spec {a b : SV} {d : DP} (h : eqPart a b = some d) {w : World} {A : Own} {σ σ' : Sg} {cs ds : List Value} (ha : a.hc w A σ cs) (hb : b.hc w A σ' ds) : d.p ↔ cs = ds := by
  unfold eqPart at h
  split at h <;> first | (split at h) | skip
  all_goals first | (cases h; done) | skip
  all_goals simp only [Option.some.injEq] at h
  all_goals subst h
  all_goals simp only [SV.hc] at ha hb
  all_goals first
    | (have hk := ikB_eq (by assumption); subst hk; rw [ha.1, hb.1]; simp; done)
    | (subst ha; subst hb)
  all_goals first
    | (simp; done)
    | (exact ⟨fun h => congrArg (List.map (bV _)) h, fun h => map_bV_inj h⟩)
    | (exact ⟨fun h => by rw [h], fun h => bV_inj (List.cons.inj h).1⟩)
    | (exact ⟨fun h => by rw [h], fun h => baOf_inj (by simpa using h)⟩)

section
variable {P : Program} [TabC P] {S : Sig} {σ : Sg} {env : Env} {objs : List Ob} {nx : Nat} {o : Oper} {a : Act} {w : World} {x y : Operand} {K : SV → Prop}
theorem hvI {A : Own} {k : IntKind} {n : Int} {v : Value} : (SV.int k n).hv w A σ v ↔ v = .int k n ∧ (k = .i64 → inR n) := by
  simp [SV.hv, SV.h1, SV.hc]
theorem hvB {A : Own} {b : Bool} {v : Value} : (SV.bool b).hv w A σ v ↔ v = .bool b := by simp [SV.hv, SV.h1, SV.hc]
theorem hvD {A : Own} {p : Prop} {i : Decidable p} {v : Value} : (SV.dec p i).hv w A σ v ↔ v = .bool (@decide p i) := by simp [SV.hv, SV.h1, SV.hc]
theorem hv8 {A : Own} {n : BitVec 8} {v : Value} : (SV.u8 n).hv w A σ v ↔ v = bV .u8 n := by simp [SV.hv, SV.h1, SV.hc]
theorem hv16 {A : Own} {n : BitVec 16} {v : Value} : (SV.u16 n).hv w A σ v ↔ v = bV .u16 n := by simp [SV.hv, SV.h1, SV.hc]
theorem hv32 {A : Own} {n : BitVec 32} {v : Value} : (SV.u32 n).hv w A σ v ↔ v = bV .u32 n := by simp [SV.hv, SV.h1, SV.hc]
theorem hv64 {A : Own} {n : BitVec 64} {v : Value} : (SV.u64 n).hv w A σ v ↔ v = bV .u64 n := by simp [SV.hv, SV.h1, SV.hc]
theorem hvS {A : Own} {s : List (BitVec 8)} {v : Value} : (SV.str s).hv w A σ v ↔ v = .string (baOf s) := by simp [SV.hv, SV.h1, SV.hc]

theorem evI_sound {op : BinOp} {t t' : TypeId} {m n : Int} (ho : o.op = .binOp op t x y t') (hx : evx P env x = some (.int .i64 m)) (hy : evx P env y = some (.int .i64 n)) (h : evI op m n K) : PureK P S env objs nx o K := by
  have get : ∀ {σ a w}, St P S σ env objs nx a w → (a.eval x = .int .i64 m ∧ inR m) ∧ (a.eval y = .int .i64 n ∧ inR n) := fun hst =>
    have h1 := hvI.1 (hst.ev hx); have h2 := hvI.1 (hst.ev hy)
    ⟨⟨h1.1, h1.2 rfl⟩, ⟨h2.1, h2.2 rfl⟩⟩
  have wr : ∀ {z : Int}, inR z → IntKind.i64.wrap z = z := fun h => wrap_i64 h.1 h.2
  have bits : ∀ {z : Int}, inR z → 0 ≤ z → BitVec.ofInt 64 z = BitVec.ofNat 64 z.toNat := fun {z} _ h0 => by
    obtain ⟨k, rfl⟩ := Int.eq_ofNat_of_zero_le h0; simp
  have cmp : ∀ {d : DP}, cmpI op m n = some d → K d.sv → PureK P S env objs nx o K := fun {d} hd hk => by
    refine PureK.mk hk fun σ a w hst => ⟨.bool (@decide d.p d.i), hvD.2 rfl, ?_⟩
    obtain ⟨⟨h1, _⟩, h2, _⟩ := get hst
    refine rn_int ho h1 h2 ?_
    cases op <;> simp only [cmpI, Option.some.injEq, reduceCtorEq] at hd <;> subst hd <;> simp [intOp]
  unfold evI at h
  split at h
  · refine PureK.mk h.k fun σ a w hst => ?_
    obtain ⟨⟨h1, r1⟩, h2, r2⟩ := get hst
    have hr := h.h r1 r2
    exact ⟨_, hvI.2 ⟨rfl, fun _ => hr⟩, rn_int ho h1 h2 (by simp only [intOp, wr hr])⟩
  · refine PureK.mk h.k fun σ a w hst => ?_
    obtain ⟨⟨h1, r1⟩, h2, r2⟩ := get hst
    have hr := h.h r1 r2
    exact ⟨_, hvI.2 ⟨rfl, fun _ => hr⟩, rn_int ho h1 h2 (by simp only [intOp, wr hr])⟩
  · refine PureK.mk h.k fun σ a w hst => ?_
    obtain ⟨⟨h1, r1⟩, h2, r2⟩ := get hst
    have hr := h.h r1 r2
    exact ⟨_, hvI.2 ⟨rfl, fun _ => hr⟩, rn_int ho h1 h2 (by simp only [intOp, wr hr])⟩
  · refine PureK.mk h.k fun σ a w hst => ?_
    obtain ⟨⟨h1, r1⟩, h2, r2⟩ := get hst
    obtain ⟨h0, h3⟩ := h.h
    have e1 : m / n ≤ m := Int.ediv_le_self _ h0
    have e2 : 0 ≤ m / n := Int.ediv_nonneg h0 (by omega)
    have hr : inR (m / n) := ⟨by omega, by have := r1.2; omega⟩
    refine ⟨_, hvI.2 ⟨rfl, fun _ => hr⟩, ?_⟩
    have := rn_quo (P := P) ho h1 h2 (by omega)
    rwa [Int.tdiv_eq_ediv_of_nonneg h0, wr hr] at this
  · refine PureK.mk h.k fun σ a w hst => ?_
    obtain ⟨⟨h1, r1⟩, h2, r2⟩ := get hst
    obtain ⟨h0, h3⟩ := h.h
    have e1 : m % n < n := Int.emod_lt_of_pos _ h3
    have e2 : 0 ≤ m % n := Int.emod_nonneg _ (by omega)
    have hr : inR (m % n) := ⟨by omega, by have := r2.2; omega⟩
    refine ⟨_, hvI.2 ⟨rfl, fun _ => hr⟩, ?_⟩
    have := rn_rem (P := P) ho h1 h2 (by omega)
    rwa [Int.tmod_eq_emod_of_nonneg h0] at this
  · refine PureK.mk h.k fun σ a w hst => ?_
    obtain ⟨⟨h1, r1⟩, h2, r2⟩ := get hst
    obtain ⟨h0, h3⟩ := h.h
    have hle : m.toNat &&& n.toNat ≤ m.toNat := Nat.and_le_left
    have hr : inR ((m.toNat &&& n.toNat : Nat) : Int) := ⟨by omega, by have := r1.2; omega⟩
    refine ⟨_, hvI.2 ⟨rfl, fun _ => hr⟩, rn_int ho h1 h2 ?_⟩
    have hlt : m.toNat &&& n.toNat < 2 ^ 64 := by have := r1.2; omega
    have key : (BitVec.ofInt 64 m &&& BitVec.ofInt 64 n).toNat = m.toNat &&& n.toNat := by
      rw [bits r1 h0, bits r2 h3, BitVec.toNat_and, BitVec.toNat_ofNat, BitVec.toNat_ofNat, Nat.mod_eq_of_lt (by have := r1.2; omega), Nat.mod_eq_of_lt (by have := r2.2; omega)]
    show some (Value.int .i64 (IntKind.i64.wrap ((BitVec.ofInt 64 m &&& BitVec.ofInt 64 n).toNat : Int))) = _
    rw [key, wr hr]
  · refine PureK.mk h.k fun σ a w hst => ?_
    obtain ⟨⟨h1, r1⟩, h2, r2⟩ := get hst
    obtain ⟨h0, h3⟩ := h.h
    have hlt : m.toNat ||| n.toNat < 2 ^ 63 := Nat.or_lt_two_pow (by have := r1.2; omega) (by have := r2.2; omega)
    have hr : inR ((m.toNat ||| n.toNat : Nat) : Int) := ⟨by omega, by omega⟩
    refine ⟨_, hvI.2 ⟨rfl, fun _ => hr⟩, rn_int ho h1 h2 ?_⟩
    have key : (BitVec.ofInt 64 m ||| BitVec.ofInt 64 n).toNat = m.toNat ||| n.toNat := by
      rw [bits r1 h0, bits r2 h3, BitVec.toNat_or, BitVec.toNat_ofNat, BitVec.toNat_ofNat, Nat.mod_eq_of_lt (by have := r1.2; omega), Nat.mod_eq_of_lt (by have := r2.2; omega)]
    show some (Value.int .i64 (IntKind.i64.wrap ((BitVec.ofInt 64 m ||| BitVec.ofInt 64 n).toNat : Int))) = _
    rw [key, wr hr]
  · refine PureK.mk h.k fun σ a w hst => ?_
    obtain ⟨⟨h1, r1⟩, h2, r2⟩ := get hst
    obtain ⟨h0, h3⟩ := h.h
    have hlt : m.toNat ^^^ n.toNat < 2 ^ 63 := Nat.xor_lt_two_pow (by have := r1.2; omega) (by have := r2.2; omega)
    have hr : inR ((m.toNat ^^^ n.toNat : Nat) : Int) := ⟨by omega, by omega⟩
    refine ⟨_, hvI.2 ⟨rfl, fun _ => hr⟩, rn_int ho h1 h2 ?_⟩
    have key : (BitVec.ofInt 64 m ^^^ BitVec.ofInt 64 n).toNat = m.toNat ^^^ n.toNat := by
      rw [bits r1 h0, bits r2 h3, BitVec.toNat_xor, BitVec.toNat_ofNat, BitVec.toNat_ofNat, Nat.mod_eq_of_lt (by have := r1.2; omega), Nat.mod_eq_of_lt (by have := r2.2; omega)]
    show some (Value.int .i64 (IntKind.i64.wrap ((BitVec.ofInt 64 m ^^^ BitVec.ofInt 64 n).toNat : Int))) = _
    rw [key, wr hr]
  · split at h
    · rename_i d hd; exact cmp hd h
    · exact h.elim
theorem evISh_sound {op : BinOp} {t t' : TypeId} {m n : Int} {k' : IntKind} (ho : o.op = .binOp op t x y t') (hx : evx P env x = some (.int .i64 m)) (hy : ∀ {σ a w}, St P S σ env objs nx a w → a.eval y = .int k' n) (h : evISh op m n K) : PureK P S env objs nx o K := by
  unfold evISh at h
  split at h
  · refine PureK.mk h.k fun σ a w hst => ?_
    obtain ⟨h0, h1, hr⟩ := h.h
    refine ⟨_, hvI.2 ⟨rfl, fun _ => hr⟩, ?_⟩
    have := rn_shl (P := P) ho (hvI.1 (hst.ev hx)).1 (hy hst) h0
    rwa [show min n.toNat IntKind.i64.bits = n.toNat by simp [IntKind.bits]; omega, wrap_i64 hr.1 hr.2] at this
  · refine PureK.mk h.k fun σ a w hst => ?_
    obtain ⟨h0, h1⟩ := h.h
    have r1 := (hvI.1 (hst.ev hx)).2 rfl
    have hp : (0 : Int) < 2 ^ n.toNat := Int.pow_pos (by decide)
    have hr : inR (m / 2 ^ n.toNat) := by
      rcases Int.le_total 0 m with h | h
      · exact ⟨by have := Int.ediv_nonneg h (Int.le_of_lt hp); omega, by have := Int.ediv_le_self (2 ^ n.toNat) h; have := r1.2; omega⟩
      · have h2 : m ≤ m / 2 ^ n.toNat := by
          rw [Int.le_ediv_iff_mul_le hp]
          have : m * 2 ^ n.toNat ≤ m * 1 := Int.mul_le_mul_of_nonpos_left h (by omega)
          omega
        have h3 : m / 2 ^ n.toNat ≤ 0 := by
          have := Int.ediv_le_ediv hp h; simpa using this
        exact ⟨by have := r1.1; omega, by omega⟩
    refine ⟨_, hvI.2 ⟨rfl, fun _ => hr⟩, ?_⟩
    have := rn_shr (P := P) ho (hvI.1 (hst.ev hx)).1 (hy hst) h0
    rwa [show min n.toNat IntKind.i64.bits = n.toNat by simp [IntKind.bits]; omega, Int.fdiv_eq_ediv_of_nonneg _ (Int.le_of_lt hp)] at this
  · exact h.elim
theorem evU_sound {op : BinOp} {t t' : TypeId} {k : IntKind} {wd : Nat} {m n : BitVec wd} {C : BitVec wd → SV} (hs : k.signed = false) (hw : k.bits = wd) (hC : ∀ {w A σ} (z : BitVec wd) v, (C z).hv w A σ v ↔ v = bV k z) (ho : o.op = .binOp op t x y t')
    (hx : evx P env x = some (C m)) (hy : evx P env y = some (C n)) (h : evU op m n K C) : PureK P S env objs nx o K := by
  have get : ∀ {σ a w}, St P S σ env objs nx a w → a.eval x = bV k m ∧ a.eval y = bV k n := fun hst => ⟨(hC _ _).1 (hst.ev hx), (hC _ _).1 (hst.ev hy)⟩
  have bin : ∀ {z : BitVec wd}, bwOp op m n = some z → K (C z) → PureK P S env objs nx o K := fun {z} hz hk =>
    PureK.mk hk fun σ a w hst => ⟨_, (hC _ _).2 rfl, rn_ubin ho rfl rfl hs hw (get hst).1 (get hst).2 hz⟩
  have cmp : ∀ {d : DP}, cmpU op m n = some d → K d.sv → PureK P S env objs nx o K := fun {d} hd hk => by
    refine PureK.mk hk fun σ a w hst => ⟨.bool (@decide d.p d.i), hvD.2 rfl, rn_ucmp ho rfl rfl hw (get hst).1 (get hst).2 ?_⟩
    cases op <;> simp only [cmpU, Option.some.injEq, reduceCtorEq] at hd <;> subst hd <;> simp [bwCmp]
  unfold evU at h
  split at h
  · exact bin rfl h
  · exact bin rfl h
  · exact bin rfl h
  · exact bin rfl h
  · exact bin rfl h
  · exact bin rfl h
  · exact bin rfl h
  · exact PureK.mk h.k fun σ a w hst => ⟨_, (hC _ _).2 rfl, rn_uquo ho rfl rfl hs hw (get hst).1 (get hst).2 h.h⟩
  · exact PureK.mk h.k fun σ a w hst => ⟨_, (hC _ _).2 rfl, rn_urem ho rfl rfl hw (get hst).1 (get hst).2 h.h⟩
  · split at h
    · rename_i d hd; exact cmp hd h
    · exact h.elim
theorem evUSh_sound {op : BinOp} {t t' : TypeId} {k k' : IntKind} {wd : Nat} {m : BitVec wd} {n : Nat} {C : BitVec wd → SV} (hs : k.signed = false) (hw : k.bits = wd) (hC : ∀ {w A σ} (z : BitVec wd) v, (C z).hv w A σ v ↔ v = bV k z) (ho : o.op = .binOp op t x y t')
    (hx : evx P env x = some (C m)) (hy : ∀ {σ a w}, St P S σ env objs nx a w → ∃ z : Int, a.eval y = .int k' z ∧ 0 ≤ z ∧ z.toNat = n) (h : evUSh op m n K C) : PureK P S env objs nx o K := by
  unfold evUSh at h
  split at h
  · refine PureK.mk h fun σ a w hst => ?_
    obtain ⟨z, h1, h2, rfl⟩ := hy hst
    exact ⟨_, (hC _ _).2 rfl, rn_ushl ho rfl h1 hs hw ((hC _ _).1 (hst.ev hx)) h2⟩
  · refine PureK.mk h fun σ a w hst => ?_
    obtain ⟨z, h1, h2, rfl⟩ := hy hst
    exact ⟨_, (hC _ _).2 rfl, rn_ushr ho rfl h1 hw ((hC _ _).1 (hst.ev hx)) h2⟩
  · exact h.elim
end
end Go.Proofs.YtdflndjlnkoliaaGreatDoor

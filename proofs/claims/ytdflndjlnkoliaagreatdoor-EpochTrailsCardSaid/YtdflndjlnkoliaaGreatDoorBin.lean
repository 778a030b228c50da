import Derived.Test.YtdflndjlnkoliaaGreatDoorPure
/- MY OWN ENGINE: operations of two, conversions, parts of values. -/
namespace Go.Proofs.YtdflndjlnkoliaaGreatDoor
set_option linter.all false
open Go.RowKit
section
variable {P : Program} [TabC P] {S : Sig} {σ : Sg} {env : Env} {objs : List Ob} {nx : Nat} {o : Oper} {a : Act} {w : World} {x y : Operand} {K : SV → Prop}
def asB : SV → Option Bool
  | .bool b => some b
  | .dec p i => some (@decide p i)
  | _ => none
theorem asB_spec {s : SV} {b : Bool} (h : asB s = some b) (w : World) (A : Own) (σ : Sg) (v : Value) : s.hv w A σ v ↔ v = .bool b := by
  cases s <;> simp only [asB, reduceCtorEq, Option.some.injEq] at h <;> subst h
  · exact hvB
  · exact hvD
def evEq (op : BinOp) (d : Option DP) (K : SV → Prop) : Prop := match d with
  | some ⟨p, i⟩ => match op with
    | .eql => K (.dec p i)
    | .neq => K (.dec (¬ p) (@instDecidableNot p i))
    | _ => False
  | none => False
def evSh (op : BinOp) (s : SV) (n : Nat) (K : SV → Prop) : Prop := match s with
  | .u8 x => evUSh op x n K .u8
  | .u16 x => evUSh op x n K .u16
  | .u32 x => evUSh op x n K .u32
  | .u64 x => evUSh op x n K .u64
  | .int .i64 x => evISh op x n K
  | _ => False
/-- held against a slice that is nil -/
def evSlNil (op : BinOp) (s : SV) (K : SV → Prop) : Prop := match s with
  | .nils => match op with
    | .eql => K (.bool true)
    | .neq => K (.bool false)
    | _ => False
  | .fs z enc xs => match op with
    | .eql => ∀ b : Bool, (b = true → xs.length = 0) → K (.bool b)
    | .neq => ∀ b : Bool, (b = true → xs.length = 0) → K (.bool (!b))
    | _ => False
  | _ => False
variable (P) in
def evBin (op : BinOp) (T : Nat) (s u : SV) (K : SV → Prop) : Prop := match isSh op with
  | true => cntK u fun n => evSh op s n K
  | false => match s with
    | .int .i64 m => match u with
      | .int .i64 n => evI op m n K
      | _ => False
    | .u8 m => match u with
      | .u8 n => evU op m n K .u8
      | _ => False
    | .u16 m => match u with
      | .u16 n => evU op m n K .u16
      | _ => False
    | .u32 m => match u with
      | .u32 n => evU op m n K .u32
      | _ => False
    | .u64 m => match u with
      | .u64 n => evU op m n K .u64
      | _ => False
    | .str m => match u with
      | .str n => match op with
        | .add => Side (m.length + n.length < 9223372036854775808) (K (.str (m ++ n)))
        | op => evEq op (some ⟨m = n, inferInstance⟩) K
      | _ => False
    | s => match ty P T with
      | some ⟨.bool, _, _⟩ => match asB s with
        | some b => match asB u with
          | some c => evEq op (some ⟨b = c, inferInstance⟩) K
          | none => False
        | none => False
      | some ⟨.ptr _, _, _⟩ => match isNil s, isNil u, notNil s, notNil u with
        | true, true, _, _ => match op with
          | .eql => K (.bool true)
          | .neq => K (.bool false)
          | _ => False
        | false, true, true, _ => match op with
          | .eql => K (.bool false)
          | .neq => K (.bool true)
          | _ => False
        | _, _, _, _ => False
      | some ⟨.sl _, _, _⟩ => match u with
        | .nils => evSlNil op s K
        | _ => False
      | _ => False
theorem cnt_sound {s : SV} {K : Nat → Prop} (hx : evx P env y = some s) (h : cntK s K) : ∃ n k', K n ∧ ∀ {σ a w}, St P S σ env objs nx a w → ∃ z : Int, a.eval y = .int k' z ∧ 0 ≤ z ∧ z.toNat = n := by
  unfold cntK at h
  split at h
  · exact ⟨_, _, h.k, fun hst => ⟨_, (hvI.1 (hst.ev hx)).1, h.h, rfl⟩⟩
  · exact ⟨_, .u8, h, fun hst => ⟨_, hv8.1 (hst.ev hx), by omega, by simp⟩⟩
  · exact ⟨_, .u16, h, fun hst => ⟨_, hv16.1 (hst.ev hx), by omega, by simp⟩⟩
  · exact ⟨_, .u32, h, fun hst => ⟨_, hv32.1 (hst.ev hx), by omega, by simp⟩⟩
  · exact ⟨_, .u64, h, fun hst => ⟨_, hv64.1 (hst.ev hx), by omega, by simp⟩⟩
  · exact h.elim
theorem PureK.any {K : SV → Prop} (h : ∀ σ a w, St P S σ env objs nx a w → PureK P S env objs nx o K) : PureK P S env objs nx o K := fun σ a w hst => h σ a w hst σ a w hst
theorem isSh_not {op : BinOp} (h : isSh op = false) : op ≠ .shl ∧ op ≠ .shr := by cases op <;> simp [isSh] at h <;> simp
def plainV : Value → Bool
  | .bool _ | .pointer _ | .slice _ _ _ | .map _ | .func _ _ _ | .nilFunc | .agg _ => true
  | _ => false
theorem run_eqB {op : BinOp} {t t' : TypeId} {ev : Operand → Value} {u v : Value} {r : Bool} (ho : o.op = .binOp op t x y t') (hx : ev x = u) (hy : ev y = v) (h : ∀ cs ds, ¬ (u = .agg cs ∧ v = .agg ds)) (h2 : ¬ (u = .nilIface ∧ v = .nilIface))
    (hop : op = .eql ∨ op = .neq) (he : ∀ w' d, (Op.equalIn (d + 1) t u v).run P w' = .ok r w') (hf : plainV u = true := by rfl) :
    ∀ w', (execOp ev o).run P w' = .ok (.value (.bool (if op = .eql then r else !r))) w' := fun w' => by
  have he' : (Op.equal t u v).run P w' = .ok r w' := he w' 9999
  simp only [execOp, ho, hx, hy, Sem.run_bind, run_eqGuard_plain (P := P) (op := op) (t := t) (x := x) (y := y) w' h h2, Result.andThen_ok]
  rcases hop with rfl | rfl
  · cases u <;> simp only [plainV, reduceCtorEq] at hf <;> cases v <;> simp [binOp, he']
  · cases u <;> simp only [plainV, reduceCtorEq] at hf <;> cases v <;> simp [binOp, he']
theorem baOf_size (m : List (BitVec 8)) : (baOf m).size = m.length := by simp [baOf, ByteArray.size]
theorem baOf_append (m n : List (BitVec 8)) : baOf m ++ baOf n = baOf (m ++ n) := by
  apply ByteArray.ext
  simp [baOf]
theorem baOf_eq {m n : List (BitVec 8)} : baOf m = baOf n ↔ m = n := ⟨baOf_inj, fun h => by rw [h]⟩
theorem rn_str {op : BinOp} {t t' : TypeId} {ev : Operand → Value} {m n : List (BitVec 8)} {v : Value} (ho : o.op = .binOp op t x y t') (hx : ev x = .string (baOf m)) (hy : ev y = .string (baOf n)) (hv : ∀ w', (Op.stringOp op (baOf m) (baOf n)).run P w' = .ok v w') : ∀ w', (execOp ev o).run P w' = .ok (.value v) w' := fun w' => by
  simp only [execOp, ho, hx, hy, Sem.run_bind, run_eqGuard_plain (P := P) (op := op) (t := t) (x := x) (y := y) (a := .string (baOf m)) (b := .string (baOf n)) w' (fun _ _ h => by cases h.1) (fun h => by cases h.1), Result.andThen_ok]
  cases op <;> simp [binOp, hv w']
theorem evEq_sound {op : BinOp} {d : Option DP} {K : SV → Prop} (h : evEq op d K) : ∃ d', d = some d' ∧ ((op = .eql ∧ K d'.sv) ∨ (op = .neq ∧ K (notD d').sv)) := by
  unfold evEq at h
  split at h
  · rename_i p i
    split at h
    · exact ⟨⟨p, i⟩, rfl, .inl ⟨rfl, h⟩⟩
    · exact ⟨⟨p, i⟩, rfl, .inr ⟨rfl, h⟩⟩
    · exact h.elim
  · exact h.elim
theorem run_slNil' {T et : TypeId} {i : TI} (ht : ty P T = some i) (hk : i.k = .sl et) {ad : Option Addr} {l c : Nat} (hn : ad = none → l = 0 ∧ c = 0) : ∀ w' d, (Op.equalIn (d + 1) T (.slice ad l c) (.slice none 0 0)).run P w' = .ok ad.isNone w' := fun w' d => by
  cases ad with
  | none => obtain ⟨rfl, rfl⟩ := hn rfl; simp [Op.equalIn, run_underlying (ty_slice ht hk)]
  | some _ => simp [Op.equalIn, run_underlying (ty_slice ht hk)]
theorem ty_bool {T : TypeId} {i : TI} (ht : ty P T = some i) (hk : i.k = .bool) : P.underlying T = some .bool := by
  obtain ⟨inf, d, _, hd, _, _, hb, _⟩ := ty_spec ht
  rw [hk] at hb
  cases d <;> simp [tkB] at hb; exact hd
theorem notD_dec (d : DP) : @decide (notD d).p (notD d).i = !@decide d.p d.i := by
  obtain ⟨p, i⟩ := d
  cases i <;> rfl
theorem evBool_sound {op : BinOp} {T T' : TypeId} {s u : SV} {i : TI} {b c : Bool} (ho : o.op = .binOp op T x y T') (hx : evx P env x = some s) (hy : evx P env y = some u) (ht : ty P T = some i) (hk : i.k = .bool)
    (hs : asB s = some b) (hu : asB u = some c) (h : evEq op (some ⟨b = c, inferInstance⟩) K) : PureK P S env objs nx o K := by
  obtain ⟨d, hd, hcase⟩ := evEq_sound h
  cases hd
  have he : ∀ w' d, (Op.equalIn (d + 1) T (.bool b) (.bool c)).run P w' = .ok (b == c) w' := fun w' d => by
    simp [Op.equalIn, run_underlying (ty_bool ht hk)]
  have hbc : (b == c) = decide (b = c) := by cases b <;> cases c <;> rfl
  rcases hcase with ⟨rfl, hk⟩ | ⟨rfl, hk⟩
  · refine PureK.mk hk fun σ a w hst => ⟨_, hvD.2 rfl, ?_⟩
    have := run_eqB (P := P) ho ((asB_spec hs _ _ _ _).1 (hst.ev hx)) ((asB_spec hu _ _ _ _).1 (hst.ev hy)) (fun _ _ h => by cases h.1) (fun h => by cases h.1) (.inl rfl) he
    simpa [hbc] using this
  · refine PureK.mk hk fun σ a w hst => ⟨.bool (!decide (b = c)), hvD.2 (by rw [notD_dec]), ?_⟩
    have := run_eqB (P := P) ho ((asB_spec hs _ _ _ _).1 (hst.ev hx)) ((asB_spec hu _ _ _ _).1 (hst.ev hy)) (fun _ _ h => by cases h.1) (fun h => by cases h.1) (.inr rfl) he
    simpa [hbc] using this
theorem notNil_spec {A : Own} {s : SV} (h : notNil s = true) {v : Value} (hv : s.hv w A σ v) : ∃ p, v = .pointer (some p) := by
  cases s <;> simp only [notNil, reduceCtorEq] at h <;> simp only [SV.hv, SV.h1, SV.hc] at hv
  · obtain ⟨b, c, _, e⟩ := hv; simp at e; exact ⟨_, e⟩
  · obtain ⟨g, l, c, _, e⟩ := hv; simp at e; exact ⟨_, e⟩
  · obtain ⟨b, c, _, e⟩ := hv; simp at e; exact ⟨_, e⟩
  · obtain ⟨b, c, e, _⟩ := hv; simp at e; exact ⟨_, e⟩
theorem evSlNil_sound {op : BinOp} {T T' et : TypeId} {s : SV} {i : TI} (ho : o.op = .binOp op T x y T') (hx : evx P env x = some s) (hy : evx P env y = some .nils) (ht : ty P T = some i) (hk : i.k = .sl et) (h : evSlNil op s K) : PureK P S env objs nx o K := by
  have hyn : ∀ {σ a w}, St P S σ env objs nx a w → a.eval y = .slice none 0 0 := fun hst => by
    have := hst.ev hy; simpa [SV.hv, SV.h1, SV.hc] using this
  unfold evSlNil at h
  split at h
  · have hxn : ∀ {σ a w}, St P S σ env objs nx a w → a.eval x = .slice none 0 0 := fun hst => by
      have := hst.ev hx; simpa [SV.hv, SV.h1, SV.hc] using this
    split at h
    · refine PureK.mk h fun σ a w hst => ⟨_, hvB.2 rfl, ?_⟩
      have := run_eqB (P := P) ho (hxn hst) (hyn hst) (fun _ _ h => by cases h.1) (fun h => by cases h.1) (.inl rfl) (run_slNil' ht hk (fun _ => ⟨rfl, rfl⟩))
      simpa using this
    · refine PureK.mk h fun σ a w hst => ⟨_, hvB.2 rfl, ?_⟩
      have := run_eqB (P := P) ho (hxn hst) (hyn hst) (fun _ _ h => by cases h.1) (fun h => by cases h.1) (.inr rfl) (run_slNil' ht hk (fun _ => ⟨rfl, rfl⟩))
      simpa using this
    · exact h.elim
  · rename_i z α enc xs
    split at h
    · intro σ a w hst
      have h1 := hst.ev hx
      simp only [SV.hv, SV.h1, SV.hc] at h1
      obtain ⟨ad, c, e1, _, _, hn, _⟩ := h1
      simp only [List.cons.injEq, and_true] at e1
      refine ⟨_, _, h ad.isNone (fun hz => ?_), hvB.2 rfl, ?_⟩
      · cases ad with
        | none => rw [(hn rfl).1]; rfl
        | some _ => cases hz
      · have := run_eqB (P := P) ho e1 (hyn hst) (fun _ _ h => by cases h.1) (fun h => by cases h.1) (.inl rfl) (run_slNil' ht hk (fun e => ⟨by rw [(hn e).1]; rfl, (hn e).2⟩))
        simpa using this
    · intro σ a w hst
      have h1 := hst.ev hx
      simp only [SV.hv, SV.h1, SV.hc] at h1
      obtain ⟨ad, c, e1, _, _, hn, _⟩ := h1
      simp only [List.cons.injEq, and_true] at e1
      refine ⟨_, _, h ad.isNone (fun hz => ?_), hvB.2 rfl, ?_⟩
      · cases ad with
        | none => rw [(hn rfl).1]; rfl
        | some _ => cases hz
      · have := run_eqB (P := P) ho e1 (hyn hst) (fun _ _ h => by cases h.1) (fun h => by cases h.1) (.inr rfl) (run_slNil' ht hk (fun e => ⟨by rw [(hn e).1]; rfl, (hn e).2⟩))
        simpa using this
    · exact h.elim
  · exact h.elim
theorem evBin_sound {op : BinOp} {T T' : TypeId} {s u : SV} (ho : o.op = .binOp op T x y T') (hx : evx P env x = some s) (hy : evx P env y = some u) (h : evBin P op T s u K) : PureK P S env objs nx o K := by
  have strE : ∀ {m n : List (BitVec 8)}, s = .str m → u = .str n → evEq op (some ⟨m = n, inferInstance⟩) K → PureK P S env objs nx o K := by
    intro m n hs hu h0
    subst hs hu
    obtain ⟨d', hd, hcase⟩ := evEq_sound h0
    cases hd
    have heq : ((baOf m).toList == (baOf n).toList) = decide (m = n) := by
      have hl : ∀ m, (baOf m).toList = m.map UInt8.ofBitVec := fun m => by rw [ByteArray.toList_eq]; simp [baOf]
      rw [hl, hl, Bool.eq_iff_iff, beq_iff_eq, decide_eq_true_eq]
      exact List.map_inj_right (fun x y h => by cases h; rfl)
    rcases hcase with ⟨rfl, hk⟩ | ⟨rfl, hk⟩
    · refine PureK.mk hk fun σ a w hst => ⟨_, hvD.2 rfl, rn_str ho (hvS.1 (hst.ev hx)) (hvS.1 (hst.ev hy)) fun w' => ?_⟩
      simp [Op.stringOp, heq]
    · refine PureK.mk hk fun σ a w hst => ⟨.bool (!decide (m = n)), hvD.2 (by rw [notD_dec]), rn_str ho (hvS.1 (hst.ev hx)) (hvS.1 (hst.ev hy)) fun w' => ?_⟩
      simp [Op.stringOp, heq]
  unfold evBin at h
  split at h
  · obtain ⟨n, k', hk, hc⟩ := cnt_sound (S := S) (objs := objs) (nx := nx) hy h
    unfold evSh at hk
    split at hk
    · exact evUSh_sound (k := .u8) (k' := k') rfl rfl (fun z v => hv8) ho hx hc hk
    · exact evUSh_sound (k := .u16) (k' := k') rfl rfl (fun z v => hv16) ho hx hc hk
    · exact evUSh_sound (k := .u32) (k' := k') rfl rfl (fun z v => hv32) ho hx hc hk
    · exact evUSh_sound (k := .u64) (k' := k') rfl rfl (fun z v => hv64) ho hx hc hk
    · exact evISh_sound (k' := k') ho hx (fun hst => by obtain ⟨z, h1, h2, h3⟩ := hc hst; rw [h1, ← h3, Int.toNat_of_nonneg h2]) hk
    · exact hk.elim
  · split at h
    · split at h
      · exact evI_sound ho hx hy h
      · exact h.elim
    · split at h
      · exact evU_sound (k := .u8) rfl rfl (fun z v => hv8) ho hx hy h
      · exact h.elim
    · split at h
      · exact evU_sound (k := .u16) rfl rfl (fun z v => hv16) ho hx hy h
      · exact h.elim
    · split at h
      · exact evU_sound (k := .u32) rfl rfl (fun z v => hv32) ho hx hy h
      · exact h.elim
    · split at h
      · exact evU_sound (k := .u64) rfl rfl (fun z v => hv64) ho hx hy h
      · exact h.elim
    · split at h
      · split at h
        · refine PureK.mk h.k fun σ a w hst => ⟨_, hvS.2 rfl, rn_str ho (hvS.1 (hst.ev hx)) (hvS.1 (hst.ev hy)) fun w' => ?_⟩
          have := h.h
          simp [Op.stringOp, baOf_size, baOf_append, IntKind.max, IntKind.signed, IntKind.bits]
          omega
        · exact strE rfl rfl h
      · exact h.elim
    · split at h
      · rename_i ht
        split at h
        · rename_i hb
          split at h
          · rename_i hc; exact evBool_sound ho hx hy ht rfl hb hc h
          · exact h.elim
        · exact h.elim
      · rename_i e _ _ ht
        have nilV : ∀ {s : SV} {A : Own} {w : World} {σ : Sg} {v : Value}, isNil s = true → s.hv w A σ v → v = .pointer none := fun {s A w σ v} hn hv => by
          cases s <;> simp only [isNil, reduceCtorEq] at hn <;> simpa [SV.hv, SV.h1, SV.hc] using hv
        split at h
        · rename_i h1 h2
          split at h
          · refine PureK.mk h fun σ a w hst => ⟨_, hvB.2 rfl, ?_⟩
            exact rn_eqNil (p := none) ho (nilV h1 (hst.ev hx)) (nilV h2 (hst.ev hy)) ht rfl
          · refine PureK.mk h fun σ a w hst => ⟨_, hvB.2 rfl, ?_⟩
            exact rn_neNil (p := none) ho (nilV h1 (hst.ev hx)) (nilV h2 (hst.ev hy)) ht rfl
          · exact h.elim
        · rename_i h1 h2 h3
          have nn : ∀ {σ a w}, St P S σ env objs nx a w → ∃ p, a.eval x = .pointer (some p) := fun hst => notNil_spec h3 (hst.ev hx)
          split at h
          · refine PureK.mk h fun σ a w hst => ⟨_, hvB.2 rfl, ?_⟩
            obtain ⟨p, hp⟩ := nn hst
            exact rn_eqNil (p := some p) ho hp (nilV h2 (hst.ev hy)) ht rfl
          · refine PureK.mk h fun σ a w hst => ⟨_, hvB.2 rfl, ?_⟩
            obtain ⟨p, hp⟩ := nn hst
            exact rn_neNil (p := some p) ho hp (nilV h2 (hst.ev hy)) ht rfl
          · exact h.elim
        · exact h.elim
      · rename_i ht
        split at h
        · exact evSlNil_sound ho hx hy ht rfl h
        · exact h.elim
      · exact h.elim
end
end Go.Proofs.YtdflndjlnkoliaaGreatDoor

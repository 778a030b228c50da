import Derived.Test.YtdflndjlnkoliaaGreatDoorAddr
/- MY OWN ENGINE: the other plain operations; all of them together. -/
namespace Go.Proofs.YtdflndjlnkoliaaGreatDoor
set_option linter.all false
open Go.RowKit
section
variable {P : Program} [TabC P] {S : Sig} {σ : Sg} {env : Env} {objs : List Ob} {nx : Nat} {o : Oper} {a : Act} {w : World} {x y : Operand} {K : SV → Prop}
/-! ## one of two -/
def evPick (c s u : SV) (K : SV → Prop) : Prop := match c with
  | .bool true => frc s K
  | .bool false => frc u K
  | .dec p i => match u with
    | .bool false => match asP s with
      | some ⟨q, j⟩ => K (.dec (p ∧ q) (@instDecidableAnd p q i j))
      | none => False
    | u => match s with
      | .bool true => match asP u with
        | some ⟨q, j⟩ => K (.dec (p ∨ q) (@instDecidableOr p q i j))
        | none => False
      | s => Fork p (frc s K) (frc u K)
  | _ => False
theorem asP_spec {s : SV} {d : DP} (h : asP s = some d) (w : World) (A : Own) (σ : Sg) (v : Value) : s.hv w A σ v ↔ v = .bool (@decide d.p d.i) := by
  cases s <;> simp only [asP, reduceCtorEq, Option.some.injEq] at h <;> subst h
  · rw [hvB]; simp
  · exact hvD
theorem rn_pick {c x y : Operand} {ev : Operand → Value} {b : Bool} {u v : Value} (ho : o.op = .pick c x y) (hc : ev c = .bool b) (hx : ev x = u) (hy : ev y = v) : ∀ w', (execOp ev o).run P w' = .ok (.value (if b then u else v)) w' := fun w' => by
  cases b <;> simp [execOp, ho, hc, hx, hy, asBool]
theorem evPick_sound {c : Operand} {sc s u : SV} (ho : o.op = .pick c x y) (hc : evx P env c = some sc) (hx : evx P env x = some s) (hy : evx P env y = some u) (h : evPick sc s u K) : PureK P S env objs nx o K := by
  have lit : ∀ {b : Bool}, (∀ {σ a w}, St P S σ env objs nx a w → a.eval c = .bool b) → K (if b then s else u) → PureK P S env objs nx o K := fun {b} hb hk =>
    PureK.mk hk fun σ a w hst => ⟨if b then a.eval x else a.eval y, (by cases b with | true => exact hst.ev hx | false => exact hst.ev hy), rn_pick ho (hb hst) rfl rfl⟩
  unfold evPick at h
  split at h
  · exact lit (b := true) (fun hst => hvB.1 (hst.ev hc)) (frc_k h)
  · exact lit (b := false) (fun hst => hvB.1 (hst.ev hc)) (frc_k h)
  · rename_i p i
    have hcv : ∀ {σ a w}, St P S σ env objs nx a w → a.eval c = .bool (@decide p i) := fun hst => hvD.1 (hst.ev hc)
    have fork : Fork p (frc s K) (frc u K) → PureK P S env objs nx o K := fun h => PureK.fork (K1 := K) (K2 := K) (p := p)
      (fun hp => lit (b := true) (fun hst => by rw [hcv hst]; simp [hp]) (frc_k (h.t hp))) (fun hp => lit (b := false) (fun hst => by rw [hcv hst]; simp [hp]) (frc_k (h.f hp)))
    split at h
    · split at h
      · rename_i q j hd
        refine PureK.mk h fun σ a w hst => ⟨_, hvD.2 rfl, ?_⟩
        have := rn_pick (P := P) ho (hcv hst) ((asP_spec hd _ _ _ _).1 (hst.ev hx)) (hvB.1 (hst.ev hy))
        rw [show (if @decide p i = true then Value.bool (@decide q j) else .bool false) = .bool (@decide (p ∧ q) (@instDecidableAnd p q i j)) by
          by_cases hp : p <;> simp [hp]] at this
        exact this
      · exact h.elim
    · split at h
      · split at h
        · rename_i q j hd
          refine PureK.mk h fun σ a w hst => ⟨_, hvD.2 rfl, ?_⟩
          have := rn_pick (P := P) ho (hcv hst) (hvB.1 (hst.ev hx)) ((asP_spec hd _ _ _ _).1 (hst.ev hy))
          rw [show (if @decide p i = true then Value.bool true else .bool (@decide q j)) = .bool (@decide (p ∨ q) (@instDecidableOr p q i j)) by
            by_cases hp : p <;> simp [hp]] at this
          exact this
        · exact h.elim
      · exact fork h
  · exact h.elim
theorem evMove_sound {s : SV} (ho : o.op = .move x ∨ o.op = .assign x) (hx : evx P env x = some s) (h : frc s K) : PureK P S env objs nx o K :=
  PureK.mk (frc_k h) fun σ a w hst => ⟨a.eval x, hst.ev hx, fun w' => by rcases ho with ho | ho <;> simp [execOp, ho]⟩
/-! ## of one -/
def evUn (op : UnOp) (s : SV) (K : SV → Prop) : Prop := match op with
  | .not => match s with
    | .bool b => K (.bool (!b))
    | .dec p i => K (.dec (¬ p) (@instDecidableNot p i))
    | _ => False
  | .neg => match s with
    | .int .i64 n => Side (inR n → inR (-n)) (K (.int .i64 (-n)))
    | _ => False
  | .xor => match s with
    | .u8 v => K (.u8 (~~~ v))
    | .u16 v => K (.u16 (~~~ v))
    | .u32 v => K (.u32 (~~~ v))
    | .u64 v => K (.u64 (~~~ v))
    | _ => False
  | _ => False
theorem evUn_sound {op : UnOp} {T : TypeId} {s : SV} (ho : o.op = .unOp op T x) (hx : evx P env x = some s) (h : evUn op s K) : PureK P S env objs nx o K := by
  unfold evUn at h
  split at h
  · split at h
    · exact PureK.mk h fun σ a w hst => ⟨_, hvB.2 rfl, rn_not ho (hvB.1 (hst.ev hx))⟩
    · exact PureK.mk h fun σ a w hst => ⟨_, hvD.2 (by rw [← notD_dec ⟨_, _⟩]; rfl), rn_not ho (hvD.1 (hst.ev hx))⟩
    · exact h.elim
  · split at h
    · refine PureK.mk h.k fun σ a w hst => ?_
      have h1 := hvI.1 (hst.ev hx)
      have hr := h.h (h1.2 rfl)
      refine ⟨_, hvI.2 ⟨rfl, fun _ => hr⟩, ?_⟩
      have := rn_neg (P := P) ho h1.1
      rwa [Int.zero_sub, wrap_i64 hr.1 hr.2] at this
    · exact h.elim
  · split at h
    · exact PureK.mk h fun σ a w hst => ⟨_, hv8.2 rfl, rn_unot ho rfl rfl rfl (hv8.1 (hst.ev hx))⟩
    · exact PureK.mk h fun σ a w hst => ⟨_, hv16.2 rfl, rn_unot ho rfl rfl rfl (hv16.1 (hst.ev hx))⟩
    · exact PureK.mk h fun σ a w hst => ⟨_, hv32.2 rfl, rn_unot ho rfl rfl rfl (hv32.1 (hst.ev hx))⟩
    · exact PureK.mk h fun σ a w hst => ⟨_, hv64.2 rfl, rn_unot ho rfl rfl rfl (hv64.1 (hst.ev hx))⟩
    · exact h.elim
  · exact h.elim
/-! ## conversions of integers -/
def cvI (kd : IntKind) (n : Int) (K : SV → Prop) : Prop := match kd with
  | .i64 => K (.int .i64 n)
  | .u8 => K (.u8 (BitVec.ofInt 8 n))
  | .u16 => K (.u16 (BitVec.ofInt 16 n))
  | .u32 => K (.u32 (BitVec.ofInt 32 n))
  | .u64 => K (.u64 (BitVec.ofInt 64 n))
  | _ => False
def cvU (kd : IntKind) {w : Nat} (v : BitVec w) (K : SV → Prop) : Prop := match kd with
  | .i64 => match Nat.ble w 32 with
    | true => K (.int .i64 v.toNat)
    | false => Side (v.toNat < 9223372036854775808) (K (.int .i64 v.toNat))
  | .u8 => K (.u8 (v.setWidth 8))
  | .u16 => K (.u16 (v.setWidth 16))
  | .u32 => K (.u32 (v.setWidth 32))
  | .u64 => K (.u64 (v.setWidth 64))
  | _ => False
variable (P) in
def evConv (src dst : Nat) (s : SV) (K : SV → Prop) : Prop := match ty P src, ty P dst with
  | some ⟨.int ks, _, _⟩, some ⟨.int kd, _, _⟩ => match s with
    | .int .i64 n => cvI kd n K
    | .u8 v => cvU kd v K
    | .u16 v => cvU kd v K
    | .u32 v => cvU kd v K
    | .u64 v => cvU kd v K
    | _ => False
  | some ⟨.str, _, _⟩, some ⟨.str, _, _⟩ => match s with
    | .str l => K (.str l)
    | _ => False
  | _, _ => False
theorem cvU_sound {src dst : TypeId} {ks kd : IntKind} {wd : Nat} {v : BitVec wd} {C : SV} {i j : TI} (ho : o.op = .convert src dst x) (hx : evx P env x = some C) (hC : ∀ {w A σ} u, C.hv w A σ u ↔ u = bV ks v) (hs : ty P src = some j) (hd : ty P dst = some i) (hk : i.k = .int kd) (hj : ∃ k', j.k = .int k') (h : cvU kd v K) : PureK P S env objs nx o K := by
  obtain ⟨k', hj⟩ := hj
  have conv : ∀ {σ a w}, St P S σ env objs nx a w → ∀ w', (execOp a.eval o).run P w' = .ok (.value (.int kd (kd.wrap (v.toNat : Int)))) w' := fun hst w' => by
    have e := (hC _).1 (hst.ev hx)
    simp [execOp, ho, e, convert, run_underlying (ty_int hs hj), run_underlying (ty_int hd hk), Conv.intToInt]
  have uns : ∀ {q : Nat} {u : BitVec q}, kd.signed = false → kd.bits = q → u = v.setWidth q → kd.wrap (v.toNat : Int) = (u.toNat : Int) := fun {q u} h1 h2 h3 => by
    subst h3 h2; rw [wrap_uns h1 rfl, BitVec.ofInt_natCast]; simp
  have sgn : v.toNat < 9223372036854775808 → kd = .i64 → K (.int .i64 v.toNat) → PureK P S env objs nx o K := fun hlt e hK => by
    subst e
    have hr : inR (v.toNat : Int) := ⟨by omega, by omega⟩
    refine PureK.mk hK fun σ a w hst => ⟨_, hvI.2 ⟨rfl, fun _ => hr⟩, ?_⟩
    have := conv hst
    rwa [wrap_i64 hr.1 hr.2] at this
  unfold cvU at h
  split at h
  · split at h
    · rename_i hle
      have h1 := v.isLt
      have h2 : 2 ^ wd ≤ 2 ^ 32 := Nat.pow_le_pow_right (by omega) (Nat.le_of_ble_eq_true hle)
      exact sgn (by omega) rfl h
    · exact sgn h.h rfl h.k
  · refine PureK.mk h fun σ a w hst => ⟨_, hv8.2 rfl, ?_⟩
    have := conv hst; rwa [uns (u := v.setWidth 8) rfl rfl rfl] at this
  · refine PureK.mk h fun σ a w hst => ⟨_, hv16.2 rfl, ?_⟩
    have := conv hst; rwa [uns (u := v.setWidth 16) rfl rfl rfl] at this
  · refine PureK.mk h fun σ a w hst => ⟨_, hv32.2 rfl, ?_⟩
    have := conv hst; rwa [uns (u := v.setWidth 32) rfl rfl rfl] at this
  · refine PureK.mk h fun σ a w hst => ⟨_, hv64.2 rfl, ?_⟩
    have := conv hst; rwa [uns (u := v.setWidth 64) rfl rfl rfl] at this
  · exact h.elim
theorem evConv_sound {src dst : TypeId} {s : SV} (ho : o.op = .convert src dst x) (hx : evx P env x = some s) (h : evConv P src dst s K) : PureK P S env objs nx o K := by
  unfold evConv at h
  split at h
  · rename_i ks _ _ kd _ _ hs hd
    split at h
    · rename_i n
      have conv : ∀ {σ a w}, St P S σ env objs nx a w → ∀ w', (execOp a.eval o).run P w' = .ok (.value (.int kd (kd.wrap n))) w' := fun hst w' => by
        have e := (hvI.1 (hst.ev hx)).1
        simp [execOp, ho, e, convert, run_underlying (ty_int hs rfl), run_underlying (ty_int hd rfl), Conv.intToInt]
      unfold cvI at h
      split at h
      · refine PureK.mk h fun σ a w hst => ?_
        have hr := (hvI.1 (hst.ev hx)).2 rfl
        refine ⟨_, hvI.2 ⟨rfl, fun _ => hr⟩, ?_⟩
        have := conv hst; rwa [wrap_i64 hr.1 hr.2] at this
      · refine PureK.mk h fun σ a w hst => ⟨_, hv8.2 rfl, ?_⟩
        have := conv hst; rwa [wrap_uns (w := 8) rfl rfl] at this
      · refine PureK.mk h fun σ a w hst => ⟨_, hv16.2 rfl, ?_⟩
        have := conv hst; rwa [wrap_uns (w := 16) rfl rfl] at this
      · refine PureK.mk h fun σ a w hst => ⟨_, hv32.2 rfl, ?_⟩
        have := conv hst; rwa [wrap_uns (w := 32) rfl rfl] at this
      · refine PureK.mk h fun σ a w hst => ⟨_, hv64.2 rfl, ?_⟩
        have := conv hst; rwa [wrap_uns (w := 64) rfl rfl] at this
      · exact h.elim
    · exact cvU_sound (ks := .u8) ho hx (fun u => hv8) hs hd rfl ⟨_, rfl⟩ h
    · exact cvU_sound (ks := .u16) ho hx (fun u => hv16) hs hd rfl ⟨_, rfl⟩ h
    · exact cvU_sound (ks := .u32) ho hx (fun u => hv32) hs hd rfl ⟨_, rfl⟩ h
    · exact cvU_sound (ks := .u64) ho hx (fun u => hv64) hs hd rfl ⟨_, rfl⟩ h
    · exact h.elim
  · rename_i hs hd
    split at h
    · refine PureK.mk h fun σ a w hst => ⟨_, hvS.2 rfl, fun w' => ?_⟩
      have e := hvS.1 (hst.ev hx)
      simp [execOp, ho, e, convert, run_underlying (ty_str hs rfl), run_underlying (ty_str hd rfl)]
    · exact h.elim
  · exact h.elim
/-! ## parts of several results -/
theorem hvs_get {A : Own} : ∀ {l : List SV} {vs : List Value} {i : Nat} {s : SV}, hvs w A σ l vs → evLoad.nth' l i = some s → ∃ v, vs[i]? = some v ∧ s.h1 w A σ v
  | [], _, i, s, _, h => by simp [evLoad.nth'] at h
  | u :: r, _, 0, s, ⟨v, m, h1, h2, h3⟩, h => by simp [evLoad.nth'] at h; subst h; subst h1; exact ⟨v, rfl, h2⟩
  | u :: r, _, i + 1, s, ⟨v, m, h1, h2, h3⟩, h => by
    simp only [evLoad.nth'] at h
    obtain ⟨v', h4, h5⟩ := hvs_get h3 h
    subst h1; exact ⟨v', by simpa using h4, h5⟩
def evExtract (s : SV) (i : Nat) (K : SV → Prop) : Prop := match s with
  | .tup vs => match evLoad.nth' vs i with
    | some (.tup _) => False
    | some u => frcA u K
    | none => False
  | _ => False
theorem evExtract_sound {s : SV} {i : Nat} (ho : o.op = .extract x i) (hx : evx P env x = some s) (h : evExtract s i K) : PureK P S env objs nx o K := by
  unfold evExtract at h
  split at h
  · split at h
    · exact h.elim
    · rename_i vs u hne hn
      refine PureK.mk (frcA_k h) fun σ a w hst => ?_
      obtain ⟨l, h1, h2⟩ := hst.ev hx
      obtain ⟨v, h3, h4⟩ := hvs_get h2 hn
      refine ⟨v, ?_, fun w' => by simp [execOp, ho, h1, Instr.extract, h3]⟩
      cases u <;> first | exact h4 | skip
      exact (hne _ rfl).elim
    · exact h.elim
  · exact h.elim
theorem evNilCheck_sound {s : SV} (ho : o.op = .nilCheck x) (hx : evx P env x = some s) (hn : notNil s = true) (h : K s) : PureK P S env objs nx o K := by
  refine PureK.mk h fun σ a w hst => ?_
  obtain ⟨p, hp⟩ := notNil_spec hn (hst.ev hx)
  refine ⟨.pointer (some p), by rw [← hp]; exact hst.ev hx, rn_nilCheck ho hp⟩
/-! ## lengths -/
variable (P) in
def evLen (objs : List Ob) (T : Nat) (s : SV) (K : SV → Prop) : Prop := match ty P T with
  | some ⟨.sl _, _, _⟩ => match s with
    | .own k => match lk objs k with
      | some (.row _ _ _ xs) => K (.int .i64 xs.length)
      | some (.frow _ _ xs) => K (.int .i64 xs.length)
      | some (.lits _ _ els) => K (.int .i64 els.length)
      | _ => False
    | .fs _ _ xs => K (.int .i64 xs.length)
    | .nils => K (.int .i64 0)
    | .bsl _ _ lo hi => K (.int .i64 (hi - lo : Nat))
    | _ => False
  | some ⟨.str, _, _⟩ => match s with
    | .str l => Side (l.length < 9223372036854775808) (K (.int .i64 l.length))
    | _ => False
  | some ⟨.ar n _, _, _⟩ => match Nat.blt n 9223372036854775808 with
    | true => K (.int .i64 n)
    | false => False
  | _ => False
theorem len_sl {T et : TypeId} {i : TI} {n : Nat} (ho : o.op = .call { callee := .builtin .len, args := #[x], argTypes := #[T] }) (ht : ty P T = some i) (hk : i.k = .sl et) (hn : ∀ {σ a w}, St P S σ env objs nx a w → (∃ ad c, a.eval x = .slice ad n c) ∧ n ≤ 9223372036854775807) (h : K (.int .i64 n)) : PureK P S env objs nx o K := by
  refine PureK.mk h fun σ a w hst => ?_
  obtain ⟨⟨ad, c, h1⟩, h2⟩ := hn hst
  exact ⟨.int .i64 n, hvI.2 ⟨rfl, fun _ => ⟨by omega, by omega⟩⟩, fun w' => by simp [execOp, ho, resolve, invoke, builtin, h1, Builtin.len_, run_underlying (ty_slice ht hk), goInt]⟩
theorem rowH.len' {A : Own} {k e z : Nat} {els : List (List SV)} (h : rowH w A σ k e z els) : els.length ≤ 9223372036854775807 := by
  obtain ⟨v, cs, _, _, h2, _⟩ := h; exact Nat.le_trans h2 (by decide)
theorem evLen_sound {T : TypeId} {s : SV} (ho : o.op = .call { callee := .builtin .len, args := #[x], argTypes := #[T] }) (hx : evx P env x = some s) (h : evLen P objs T s K) : PureK P S env objs nx o K := by
  unfold evLen at h
  split at h
  · rename_i ht
    split at h
    · split at h
      · rename_i hk
        refine len_sl ho ht rfl (fun hst => ?_) h
        have hh := lk_holds hst hk
        obtain ⟨ad, c, h1⟩ := rowH.len hh
        rw [own_ev hx hst] at h1
        rw [List.length_map] at h1
        exact ⟨⟨ad, c, Option.some.inj h1⟩, by have := rowH.len' hh; simpa using this⟩
      · rename_i hk
        refine len_sl ho ht rfl (fun hst => ?_) h
        obtain ⟨v, h1, h2⟩ := frow_ev hx hk hst
        simp only [SV.hc, List.cons.injEq, and_true] at h2
        obtain ⟨ad, c, rfl, h3, h4, _⟩ := h2
        exact ⟨⟨ad, c, h1⟩, by have : maxLen ≤ 9223372036854775807 := by decide
                               omega⟩
      · rename_i hk
        refine len_sl ho ht rfl (fun hst => ?_) h
        have hh := lk_holds hst hk
        obtain ⟨ad, c, h1⟩ := rowH.len hh
        rw [own_ev hx hst] at h1
        exact ⟨⟨ad, c, Option.some.inj h1⟩, rowH.len' hh⟩
      · exact h.elim
    · refine len_sl ho ht rfl (fun hst => ?_) h
      obtain ⟨v, h1, h2⟩ := fs_ev hx hst
      simp only [SV.hc, List.cons.injEq, and_true] at h2
      obtain ⟨ad, c, rfl, h3, h4, _⟩ := h2
      exact ⟨⟨ad, c, h1⟩, by have : maxLen ≤ 9223372036854775807 := by decide
                             omega⟩
    · refine len_sl (n := 0) ho ht rfl (fun hst => ?_) h
      have := hst.ev hx
      simp only [SV.hv, SV.h1, SV.hc, List.cons.injEq, and_true] at this
      exact ⟨⟨none, 0, this⟩, by omega⟩
    · refine len_sl ho ht rfl (fun hst => ?_) h
      have := hst.ev hx
      simp only [SV.hv, SV.h1, SV.hc, List.cons.injEq, and_true] at this
      obtain ⟨b, c, p, k, _, h1, h2, h3, h4, _⟩ := this
      exact ⟨⟨_, _, h1⟩, by have : maxLen ≤ 9223372036854775807 := by decide
                            omega⟩
    · exact h.elim
  · rename_i ht
    split at h
    · rename_i l
      refine PureK.mk h.k fun σ a w hst => ?_
      have h1 := hvS.1 (hst.ev hx)
      refine ⟨.int .i64 l.length, hvI.2 ⟨rfl, fun _ => ⟨by omega, by have := h.h; omega⟩⟩, fun w' => ?_⟩
      simp [execOp, ho, resolve, invoke, builtin, h1, Builtin.len_, run_underlying (ty_str ht rfl), goInt, baOf_size]
    · exact h.elim
  · rename_i n e _ _ ht
    split at h
    · rename_i hlt
      have hlt' : n < 9223372036854775808 := by simpa [Nat.blt_eq] using hlt
      refine PureK.mk h fun σ a w hst => ⟨.int .i64 n, hvI.2 ⟨rfl, fun _ => ⟨by omega, by omega⟩⟩, fun w' => ?_⟩
      simp [execOp, ho, resolve, invoke, builtin, Builtin.len_, run_underlying (ty_array ht rfl), goInt]
    · exact h.elim
  · exact h.elim
end
end Go.Proofs.YtdflndjlnkoliaaGreatDoor

import Derived.Test.YtdflndjlnkoliaaGreatDoorRaw
/- MY OWN ENGINE: the state of a walk; what an operation yields. -/
namespace Go.Proofs.YtdflndjlnkoliaaGreatDoor
set_option linter.all false
open Go.RowKit
def lk {α : Type 1} : List (Nat × α) → Nat → Option α
  | [], _ => none
  | (k, v) :: r, t => match Nat.beq k t with
    | true => some v
    | false => lk r t
theorem lk_mem {α : Type 1} : ∀ {l : List (Nat × α)} {t : Nat} {v : α}, lk l t = some v → (t, v) ∈ l
  | [], _, _, h => by simp [lk] at h
  | (k, u) :: r, t, v, h => by
    unfold lk at h
    split at h
    · rename_i hb
      have := Nat.eq_of_beq_eq_true hb
      subst this; cases h; simp
    · exact List.mem_cons_of_mem _ (lk_mem h)
structure Sig where
  A0 : Own
  M0 : Own
  w0 : World
  n : Nat
  s0 : Sg
  nn : Nat
  ds : List Nat
/-- the mark of a range over a function -/
abbrev mkD (D : Nat) : Deferred := { target := .collected D, args := #[] }
abbrev Sig.A (S : Sig) (σ : Sg) (objs : List Ob) : Own := fun b => S.A0 b ∨ owns σ objs b
abbrev Env := List (Nat × SV)
def Glob (P : Program) [TabC P] (w : World) (A : Own) : Prop := ∀ g ps, (g, ps) ∈ TabC.gl P → (SV.fpt ps).hc w A sg0 [.pointer (some ⟨g, 0, none⟩)] ∧ ∃ C T fr, w.heap[g]? = some (.cells C T fr) ∧ C.size = szL ps
theorem Glob.later {P : Program} [TabC P] {w w' : World} {A A' : Own} (h : Glob P w A) (hl : Later w A w' A') : Glob P w' A' := fun g ps hg => by
  obtain ⟨h1, C, T, fr, h2, h3⟩ := h g ps hg
  refine ⟨SV.hc.later hl _ _ _ h1, C, T, fr, ?_, h3⟩
  simp only [SV.hc] at h1
  obtain ⟨b, off, e, hb, _⟩ := h1
  simp only [List.cons.injEq, Value.pointer.injEq, Option.some.injEq, Addr.mk.injEq, and_true] at e
  obtain ⟨rfl, _⟩ := e
  exact ((hl.keep _ (Array.getElem?_eq_some_iff.1 h2).1 hb).1).trans h2
structure St (P : Program) [TabC P] (S : Sig) (σ : Sg) (env : Env) (objs : List Ob) (nx : Nat) (a : Act) (w : World) : Prop where
  slots : ∀ t s, lk env t = some s → s.hv w (S.A σ objs) σ (a.tmps.getD t undef)
  dom : ∀ k, nx ≤ k → σ k = none
  size : a.tmps.size = S.n
  defers : a.defers = S.ds.map mkD
  obs : Obs σ S.A0 objs w
  hist : Mod S.M0 S.w0 w
  own0 : ∀ b, owns σ objs b → S.M0 b ∨ S.w0.heap.size ≤ b
  a0 : ∀ b, S.A0 b → b < w.heap.size
  mks : ∀ D ∈ S.ds, S.A0 D ∧ w.heap[D]? = some (.deferred (some []))
  glob : Glob P w (S.A σ objs)
  base : ∀ k, k < S.nn → ∀ v, σ k = some v → S.s0 k = some v
  nnx : S.nn ≤ nx
section
variable {P : Program} [TabC P] {S : Sig} {σ : Sg} {env : Env} {objs : List Ob} {nx : Nat} {o : Oper}
/-- from every state that is so -/
def Pr (P : Program) [TabC P] (S : Sig) (env : Env) (objs : List Ob) (nx : Nat) (X : Act → World → Prop) : Prop := ∀ σ a w, St P S σ env objs nx a w → X a w
theorem St.a0lt {a : Act} {w : World} (h : St P S σ env objs nx a w) : ∀ b, S.A0 b → b < w.heap.size := h.a0
/-- what a constant is -/
def cst : Value → Option SV
  | .int .u8 (.ofNat n) => match Nat.blt n 256 with
    | true => some (.u8 (BitVec.ofNat 8 n))
    | false => none
  | .int .u16 (.ofNat n) => match Nat.blt n 65536 with
    | true => some (.u16 (BitVec.ofNat 16 n))
    | false => none
  | .int .u32 (.ofNat n) => match Nat.blt n 4294967296 with
    | true => some (.u32 (BitVec.ofNat 32 n))
    | false => none
  | .int .u64 (.ofNat n) => match Nat.blt n 18446744073709551616 with
    | true => some (.u64 (BitVec.ofNat 64 n))
    | false => none
  | .int .i64 n => match n with
    | .ofNat m => match Nat.blt m 9223372036854775808 with
      | true => some (.int .i64 n)
      | false => none
    | .negSucc m => match Nat.blt m 9223372036854775808 with
      | true => some (.int .i64 n)
      | false => none
  | .bool b => some (.bool b)
  | .string s => some (.str (s.data.toList.map (·.toBitVec)))
  | .pointer none => some .nilp
  | .slice none 0 0 => some .nils
  | .map none => some .nilm
  | .nilFunc => some .nilf
  | .func (.func f) ⟨[]⟩ ⟨[]⟩ => some (.fn f)
  | .nilIface => some (.val .nilIface)
  | _ => none
theorem baOf_toList (s : ByteArray) : baOf (s.data.toList.map (·.toBitVec)) = s := by
  apply ByteArray.ext
  have : (UInt8.ofBitVec ∘ fun x : UInt8 => x.toBitVec) = id := by funext x; rfl
  simp [baOf, this]
theorem cst_spec {v : Value} {s : SV} (h : cst v = some s) (w : World) (A : Own) (σ : Sg) : s.hv w A σ v := by
  have key : ∀ {n m : Nat}, Nat.blt n m = true → n < m := fun h => by simpa [Nat.blt_eq] using h
  unfold cst at h
  split at h
  · split at h <;> cases h
    rename_i hn; have := key hn
    simp [SV.hv, SV.h1, SV.hc, Nat.mod_eq_of_lt this]
  · split at h <;> cases h
    rename_i hn; have := key hn
    simp [SV.hv, SV.h1, SV.hc, Nat.mod_eq_of_lt this]
  · split at h <;> cases h
    rename_i hn; have := key hn
    simp [SV.hv, SV.h1, SV.hc, Nat.mod_eq_of_lt this]
  · split at h <;> cases h
    rename_i hn; have := key hn
    simp [SV.hv, SV.h1, SV.hc, Nat.mod_eq_of_lt this]
  · split at h
    · split at h <;> cases h
      rename_i hm; have := key hm
      simp only [SV.hv, SV.h1, SV.hc, true_and, inR, Int.ofNat_eq_natCast]
      exact fun _ => ⟨by omega, by omega⟩
    · split at h <;> cases h
      rename_i hm; have := key hm
      simp only [SV.hv, SV.h1, SV.hc, true_and]
      exact fun _ => ⟨by omega, by omega⟩
  · cases h; simp [SV.hv, SV.h1, SV.hc]
  · cases h; simp [SV.hv, SV.h1, SV.hc, baOf_toList]
  · cases h; simp [SV.hv, SV.h1, SV.hc]
  · cases h; simp [SV.hv, SV.h1, SV.hc]
  · cases h; simp [SV.hv, SV.h1, SV.hc]
  · cases h; simp [SV.hv, SV.h1, SV.hc]
  · cases h; simp [SV.hv, SV.h1, SV.hc]
  · cases h; simp [SV.hv, SV.h1, SV.hc, Value.oneCell']
  · cases h
variable (P) in
def evx (env : Env) : Operand → Option SV
  | .tmp t => lk env t
  | .const v => cst v
  | .global g => match lk (TabC.gl P) g with
    | some ps => some (.fpt ps)
    | none => none
  | .func f => some (.fn f)
theorem St.ev {a : Act} {w : World} (h : St P S σ env objs nx a w) {x : Operand} {s : SV} (hx : evx P env x = some s) : s.hv w (S.A σ objs) σ (a.eval x) := by
  cases x with
  | tmp t => exact h.slots t s hx
  | const v => exact cst_spec hx _ _ _
  | global g =>
    simp only [evx] at hx
    split at hx
    · rename_i ps hp
      cases hx
      exact (h.glob g ps (lk_mem hp)).1
    · cases hx
  | func f => simp only [evx, Option.some.injEq] at hx; subst hx; simp [SV.hv, SV.h1, SV.hc, Act.eval]
theorem St.put {a : Act} {w : World} (h : St P S σ env objs nx a w) {d : Nat} {s : SV} {v : Value} (hd : d < S.n) (hv : s.hv w (S.A σ objs) σ v) :
    St P S σ ((d, s) :: env) objs nx (a.put (some d) v) w :=
  { slots := fun t u hu => by
      unfold lk at hu
      split at hu
      · rename_i hb
        have : d = t := Nat.eq_of_beq_eq_true hb
        subst this; cases hu
        have : d < a.tmps.size := by rw [h.size]; exact hd
        simpa [Act.put, this] using hv
      · rename_i hb
        have hne : d ≠ t := fun e => by rw [e, Nat.beq_refl] at hb; cases hb
        have := h.slots t u hu
        simp only [Act.put, Array.getD_eq_getD_getElem?] at this ⊢
        rw [Array.getElem?_setIfInBounds_ne hne]; exact this
    dom := h.dom, size := by simpa [Act.put] using h.size, defers := h.defers, obs := h.obs, hist := h.hist, own0 := h.own0, a0 := h.a0, mks := h.mks, glob := h.glob, base := h.base, nnx := h.nnx }
theorem St.reenv {env' : Env} {a a' : Act} {w : World} (h : St P S σ env objs nx a w) (h' : ∀ t s, lk env' t = some s → s.hv w (S.A σ objs) σ (a'.tmps.getD t undef)) (hs : a'.tmps.size = S.n) (hd : a'.defers = S.ds.map mkD) : St P S σ env' objs nx a' w :=
  { slots := h', dom := h.dom, size := hs, defers := hd, obs := h.obs, hist := h.hist, own0 := h.own0, a0 := h.a0, mks := h.mks, glob := h.glob, base := h.base, nnx := h.nnx }
/-- the state behind a step that turns own blocks alone -/
theorem St.upd {M : Own} {objs' : List Ob} {a : Act} {w w' : World} (h : St P S σ env objs nx a w) (hm : Mod M w w') (hM : ∀ b, M b → owns σ objs b)
    (ho : ∀ b, owns σ objs' b → owns σ objs b ∨ w.heap.size ≤ b) (hobs : Obs σ S.A0 objs' w') : St P S σ env objs' nx a w' :=
  have hl : Later w (S.A σ objs) w' (S.A σ objs') := hm.later (fun b hb => .inr (hM b hb)) (fun b hb hx => hx.imp id fun hx => (ho b hx).resolve_right (by omega))
  { slots := fun t s hs => (h.slots t s hs).later hl, dom := h.dom, size := h.size, defers := h.defers, obs := hobs
    hist := h.hist.step hm fun b hb => h.own0 b (hM b hb)
    own0 := fun b hb => (ho b hb).elim (h.own0 b) (fun x => .inr (Nat.le_trans h.hist.size x))
    a0 := fun b hb => Nat.lt_of_lt_of_le (h.a0 b hb) hm.size
    mks := fun D hD => ⟨(h.mks D hD).1, (hm.block D (h.a0 D (h.mks D hD).1) fun hM' => (h.obs.lt D (hM D hM')).2 (h.mks D hD).1).trans (h.mks D hD).2⟩
    glob := h.glob.later hl, base := h.base, nnx := h.nnx }
theorem St.lat {M : Own} {objs' : List Ob} {a : Act} {w w' : World} (_h : St P S σ env objs nx a w) (hm : Mod M w w') (hM : ∀ b, M b → owns σ objs b)
    (ho : ∀ b, owns σ objs' b → owns σ objs b ∨ w.heap.size ≤ b) : Later w (S.A σ objs) w' (S.A σ objs') :=
  hm.later (fun b hb => .inr (hM b hb)) (fun b hb hx => hx.imp id fun hx => (ho b hx).resolve_right (by omega))
theorem St.drewW {a : Act} {w : World} (h : St P S σ env objs nx a w) : St P S σ env objs nx a w.drew := by
  refine h.upd (M := fun _ => False) (Mod.drew _ w) (fun _ x => x.elim) (fun b hb => .inl hb) ?_
  exact ⟨fun o ho => (h.obs.holds o ho).later ((Mod.drew (fun _ => False) w).later (fun _ x => x.elim) (fun _ _ x => x)) (fun _ _ => rfl), h.obs.disj, h.obs.lt⟩
/-- more names -/
theorem St.names {σ' : Sg} {nx' : Nat} {a : Act} {w : World} (h : St P S σ env objs nx a w) (hs : Sg.le σ σ') (hd : ∀ k, nx' ≤ k → σ' k = none) (hb : ∀ k, k < S.nn → ∀ v, σ' k = some v → S.s0 k = some v) (hn : S.nn ≤ nx') : St P S σ' env objs nx' a w :=
  have hA : ∀ b, owns σ' objs b ↔ owns σ objs b := owns_names hs h.obs.holds
  have hl : Later w (S.A σ objs) w (S.A σ' objs) := Later.own fun b hx => hx.imp id (hA b).1
  { slots := fun t s ht => ((h.slots t s ht).later hl).names hs, dom := hd, size := h.size, defers := h.defers, obs := h.obs.names hs, hist := h.hist
    own0 := fun b hb => h.own0 b ((hA b).1 hb), a0 := h.a0, mks := h.mks, glob := h.glob.later hl, base := hb, nnx := hn }
theorem St.name {a : Act} {w : World} (h : St P S σ env objs nx a w) (v : Value) : St P S (σ.set nx v) env objs (nx + 1) a w :=
  h.names (Sg.le_set (h.dom nx (Nat.le_refl _))) (fun k hk => by
    unfold Sg.set
    rw [if_neg (by omega)]
    exact h.dom k (by omega)) (fun k hk u hu => by
    have := h.nnx
    unfold Sg.set at hu
    rw [if_neg (by omega)] at hu
    exact h.base k hk u hu) (by have := h.nnx; omega)
theorem St.nx_le {nx' : Nat} {a : Act} {w : World} (h : St P S σ env objs nx a w) (hn : nx ≤ nx') : St P S σ env objs nx' a w :=
  { h with dom := fun k hk => h.dom k (Nat.le_trans hn hk), nnx := Nat.le_trans h.nnx hn }

/-! ## the conditions' form -/
structure Side (p K : Prop) : Prop where
  h : p
  k : K
structure Fork (p K1 K2 : Prop) : Prop where
  t : p → K1
  f : ¬ p → K2
/-- a value, told by its form -/
def frc (v : SV) (K : SV → Prop) : Prop := match v with
  | .bool b => K (.bool b)
  | .dec p i => K (.dec p i)
  | .int k n => K (.int k n)
  | .u8 x => K (.u8 x)
  | .u16 x => K (.u16 x)
  | .u32 x => K (.u32 x)
  | .u64 x => K (.u64 x)
  | .str s => K (.str s)
  | .nilp => K .nilp
  | .nils => K .nils
  | .ptr o off => K (.ptr o off)
  | .own o => K (.own o)
  | .rptr o q z off => K (.rptr o q z off)
  | .cptr o off q => K (.cptr o off q)
  | .bsl o off lo hi => K (.bsl o off lo hi)
  | .fs z e xs => K (.fs z e xs)
  | .fpt ps => K (.fpt ps)
  | .fn f => K (.fn f)
  | .nilf => K .nilf
  | .nilm => K .nilm
  | .val v => K (.val v)
  | .arr8 x => K (.arr8 x)
  | .arr32 x => K (.arr32 x)
  | .arrG z e xs => K (.arrG z e xs)
  | .agg ps => K (.agg ps)
  | .tup vs => K (.tup vs)
  | .undef => K .undef
theorem frc_k {v : SV} {K : SV → Prop} (h : frc v K) : K v := by cases v <;> exact h
/-- a list of parts, told by its form -/
def frcL : List SV → (List SV → Prop) → Prop
  | [], K => K []
  | s :: r, K => frc s fun s => frcL r fun r => K (s :: r)
theorem frcL_k : ∀ {l : List SV} {K : List SV → Prop}, frcL l K → K l
  | [], K, h => h
  | s :: r, K, h => frcL_k (l := r) (K := fun r => K (s :: r)) (frc_k (K := fun s => frcL r fun r => K (s :: r)) h)
def frcLL : List (List SV) → (List (List SV) → Prop) → Prop
  | [], K => K []
  | s :: r, K => frcL s fun s => frcLL r fun r => K (s :: r)
theorem frcLL_k : ∀ {l : List (List SV)} {K : List (List SV) → Prop}, frcLL l K → K l
  | [], K, h => h
  | s :: r, K, h => frcLL_k (l := r) (frcL_k (K := fun s => frcLL r fun r => K (s :: r)) h)
/-- a value and its parts -/
def frcA (v : SV) (K : SV → Prop) : Prop := match v with
  | .agg ps => frcL ps fun ps => K (.agg ps)
  | .fpt ps => frcL ps fun ps => K (.fpt ps)
  | v => frc v K
theorem frcA_k {v : SV} {K : SV → Prop} (h : frcA v K) : K v := by
  unfold frcA at h
  split at h
  · exact frcL_k (K := fun ps => K (.agg ps)) h
  · exact frcL_k (K := fun ps => K (.fpt ps)) h
  · exact frc_k h
theorem frcL_mono {l : List SV} {K K' : List SV → Prop} (h : frcL l K) (hk : ∀ l, K l → K' l) : K' l := hk _ (frcL_k h)

/-! ## what an operation yields -/
variable (P) in
/-- it yields, in whatever world, a value of which K holds -/
def PureK (S : Sig) (env : Env) (objs : List Ob) (nx : Nat) (o : Oper) (K : SV → Prop) : Prop :=
  ∀ σ a w, St P S σ env objs nx a w → ∃ s v, K s ∧ s.hv w (S.A σ objs) σ v ∧ ∀ w', (execOp a.eval o).run P w' = .ok (.value v) w'
variable (P) in
/-- it yields, in whatever world that keeps what stands, a value of which K holds -/
def LoadK (S : Sig) (env : Env) (objs : List Ob) (nx : Nat) (o : Oper) (K : SV → Prop) : Prop :=
  ∀ σ a w, St P S σ env objs nx a w → ∃ s v, K s ∧ s.hv w (S.A σ objs) σ v ∧ ∀ w', Kept w w' → (execOp a.eval o).run P w' = .ok (.value v) w'
theorem PureK.load {K : SV → Prop} (h : PureK P S env objs nx o K) : LoadK P S env objs nx o K := fun σ a w hst => by
  obtain ⟨s, v, h1, h2, h3⟩ := h σ a w hst
  exact ⟨s, v, h1, h2, fun w' _ => h3 w'⟩
theorem PureK.mk {s : SV} {K : SV → Prop} (hk : K s) (h : ∀ σ a w, St P S σ env objs nx a w → ∃ v, s.hv w (S.A σ objs) σ v ∧ ∀ w', (execOp a.eval o).run P w' = .ok (.value v) w') : PureK P S env objs nx o K := fun σ a w hst => by
  obtain ⟨v, h1, h2⟩ := h σ a w hst
  exact ⟨s, v, hk, h1, h2⟩
theorem PureK.fork {p : Prop} {K1 K2 K : SV → Prop} (h1 : p → PureK P S env objs nx o K) (h2 : ¬ p → PureK P S env objs nx o K) : PureK P S env objs nx o K := by
  by_cases hp : p
  · exact h1 hp
  · exact h2 hp
end
end Go.Proofs.YtdflndjlnkoliaaGreatDoor

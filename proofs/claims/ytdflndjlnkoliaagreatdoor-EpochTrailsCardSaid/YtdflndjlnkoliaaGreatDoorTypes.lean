import Derived.Test.YtdflndjlnkoliaaGreatDoorState
import Derived.Laws.StructEq
/- MY OWN ENGINE: the types' table. -/
namespace Go.Proofs.YtdflndjlnkoliaaGreatDoor
set_option linter.all false
open Go.RowKit

/-! ## the types' table -/
inductive TK where
  | bool | int (k : IntKind) | str | ptr (e : Nat) | sl (e : Nat) | st (fs : List (Nat × Nat)) | ar (n e : Nat) | map (k e : Nat) | oth
structure TI where
  k : TK
  size : Nat
  bytes : Nat
def TI.row (i : TI) : Bool := match i.k with
  | .st _ => true
  | .ar _ _ => true
  | _ => false
def nth {α : Type} : List α → Nat → Option α
  | [], _ => none
  | a :: _, 0 => some a
  | _ :: l, i + 1 => nth l i
theorem nth_eq {α : Type} : ∀ (l : List α) (i : Nat), nth l i = l[i]?
  | [], _ => by simp [nth]
  | _ :: _, 0 => by simp [nth]
  | _ :: l, i + 1 => by simp [nth, nth_eq l i]
def tkB : TK → TypeDesc → Bool
  | .bool, .bool => true
  | .int k, .int k' => decide (k = k')
  | .str, .string => true
  | .ptr e, .pointer e' => decide (e = e')
  | .sl e, .slice e' => decide (e = e')
  | .st fs, .struct gs => decide (gs.toList.map (fun f => (f.offset, f.type)) = fs)
  | .ar n e, .array n' e' => decide (n = n') && decide (e = e')
  | .map k e, .map k' e' => decide (k = k') && decide (e = e')
  | .oth, .struct _ => false
  | .oth, .array _ _ => false
  | .oth, _ => true
  | _, _ => false
def tiB (P : Program) (t : Nat) (i : TI) : Bool :=
  match P.info? t, P.underlying t with
  | some inf, some d => decide (inf.size = i.size) && decide (inf.bytes = i.bytes) && tkB i.k d && (match d with | .struct gs => gs.toList.all (fun f => (P.info? f.type).isSome) | .array _ e => (P.info? e).isSome | _ => true)
  | _, _ => false
def tabB (P : Program) (tab : List TI) : Bool := (List.range tab.length).all fun t => match nth tab t with | some i => tiB P t i | none => false


/-- joined, part by part, so that nothing of it waits to be reckoned -/
def app2 {α : Type 1} : List α → List α → Option (List α)
  | [], b => some b
  | c :: r, b => match app2 r b with
    | some x => some (c :: x)
    | none => none
theorem app2_eq {α : Type 1} : ∀ {a b c : List α}, app2 a b = some c → c = a ++ b
  | [], b, c, h => by simp [app2] at h; exact h.symm
  | x :: r, b, c, h => by
    unfold app2 at h
    split at h
    · rename_i y hy
      simp only [Option.some.injEq] at h
      rw [← h, app2_eq hy]; rfl
    · cases h
def zeroFs (f : Nat → Option (List SV)) : List Nat → Option (List SV)
  | [] => some []
  | e :: r => match f e, zeroFs f r with
    | some a, some b => app2 a b
    | _, _ => none
def zeroOf (tab : List TI) : Nat → Nat → Option (List SV)
  | 0, _ => none
  | fuel + 1, t => match nth tab t with
    | none => none
    | some i => match i.k with
      | .bool => some [.bool false]
      | .int .u8 => some [.u8 0#8]
      | .int .u16 => some [.u16 0#16]
      | .int .u32 => some [.u32 0#32]
      | .int .u64 => some [.u64 0#64]
      | .int k => some [.int k 0]
      | .str => some [.str []]
      | .ptr _ => some [.nilp]
      | .sl _ => some [.nils]
      | .map _ _ => some [.nilm]
      | .st fs => zeroFs (zeroOf tab fuel) (fs.map (·.2))
      | .ar n e => match nth tab e with
        | some ie => match ie.k with
          | .int .u8 => some [.arr8 (Vector.replicate n 0#8)]
          | .int .u32 => some [.arr32 (Vector.replicate n 0#32)]
          | _ => zeroFs (zeroOf tab fuel) (List.replicate n e)
        | none => none
      | .oth => none
def beqV : Value → Value → Bool
  | .bool a, .bool b => a == b
  | .int k a, .int k' b => decide (k = k') && decide (a = b)
  | .string a, .string b => decide (a.data = b.data)
  | .pointer none, .pointer none => true
  | .slice none n c, .slice none n' c' => decide (n = n') && decide (c = c')
  | .map none, .map none => true
  | _, _ => false
theorem beqV_eq {a b : Value} (h : beqV a b = true) : a = b := by
  unfold beqV at h
  split at h <;> simp_all
  exact ByteArray.ext h
def beqL : List Value → List Value → Bool
  | [], [] => true
  | a :: r, b :: s => beqV a b && beqL r s
  | _, _ => false
theorem beqL_eq : ∀ {l m : List Value}, beqL l m = true → l = m
  | [], [], _ => rfl
  | a :: r, b :: s, h => by
    simp only [beqL, Bool.and_eq_true] at h
    rw [beqV_eq h.1, beqL_eq h.2]
  | [], _ :: _, h => by simp [beqL] at h
  | _ :: _, [], h => by simp [beqL] at h
/-- the cells of what is known whole -/
def SV.lit : SV → Option (List Value)
  | .bool b => some [.bool b]
  | .int k (.ofNat 0) => some [.int k 0]
  | .u8 x => some [bV .u8 x]
  | .u16 x => some [bV .u16 x]
  | .u32 x => some [bV .u32 x]
  | .u64 x => some [bV .u64 x]
  | .str s => some [.string (baOf s)]
  | .nilp => some [.pointer none]
  | .nils => some [.slice none 0 0]
  | .nilm => some [.map none]
  | .arr8 x => some (x.toList.map (bV .u8))
  | .arr32 x => some (x.toList.map (bV .u32))
  | _ => none
def litL : List SV → Option (List Value)
  | [] => some []
  | s :: r => match s.lit, litL r with
    | some a, some b => some (a ++ b)
    | _, _ => none
theorem SV.lit_hc {s : SV} {cs : List Value} (h : s.lit = some cs) (w : World) (A : Own) (σ : Sg) : s.hc w A σ cs := by
  unfold SV.lit at h
  split at h <;> simp only [Option.some.injEq, reduceCtorEq] at h <;> subst h <;> simp only [SV.hc]
  exact ⟨rfl, fun _ => ⟨by decide, by decide⟩⟩
theorem litL_hL : ∀ {l : List SV} {cs : List Value}, litL l = some cs → ∀ (w : World) (A : Own) (σ : Sg), hL w A l σ cs
  | [], cs, h, w, A, σ => by simp only [litL, Option.some.injEq] at h; subst h; simp only [hL]
  | s :: r, cs, h, w, A, σ => by
    unfold litL at h
    split at h
    · rename_i a b ha hb
      simp only [Option.some.injEq] at h; subst h
      simp only [hL]
      exact ⟨a, b, rfl, SV.lit_hc ha w A σ, litL_hL hb w A σ⟩
    · cases h
def zB (P : Program) (tab : List TI) : Bool := (List.range tab.length).all fun t => match zeroOf tab 9 t with
  | some c => match (P.info? t).bind (·.zero), litL c with
    | some z, some l => beqL z.cells.toList l && ((P.info? t).map (·.size) == some (szL c))
    | _, _ => false
  | none => true
def callB (P : Program) (f : Nat) : Bool := match P.funcs[f]? with
  | some fn => !(fn.name == "runtime.NumGoroutine") && fn.body.isSome
  | none => false
def callsB (P : Program) (l : List Bool) : Bool := (List.range l.length).all fun f => match nth l f with
  | some true => callB P f
  | _ => true
/-- what is asked of a type whose values are held against one another -/
def eqOkB (P : Program) (t : Nat) : Bool := !P.stoodInHeld t && (P.fieldsOf t).toList.all (fun f => decide (f.name ≠ "_")) && !P.eqGuardType P.depth t
class TabC (P : Program) where
  cl : List Bool
  clok : callsB P cl = true
  tab : List TI
  ok : tabB P tab = true
  zok : zB P tab = true
  mix : P.follows .mixedOrders = true
  gl : List (Nat × List SV)
  eqs : List Nat
  eqok : eqs.all (eqOkB P) = true

section
variable {P : Program} [TabC P]
abbrev ty (P : Program) [TabC P] (t : Nat) : Option TI := nth (TabC.tab P) t
theorem ty_spec {t : Nat} {i : TI} (h : ty P t = some i) : ∃ inf d, P.info? t = some inf ∧ P.underlying t = some d ∧ inf.size = i.size ∧ inf.bytes = i.bytes ∧ tkB i.k d = true ∧ (match d with | .struct gs => gs.toList.all (fun f => (P.info? f.type).isSome) | .array _ e => (P.info? e).isSome | _ => true) = true := by
  have hl : t < (TabC.tab P).length := by
    rw [ty, nth_eq] at h; exact (List.getElem?_eq_some_iff.1 h).1
  have h1 := List.all_eq_true.1 (TabC.ok (P := P)) t (by simpa using hl)
  unfold ty at h
  simp only [h, tiB] at h1
  split at h1
  · rename_i inf d hi hd
    simp only [Bool.and_eq_true, decide_eq_true_eq] at h1
    exact ⟨inf, d, hi, hd, h1.1.1.1, h1.1.1.2, h1.1.2, h1.2⟩
  · cases h1
theorem zero_spec {t : Nat} {c : List SV} (h : zeroOf (TabC.tab P) 9 t = some c) : ∃ inf z, P.info? t = some inf ∧ inf.zero = some z ∧ inf.size = szL c ∧ ∀ (w : World) (A : Own) (σ : Sg), hL w A c σ z.cells.toList := by
  have hl : t < (TabC.tab P).length := by
    unfold zeroOf at h
    split at h
    · cases h
    · rename_i i hi
      rw [nth_eq] at hi; exact (List.getElem?_eq_some_iff.1 hi).1
  have h1 := List.all_eq_true.1 (TabC.zok (P := P)) t (by simpa using hl)
  simp only [h] at h1
  split at h1
  · rename_i z l hz hl2
    cases hi : P.info? t with
    | none => simp [hi] at hz
    | some inf =>
      simp only [hi, Option.bind_some] at hz
      simp only [hi, Option.map_some, Bool.and_eq_true, beq_iff_eq, Option.some.injEq] at h1
      exact ⟨inf, z, rfl, hz, h1.2, fun w A σ => by rw [beqL_eq h1.1]; exact litL_hL hl2 w A σ⟩
  · cases h1
theorem call_spec {f : Nat} (h : nth (TabC.cl P) f = some true) : ∃ fn, P.funcs[f]? = some fn ∧ (fn.name == "runtime.NumGoroutine") = false ∧ fn.body.isSome = true := by
  have hl : f < (TabC.cl P).length := by
    rw [nth_eq] at h; exact (List.getElem?_eq_some_iff.1 h).1
  have h1 := List.all_eq_true.1 (TabC.clok (P := P)) f (by simpa using hl)
  simp only [h, callB] at h1
  split at h1
  · rename_i fn hf
    simp only [Bool.and_eq_true, Bool.not_eq_true'] at h1
    exact ⟨fn, hf, h1.1, h1.2⟩
  · cases h1
theorem ty_struct {t : Nat} {i : TI} {fs : List (Nat × Nat)} (h : ty P t = some i) (hk : i.k = .st fs) : ∃ gs, P.underlying t = some (.struct gs) ∧ gs.toList.map (fun f => (f.offset, f.type)) = fs := by
  obtain ⟨inf, d, _, hd, _, _, hb, _⟩ := ty_spec h
  rw [hk] at hb
  cases d <;> simp [tkB] at hb
  exact ⟨_, hd, hb⟩
theorem ty_array {t : Nat} {i : TI} {n e : Nat} (h : ty P t = some i) (hk : i.k = .ar n e) : P.underlying t = some (.array n e) := by
  obtain ⟨inf, d, _, hd, _, _, hb, _⟩ := ty_spec h
  rw [hk] at hb
  cases d <;> simp [tkB] at hb
  obtain ⟨rfl, rfl⟩ := hb; exact hd
theorem ty_slice {t : Nat} {i : TI} {e : Nat} (h : ty P t = some i) (hk : i.k = .sl e) : P.underlying t = some (.slice e) := by
  obtain ⟨inf, d, _, hd, _, _, hb, _⟩ := ty_spec h
  rw [hk] at hb
  cases d <;> simp [tkB] at hb
  subst hb; exact hd
theorem ty_int {t : Nat} {i : TI} {k : IntKind} (h : ty P t = some i) (hk : i.k = .int k) : P.underlying t = some (.int k) := by
  obtain ⟨inf, d, _, hd, _, _, hb, _⟩ := ty_spec h
  rw [hk] at hb
  cases d <;> simp [tkB] at hb
  subst hb; exact hd
theorem ty_str {t : Nat} {i : TI} (h : ty P t = some i) (hk : i.k = .str) : P.underlying t = some .string := by
  obtain ⟨inf, d, _, hd, _, _, hb, _⟩ := ty_spec h
  rw [hk] at hb
  cases d <;> simp [tkB] at hb
  exact hd
theorem ty_ptr {t : Nat} {i : TI} {e : Nat} (h : ty P t = some i) (hk : i.k = .ptr e) : P.underlying t = some (.pointer e) := by
  obtain ⟨inf, d, _, hd, _, _, hb, _⟩ := ty_spec h
  rw [hk] at hb
  cases d <;> simp [tkB] at hb
  subst hb; exact hd
theorem ty_row {t : Nat} {i : TI} (h : ty P t = some i) : ∃ d, P.underlying t = some d ∧ (match d with | .struct _ | .array _ _ => true | _ => false) = i.row := by
  obtain ⟨inf, d, _, hd, _, _, hb, _⟩ := ty_spec h
  refine ⟨d, hd, ?_⟩
  obtain ⟨k, s, b⟩ := i
  cases k <;> cases d <;> simp [tkB] at hb <;> rfl
theorem run_sizeOf' {t : Nat} {i : TI} (h : ty P t = some i) (w : World) : (sizeOf t).run P w = .ok i.size w := by
  obtain ⟨inf, d, hi, _, hs, _, _, _⟩ := ty_spec h
  simp [sizeOf, typeInfo, hi, hs]
theorem run_isAgg' {t : Nat} {i : TI} (h : ty P t = some i) (w : World) : (isAgg t).run P w = .ok i.row w := by
  obtain ⟨d, hd, hr⟩ := ty_row h
  rw [← hr]
  simp only [isAgg, Sem.run_bind, run_underlying hd, Result.andThen_ok]
  cases d <;> rfl

end
end Go.Proofs.YtdflndjlnkoliaaGreatDoor

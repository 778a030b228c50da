import Derived.WalkKit
import Derived.Laws.OwnMore
import Derived.Laws.AppendOwnNone
import Derived.Lib.Hide
import Derived.Test.YtdflndjlnkoliaaGreatDoorAny
/-
  MY OWN ENGINE, second state. What a slot holds is said by a symbolic value (SV): integers and flags as Lean's, slices that nobody writes by their content, what is the walk's own by a name.
-/
namespace Go.Proofs.YtdflndjlnkoliaaGreatDoor
set_option linter.all false
open Go.RowKit
abbrev Own := Nat → Prop
abbrev Sg := Nat → Option Value
abbrev sg0 : Sg := fun _ => none

/-- what was not own stands as it was, and is not own -/
structure Later (w : World) (A : Own) (w' : World) (A' : Own) : Prop where
  size : w.heap.size ≤ w'.heap.size
  keep : ∀ b, b < w.heap.size → ¬ A b → w'.heap[b]? = w.heap[b]? ∧ ¬ A' b
theorem Later.refl (w : World) (A : Own) : Later w A w A := ⟨Nat.le_refl _, fun _ _ h => ⟨rfl, h⟩⟩
theorem Later.trans {w w' w'' : World} {A A' A'' : Own} (h : Later w A w' A') (k : Later w' A' w'' A'') : Later w A w'' A'' :=
  ⟨Nat.le_trans h.size k.size, fun b hb hA => ⟨((k.keep b (Nat.lt_of_lt_of_le hb h.size) (h.keep b hb hA).2).1).trans (h.keep b hb hA).1, (k.keep b (Nat.lt_of_lt_of_le hb h.size) (h.keep b hb hA).2).2⟩⟩
theorem Later.own {w : World} {A A' : Own} (h : ∀ b, A' b → A b) : Later w A w A' := ⟨Nat.le_refl _, fun b _ hb => ⟨rfl, fun hx => hb (h b hx)⟩⟩

/-- w' is w with new blocks, and only blocks in M turned -/
structure Mod (M : Own) (w w' : World) : Prop where
  os : w'.os = w.os
  tape : w'.tape = w.tape
  output : w'.output = w.output
  size : w.heap.size ≤ w'.heap.size
  block : ∀ k, k < w.heap.size → ¬ M k → w'.heap[k]? = w.heap[k]?
theorem Mod.refl (M : Own) (w : World) : Mod M w w := ⟨rfl, rfl, rfl, Nat.le_refl _, fun _ _ _ => rfl⟩
theorem Mod.trans {M : Own} {a b c : World} (h : Mod M a b) (k : Mod M b c) : Mod M a c :=
  ⟨k.os.trans h.os, k.tape.trans h.tape, k.output.trans h.output, Nat.le_trans h.size k.size, fun i hi hm => (k.block i (Nat.lt_of_lt_of_le hi h.size) hm).trans (h.block i hi hm)⟩
/-- nothing that stood has turned -/
abbrev Kept (w w' : World) : Prop := Mod (fun _ => False) w w'
theorem Mod.mono {M M' : Own} {w w' : World} (h : Mod M w w') (hM : ∀ b, M b → M' b) : Mod M' w w' := ⟨h.os, h.tape, h.output, h.size, fun k hk hm => h.block k hk (fun x => hm (hM k x))⟩
/-- a step behind: what it turns is in M, or new since a -/
theorem Mod.step {M M' : Own} {a b c : World} (h : Mod M a b) (k : Mod M' b c) (hM : ∀ i, M' i → M i ∨ a.heap.size ≤ i) : Mod M a c :=
  ⟨k.os.trans h.os, k.tape.trans h.tape, k.output.trans h.output, Nat.le_trans h.size k.size, fun i hi hm =>
    (k.block i (Nat.lt_of_lt_of_le hi h.size) (fun x => (hM i x).elim hm (fun y => absurd hi (by omega)))).trans (h.block i hi hm)⟩
theorem Mod.drew (M : Own) (w : World) : Mod M w w.drew := ⟨rfl, rfl, rfl, Nat.le_refl _, fun _ _ _ => rfl⟩
theorem Mod.alloc (M : Own) (w : World) (o : Obj) : Mod M w (w.alloc o) := ⟨rfl, rfl, rfl, by simp, fun k hk _ => Below.heap_alloc _ _ _ hk⟩
theorem Mod.grown {w w' : World} {row : Option Nat} (h : w.grownBy w' row) : Mod (fun b => row = some b) w w' :=
  ⟨h.os, h.tape, h.output, h.size, fun k hk hm => h.block k hk (fun e => hm e.symm)⟩
theorem Mod.setRow (w : World) (g : Nat) (C : Array Value) : Mod (fun x => x = g) w (w.setRow g C) :=
  ⟨rfl, rfl, rfl, by simp, fun k _ hk => setRow_other w g k C hk⟩
theorem Kept.mod {w w' : World} (h : Kept w w') (M : Own) : Mod M w w' := h.mono (fun _ x => x.elim)
theorem Kept.later {w w' : World} (h : Kept w w') (A : Own) {A' : Own} (hA : ∀ b, b < w.heap.size → A' b → A b) : Later w A w' A' :=
  ⟨h.size, fun b hb hn => ⟨h.block b hb (fun x => x), fun h' => hn (hA b hb h')⟩⟩
theorem Mod.later {M : Own} {w w' : World} (h : Mod M w w') {A A' : Own} (hM : ∀ b, M b → A b) (hA : ∀ b, b < w.heap.size → A' b → A b) : Later w A w' A' :=
  ⟨h.size, fun b hb hn => ⟨h.block b hb (fun x => hn (hM b x)), fun h' => hn (hA b hb h')⟩⟩

/-! ## symbolic values -/
inductive SV : Type 1
  | bool (b : Bool)
  | dec (p : Prop) (i : Decidable p)
  | int (k : IntKind) (n : Int)
  | u8 (x : BitVec 8)
  | u16 (x : BitVec 16)
  | u32 (x : BitVec 32)
  | u64 (x : BitVec 64)
  | str (s : List (BitVec 8))
  | nilp
  | nils
  | ptr (o off : Nat)
  | own (o : Nat)
  | rptr (o q z off : Nat)
  | cptr (o off q : Nat)
  | bsl (o off lo hi : Nat)
  | fs (z : Nat) {α : Type} (enc : α → List SV) (xs : List α)
  | fpt (ps : List SV)
  | fn (f : Nat)
  | nilf
  | nilm
  | val (v : Value)
  | arr8 {n : Nat} (x : Vector (BitVec 8) n)
  | arr32 {n : Nat} (x : Vector (BitVec 32) n)
  | arrG (z : Nat) {α : Type} (enc : α → List SV) (xs : List α)
  | agg (ps : List SV)
  | tup (vs : List SV)
  | undef

/-- fits an int -/
def inR (n : Int) : Prop := -9223372036854775808 ≤ n ∧ n < 9223372036854775808
/-- an integer without a sign -/
abbrev bV (k : IntKind) {w : Nat} (x : BitVec w) : Value := .int k (x.toNat : Int)
def baOf (l : List (BitVec 8)) : ByteArray := ⟨(l.map UInt8.ofBitVec).toArray⟩
/-- how many cells -/
def SV.sz : SV → Nat
  | @SV.arr8 n _ => n
  | @SV.arr32 n _ => n
  | .arrG z _ xs => xs.length * z
  | _ => 1
def szL : List SV → Nat
  | [] => 0
  | s :: r => s.sz + szL r
mutual
/-- what cells a symbolic value stands for -/
def SV.hc (w : World) (A : Own) : SV → Sg → List Value → Prop
  | .bool b, _, cs => cs = [.bool b]
  | .dec p i, _, cs => cs = [.bool (@decide p i)]
  | .int k n, _, cs => cs = [.int k n] ∧ (k = .i64 → inR n)
  | .u8 x, _, cs => cs = [bV .u8 x]
  | .u16 x, _, cs => cs = [bV .u16 x]
  | .u32 x, _, cs => cs = [bV .u32 x]
  | .u64 x, _, cs => cs = [bV .u64 x]
  | .str s, _, cs => cs = [.string (baOf s)]
  | .nilp, _, cs => cs = [.pointer none]
  | .nils, _, cs => cs = [.slice none 0 0]
  | .ptr o off, σ, cs => ∃ b c, σ o = some (.pointer (some ⟨b, c, none⟩)) ∧ cs = [.pointer (some ⟨b, c + off, none⟩)]
  | .own o, σ, cs => ∃ v, σ o = some v ∧ v.oneCell' = true ∧ cs = [v]
  | .rptr o q z off, σ, cs => ∃ g l c, σ o = some (.slice (some ⟨g, 0, none⟩) l c) ∧ cs = [.pointer (some ⟨g, q * z + off, none⟩)]
  | .cptr o off q, σ, cs => ∃ b c, σ o = some (.pointer (some ⟨b, c, none⟩)) ∧ cs = [.pointer (some ⟨b, c + off + q, none⟩)]
  | .bsl o off lo hi, σ, cs => ∃ b c p k, σ o = some (.pointer (some ⟨b, c, none⟩)) ∧ cs = [.slice (some ⟨b, p, none⟩) (hi - lo) k] ∧ lo ≤ hi ∧ hi - lo ≤ k ∧ k ≤ maxLen ∧ (lo < hi → p = c + off + lo)
  | .fs z enc xs, _, cs => ∃ a c, cs = [.slice a xs.length c] ∧ xs.length ≤ c ∧ c ≤ maxLen ∧ (a = none → xs = [] ∧ c = 0) ∧ (∀ i (h : i < xs.length), szL (enc xs[i]) = z) ∧
      ∀ ad, a = some ad → (xs = [] ∨ (ad.spot = none ∧ ¬ A ad.block ∧ ∃ C T fr, w.heap[ad.block]? = some (.cells C T fr) ∧ ∀ i (h : i < xs.length), hL w A (enc xs[i]) sg0 ((C.toList.drop (ad.off + i * z)).take z)))
  | .fpt ps, _, cs => ∃ b off, cs = [.pointer (some ⟨b, off, none⟩)] ∧ ¬ A b ∧ ∃ C T fr, w.heap[b]? = some (.cells C T fr) ∧ hL w A ps sg0 ((C.toList.drop off).take (szL ps))
  | .fn f, _, cs => cs = [.func (.func f) #[] #[]]
  | .nilf, _, cs => cs = [.nilFunc]
  | .nilm, _, cs => cs = [.map none]
  | .val v, _, cs => cs = [v] ∧ v.oneCell' = true
  | .arr8 x, _, cs => cs = x.toList.map (bV .u8)
  | .arr32 x, _, cs => cs = x.toList.map (bV .u32)
  | .arrG z enc xs, _, cs => cs.length = xs.length * z ∧ ∀ i (h : i < xs.length), hL w A (enc xs[i]) sg0 ((cs.drop (i * z)).take z)
  | .agg _, _, _ => False
  | .tup _, _, _ => False
  | .undef, _, _ => False
def hL (w : World) (A : Own) : List SV → Sg → List Value → Prop
  | [], _, cs => cs = []
  | s :: r, σ, cs => ∃ a b, cs = a ++ b ∧ SV.hc w A s σ a ∧ hL w A r σ b
end
mutual
theorem SV.hc.later {w w' : World} {A A' : Own} (hl : Later w A w' A') : ∀ (s : SV) (σ : Sg) (cs : List Value), s.hc w A σ cs → s.hc w' A' σ cs
  | .bool b, _, cs, h => h
  | .dec p i, _, cs, h => h
  | .int k n, _, cs, h => h
  | .u8 x, _, cs, h => h
  | .u16 x, _, cs, h => h
  | .u32 x, _, cs, h => h
  | .u64 x, _, cs, h => h
  | .str s, _, cs, h => h
  | .nilp, _, cs, h => h
  | .nils, _, cs, h => h
  | .ptr o off, σ, cs, h => h
  | .own o, σ, cs, h => h
  | .rptr o q z off, σ, cs, h => h
  | .cptr o off q, σ, cs, h => h
  | .bsl o off lo hi, σ, cs, h => h
  | .fs z enc xs, _, cs, ⟨a, c, h1, h2, h3, h4, h5, h6⟩ => ⟨a, c, h1, h2, h3, h4, h5, fun ad had => (h6 ad had).imp id fun ⟨g1, g2, C, T, fr, g3, g4⟩ =>
      have hlt := (Array.getElem?_eq_some_iff.1 g3).1
      ⟨g1, (hl.keep _ hlt g2).2, C, T, fr, ((hl.keep _ hlt g2).1).trans g3, fun i hi => hL.later hl (enc xs[i]) _ _ (g4 i hi)⟩⟩
  | .fpt ps, _, cs, ⟨b, off, h1, h2, C, T, fr, h3, h4⟩ =>
      have hlt := (Array.getElem?_eq_some_iff.1 h3).1
      ⟨b, off, h1, (hl.keep _ hlt h2).2, C, T, fr, ((hl.keep _ hlt h2).1).trans h3, hL.later hl ps _ _ h4⟩
  | .fn f, _, cs, h => h
  | .nilf, _, cs, h => h
  | .nilm, _, cs, h => h
  | .val v, _, cs, h => h
  | .arr8 x, _, cs, h => h
  | .arr32 x, _, cs, h => h
  | .arrG z enc xs, σ, cs, ⟨h1, h2⟩ => ⟨h1, fun i hi => hL.later hl (enc xs[i]) _ _ (h2 i hi)⟩
theorem hL.later {w w' : World} {A A' : Own} (hl : Later w A w' A') : ∀ (l : List SV) (σ : Sg) (cs : List Value), hL w A l σ cs → hL w' A' l σ cs
  | [], _, cs, h => h
  | s :: r, σ, cs, ⟨a, b, h1, h2, h3⟩ => ⟨a, b, h1, SV.hc.later hl s σ a h2, hL.later hl r σ b h3⟩
end
theorem SV.hc.len {w : World} {A : Own} : ∀ {s : SV} {σ : Sg} {cs : List Value}, s.hc w A σ cs → cs.length = s.sz := by
  intro s σ cs h
  cases s <;> simp only [SV.hc] at h <;> first
    | (subst h; simp [SV.sz])
    | (obtain ⟨h, _⟩ := h; subst h; rfl)
    | exact h.elim
    | (obtain ⟨_, _, _, h⟩ := h; subst h; rfl)
    | (obtain ⟨_, _, _, _, h⟩ := h; subst h; rfl)
    | (obtain ⟨_, _, h, _⟩ := h; subst h; rfl)
    | (obtain ⟨_, _, _, _, _, h, _⟩ := h; subst h; rfl)
    | exact h.1
theorem hL.len {w : World} {A : Own} : ∀ {l : List SV} {σ : Sg} {cs : List Value}, hL w A l σ cs → cs.length = szL l
  | [], _, cs, h => by simp only [hL] at h; subst h; rfl
  | s :: r, σ, cs, h => by
    simp only [hL] at h
    obtain ⟨a, b, rfl, h1, h2⟩ := h
    rw [List.length_append, h1.len, hL.len h2]; rfl
theorem mem_chunk {cs : List Value} {n z : Nat} (h : cs.length = n * z) {v : Value} (hv : v ∈ cs) : ∃ i, i < n ∧ v ∈ (cs.drop (i * z)).take z := by
  obtain ⟨j, hj, rfl⟩ := List.mem_iff_getElem.1 hv
  have hz : 0 < z := by
    rcases Nat.eq_zero_or_pos z with h0 | h0
    · subst h0; rw [h, Nat.mul_zero] at hj; exact absurd hj (by omega)
    · exact h0
  refine ⟨j / z, ?_, ?_⟩
  · rw [Nat.div_lt_iff_lt_mul hz]; omega
  · have h1 : j / z * z ≤ j := Nat.div_mul_le_self _ _
    have h2 : j < (j / z + 1) * z := by have := Nat.lt_mul_div_succ j hz; rw [Nat.mul_comm] at this; exact this
    rw [Nat.add_mul, Nat.one_mul] at h2
    refine List.mem_iff_getElem.2 ⟨j - j / z * z, by rw [List.length_take, List.length_drop]; omega, ?_⟩
    rw [List.getElem_take, List.getElem_drop]
    congr 1; omega
mutual
/-- cells are one-cell values -/
theorem SV.hc.one {w : World} {A : Own} : ∀ (s : SV) (σ : Sg) (cs : List Value), s.hc w A σ cs → ∀ v ∈ cs, v.oneCell' = true
  | .bool b, _, cs, h => by simp only [SV.hc] at h; subst h; simp [Value.oneCell']
  | .dec p i, _, cs, h => by simp only [SV.hc] at h; subst h; simp [Value.oneCell']
  | .int k n, _, cs, h => by simp only [SV.hc] at h; obtain ⟨rfl, _⟩ := h; simp [Value.oneCell']
  | .u8 x, _, cs, h => by simp only [SV.hc] at h; subst h; simp [Value.oneCell']
  | .u16 x, _, cs, h => by simp only [SV.hc] at h; subst h; simp [Value.oneCell']
  | .u32 x, _, cs, h => by simp only [SV.hc] at h; subst h; simp [Value.oneCell']
  | .u64 x, _, cs, h => by simp only [SV.hc] at h; subst h; simp [Value.oneCell']
  | .str s, _, cs, h => by simp only [SV.hc] at h; subst h; simp [Value.oneCell']
  | .nilp, _, cs, h => by simp only [SV.hc] at h; subst h; simp [Value.oneCell']
  | .nils, _, cs, h => by simp only [SV.hc] at h; subst h; simp [Value.oneCell']
  | .ptr o off, σ, cs, h => by simp only [SV.hc] at h; obtain ⟨_, _, _, rfl⟩ := h; simp [Value.oneCell']
  | .own o, σ, cs, h => by simp only [SV.hc] at h; obtain ⟨v, _, h1, rfl⟩ := h; simpa using h1
  | .rptr o q z off, σ, cs, h => by simp only [SV.hc] at h; obtain ⟨_, _, _, _, rfl⟩ := h; simp [Value.oneCell']
  | .cptr o off q, σ, cs, h => by simp only [SV.hc] at h; obtain ⟨_, _, _, rfl⟩ := h; simp [Value.oneCell']
  | .bsl o off lo hi, σ, cs, h => by simp only [SV.hc] at h; obtain ⟨_, _, _, _, _, rfl, _⟩ := h; simp [Value.oneCell']
  | .fs z enc xs, _, cs, h => by simp only [SV.hc] at h; obtain ⟨_, _, rfl, _⟩ := h; simp [Value.oneCell']
  | .fpt ps, _, cs, h => by simp only [SV.hc] at h; obtain ⟨_, _, rfl, _⟩ := h; simp [Value.oneCell']
  | .fn f, _, cs, h => by simp only [SV.hc] at h; subst h; simp [Value.oneCell']
  | .nilf, _, cs, h => by simp only [SV.hc] at h; subst h; simp [Value.oneCell']
  | .nilm, _, cs, h => by simp only [SV.hc] at h; subst h; simp [Value.oneCell']
  | .val v, _, cs, h => by simp only [SV.hc] at h; obtain ⟨rfl, h1⟩ := h; simpa using h1
  | .arr8 x, _, cs, h => by simp only [SV.hc] at h; subst h; intro v hv; obtain ⟨y, _, rfl⟩ := List.mem_map.1 hv; rfl
  | .arr32 x, _, cs, h => by simp only [SV.hc] at h; subst h; intro v hv; obtain ⟨y, _, rfl⟩ := List.mem_map.1 hv; rfl
  | .arrG z enc xs, σ, cs, h => by
    simp only [SV.hc] at h
    intro v hv
    obtain ⟨i, hi, hm⟩ := mem_chunk h.1 hv
    exact hL.one (enc xs[i]) _ _ (h.2 i hi) v hm
  | .agg _, _, _, h => by simp only [SV.hc] at h
  | .tup _, _, _, h => by simp only [SV.hc] at h
  | .undef, _, _, h => by simp only [SV.hc] at h
theorem hL.one {w : World} {A : Own} : ∀ (l : List SV) (σ : Sg) (cs : List Value), hL w A l σ cs → ∀ v ∈ cs, v.oneCell' = true
  | [], _, cs, h => by simp only [hL] at h; subst h; simp
  | s :: r, σ, cs, h => by
    simp only [hL] at h
    obtain ⟨a, b, rfl, h1, h2⟩ := h
    intro v hv
    rcases List.mem_append.1 hv with hv | hv
    · exact SV.hc.one s σ a h1 v hv
    · exact hL.one r σ b h2 v hv
end
/-- more names -/
def Sg.le (σ σ' : Sg) : Prop := ∀ k v, σ k = some v → σ' k = some v
theorem Sg.le.refl (σ : Sg) : Sg.le σ σ := fun _ _ h => h
theorem Sg.le.trans {a b c : Sg} (h : Sg.le a b) (k : Sg.le b c) : Sg.le a c := fun n v e => k n v (h n v e)
mutual
theorem SV.hc.names {w : World} {A : Own} : ∀ (s : SV) {σ σ' : Sg} (cs : List Value), Sg.le σ σ' → s.hc w A σ cs → s.hc w A σ' cs
  | .bool b, _, _, cs, _, h => h
  | .dec p i, _, _, cs, _, h => h
  | .int k n, _, _, cs, _, h => h
  | .u8 x, _, _, cs, _, h => h
  | .u16 x, _, _, cs, _, h => h
  | .u32 x, _, _, cs, _, h => h
  | .u64 x, _, _, cs, _, h => h
  | .str s, _, _, cs, _, h => h
  | .nilp, _, _, cs, _, h => h
  | .nils, _, _, cs, _, h => h
  | .ptr o off, _, _, cs, hs, ⟨b, c, h1, h2⟩ => ⟨b, c, hs _ _ h1, h2⟩
  | .own o, _, _, cs, hs, ⟨v, h1, h2⟩ => ⟨v, hs _ _ h1, h2⟩
  | .rptr o q z off, _, _, cs, hs, ⟨g, l, c, h1, h2⟩ => ⟨g, l, c, hs _ _ h1, h2⟩
  | .cptr o off q, _, _, cs, hs, ⟨b, c, h1, h2⟩ => ⟨b, c, hs _ _ h1, h2⟩
  | .bsl o off lo hi, _, _, cs, hs, ⟨b, c, p, k, h1, h2⟩ => ⟨b, c, p, k, hs _ _ h1, h2⟩
  | .fs z enc xs, _, _, cs, _, h => h
  | .fpt ps, _, _, cs, _, h => h
  | .fn f, _, _, cs, _, h => h
  | .nilf, _, _, cs, _, h => h
  | .nilm, _, _, cs, _, h => h
  | .val v, _, _, cs, _, h => h
  | .arr8 x, _, _, cs, _, h => h
  | .arr32 x, _, _, cs, _, h => h
  | .arrG z enc xs, _, _, cs, hs, h => h
theorem hL.names {w : World} {A : Own} : ∀ (l : List SV) {σ σ' : Sg} (cs : List Value), Sg.le σ σ' → hL w A l σ cs → hL w A l σ' cs
  | [], _, _, cs, _, h => h
  | s :: r, _, _, cs, hs, ⟨a, b, h1, h2, h3⟩ => ⟨a, b, h1, SV.hc.names s a hs h2, hL.names r b hs h3⟩
end
theorem hL.append {w : World} {A : Own} {σ : Sg} : ∀ {l m : List SV} {cs ds : List Value}, hL w A l σ cs → hL w A m σ ds → hL w A (l ++ m) σ (cs ++ ds)
  | [], m, cs, ds, h, k => by simp only [hL] at h; subst h; exact k
  | s :: r, m, cs, ds, h, k => by
    simp only [hL] at h
    obtain ⟨a, b, rfl, h1, h2⟩ := h
    simp only [List.cons_append, hL]
    exact ⟨a, b ++ ds, by rw [List.append_assoc], h1, hL.append h2 k⟩
theorem hL.split {w : World} {A : Own} {σ : Sg} : ∀ {l m : List SV} {cs : List Value}, hL w A (l ++ m) σ cs → ∃ a b, cs = a ++ b ∧ hL w A l σ a ∧ hL w A m σ b
  | [], m, cs, h => ⟨[], cs, rfl, by simp only [hL], h⟩
  | s :: r, m, cs, h => by
    simp only [List.cons_append, hL] at h
    obtain ⟨a, b, rfl, h1, h2⟩ := h
    obtain ⟨x, y, rfl, h3, h4⟩ := hL.split (l := r) h2
    exact ⟨a ++ x, y, by rw [List.append_assoc], by simp only [hL]; exact ⟨a, x, rfl, h1, h3⟩, h4⟩
theorem hL.single {w : World} {A : Own} {σ : Sg} {s : SV} {cs : List Value} : hL w A [s] σ cs ↔ s.hc w A σ cs := by
  simp only [hL]
  exact ⟨fun ⟨a, b, h, h1, h2⟩ => by subst h2; rw [h, List.append_nil]; exact h1, fun h => ⟨cs, [], by simp, h, rfl⟩⟩

/-! ## what a slot holds -/
/-- a value of a struct, an array, or one cell -/
def SV.h1 (w : World) (A : Own) (σ : Sg) : SV → Value → Prop
  | .agg ps, v => ∃ cs, v = .agg cs.toArray ∧ hL w A ps σ cs
  | .undef, _ => True
  | s, v => s.hc w A σ [v]
def hvs (w : World) (A : Own) (σ : Sg) : List SV → List Value → Prop
  | [], l => l = []
  | s :: r, l => ∃ v m, l = v :: m ∧ s.h1 w A σ v ∧ hvs w A σ r m
def SV.hv (w : World) (A : Own) (σ : Sg) : SV → Value → Prop
  | .tup vs, v => ∃ l, v = .tuple l.toArray ∧ hvs w A σ vs l
  | s, v => s.h1 w A σ v
theorem SV.h1.later {w w' : World} {A A' : Own} {σ : Sg} (hl : Later w A w' A') {s : SV} {v : Value} (h : s.h1 w A σ v) : s.h1 w' A' σ v := by
  cases s <;> first | exact SV.hc.later hl _ σ [v] h | trivial | skip
  obtain ⟨cs, h1, h2⟩ := h; exact ⟨cs, h1, hL.later hl _ _ _ h2⟩
theorem hvs.later {w w' : World} {A A' : Own} {σ : Sg} (hl : Later w A w' A') : ∀ {l : List SV} {vs : List Value}, hvs w A σ l vs → hvs w' A' σ l vs
  | [], _, h => h
  | s :: r, _, ⟨v, m, h1, h2, h3⟩ => ⟨v, m, h1, h2.later hl, hvs.later hl h3⟩
theorem SV.hv.later {w w' : World} {A A' : Own} {σ : Sg} (hl : Later w A w' A') {s : SV} {v : Value} (h : s.hv w A σ v) : s.hv w' A' σ v := by
  cases s with
  | tup vs => obtain ⟨l, h1, h2⟩ := h; exact ⟨l, h1, h2.later hl⟩
  | _ => (simp only [SV.hv] at h ⊢; exact SV.h1.later hl h)
theorem SV.h1.names {w : World} {A : Own} {σ σ' : Sg} (hs : Sg.le σ σ') {s : SV} {v : Value} (h : s.h1 w A σ v) : s.h1 w A σ' v := by
  cases s <;> first | exact SV.hc.names _ [v] hs h | trivial | skip
  obtain ⟨cs, h1, h2⟩ := h; exact ⟨cs, h1, hL.names _ _ hs h2⟩
theorem hvs.names {w : World} {A : Own} {σ σ' : Sg} (hs : Sg.le σ σ') : ∀ {l : List SV} {vs : List Value}, hvs w A σ l vs → hvs w A σ' l vs
  | [], _, h => h
  | s :: r, _, ⟨v, m, h1, h2, h3⟩ => ⟨v, m, h1, h2.names hs, hvs.names hs h3⟩
theorem SV.hv.names {w : World} {A : Own} {σ σ' : Sg} (hs : Sg.le σ σ') {s : SV} {v : Value} (h : s.hv w A σ v) : s.hv w A σ' v := by
  cases s with
  | tup vs => obtain ⟨l, h1, h2⟩ := h; exact ⟨l, h1, h2.names hs⟩
  | _ => (simp only [SV.hv] at h ⊢; exact SV.h1.names hs h)

/-! ## rows of elements -/
def hE (w : World) (A : Own) (σ : Sg) : List (List SV) → List Value → Prop
  | [], cs => cs = []
  | e :: r, cs => ∃ c rest, cs = c ++ rest ∧ hL w A e σ c ∧ hE w A σ r rest
theorem hE.later {w w' : World} {A A' : Own} {σ : Sg} (hl : Later w A w' A') : ∀ {l : List (List SV)} {cs : List Value}, hE w A σ l cs → hE w' A' σ l cs
  | [], cs, h => h
  | e :: r, cs, ⟨c, rest, h, h1, hr⟩ => ⟨c, rest, h, hL.later hl _ _ _ h1, hE.later hl hr⟩
theorem hE.names {w : World} {A : Own} {σ σ' : Sg} (hs : Sg.le σ σ') : ∀ {l : List (List SV)} {cs : List Value}, hE w A σ l cs → hE w A σ' l cs
  | [], cs, h => h
  | e :: r, cs, ⟨c, rest, h, h1, hr⟩ => ⟨c, rest, h, hL.names _ _ hs h1, hE.names hs hr⟩
theorem hE.one {w : World} {A : Own} {σ : Sg} : ∀ {l : List (List SV)} {cs : List Value}, hE w A σ l cs → ∀ v ∈ cs, v.oneCell' = true
  | [], cs, h => by simp only [hE] at h; simp [h]
  | e :: r, cs, ⟨c, rest, h, h1, hr⟩ => by
    intro v hv; rw [h] at hv
    rcases List.mem_append.1 hv with hv | hv
    · exact hL.one _ _ _ h1 v hv
    · exact hE.one hr v hv
theorem hE.len {w : World} {A : Own} {σ : Sg} {z : Nat} : ∀ {l : List (List SV)} {cs : List Value}, (∀ e ∈ l, szL e = z) → hE w A σ l cs → cs.length = l.length * z
  | [], cs, _, h => by simp only [hE] at h; simp [h]
  | e :: r, cs, hz, ⟨c, rest, h, h1, hr⟩ => by
    rw [h, List.length_append, h1.len, hE.len (fun e he => hz e (List.mem_cons_of_mem _ he)) hr, hz e (by simp), List.length_cons, Nat.add_mul]; omega
theorem hE.append {w : World} {A : Own} {σ : Sg} : ∀ {l m : List (List SV)} {cs ds : List Value}, hE w A σ l cs → hE w A σ m ds → hE w A σ (l ++ m) (cs ++ ds)
  | [], m, cs, ds, h, k => by simp only [hE] at h; subst h; exact k
  | e :: r, m, cs, ds, ⟨c, rest, h, h1, hr⟩, k => ⟨c, rest ++ ds, by rw [h, List.append_assoc], h1, hE.append hr k⟩
theorem hE.get {w : World} {A : Own} {σ : Sg} {z : Nat} : ∀ {l : List (List SV)} {cs : List Value} {i : Nat} {e : List SV}, hE w A σ l cs → (∀ e ∈ l, szL e = z) → l[i]? = some e → hL w A e σ ((cs.drop (i * z)).take z)
  | [], cs, i, e, h, _, hi => by simp at hi
  | e0 :: r, cs, 0, e, ⟨c, rest, h, h1, hr⟩, hz, hi => by
    simp only [List.getElem?_cons_zero, Option.some.injEq] at hi; subst hi
    have : c.length = z := by rw [h1.len]; exact hz _ (by simp)
    simp only [Nat.zero_mul, List.drop_zero]; rw [h, ← this, List.take_left]; exact h1
  | e0 :: r, cs, i + 1, e, ⟨c, rest, h, h1, hr⟩, hz, hi => by
    simp only [List.getElem?_cons_succ] at hi
    have : c.length = z := by rw [h1.len]; exact hz _ (by simp)
    have := hE.get hr (fun e he => hz e (List.mem_cons_of_mem _ he)) hi
    rw [h, Nat.add_mul, Nat.one_mul, Nat.add_comm, ← List.drop_drop]
    rename_i hc
    rw [show (c ++ rest).drop z = rest by rw [← hc, List.drop_left]]
    exact this
theorem hE.of {w : World} {A : Own} {σ : Sg} {z : Nat} : ∀ {l : List (List SV)} {cs : List Value}, cs.length = l.length * z → (∀ i e, l[i]? = some e → hL w A e σ ((cs.drop (i * z)).take z)) → hE w A σ l cs
  | [], cs, h, _ => by simp only [hE]; exact List.eq_nil_of_length_eq_zero (by simpa using h)
  | e :: r, cs, h, hi => by
    rw [List.length_cons, Nat.add_mul, Nat.one_mul] at h
    refine ⟨cs.take z, cs.drop z, (List.take_append_drop _ _).symm, by simpa using hi 0 e rfl, hE.of (z := z) (by rw [List.length_drop]; omega) fun i e' he => ?_⟩
    have := hi (i + 1) e' (by simpa using he)
    rw [Nat.add_mul, Nat.one_mul, Nat.add_comm, ← List.drop_drop] at this
    exact this
end Go.Proofs.YtdflndjlnkoliaaGreatDoor

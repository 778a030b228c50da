import Derived.Test.YtdflndjlnkoliaaGreatDoorMk
/- MY OWN ENGINE: loads and stores, seen from other worlds. -/
namespace Go.Proofs.YtdflndjlnkoliaaGreatDoor
set_option linter.all false
open Go.RowKit
section
variable {P : Program} [TabC P] {o : Oper} {a : Act} {w w' : World} {x y : Operand}
theorem load_same {b off : Nat} {C : Array Value} {t : TypeId} {fr : Nat × Nat} (h1 : w.heap[b]? = some (.cells C t fr)) (h2 : w'.heap[b]? = some (.cells C t fr)) {v : Value} {w1 : World}
    (h : (load ⟨b, off, none⟩).run P w = .ok v w1) : (load ⟨b, off, none⟩).run P w' = .ok v w' := by
  simp only [load, Sem.run, World.cell?, h1, h2, World.farLoad] at h ⊢
  cases hc : C[off]? with
  | some u => simp [hc, Sem.run] at h ⊢; exact h.1
  | none => simp [hc, Sem.run] at h
theorem add_plain (b off i : Nat) : (⟨b, off, none⟩ : Addr).add i = ⟨b, off + i, none⟩ := by simp [Addr.add]
theorem load_world {b off : Nat} {C : Array Value} {t : TypeId} {fr : Nat × Nat} (h1 : w.heap[b]? = some (.cells C t fr)) {v : Value} {w1 : World} (h : (load ⟨b, off, none⟩).run P w = .ok v w1) : w1 = w := by
  simp only [load, Sem.run, World.cell?, h1, World.farLoad] at h
  cases hc : C[off]? with
  | some z => simp [hc, Sem.run] at h; exact h.2.symm
  | none => simp [hc, Sem.run] at h
theorem loads_same {b off : Nat} {C : Array Value} {t : TypeId} {fr : Nat × Nat} (h1 : w.heap[b]? = some (.cells C t fr)) (h2 : w'.heap[b]? = some (.cells C t fr)) : ∀ (n i : Nat) (acc : Array Value) {v : Array Value} {w1 : World},
    (loadCellsFrom ⟨b, off, none⟩ i n acc).run P w = .ok v w1 → (loadCellsFrom ⟨b, off, none⟩ i n acc).run P w' = .ok v w'
  | 0, i, acc, v, w1, h => by simp [loadCellsFrom] at h ⊢; exact h.1
  | n + 1, i, acc, v, w1, h => by
    simp only [loadCellsFrom, Sem.run_bind, add_plain] at h ⊢
    cases hl : (load (⟨b, off + i, none⟩ : Addr)).run P w with
    | ok u w2 =>
      rw [hl] at h
      simp only [Result.andThen_ok] at h
      rw [load_same (P := P) h1 h2 hl]
      simp only [Result.andThen_ok]
      have e := load_world (P := P) h1 hl
      rw [e] at h
      exact loads_same h1 h2 n _ _ h
    | halt e w2 => rw [hl] at h; cases h
/-- a load sees its block alone -/
theorem loadOp_same {T b off : Nat} {i : TI} {C : Array Value} {t : TypeId} {fr : Nat × Nat} (ho : o.op = .load T x) (ht : ty P T = some i) (hx : a.eval x = .pointer (some ⟨b, off, none⟩)) (h1 : w.heap[b]? = some (.cells C t fr)) (h2 : w'.heap[b]? = some (.cells C t fr)) {v : Value}
    (h : (execOp a.eval o).run P w = .ok (.value v) w) : (execOp a.eval o).run P w' = .ok (.value v) w' := by
  simp only [execOp, ho, hx, Instr.loadAt, Instr.sureAddr, Sem.run_bind, Sem.run_pure, Result.andThen_ok, loadVar, run_isAgg' ht] at h ⊢
  cases hr : i.row with
  | true =>
    simp only [hr, if_true, Sem.run_bind, run_sizeOf' ht, Result.andThen_ok, loadCells] at h ⊢
    cases hl : (loadCellsFrom (⟨b, off, none⟩ : Addr) 0 i.size #[]).run P w with
    | ok u w2 =>
      rw [hl] at h
      rw [loads_same (P := P) h1 h2 _ _ _ hl]
      simp only [Result.andThen_ok, Sem.run_pure] at h ⊢
      cases h; rfl
    | halt e w2 => rw [hl] at h; cases h
  | false =>
    simp only [hr, Bool.false_eq_true, if_false] at h ⊢
    cases hl : (load (⟨b, off, none⟩ : Addr)).run P w with
    | ok u w2 =>
      rw [hl] at h
      rw [load_same (P := P) h1 h2 hl]
      simp only [Result.andThen_ok, Sem.run_pure] at h ⊢
      cases h; rfl
    | halt e w2 => rw [hl] at h; cases h
/-! stores turn their block alone -/
theorem Mod.setCell (w : World) (ad : Addr) (v : Value) : Mod (fun b => b = ad.block) w (w.setCell ad v) :=
  ⟨rfl, rfl, rfl, by simp [World.setCell], fun k hk hm => by simp only [World.setCell]; rw [Array.getElem?_modify]; rw [if_neg (fun e => hm e.symm)]⟩
theorem store_mod {b off : Nat} {C : Array Value} {t : TypeId} {fr : Nat × Nat} (h1 : w.heap[b]? = some (.cells C t fr)) {v : Value} {u : Unit} {w1 : World} (h : (store ⟨b, off, none⟩ v).run P w = .ok u w1) :
    Mod (fun c => c = b) w w1 ∧ ∃ C', w1.heap[b]? = some (.cells C' t fr) := by
  have key : ∀ x, w.cell? ⟨b, off, none⟩ = some x → Mod (fun c => c = b) w (w.setCell ⟨b, off, none⟩ v) ∧ ∃ C', (w.setCell ⟨b, off, none⟩ v).heap[b]? = some (.cells C' t fr) := fun x _ =>
    ⟨Mod.setCell w ⟨b, off, none⟩ v, by simp only [World.setCell]; rw [Array.getElem?_modify]; simp [h1]⟩
  have fin : ∀ r : Result Unit, r = (match w.cell? ⟨b, off, none⟩ with
      | some _ => if w.frozen? ⟨b, off, none⟩ then .halt (.unsupported (.unsafePointer "a write to bytes that a string shares")) w else .ok () (w.setCell ⟨b, off, none⟩ v)
      | none => match w.farStore P ⟨b, off, none⟩ v false with
        | .ok (w, _) => .ok () w
        | .error h => .halt h w) → r = .ok u w1 → Mod (fun c => c = b) w w1 ∧ ∃ C', w1.heap[b]? = some (.cells C' t fr) := by
    intro r hr hr2
    rw [hr] at hr2
    cases hc : w.cell? ⟨b, off, none⟩ with
    | some x =>
      simp only [hc] at hr2
      split at hr2
      · cases hr2
      · cases hr2; exact key x hc
    | none =>
      simp only [hc, World.farStore, h1] at hr2
      cases hr2
  cases v <;> first | (simp [store, Sem.run] at h; done) | exact fin _ rfl h
theorem stores_mod {b off : Nat} {t : TypeId} {fr : Nat × Nat} : ∀ (l : List Value) (i : Nat) {w : World} {C : Array Value} {u : Unit} {w1 : World}, w.heap[b]? = some (.cells C t fr) → (storeCells ⟨b, off, none⟩ l i).run P w = .ok u w1 →
    Mod (fun c => c = b) w w1
  | [], i, w, C, u, w1, h1, h => by simp [storeCells] at h; subst h; exact Mod.refl _ _
  | v :: r, i, w, C, u, w1, h1, h => by
    simp only [storeCells, Sem.run_bind, add_plain] at h
    cases hl : (store (⟨b, off + i, none⟩ : Addr) v).run P w with
    | ok u2 w2 =>
      rw [hl] at h
      simp only [Result.andThen_ok] at h
      obtain ⟨m1, C', h2⟩ := store_mod (P := P) h1 hl
      exact m1.trans (stores_mod r (i + 1) h2 h)
    | halt e w2 => rw [hl] at h; cases h
/-- a store, and what it turns -/
theorem storeOp_mod {T b off : Nat} {i : TI} {C : Array Value} {t : TypeId} {fr : Nat × Nat} {X : Act → World → Prop} {Q : Exit → Act → World → Prop} (ho : o.op = .store T x y) (ht : ty P T = some i) (hx : a.eval x = .pointer (some ⟨b, off, none⟩)) (h1 : w.heap[b]? = some (.cells C t fr))
    (h : o.wp P a w X Q) : o.wp P a w (fun a' w' => X a' w' ∧ Mod (fun c => c = b) w w') Q := by
  unfold Oper.wp at h ⊢
  have e : (execOp a.eval o).run P w = ((storeVar T ⟨b, off, none⟩ (a.eval y)).run P w).andThen fun _ w' => .ok .skip w' := by
    simp only [execOp, ho, hx, Instr.storeAt, Instr.sureAddr, Sem.run_bind, Sem.run_pure, Result.andThen_ok]
  rw [e] at h ⊢
  cases hl : (storeVar T ⟨b, off, none⟩ (a.eval y)).run P w with
  | ok u w1 =>
    rw [hl] at h
    simp only [Result.andThen_ok, Oper.upon] at h ⊢
    refine ⟨h, ?_⟩
    simp only [storeVar, Sem.run_bind, run_sizeOf' ht, Result.andThen_ok] at hl
    split at hl
    · simp [stuck] at hl
    · exact stores_mod _ 0 h1 (by simpa using hl)
  | halt e w1 =>
    rw [hl] at h
    cases e <;> exact h
end
end Go.Proofs.YtdflndjlnkoliaaGreatDoor

import Derived.Test.YtdflndjlnkoliaaGreatDoorStore
/- MY OWN ENGINE: stores, by what stands at the address. -/
namespace Go.Proofs.YtdflndjlnkoliaaGreatDoor
set_option linter.all false
open Go.RowKit
section
variable {P : Program} [TabC P] {S : Sig} {σ : Sg} {env : Env} {objs : List Ob} {nx : Nat} {o : Oper} {a : Act} {w : World} {x y : Operand} {K : KS}
theorem setK_spec {n n' : Nat} {so' : SO} {K : List Ob → Prop} (h : setK objs n n' so' K) : ∃ l, setO objs n n' so' = some l ∧ K l := by
  unfold setK at h; split at h
  · exact ⟨_, by assumption, h⟩
  · exact h.elim
def stCell (ps : List SV) (off q : Nat) (v : SV) (K : List SV → Prop) : Prop := match takeP ps off with
  | some (a, @SV.arr8 n y :: r) => match v with
    | .u8 x => Idx (q < n) fun h => match app2 a (.arr8 (y.set q x h) :: r) with
      | some ps' => K ps'
      | none => False
    | _ => False
  | some (a, @SV.arr32 n y :: r) => match v with
    | .u32 x => Idx (q < n) fun h => match app2 a (.arr32 (y.set q x h) :: r) with
      | some ps' => K ps'
      | none => False
    | _ => False
  | _ => False
theorem cell_set {c d1 c2 : List Value} {L : List Value} {q : Nat} {f : List Value} {v : Value} (hq : q < d1.length) : (c ++ (d1 ++ c2)).take (c.length + q) ++ [v] ++ (c ++ (d1 ++ c2)).drop (c.length + q + [v].length) = c ++ (d1.set q v ++ c2) := by
  rw [set_chunk (by simp; omega)]
  rw [List.set_append_right _ _ (by omega), Nat.add_sub_cancel_left, List.set_append_left _ _ hq]
theorem stCell_spec {ps : List SV} {off q : Nat} {v : SV} {K : List SV → Prop} (h : stCell ps off q v K) : ∃ ps', K ps' ∧ ∀ {w A σ cs u}, hL w A ps σ cs → v.hv w A σ u → u.cells.toList = [u] ∧ u.oneCell' = true ∧ off + q + 1 ≤ cs.length ∧ hL w A ps' σ (cs.take (off + q) ++ [u] ++ cs.drop (off + q + [u].length)) := by
  unfold stCell at h
  split at h
  · rename_i a n y r ht
    split at h
    · rename_i x
      obtain ⟨hq, h⟩ := h
      split at h
      · rename_i ps' ha
        obtain rfl := app2_eq ha
        refine ⟨_, h, fun {w A σ cs u} hc hv => ?_⟩
        obtain rfl := hv8.1 hv
        obtain ⟨rfl, h1⟩ := takeP_spec ht
        obtain ⟨c1, c2, rfl, hc1, hc2⟩ := hL.split hc
        simp only [hL] at hc2
        obtain ⟨d1, d2, rfl, hd1, hd2⟩ := hc2
        have e1 := hc1.len; have e2 := hd1.len
        simp only [SV.sz] at e2
        refine ⟨rfl, rfl, by simp only [List.length_append]; omega, ?_⟩
        rw [← h1, ← e1, cell_set (L := []) (f := []) (by omega)]
        refine hc1.append ?_
        simp only [hL]
        refine ⟨_, d2, rfl, ?_, hd2⟩
        simp only [SV.hc] at hd1 ⊢
        rw [hd1]; simp [Vector.toList_set, List.map_set]
      · exact h.elim
    · exact h.elim
  · rename_i a n y r ht
    split at h
    · rename_i x
      obtain ⟨hq, h⟩ := h
      split at h
      · rename_i ps' ha
        obtain rfl := app2_eq ha
        refine ⟨_, h, fun {w A σ cs u} hc hv => ?_⟩
        obtain rfl := hv32.1 hv
        obtain ⟨rfl, h1⟩ := takeP_spec ht
        obtain ⟨c1, c2, rfl, hc1, hc2⟩ := hL.split hc
        simp only [hL] at hc2
        obtain ⟨d1, d2, rfl, hd1, hd2⟩ := hc2
        have e1 := hc1.len; have e2 := hd1.len
        simp only [SV.sz] at e2
        refine ⟨rfl, rfl, by simp only [List.length_append]; omega, ?_⟩
        rw [← h1, ← e1, cell_set (L := []) (f := []) (by omega)]
        refine hc1.append ?_
        simp only [hL]
        refine ⟨_, d2, rfl, ?_, hd2⟩
        simp only [SV.hc] at hd1 ⊢
        rw [hd1]; simp [Vector.toList_set, List.map_set]
      · exact h.elim
    · exact h.elim
  · exact h.elim
variable (P) in
def evStore (dst : Option Nat) (env : Env) (objs : List Ob) (nx : Nat) (T : Nat) (s v : SV) (K : KS) : Prop := match dst with
  | some _ => False
  | none => match ty P T with
    | none => False
    | some j => match s with
      | .ptr k off => match lk objs k with
        | some (.box T' ps) => match prt v with
          | some qs => match setP ps off j.size qs with
            | some ps' => frcL ps' fun ps' => setK objs k k (.box T' ps') fun o => K env o nx
            | none => False
          | none => False
        | _ => False
      | .cptr k off q => match Nat.beq j.size 1 with
        | true => match lk objs k with
          | some (.box T' ps) => stCell ps off q v fun ps' => frcL ps' fun ps' => setK objs k k (.box T' ps') fun o => K env o nx
          | _ => False
        | false => False
      | .rptr k q z off => match prt v with
        | some qs => match noName qs with
          | true => match lk objs k with
            | some (.row e z' enc xs) => match Nat.beq z z' with
              | true => Idx (q < xs.length) fun h => match setP (enc xs[q]) off j.size qs with
                | some pe => frcL pe fun pe => Ex (fun x' => enc x' = pe) fun x' => setK objs k k (.row e z enc (xs.set q x')) fun o => K env o nx
                | none => False
              | false => False
            | some (.lits e z' els) => match Nat.beq z z', evLoad.nth' els q with
              | true, some pe0 => match setP pe0 off j.size qs with
                | some pe => frcL pe fun pe => setK objs k k (.lits e z (els.set q pe)) fun o => K env o nx
                | none => False
              | _, _ => False
            | _ => False
          | false => False
        | none => False
      | _ => False
theorem evStore_sound {T : TypeId} {s v : SV} (ho : o.op = .store T x y) (hx : evx P env x = some s) (hy : evx P env y = some v) (h : evStore P o.dst env objs nx T s v K) : DoesK P S env objs nx o false K := by
  unfold evStore at h
  split at h
  · exact h.elim
  · rename_i hd
    split at h
    · exact h.elim
    · rename_i j ht
      split at h
      · rename_i k off
        split at h
        · rename_i T' ps hk
          split at h
          · rename_i qs hp
            split at h
            · rename_i ps' hset
              obtain ⟨l, hl, hK⟩ := setK_spec (frcL_k (K := fun ps' => setK objs k k (.box T' ps') fun o => K env o nx) h)
              refine box_turn (off := off) ho hd ht hk hl hK (fun hst b hb => ?_) (fun {σ a w cs} hst hc => ?_)
              · obtain ⟨b', c, h1, h2⟩ := ptr_ev hx hst
                rw [hb] at h1; cases h1
                simpa using h2
              · have hv := prt_spec hp (hst.ev hy)
                obtain ⟨h1, h2, h3, h4⟩ := setP_spec hset hc hv
                exact ⟨h2, hL.one _ _ _ hv, h3, h1⟩
            · exact h.elim
          · exact h.elim
        · exact h.elim
      · rename_i k off q
        split at h
        · rename_i hz
          split at h
          · rename_i T' ps hk
            obtain ⟨ps', h, hspec⟩ := stCell_spec h
            obtain ⟨l, hl, hK⟩ := setK_spec (frcL_k (K := fun ps' => setK objs k k (.box T' ps') fun o => K env o nx) h)
            have hz' := Nat.eq_of_beq_eq_true hz
            refine box_turn (off := off + q) ho hd ht hk hl hK (fun hst b hb => ?_) (fun {σ a w cs} hst hc => ?_)
            · obtain ⟨b', c, h1, h2⟩ := cptr_ev hx hst
              rw [hb] at h1; cases h1
              simpa using h2
            · obtain ⟨h1, h2, h3, h4⟩ := hspec hc (hst.ev hy)
              rw [h1, hz']
              exact ⟨rfl, fun u hu => by rw [List.mem_singleton] at hu; rw [hu]; exact h2, h3, h4⟩
          · exact h.elim
        · exact h.elim
      · rename_i k q z off
        split at h
        · rename_i qs hp
          split at h
          · rename_i hn
            split at h
            · rename_i e z' α enc xs hk
              split at h
              · rename_i hz
                obtain rfl := Nat.eq_of_beq_eq_true hz
                obtain ⟨hq, h⟩ := h
                split at h
                · rename_i pe hset
                  obtain ⟨x', hx', h⟩ := frcL_k (K := fun pe => Ex (fun x' => enc x' = pe) fun x' => setK objs k k (.row e z enc (xs.set q x')) fun o => K env o nx) h
                  obtain ⟨l, hl, hK⟩ := setK_spec h
                  refine row_turn (els := xs.map enc) (q := q) (pe' := pe) ho hd ht hk hl hK (fun w A σ => Iff.rfl) (fun w A σ => ?_) (fun σ b => Iff.rfl) (fun σ b => Iff.rfl) hx hy (by simp [hq]) hp hn hset
                  rw [← hx', ← List.map_set]; exact Iff.rfl
                · exact h.elim
              · exact h.elim
            · rename_i e z' els hk
              split at h
              · rename_i pe0 hz hq
                obtain rfl := Nat.eq_of_beq_eq_true hz
                rw [nth'_eq] at hq
                split at h
                · rename_i pe hset
                  obtain ⟨l, hl, hK⟩ := setK_spec (frcL_k (K := fun pe => setK objs k k (.lits e z (els.set q pe)) fun o => K env o nx) h)
                  exact row_turn (els := els) (q := q) (pe' := pe) ho hd ht hk hl hK (fun w A σ => Iff.rfl) (fun w A σ => Iff.rfl) (fun σ b => Iff.rfl) (fun σ b => Iff.rfl) hx hy hq hp hn hset
                · exact h.elim
              · exact h.elim
            · exact h.elim
          · exact h.elim
        · exact h.elim
      · exact h.elim
end
end Go.Proofs.YtdflndjlnkoliaaGreatDoor

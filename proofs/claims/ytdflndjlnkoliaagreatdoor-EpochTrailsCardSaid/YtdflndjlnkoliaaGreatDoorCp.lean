import Derived.Test.YtdflndjlnkoliaaGreatDoorCv
import Derived.Laws.CopyRow
/- MY OWN ENGINE: copy into an array of one's own. -/
namespace Go.Proofs.YtdflndjlnkoliaaGreatDoor
set_option linter.all false
open Go.RowKit
/-- an array with some bytes put into it -/
def vput {n : Nat} (y : Vector (BitVec 8) n) (lo : Nat) (l : List (BitVec 8)) : Vector (BitVec 8) n := Vector.ofFn fun i => if h : lo ≤ i.1 ∧ i.1 - lo < l.length then l[i.1 - lo]'h.2 else y[i]
section
variable {P : Program} [TabC P] {S : Sig} {σ : Sg} {env : Env} {objs : List Ob} {nx : Nat} {o : Oper} {a : Act} {w : World} {x y : Operand} {K : KS}
theorem vput_list {n : Nat} (y : Vector (BitVec 8) n) (lo : Nat) (l : List (BitVec 8)) (h : lo + l.length ≤ n) : (vput y lo l).toList = y.toList.take lo ++ l ++ y.toList.drop (lo + l.length) := by
  apply List.ext_getElem
  · simp; omega
  · intro i h1 h2
    have hi : i < n := by simpa using h1
    simp only [vput, Vector.getElem_toList, Vector.getElem_ofFn]
    by_cases hlo : i < lo
    · rw [dif_neg (by omega), List.getElem_append_left (by simp; omega), List.getElem_append_left (by simp; omega)]
      simp
    · by_cases hl : i - lo < l.length
      · rw [dif_pos ⟨by omega, hl⟩, List.getElem_append_left (by simp; omega), List.getElem_append_right (by simp; omega)]
        congr 1
        simp; omega
      · rw [dif_neg (by omega), List.getElem_append_right (by simp; omega)]
        simp only [List.getElem_drop, Vector.getElem_toList]
        show y[i] = _
        congr 1
        simp; omega
theorem hE_bytes {w : World} {A : Own} : ∀ {l : List (BitVec 8)} {cs : List Value}, hE w A sg0 (l.map eB) cs → cs = l.map (bV .u8)
  | [], cs, h => by simp only [List.map_nil, hE] at h; subst h; rfl
  | b :: r, cs, h => by
    simp only [List.map_cons, hE] at h
    obtain ⟨c, rest, rfl, h1, h2⟩ := h
    rw [hL.single] at h1
    simp only [SV.hc] at h1
    subst h1
    rw [hE_bytes h2]; rfl
variable (P) in
def evCopy (n : Nat) (dst : Option Nat) (env : Env) (objs : List Ob) (nx : Nat) (T : Nat) (s u : SV) (K : KS) : Prop := match s with
  | .bsl k off lo hi => match ty P T with
    | some ⟨.sl et, _, _⟩ => match ty P et with
      | some ⟨_, 1, _⟩ => match lk objs k, srcE objs u 1 with
        | some (.box T' ps), some f => match takeP ps off with
          | some (pa, @SV.arr8 m v :: r) => Ex (fun l : List (BitVec 8) => l.map eB = f.els) fun l => Side (lo < hi ∧ hi ≤ m) (match app2 pa (.arr8 (vput v lo (l.take (hi - lo))) :: r) with
            | some ps' => frcL ps' fun ps' => setK objs k k (.box T' ps') fun o => dstV n dst env (.int .i64 (min l.length (hi - lo) : Nat)) fun env => K env o nx
            | none => False)
          | _ => False
        | _, _ => False
      | _ => False
    | _ => False
  | _ => False
theorem evCopy_sound {T T' : TypeId} {s u : SV} (ho : o.op = .call { callee := .builtin .copy, args := #[x, y], argTypes := #[T, T'] }) (hx : evx P env x = some s) (hy : evx P env y = some u) (h : evCopy P S.n o.dst env objs nx T s u K) : DoesK P S env objs nx o false K := by
  unfold evCopy at h
  split at h
  · rename_i k off lo hi
    split at h
    · rename_i et _ _ hT
      split at h
      · rename_i ek _ hE
        split at h
        · rename_i T2 ps f hk hf
          split at h
          · rename_i pa m v r htk
            obtain ⟨l, hl, hside, h⟩ := h
            obtain ⟨hlo, hhi⟩ := hside
            split at h
            · rename_i ps' happ
              obtain ⟨objs', hset, hK⟩ := setK_spec (frcL_k (K := fun ps' => setK objs k k (.box T2 ps') fun o' => dstV S.n o.dst env (.int .i64 (min l.length (hi - lo) : Nat)) fun env => K env o' nx) h)
              obtain rfl := app2_eq happ
              have hs := setO_spec hk hset
              have hlen : (l.take (hi - lo)).length = min l.length (hi - lo) := by simp [Nat.min_comm]
              intro σ a w hst X Q hX
              obtain ⟨b, cs, h1, h2, h3⟩ := lk_holds hst hk
              obtain ⟨rfl, htl⟩ := takeP_spec htk
              obtain ⟨c1, c2, rfl, hc1, hc2⟩ := hL.split h3
              simp only [hL] at hc2
              obtain ⟨d1, d2, rfl, hd1, hd2⟩ := hc2
              have f1 := hc1.len; have f2 := hd1.len
              simp only [SV.sz] at f2
              have hbx := hst.ev hx
              simp only [SV.hv, SV.h1, SV.hc, List.cons.injEq, and_true] at hbx
              obtain ⟨b', c, p, q, g1, g2, g3, g4, g5, g6⟩ := hbx
              rw [h1] at g1; cases g1
              have hsl := srcE_spec hf hy hst
              rw [← hl] at hsl
              obtain ⟨_, ad, cap, ds, e1, e2, e3, e4⟩ := hsl
              obtain rfl := hE_bytes e2
              rw [List.length_map] at e1
              have hinfo : (P.info? et).map (·.size) = some 1 := by
                obtain ⟨inf, d, hi1, _, hi2, _⟩ := ty_spec hE
                rw [hi1]; simpa using hi2
              have hp : p = off + lo := by have := g6 hlo; omega
              have hnew : (vput v lo (l.take (hi - lo))).toList.map (bV .u8) = d1.take lo ++ (l.take (hi - lo)).map (bV .u8) ++ d1.drop (lo + (l.take (hi - lo)).length) := by
                rw [vput_list _ _ _ (by omega)]
                simp only [SV.hc] at hd1
                rw [hd1]; simp [List.map_take, List.map_drop]
              have hcells : hL w (S.A σ objs) (pa ++ .arr8 (vput v lo (l.take (hi - lo))) :: r) σ (c1 ++ (d1.take lo ++ (l.take (hi - lo)).map (bV .u8) ++ d1.drop (lo + (l.take (hi - lo)).length) ++ d2)) := by
                refine hc1.append ?_
                simp only [hL]
                exact ⟨_, d2, rfl, by simp only [SV.hc]; rw [hnew], hd2⟩
              have hset2 : (c1 ++ (d1 ++ d2)).take (off + lo) ++ (l.take (hi - lo)).map (bV .u8) ++ (c1 ++ (d1 ++ d2)).drop (off + lo + ((l.take (hi - lo)).map (bV .u8)).length) = c1 ++ (d1.take lo ++ (l.take (hi - lo)).map (bV .u8) ++ d1.drop (lo + (l.take (hi - lo)).length) ++ d2) := by
                have e5 : c1.length = off := by rw [f1, htl]
                rw [← e5, List.take_length_add_append, List.take_append_of_le_length (by omega), List.length_map, Nat.add_assoc, List.drop_length_add_append, List.drop_append_of_le_length (by omega)]
                simp [List.append_assoc]
              have key : ∃ w', (execOp a.eval o).run P w = .ok (.value (.int .i64 (min l.length (hi - lo) : Nat))) w' ∧ Mod (fun c => c = b) w w' ∧ w'.heap[b]? = some (.cells (c1 ++ (d1.take lo ++ (l.take (hi - lo)).map (bV .u8) ++ d1.drop (lo + (l.take (hi - lo)).length) ++ d2)).toArray T2 (0, 0)) := by
                have hcall : ∀ r w', (Builtin.copy_ #[T, T'] o.type #[a.eval x, a.eval y]).run P w = .ok r w' → (execOp a.eval o).run P w = .ok (.value r) w' := fun r w' hr => by
                  simp [execOp, ho, resolve, invoke, builtin, hr]
                rw [g2, e1] at hcall
                cases ad with
                | none =>
                  obtain ⟨e5, rfl⟩ := e3 rfl
                  have : l = [] := by simpa using e5
                  subst this
                  refine ⟨w, hcall _ _ ?_, Mod.refl _ _, ?_⟩
                  · rw [List.length_nil, run_copy_nil (P := P) w T T' o.type et ⟨b, p, none⟩ (hi - lo) q (ty_slice hT rfl) (by rw [hinfo]; rfl)]
                    simp [goInt]
                  · rw [h2]; simp
                | some ad =>
                  have hrow := run_copy_row (P := P) w T T' o.type et b p (hi - lo) q ad l.length cap (c1 ++ (d1 ++ d2)).toArray T2 ((l.take (hi - lo)).map (bV .u8)) (ty_slice hT rfl) hinfo h2 (by simp [Nat.min_comm]) (fun j u hu => ?_) ?_ ?_
                  · have hq : goInt (((l.take (hi - lo)).map (bV .u8)).length) = .int .i64 (min l.length (hi - lo) : Nat) := by rw [List.length_map, hlen]; rfl
                    rw [hq] at hrow
                    refine ⟨_, hcall _ _ hrow, Mod.setRow _ _ _, ?_⟩
                    · rw [hp, setRow_heap w b _ _ T2 _ h2]
                      rw [← hset2]
                  · refine e4 ad rfl j u ?_
                    rw [List.map_take, List.getElem?_take] at hu
                    split at hu
                    · exact hu
                    · cases hu
                  · simp only [List.length_map, List.size_toArray, List.length_append]; omega
                  · intro u hu
                    obtain ⟨b, _, rfl⟩ := List.mem_map.1 hu; rfl
              obtain ⟨w', hrun, hm, hheap⟩ := key
              obtain ⟨R, r1, r2, _⟩ := hs.owns_iff (σ := σ)
              have hbown : ∀ so : SO, (∃ ps, so = .box T2 ps) → ∀ c, so.own σ k c ↔ c = b := by
                rintro so ⟨ps, rfl⟩ c
                simp only [SO.own, h1, Option.some.injEq]
                constructor
                · rintro ⟨v, rfl, h⟩; simp only [blkO, Option.some.injEq] at h; exact h.symm
                · rintro rfl; exact ⟨_, rfl, rfl⟩
              have hM : ∀ c, c = b → owns σ objs c := fun c hc => (r1 c).2 (.inr ((hbown _ ⟨_, rfl⟩ c).2 hc))
              have hown : ∀ c, owns σ objs' c → owns σ objs c ∨ w.heap.size ≤ c := fun c hc => .inl ((r1 c).2 (((r2 c).1 hc).imp id fun h => (hbown _ ⟨_, rfl⟩ c).2 ((hbown _ ⟨_, rfl⟩ c).1 h)))
              have hst' := hst.upd hm hM hown (hst.obs.set hs (hm.mono fun c hc => (hbown _ ⟨_, rfl⟩ c).2 hc) ⟨b, _, h1, hheap, hL.later (hst.lat hm hM hown) _ _ _ hcells⟩ (fun c hc => .inl ((hbown _ ⟨_, rfl⟩ c).2 ((hbown _ ⟨_, rfl⟩ c).1 hc))) hst.a0lt)
              unfold Oper.wp
              rw [hrun]
              simp only [Oper.upon]
              unfold dstV at hK
              split at hK
              · rename_i hd0
                rw [hd0]
                exact hX σ _ _ _ _ _ hK hst' (fun e => by cases e)
              · rename_i d hd0
                split at hK
                · rename_i hlt
                  have hK2 := frcV_k hK
                  rw [hd0]
                  refine hX σ _ _ _ _ _ hK2 (hst'.put (by simpa [Nat.blt_eq] using hlt) (hvI.2 ⟨rfl, fun _ => ?_⟩)) (fun e => by cases e)
                  unfold inR
                  have : maxLen ≤ 9223372036854775807 := by decide
                  omega
                · exact hK.elim
            · exact h.elim
          · exact h.elim
        · exact h.elim
      · exact h.elim
    · exact h.elim
  · exact h.elim
end
end Go.Proofs.YtdflndjlnkoliaaGreatDoor

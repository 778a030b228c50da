import Derived.Laws.BytesArg
import Derived.Lib.ConvBytes
import Derived.Test.YtdflndjlnkoliaaGreatDoorCp
/- MY OWN ENGINE: bytes as a string, a string as bytes. -/
namespace Go.Proofs.YtdflndjlnkoliaaGreatDoor
set_option linter.all false
open Go.RowKit
section
variable {P : Program} [TabC P] {S : Sig} {σ : Sg} {env : Env} {objs : List Ob} {nx : Nat} {o : Oper} {a : Act} {w : World} {x y : Operand} {K : SV → Prop}
variable (P) in
/-- bytes as a string -/
def evStr (objs : List Ob) (T T' : Nat) (s : SV) (K : SV → Prop) : Prop := match ty P T with
  | some ⟨.sl e, _, _⟩ => match ty P e, ty P T' with
    | some ⟨.int .u8, _, _⟩, some ⟨.str, _, _⟩ => match srcE objs s 1 with
      | some f => Ex (fun l : List (BitVec 8) => f.els = l.map eB) fun l => K (.str l)
      | none => False
    | _, _ => False
  | _ => False
theorem Kept.cellq {w w' : World} (h : Kept w w') {a : Addr} {v : Value} (hv : w.cell? a = some v) : w'.cell? a = some v := by
  have hlt : a.block < w.heap.size := by
    unfold World.cell? at hv
    split at hv
    · rename_i hh; exact (Array.getElem?_eq_some_iff.1 hh).1
    · cases hv
  unfold World.cell? at hv ⊢
  rw [h.block _ hlt id]; exact hv
theorem push_bytes (l : List (BitVec 8)) : (l.map fun b => (b.toNat : Int)).foldl (fun r n => r.push (UInt8.ofNat n.toNat)) ByteArray.empty = baOf l := by
  rw [foldl_push_bytes]
  unfold baOf
  rw [List.map_map]
  congr 1
  have : ((fun n : Int => UInt8.ofNat n.toNat) ∘ fun b : BitVec 8 => (b.toNat : Int)) = UInt8.ofBitVec := by
    funext b
    apply UInt8.toBitVec_inj.1
    simp [UInt8.ofNat]
  rw [this]
  show #[] ++ (List.map UInt8.ofBitVec l).toArray = _
  simp
theorem evStr_sound {T T' : TypeId} {s : SV} (ho : o.op = .convert T T' x) (hx : evx P env x = some s) (h : evStr P objs T T' s K) : LoadK P S env objs nx o K := by
  unfold evStr at h
  split at h
  · rename_i e _ _ hT
    split at h
    · rename_i he hT'
      split at h
      · rename_i f hf
        obtain ⟨l, hl, h⟩ := h
        intro σ a w hst
        refine ⟨_, .string (baOf l), h, hvS.2 rfl, fun w' hw => ?_⟩
        obtain ⟨h1, ad, c, cs, h2, h3, h4, h5⟩ := srcE_spec hf hx hst
        rw [hl] at h3 h4 h2
        have hcs := hE_bytes h3
        have u1 := ty_slice hT rfl
        have u2 := ty_int he rfl
        have u3 := ty_str hT' rfl
        have hrun : (convert T T' (a.eval x)).run P w' = .ok (.string (baOf l)) w' := by
          rw [h2]
          cases ad with
          | none =>
            obtain ⟨hnil, _⟩ := h4 rfl
            have : l = [] := List.map_eq_nil_iff.1 hnil
            subst this
            rw [run_convert_bytes_nil w' T e u1 u2 _ _ T' u3]; rfl
          | some ad =>
            have hlc : (loadCells ad l.length).run P w' = .ok ((l.map fun b => (b.toNat : Int)).map (Value.int .u8)).toArray w' := by
              have := run_loadCells_list (P := P) w' ad cs (fun j v hj => hw.cellq (h5 ad rfl j v hj))
              rw [hcs, List.length_map] at this
              rw [this, List.map_map]; rfl
            rw [run_convert_bytes_string w' T T' e _ _ c u1 u2 u3, List.length_map, run_bytesToString w' ad l.length c _ hlc, push_bytes]
        simp [execOp, ho, hrun]
      · exact h.elim
    · exact h.elim
  · exact h.elim
variable (P) in
/-- a string as bytes: a new row, which nobody writes -/
def evByt (n : Nat) (dst : Option Nat) (env : Env) (objs : List Ob) (nx : Nat) (T T' : Nat) (s : SV) (K : KS) : Prop := match ty P T with
  | some ⟨.str, _, _⟩ => match ty P T' with
    | some ⟨.sl e, _, _⟩ => match ty P e, s with
      | some ⟨.int .u8, 1, _⟩, .str l => Side (l.length ≤ 140737488355328) (dstV n dst env (.fs 1 eB l) fun env => K env objs nx)
      | _, _ => False
    | _ => False
  | _ => False
/-- nothing that stood has turned -/
theorem St.kept {w' : World} (h : St P S σ env objs nx a w) (hm : Kept w w') : St P S σ env objs nx a w' := by
  have hl : Later w (S.A σ objs) w' (S.A σ objs) := hm.later _ fun _ _ hb => hb
  exact h.upd (M := fun _ => False) hm (fun _ x => x.elim) (fun b hb => .inl hb) ⟨fun r hr => (h.obs.holds r hr).later hl fun b hb => hm.block b (h.obs.lt b (owns_mem hr hb)).1 id, h.obs.disj, fun b hb => ⟨Nat.lt_of_lt_of_le (h.obs.lt b hb).1 hm.size, (h.obs.lt b hb).2⟩⟩
theorem bytes_kept (w : World) (e : TypeId) (s : ByteArray) : Kept w (Go.Lib.bytesWorld w e s) :=
  ⟨rfl, rfl, rfl, by rw [Go.Lib.bytesWorld_size]; omega, fun k hk _ => Go.Lib.bytesWorld_at_old w e s k hk⟩
theorem baOf_list (l : List (BitVec 8)) : (baOf l).data.toList = l.map UInt8.ofBitVec := rfl
theorem evByt_sound {T T' : TypeId} {s : SV} {K : KS} (ho : o.op = .convert T T' x) (hx : evx P env x = some s) (h : evByt P S.n o.dst env objs nx T T' s K) : DoesK P S env objs nx o true K := by
  unfold evByt at h
  split at h
  · rename_i hT
    split at h
    · rename_i e _ _ hT'
      split at h
      · rename_i l he
        obtain ⟨hlen, h⟩ := h
        intro σ a w hst X Q hX
        have u1 := ty_str hT rfl
        have u2 := ty_slice hT' rfl
        have u3 := ty_int he rfl
        have hv := hvS.1 (hst.ev hx)
        have hsz : (baOf l).size = l.length := baOf_size l
        have hrun : (execOp a.eval o).run P w = .ok (.value (.slice (some ⟨w.heap.size, 0, none⟩) l.length (grownCap w l.length 0 e))) (Go.Lib.bytesWorld w e (baOf l)) := by
          have := Go.Lib.run_convert_string_bytes (P := P) w T T' e (baOf l) u1 u2 u3
          rw [hsz] at this
          simp [execOp, ho, hv, this]
        have hmax : l.length ≤ maxLen := Nat.le_trans hlen (by decide)
        have hst' := hst.kept (bytes_kept w e (baOf l))
        have hval : (SV.fs 1 eB l).hv (Go.Lib.bytesWorld w e (baOf l)) (S.A σ objs) σ (.slice (some ⟨w.heap.size, 0, none⟩) l.length (grownCap w l.length 0 e)) := by
          refine ⟨_, _, rfl, grownCap_ge _ _ _ _, grownCap_le_maxLen _ _ _ _ hmax, fun h => (by cases h), fun i hi => rfl, fun ad had => .inr ?_⟩
          cases had
          refine ⟨rfl, fun hA => ?_, _, _, _, Go.Lib.bytesWorld_at_new w e (baOf l), fun i hi => ?_⟩
          · rcases hA with hA | hA
            · exact absurd (hst.a0lt _ hA) (Nat.lt_irrefl _)
            · exact absurd (hst.obs.lt _ hA).1 (Nat.lt_irrefl _)
          · refine hL.single.2 ?_
            simp only [SV.hc]
            have e1 : (Go.Lib.bytesCells w e (baOf l)).toList = l.map (bV .u8) ++ Array.toList (Array.replicate (grownCap w (baOf l).size 0 e - (baOf l).size) (.int .u8 0)) := by
              unfold Go.Lib.bytesCells
              rw [Array.toList_append, Array.toList_map, baOf_list, List.map_map]
              rfl
            rw [e1, Nat.zero_add, Nat.mul_one, List.drop_append_of_le_length (by simp; omega)]
            rw [List.take_append_of_le_length (by simp; omega)]
            rw [List.drop_eq_getElem_cons (by simpa using hi)]
            simp
        unfold Oper.wp
        rw [hrun]
        unfold dstV at h
        split at h
        · rename_i hd
          simp only [Oper.upon, hd]
          exact hX σ _ _ _ _ _ h hst' (fun _ => bytes_kept w e _)
        · rename_i d hd
          simp only [Oper.upon, hd]
          split at h
          · rename_i hlt
            exact hX σ _ _ _ _ _ (frcV_k (K := fun s => K ((d, s) :: env) objs nx) h) (hst'.put (by simpa [Nat.blt_eq] using hlt) hval) (fun _ => bytes_kept w e _)
          · exact h.elim
      · exact h.elim
    · exact h.elim
  · exact h.elim
end
end Go.Proofs.YtdflndjlnkoliaaGreatDoor

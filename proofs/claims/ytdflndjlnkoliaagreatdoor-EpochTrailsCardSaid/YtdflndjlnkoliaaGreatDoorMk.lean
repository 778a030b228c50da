import Derived.Test.YtdflndjlnkoliaaGreatDoorRow2
import Derived.Laws.MakeOwn
/- MY OWN ENGINE: rows that are made; rows of one's own, cut off. -/
namespace Go.Proofs.YtdflndjlnkoliaaGreatDoor
set_option linter.all false
open Go.RowKit
section
variable {P : Program} [TabC P] {S : Sig} {σ : Sg} {env : Env} {objs : List Ob} {nx : Nat} {o : Oper} {a : Act} {w : World} {x y : Operand} {K : KS}
/-- a new row of one's own, with room -/
theorem St.newRow' {e z : Nat} {els : List (List SV)} {so : SO} {C : Array Value} {cs : List Value} {v : Value} (h : St P S σ env objs nx a w) (hso : ∀ w A σ, rowH w A σ nx e z els → so.holds w A σ nx) (hown : ∀ σ b, so.own σ nx b ↔ ∃ v, σ nx = some v ∧ blkO v = some b)
    (hel : ∀ e ∈ els, szL e = z) (hlen : els.length ≤ 140737488355328) (hC : hE w (S.A σ objs) sg0 els cs) (hrow : (w.alloc (.cells C e)).ownsRow 0 e z v els.length cs) (hv : blkO v = some w.heap.size) :
    St P S (σ.set nx v) env ((nx, so) :: objs) (nx + 1) a (w.alloc (.cells C e)) := by
  have h1 := h.name v
  have hle := Sg.le_set (σ := σ) (v := v) (h.dom nx (Nat.le_refl _))
  have hn : ∀ b, so.own (σ.set nx v) nx b ↔ b = w.heap.size := fun b => by
    rw [hown, Sg.set_self]
    constructor
    · rintro ⟨u, hu, hb⟩; cases hu; rw [hv] at hb; cases hb; rfl
    · rintro rfl; exact ⟨v, rfl, hv⟩
  have hown2 : ∀ b, owns (σ.set nx v) ((nx, so) :: objs) b → owns (σ.set nx v) objs b ∨ w.heap.size ≤ b := fun b hb => by
    rcases hb with hb | hb
    · rw [(hn b).1 hb]; exact .inr (Nat.le_refl _)
    · exact .inl hb
  refine h1.upd (M := fun _ => False) (Mod.alloc _ w _) (fun _ x => x.elim) hown2 (h1.obs.cons (Mod.alloc _ w _) ?_ (fun b hb => by rw [(hn b).1 hb]; exact Nat.le_refl _) h.a0lt)
  refine hso _ _ _ ⟨v, cs, Sg.set_self _ _ _, hel, hlen, hC.later ?_, hrow⟩
  refine (Mod.alloc (fun _ => False) w (.cells C e)).later (fun _ x => x.elim) (fun b hb hx => hx.imp id fun hx => ?_)
  exact (owns_names hle h.obs.holds b).1 ((hown2 b hx).resolve_right (by omega))
def isZ : Int → Bool
  | .ofNat 0 => true
  | _ => false
theorem isZ_spec {n : Int} (h : isZ n = true) : n = 0 := by
  unfold isZ at h; split at h
  · rfl
  · cases h
variable (P) in
/-- a row made: of no length, with room; or full of zeros -/
def evMake (m : Nat) (dst : Option Nat) (env : Env) (objs : List Ob) (nx : Nat) (T : Nat) (s u : SV) (K : KS) : Prop := dstK m dst fun d => match ty P T with
  | some ⟨.sl et, _, _⟩ => match ty P et, zeroOf (TabC.tab P) 9 et with
    | some j, some zp => match sizQ zp j.size with
      | true => match s, u with
        | .int .i64 l, .int .i64 c => match isZ l with
          | true => Side (0 ≤ c ∧ j.bytes * c ≤ 281474976710656) (K ((d, .own nx) :: env) ((nx, .lits et j.size []) :: objs) (nx + 1))
          | false => Side (l = c ∧ 0 ≤ c ∧ c ≤ 140737488355328 ∧ j.bytes * c ≤ 281474976710656) (K ((d, .own nx) :: env) ((nx, .lits et j.size (List.replicate c.toNat zp)) :: objs) (nx + 1))
        | _, _ => False
      | false => False
    | _, _ => False
  | _ => False
theorem madeCells_chunk {z : Array Value} {n i : Nat} (hi : i < n) : ((madeCells z (n * z.size)).toList.drop (i * z.size)).take z.size = z.toList := by
  have hle : i * z.size + z.size ≤ n * z.size := by rw [← Nat.succ_mul]; exact Nat.mul_le_mul_right _ hi
  refine List.ext_getElem (by simp [madeCells]; omega) fun j h1 h2 => ?_
  simp only [List.length_take, List.length_drop] at h1
  have hj : j < z.size := by simpa using h2
  rw [List.getElem_take, List.getElem_drop]
  simp only [madeCells, Array.toList_map, Array.toList_range, List.getElem_map, List.getElem_range, Array.getElem_toList]
  rw [show (i * z.size + j) % z.size = j by rw [Nat.mul_comm, Nat.mul_add_mod, Nat.mod_eq_of_lt hj]]
  exact getElem!_pos z j hj
theorem evMake_sound {T : TypeId} {s u : SV} (ho : o.op = .makeSlice T x y) (hx : evx P env x = some s) (hy : evx P env y = some u) (h : evMake P S.n o.dst env objs nx T s u K) : DoesK P S env objs nx o true K := by
  obtain ⟨d, hd, hlt, h2⟩ := dstK_spec h
  replace h := h2
  clear h2
  split at h
  · rename_i et _ _ ht
    split at h
    · rename_i j zp hj hz
      split at h
      · rename_i hzz
        have hzz' := sizQ_spec hzz
        obtain ⟨inf, zv, hi, hz0, hisz, hzc⟩ := zero_spec (P := P) hz
        obtain ⟨inf', _, hi', _, hsz, hby, _⟩ := ty_spec hj
        rw [hi] at hi'; cases hi'
        have hzs : zv.cells.size = inf.size := by
          have := (hzc ⟨#[], default, default, default, default⟩ (fun _ => False) sg0).len
          rw [hisz, ← this]; simp
        split at h
        · rename_i l c
          split at h
          · rename_i hl
            have := isZ_spec hl; subst this
            refine DoesK.of h.k fun σ a w hst => ?_
            obtain ⟨h0, hb⟩ := h.h
            have e1 := (hvI.1 (hst.ev hx)).1
            obtain ⟨e2, hr⟩ := hvI.1 (hst.ev hy)
            have hr := hr rfl
            have hmx : c.toNat ≤ maxLen := by
              have : maxLen = 9223372036854775807 := by decide
              have := hr.2; omega
            have hrun := run_make (P := P) w T et inf zv (ty_slice ht rfl) hi hz0 .i64 .i64 0 c (Int.le_refl _) h0 (by rw [hby]; exact hb) (by have := hr.2; omega)
            refine ⟨.value (.slice (some ⟨w.heap.size, 0, none⟩) 0 c.toNat), _, w.alloc (.cells (madeCells zv.cells (c.toNat * inf.size)) et), σ.set nx (.slice (some ⟨w.heap.size, 0, none⟩) 0 c.toNat), ?_, .inl rfl, ?_, fun _ => Mod.alloc _ w _⟩
            · simp only [execOp, ho, e1, e2, Sem.run_bind, hrun, Result.andThen_ok, Sem.run_pure, Int.toNat_zero]
            · rw [hd]
              refine (hst.newRow' (so := .lits et j.size []) (cs := []) (fun _ _ _ h => h) (fun _ _ => Iff.rfl) (by simp) (by simp) rfl ?_ rfl).put hlt (own_self nx _ rfl)
              exact World.ownsRow_made w _ c.toNat (Nat.zero_le _) hmx (by rw [size_madeCells, hsz])
          · refine DoesK.of h.k fun σ a w hst => ?_
            obtain ⟨rfl, h0, hmx0, hb⟩ := h.h
            have e1 := (hvI.1 (hst.ev hx)).1
            obtain ⟨e2, hr⟩ := hvI.1 (hst.ev hy)
            have hr := hr rfl
            have hmx : l.toNat ≤ maxLen := by
              have : maxLen = 9223372036854775807 := by decide
              have := hr.2; omega
            have hrun := run_make (P := P) w T et inf zv (ty_slice ht rfl) hi hz0 .i64 .i64 l l h0 (Int.le_refl _) (by rw [hby]; exact hb) (by have := hr.2; omega)
            refine ⟨.value (.slice (some ⟨w.heap.size, 0, none⟩) l.toNat l.toNat), _, w.alloc (.cells (madeCells zv.cells (l.toNat * inf.size)) et), σ.set nx (.slice (some ⟨w.heap.size, 0, none⟩) l.toNat l.toNat), ?_, .inl rfl, ?_, fun _ => Mod.alloc _ w _⟩
            · simp only [execOp, ho, e1, e2, Sem.run_bind, hrun, Result.andThen_ok, Sem.run_pure]
            · rw [hd]
              refine (hst.newRow' (so := .lits et j.size (List.replicate l.toNat zp)) (cs := (madeCells zv.cells (l.toNat * inf.size)).toList) (fun _ _ _ h => h) (fun _ _ => Iff.rfl) (fun e he => ?_) (by simp; omega) ?_ ?_ rfl).put hlt (own_self nx _ rfl)
              · rw [(List.mem_replicate.1 he).2]; exact hzz'
              · refine hE.of (z := inf.size) (by simp [size_madeCells]) fun i e hi => ?_
                obtain ⟨h1, h2⟩ := List.getElem?_eq_some_iff.1 hi
                have hl : i < l.toNat := by simpa using h1
                rw [List.getElem_replicate] at h2; subst h2
                rw [← hzs, madeCells_chunk hl]
                exact hzc _ _ _
              · have := World.ownsRow_lit (base := 0) (e := et) (size := j.size) w (madeCells zv.cells (l.toNat * inf.size)) l.toNat (Nat.zero_le _) hmx (by rw [size_madeCells, hsz])
                simpa using this
        · exact h.elim
      · exact h.elim
    · exact h.elim
  · exact h.elim
/-! ## a row of one's own, cut off -/
theorem hE.take {A : Own} {z : Nat} {els : List (List SV)} {cs : List Value} (h : hE w A σ els cs) (hz : ∀ e ∈ els, szL e = z) (k : Nat) (hk : k ≤ els.length) : hE w A σ (els.take k) (cs.take (k * z)) := by
  have hl := h.len hz
  have hkz : k * z ≤ els.length * z := Nat.mul_le_mul_right _ hk
  refine hE.of (z := z) (by rw [List.length_take, List.length_take]; rw [Nat.min_eq_left hk, Nat.min_eq_left (by omega)]) fun i e hi => ?_
  obtain ⟨h1, h2⟩ := List.getElem?_eq_some_iff.1 hi
  have hik : i < k := by rw [List.length_take] at h1; omega
  rw [List.getElem_take] at h2
  have := h.get hz (i := i) (e := e) (by rw [← h2]; exact List.getElem?_eq_getElem (by omega))
  rw [List.drop_take, List.take_take, Nat.min_eq_left]
  · exact this
  · rw [← Nat.sub_mul]
    exact Nat.le_mul_of_pos_left _ (by omega)
variable (P) in
def evTrunc (m : Nat) (dst : Option Nat) (env : Env) (objs : List Ob) (nx : Nat) (T : Nat) (s u : SV) (K : KS) : Prop := dstK m dst fun d => match ty P T with
  | some ⟨.sl et, _, _⟩ => match ty P et with
    | some j => match s, u with
      | .own k, .int .i64 h => match lk objs k with
        | some (.row e z enc xs) => Side (0 ≤ h ∧ h ≤ xs.length) (setK objs k nx (.row e z enc (xs.take h.toNat)) fun o => K ((d, .own nx) :: env) o (nx + 1))
        | some (.lits e z els) => Side (0 ≤ h ∧ h ≤ els.length) (setK objs k nx (.lits e z (els.take h.toNat)) fun o => K ((d, .own nx) :: env) o (nx + 1))
        | _ => False
      | _, _ => False
    | none => False
  | _ => False
theorem trunc_own {T et k : TypeId} {j i : TI} {d : Nat} {e z : Nat} {els : List (List SV)} {so so' : SO} {objs' : List Ob} {n : Int} (ho : o.op = .slice T x none (some y) none) (hd : o.dst = some d) (hlt : d < S.n) (hx : evx P env x = some (.own k)) (hy : evx P env y = some (.int .i64 n))
    (ht : ty P T = some i) (hik : i.k = .sl et) (hj : ty P et = some j) (hk : lk objs k = some so) (hso : ∀ w A σ, so.holds w A σ k ↔ rowH w A σ k e z els) (hsown : ∀ σ c, so.own σ k c ↔ ∃ v, σ k = some v ∧ blkO v = some c)
    (hso' : ∀ w A σ, so'.holds w A σ nx ↔ rowH w A σ nx e z (els.take n.toNat)) (hsown' : ∀ σ c, so'.own σ nx c ↔ ∃ v, σ nx = some v ∧ blkO v = some c)
    (hn : 0 ≤ n ∧ n ≤ els.length) (hl : setO objs k nx so' = some objs') (hK : K ((d, .own nx) :: env) objs' (nx + 1)) : DoesK P S env objs nx o true K := by
  have hs := setO_spec hk hl
  refine DoesK.of hK fun σ a w hst => ?_
  have hrow := (hso _ _ _).1 (lk_holds hst hk)
  have hv := own_ev hx hst
  obtain ⟨v, cs, hv0, hz, hlen, hE0, hown⟩ := hrow
  rw [hv] at hv0; cases hv0
  have hyv := (hvI.1 (hst.ev hy)).1
  -- the value
  have key : ∃ v', (execOp a.eval o).run P w = .ok (.value v') w ∧ w.ownsRow 0 e z v' (els.take n.toNat).length (cs.take (n.toNat * z)) ∧ v'.ownBlock = (a.eval x).ownBlock := by
    have htl : (els.take n.toNat).length = n.toNat := by rw [List.length_take]; omega
    rw [htl]
    have hcl : cs.length = els.length * z := hE0.len hz
    have hnz : n.toNat * z ≤ els.length * z := Nat.mul_le_mul_right _ (by omega)
    have htk : (cs.take (n.toNat * z)).length = n.toNat * z := by rw [List.length_take]; omega
    rcases hown.2 with ⟨hv1, hl0⟩ | ⟨g, cap, cur, hv1, hb0, hg, hnc, hcm, hcs, hcut⟩
    · have hn0 : n.toNat = 0 := by omega
      have hb := run_bounds (P := P) (sl := true) (n := 0) (c := 0) (lo := none) (hi := some (a.eval y)) (mx := none) (l := none) (h := some n) (m := none) (.inl ⟨rfl, rfl⟩) (.inr ⟨.i64, n, by rw [hyv], rfl⟩) (.inl ⟨rfl, rfl⟩) (.inl rfl) (Int.le_refl _) (by show (0 : Int) ≤ n; exact hn.1) (by show n ≤ ((0 : Nat) : Int); have := hn.2; omega) (Int.le_refl _) w
      refine ⟨.slice none 0 0, ?_, ⟨htk, .inl ⟨rfl, hn0⟩⟩, by rw [hv1]⟩
      have hz0 : n = 0 := by omega
      subst hz0
      simp only [loI, hiI] at hb
      simp [execOp, ho, hv1, Instr.sliceAt, Instr.slice, run_underlying (ty_slice ht hik), hb, run_sizeOf' hj]
    · have hb := run_bounds (P := P) (sl := true) (n := els.length) (c := cap) (lo := none) (hi := some (a.eval y)) (mx := none) (l := none) (h := some n) (m := none) (.inl ⟨rfl, rfl⟩) (.inr ⟨.i64, n, by rw [hyv], rfl⟩) (.inl ⟨rfl, rfl⟩) (.inl rfl) (Int.le_refl _) (by show (0 : Int) ≤ n; exact hn.1) (by show n ≤ (cap : Int); omega) (Int.le_refl _) w
      refine ⟨.slice (some ⟨g, 0, none⟩) n.toNat cap, ?_, ⟨htk, .inr ⟨g, cap, cur, rfl, hb0, hg, by omega, hcm, hcs, by rw [← hcut, List.take_take, Nat.min_eq_left hnz]⟩⟩, by rw [hv1]; rfl⟩
      simp only [loI, hiI] at hb
      simp [execOp, ho, hv1, Instr.sliceAt, Instr.slice, run_underlying (ty_slice ht hik), hb, run_sizeOf' hj, Addr.add]
  obtain ⟨v', hrun, hown', hblk⟩ := key
  have h1 := hst.name v'
  have hle := Sg.le_set (σ := σ) (v := v') (hst.dom nx (Nat.le_refl _))
  obtain ⟨R, r1, r2, _⟩ := hs.owns_iff (σ := σ.set nx v')
  have hold : ∀ c, so.own (σ.set nx v') k c ↔ (a.eval x).ownBlock = some c := fun c => by
    rw [hsown, hle _ _ hv]
    exact ⟨fun ⟨u, hu, hb⟩ => by cases hu; rw [← own_blk' hown]; exact hb, fun h => ⟨_, rfl, by rw [own_blk' hown]; exact h⟩⟩
  have hnew : ∀ c, so'.own (σ.set nx v') nx c ↔ (a.eval x).ownBlock = some c := fun c => by
    rw [hsown', Sg.set_self, ← hblk]
    exact ⟨fun ⟨u, hu, hb⟩ => by cases hu; rw [← own_blk' hown']; exact hb, fun h => ⟨_, rfl, by rw [own_blk' hown']; exact h⟩⟩
  have how : ∀ c, owns (σ.set nx v') objs' c → owns (σ.set nx v') objs c ∨ w.heap.size ≤ c := fun c hc => by
    rcases (r2 c).1 hc with h | h
    · exact .inl ((r1 c).2 (.inl h))
    · exact .inl ((r1 c).2 (.inr ((hold c).2 ((hnew c).1 h))))
  have hm : Kept w w := Mod.refl _ w
  have hlat := h1.lat hm (fun _ x => x.elim) how
  have hl0 : Later w (S.A σ objs) w (S.A (σ.set nx v') objs') := (Later.own fun b hb => hb.imp id (owns_names hle hst.obs.holds b).1).trans hlat
  refine ⟨.value v', v', w, σ.set nx v', hrun, .inl rfl, ?_, fun _ => hm⟩
  rw [hd]
  refine (h1.upd hm (fun _ x => x.elim) how (h1.obs.set hs (hm.mono fun c hc => hc.elim) ((hso' _ _ _).2 ⟨v', cs.take (n.toNat * z), Sg.set_self _ _ _, fun e he => hz e (List.mem_of_mem_take he), by rw [List.length_take]; omega, (hE0.take hz _ (by omega)).later hl0, hown'⟩) (fun c hc => .inl ((hold c).2 ((hnew c).1 hc))) h1.a0lt)).put hlt (own_self nx v' (own_blk hown').2)
theorem evTrunc_sound {T : TypeId} {s u : SV} (ho : o.op = .slice T x none (some y) none) (hx : evx P env x = some s) (hy : evx P env y = some u) (h : evTrunc P S.n o.dst env objs nx T s u K) : DoesK P S env objs nx o true K := by
  obtain ⟨d, hd, hlt, h2⟩ := dstK_spec h
  replace h := h2
  clear h2
  split at h
  · rename_i et _ _ ht
    split at h
    · rename_i j hj
      split at h
      · rename_i k n
        split at h
        · rename_i e z α enc xs hk
          obtain ⟨l, hl, hK⟩ := setK_spec h.k
          have hh := h.h
          exact trunc_own (els := xs.map enc) ho hd hlt hx hy ht rfl hj hk (fun _ _ _ => Iff.rfl) (fun _ _ => Iff.rfl) (fun _ _ _ => by simp only [SO.holds, List.map_take]) (fun _ _ => Iff.rfl) (by simpa using hh) hl hK
        · rename_i e z els hk
          obtain ⟨l, hl, hK⟩ := setK_spec h.k
          exact trunc_own (els := els) ho hd hlt hx hy ht rfl hj hk (fun _ _ _ => Iff.rfl) (fun _ _ => Iff.rfl) (fun _ _ _ => Iff.rfl) (fun _ _ => Iff.rfl) h.h hl hK
        · exact h.elim
      · exact h.elim
    · exact h.elim
  · exact h.elim
end
end Go.Proofs.YtdflndjlnkoliaaGreatDoor

import Derived.Test.YtdflndjlnkoliaaGreatDoorCall2
/- MY OWN ENGINE: conversions that turn the state. -/
namespace Go.Proofs.YtdflndjlnkoliaaGreatDoor
set_option linter.all false
open Go.RowKit
section
variable {P : Program} [TabC P] {S : Sig} {σ : Sg} {env : Env} {objs : List Ob} {nx : Nat} {o : Oper} {a : Act} {w : World} {x y : Operand}
theorem Mod.freeze (w : World) (g n : Nat) : Mod (fun x => x = g) w (w.freeze ⟨g, n, none⟩ 1) := by
  have : (w.freeze ⟨g, n, none⟩ 1).heap.size = w.heap.size := by simp [World.freeze]
  exact ⟨rfl, rfl, rfl, by omega, fun k _ hk => by simp only [World.freeze]; simp [Array.getElem?_modify, Ne.symm hk]⟩
/-- bytes of one's own that are marked: they are written no more -/
theorem St.mark {objs' : List Ob} {k e : Nat} {so : SO} {l : List (BitVec 8)} {T et : TypeId} {i j : TI} (h : St P S σ env objs nx a w) (hs : SetO objs (k, so) (k, .frow 1 eB l) objs')
    (hso : ∀ w A σ, so.holds w A σ k ↔ rowH w A σ k e 1 (l.map eB)) (hown : ∀ σ b, so.own σ k b ↔ ∃ v, σ k = some v ∧ blkO v = some b) (hl : 0 < l.length)
    (ho : o.op = .convert T T x) (hx : evx P env x = some (.own k)) (hty : ty P T = some i) (hk : i.k = .sl et) (hj : ty P et = some j) (hu : j.k = .int .u8) :
    ∃ v w', (execOp a.eval o).run P w = .ok (.value v) w' ∧ St P S σ env objs' nx a w' ∧ (SV.fs 1 eB l).hv w' (S.A σ objs') σ v := by
  have hh := (hso _ _ _).1 (h.obs.holds _ hs.mem)
  have hsz := fun i (hi : i < l.length) => (rfl : szL (eB l[i]) = 1)
  obtain ⟨v, cs, h0, h1, h2, h3, hr⟩ := hh
  have hv := h.ev hx
  simp only [SV.hv, SV.h1, SV.hc, List.cons.injEq, and_true] at hv
  obtain ⟨v', hv1, _, hv2⟩ := hv
  rw [h0] at hv1; cases hv1
  rw [List.length_map] at *
  rcases hr.2 with ⟨rfl, hn⟩ | ⟨g, cap, cur, rfl, hb0, hg, hn, hc, hcs, ht⟩
  · omega
  · have hm := Mod.freeze w g cur.size
    have hpo : ∀ b, so.own σ k b ↔ b = g := fun b => by
      rw [hown, h0]
      exact ⟨fun ⟨v, h1, h2⟩ => by cases h1; cases h2; rfl, fun e => ⟨_, rfl, by rw [e]; rfl⟩⟩
    have hgo : ∀ b, b = g → owns σ objs b := fun b hb => owns_mem hs.mem ((hpo b).2 hb)
    have hle : ∀ b, owns σ objs' b → owns σ objs b := hs.owns_le (fun b hb => hb.elim)
    have hd := own_disj h hs (fun b hb => hb)
    have hlat := h.lat hm hgo (fun b hb => .inl (hle b hb))
    have hfz : (w.freeze ⟨g, cur.size, none⟩ 1).heap[g]? = some (.cells cur e (cur.size, cur.size + 1)) := by
      simp only [World.freeze]; simp [Array.getElem?_modify, hg]
    have hfs : (SV.fs 1 eB l).hc (w.freeze ⟨g, cur.size, none⟩ 1) (S.A σ objs') sg0 [.slice (some ⟨g, 0, none⟩) l.length cap] := by
      simp only [SV.hc, List.cons.injEq, and_true]
      refine ⟨some ⟨g, 0, none⟩, cap, rfl, hn, hc, fun h => (by cases h), hsz, fun ad had => ?_⟩
      simp only [Option.some.injEq] at had; subst had
      refine .inr ⟨rfl, hd g ((hpo g).2 rfl), cur, e, _, hfz, fun i hi => ?_⟩
      have h4 := h3.get (z := 1) h1 (i := i) (e := eB l[i]) (by simp [hi])
      have h5 := hL.later hlat _ _ _ h4
      have hmul : (i + 1) * 1 ≤ l.length * 1 := Nat.mul_le_mul_right _ hi
      rw [← ht, List.drop_take, List.take_take, Nat.min_eq_left (by omega)] at h5
      simpa using h5
    have hobs : Obs σ S.A0 objs' (w.freeze ⟨g, cur.size, none⟩ 1) := h.obs.set hs (hm.mono fun b hb => (hpo b).2 hb) ⟨_, h0, hfs⟩ (fun b hb => hb.elim) h.a0lt
    refine ⟨.slice (some ⟨g, 0, none⟩) l.length cap, w.freeze ⟨g, cur.size, none⟩ 1, ?_, h.upd hm hgo (fun b hb => .inl (hle b hb)) hobs, ?_⟩
    · have hsh : w.shape? g = some (e, cur.size) := by simp [World.shape?, hg]
      simp [execOp, ho, hv2, convert, run_underlying (ty_slice hty hk), run_underlying (ty_int hj hu), markStringish, hsh]
    · simp only [SV.hv, SV.h1]
      simp only [SV.hc] at hfs ⊢; exact hfs
variable (P) in
def cvMark (env : Env) (objs : List Ob) (nx : Nat) (T d k : Nat) (els : List (List SV)) (K : KS) : Prop := match ty P T with
  | some ⟨.sl et, _, _⟩ => match ty P et with
    | some ⟨.int .u8, _, _⟩ => Ex (fun l : List (BitVec 8) => l.map eB = els) fun l => Side (0 < l.length) (setK objs k k (.frow 1 eB l) fun o => K ((d, .fs 1 eB l) :: env) o nx)
    | _ => False
  | _ => False
variable (P) in
/-- a conversion of a type into itself -/
def evCvS (n : Nat) (dst : Option Nat) (env : Env) (objs : List Ob) (nx : Nat) (T : Nat) (s : SV) (K : KS) : Prop := dstK n dst fun d => match s with
  | .own k => match lk objs k with
    | some (.row e 1 enc xs) => cvMark P env objs nx T d k (xs.map enc) K
    | some (.lits e 1 els) => cvMark P env objs nx T d k els K
    | _ => False
  | s => evConv P T T s fun s => K ((d, s) :: env) objs nx
theorem evCvS_sound {T : TypeId} {s : SV} {K : KS} (ho : o.op = .convert T T x) (hx : evx P env x = some s) (h : evCvS P S.n o.dst env objs nx T s K) : DoesK P S env objs nx o false K := by
  obtain ⟨d, hd, hlt, h⟩ := dstK_spec h
  have core : ∀ {k e : Nat} {so : SO} {els : List (List SV)}, lk objs k = some so → evx P env x = some (.own k) → (∀ w A σ, so.holds w A σ k ↔ rowH w A σ k e 1 els) → (∀ σ b, so.own σ k b ↔ ∃ v, σ k = some v ∧ blkO v = some b) → cvMark P env objs nx T d k els K → DoesK P S env objs nx o false K := by
    intro k e so els hk hx hso hown h
    unfold cvMark at h
    split at h
    · rename_i ht
      split at h
      · rename_i hj
        obtain ⟨l, hl, hpos, h⟩ := h
        unfold setK at h
        split at h
        · rename_i o' hset
          refine DoesK.of h fun σ a w hst => ?_
          obtain ⟨v, w', h1, h2, h3⟩ := hst.mark (setO_spec hk hset) (fun w A σ => by rw [hso, hl]) hown hpos ho hx ht rfl hj rfl
          exact ⟨_, v, w', σ, h1, .inl rfl, by rw [hd]; exact h2.put hlt h3, fun e => by cases e⟩
        · exact h.elim
      · exact h.elim
    · exact h.elim
  split at h
  · rename_i k
    split at h
    · rename_i hk; exact core hk hx (fun _ _ _ => Iff.rfl) (fun _ _ => Iff.rfl) h
    · rename_i hk; exact core hk hx (fun _ _ _ => Iff.rfl) (fun _ _ => Iff.rfl) h
    · exact h.elim
  · have := evConv_sound (S := S) (nx := nx) (objs := objs) ho hx h
    intro σ a w hst X Q hX
    obtain ⟨s', v, h1, h2, h3⟩ := this σ a w hst
    unfold Oper.wp
    rw [h3 w]
    simp only [Oper.upon, hd]
    exact hX σ _ _ _ _ _ h1 (hst.put hlt h2) (fun e => by cases e)
end
end Go.Proofs.YtdflndjlnkoliaaGreatDoor

import Derived.Test.YtdflndjlnkoliaaGreatDoorRgJ
/- MY OWN ENGINE: the forms of code, loops, whole functions. -/
namespace Go.Proofs.YtdflndjlnkoliaaGreatDoor
set_option linter.all false
open Go.RowKit
section
variable {P : Program} [TabC P] {S : Sig} {σ : Sg} {env : Env} {objs : List Ob} {nx : Nat} {o : Oper} {a : Act} {w : World}
theorem wpListIn_round {l n : Nat} {ops : Array Oper} {Q : Exit → Act → World → Prop} : ∀ {r : List Oper}, noDefer r = true → wpListIn (Fence.wide.inRound l) n P ops Q r = wpListIn Fence.wide n P ops Q r
  | [], _ => rfl
  | o :: r, h => by
    have h' : (∀ c, o.op ≠ .defer c) ∧ noDefer r = true := by
      unfold noDefer at h
      split at h
      · cases h
      · rename_i hne; exact ⟨hne, h⟩
    funext a w
    unfold wpListIn
    rw [wpListIn_round h'.2]
    have he : ∀ X, o.wpIn (Fence.wide.inRound l) n P a w X Q = o.wpIn Fence.wide n P a w X Q := fun X => by
      unfold Oper.wpIn
      rw [show (Fence.wide.inRound l).round = some l from rfl, show Fence.wide.round = none from rfl, Oper.semAt_some l _ _ h'.1, Oper.semAt_none]
      generalize (execOp a.eval o).run P w = x
      cases x with
      | ok v w' => cases v <;> rfl
      | _ => rfl
    rw [he]
    rfl
variable (P) in
def condS (x y : Code) (s : SV) (H : Cfg) (env : Env) (objs : List Ob) (nx : Nat) (K : KW) : Prop := match s with
  | .bool true => Vc P H x env objs nx K
  | .bool false => Vc P H y env objs nx K
  | .dec p _ => Fork p (Vc P H x env objs nx K) (Vc P H y env objs nx K)
  | _ => False
variable (P) in
def vcS (H : Cfg) (c : Code) (env : Env) (objs : List Ob) (nx : Nat) (K : KW) : Prop := match c with
  | .skip => K .normal env objs nx
  | .region id ops draw => match ops with
    | ⟨l⟩ => match draw with
      | false => OpsK P H l l (K .normal) env objs nx
      | true => match lkD H.dr id with
        | some (_, _, ord, sl) => match nmE2 env objs sl with
          | some N => match nOk objs N with
            | true => OrdK P H l objs N ord true true (K .normal) env objs nx
            | false => False
          | none => False
        | none => False
  | .seq x y => match cutQ H x with
    | true => stillK x env fun L => CutS H.nn (Vc P H x) (Vc P H y) L env objs nx K
    | false => Vc P H x env objs nx (seqK (Vc P H y) K)
  | .cond c x y => ev1 P env c fun s => condS P x y s H env objs nx K
  | .ret => K .ret env objs nx
  | .exit i => K (.exit i) env objs nx
  | .block id c => Vc P H c env objs nx (blockK id K)
  | .scope c => Vc P H c env objs nx K
  | .label _ => K .normal env objs nx
  | .loop c => stillK c env fun L => LoopS H.nn (Vc P H c) L env objs nx K
  | .rangeFunc g ps ra rb => ev1 P env g fun s => match s with
    | .val v => Or2 (RangeS P H v ps.toList ra rb env objs nx K) (RangeJ P H v ps.toList ra rb env objs nx K)
    | _ => False
  | _ => False
theorem Vc.unf {H : Cfg} {c : Code} {K : KW} (h : vcS P H c env objs nx K) : Vc P H c env objs nx K := ⟨fun {S Q} rd hcs hn hnn hd hrd hp hK => by
  have hK0 : ∀ way env objs nx, K way env objs nx → Pr P S env objs nx (Q (exW way)) := fun way e o n hk => hK S (.refl S) way e o n hk
  match c, hd, hrd, h with
  | .skip, hd, hrd, h => exact fun σ a w hst => wpIn_skip (hK0 .normal _ _ _ h σ a w hst)
  | .region id ops false, hd, hrd, h =>
    intro σ a w hst
    obtain ⟨l⟩ := ops
    simp only [vcS] at h
    have key := h.h (ops := ⟨l⟩) hcs hn rfl (fun e o n hk => hK0 .normal e o n hk) σ a w hst
    cases rd with
    | none => exact wpIn_region_lit (n := 0) key
    | some r =>
      refine wpIn_region_lit (F := Fence.wide.inRound r) (n := 0) ?_
      rw [wpListIn_round (hrd rfl)]
      exact key
  | .region id ops true, hd, hrd, h =>
    cases rd with
    | some r => exact absurd (hrd rfl) (by simp [rdOk])
    | none =>
    intro σ a w hst
    refine wpIn_wide.2 ?_
    obtain ⟨l⟩ := ops
    simp only [vcS] at h
    split at h
    · rename_i t ll ord sl hl
      unfold drawsOk at hd
      rw [hl] at hd
      simp only [Bool.and_eq_true, beq_iff_eq] at hd
      obtain ⟨⟨h1, h2⟩, h3⟩ := hd
      split at h
      · rename_i N hNe
        split at h
        · rename_i hN
          have hst2 := hst.drewW
          let S' : Sig := { S with s0 := σ, nn := nx, w0 := w.drew, M0 := fun b => owns σ objs b }
          have hst3 : St P S' σ env objs nx a w.drew := { slots := hst2.slots, dom := hst2.dom, size := hst2.size, defers := hst2.defers, obs := hst2.obs, hist := Mod.refl _ _, own0 := fun b hb => .inl hb, a0 := hst2.a0, mks := hst2.mks, glob := hst2.glob, base := fun k _ v hv => hv, nnx := Nat.le_refl _ }
          have := h.h (S := S') (ops := ⟨l⟩) (Q := Q) hcs hn rfl hN (fun e o n hk => fun σ' a' w' hst' => hK0 .normal e o n hk σ' a' w' { slots := hst'.slots, dom := hst'.dom, size := hst'.size, defers := hst'.defers, obs := hst'.obs, hist := hst2.hist.step hst'.hist hst2.own0, own0 := fun b hb => (hst'.own0 b hb).elim (hst2.own0 b) (fun h => .inr (Nat.le_trans hst2.hist.size h)), a0 := hst'.a0, mks := hst'.mks, glob := hst'.glob, base := fun k hk v hv => hst2.base k hk v (hst'.base k (Nat.lt_of_lt_of_le hk hst2.nnx) v hv), nnx := Nat.le_trans hst2.nnx hst'.nnx }) σ a w.drew w.drew env a hst3 ⟨rfl, fun _ h => h⟩ hst3 (fun _ => rfl) (fun _ => Mod.refl _ _)
          exact wp_region_tree (fun w' => Mod (MN σ N) w.drew w') t ll ord (TabC.mix (P := P)) h1 h2 h3 hp (Mod.refl _ _) this
        · exact h.elim
      · exact h.elim
    · exact h.elim
  | .seq x y, hd, hrd, h =>
    intro σ a w hst
    simp only [drawsOk, Bool.and_eq_true] at hd
    have hrx : rd.isSome = true → rdOk x = true := fun e => by have := hrd e; simp only [rdOk, Bool.and_eq_true] at this; exact this.1
    have hry : rd.isSome = true → rdOk y = true := fun e => by have := hrd e; simp only [rdOk, Bool.and_eq_true] at this; exact this.2
    have hpt : PanicQ (Exit.then (y.wpIn (fenceOf rd) 0 P Q) Q) := fun c d v a w h => hp c d v a w h
    simp only [vcS] at h
    split at h
    · obtain ⟨L, h⟩ := stillK_k h
      obtain ⟨Φ, E, O, N, first, rest⟩ := h
      refine wpIn_seq (first.h rd hcs hn hnn hd.1 hrx hpt (fun S' hS way e o n hk => ?_) σ a w hst)
      cases way with
      | normal =>
        unfold cutK at hk
        obtain ⟨j, hj, hin⟩ := hk
        intro σ2 a2 w2 hst2
        obtain ⟨σ3, hst3⟩ := ((hnn.trans hS.nn.symm) ▸ hin).sound hst2
        exact (rest j hj).h rd hcs (hn.trans hS.n.symm) (hnn.trans hS.nn.symm) hd.2 hry hp (fun S2 h2 => hK S2 (hS.trans h2)) σ3 a2 w2 hst3
      | ret => unfold cutK at hk; exact fun σ a w hst => hK S' hS .ret e o n hk σ a w hst
      | exit i => unfold cutK at hk; exact fun σ a w hst => hK S' hS (.exit i) e o n hk σ a w hst
    · refine wpIn_seq (h.h rd hcs hn hnn hd.1 hrx hpt (fun S' hS way e o n hk => ?_) σ a w hst)
      cases way with
      | normal =>
        unfold seqK at hk
        exact fun σ a w hst => (show Vc P H y e o n K from hk).h rd hcs (hn.trans hS.n.symm) (hnn.trans hS.nn.symm) hd.2 hry hp (fun S2 h2 => hK S2 (hS.trans h2)) σ a w hst
      | ret => unfold seqK at hk; exact fun σ a w hst => hK S' hS .ret e o n hk σ a w hst
      | exit i => unfold seqK at hk; exact fun σ a w hst => hK S' hS (.exit i) e o n hk σ a w hst
  | .cond c x y, hd, hrd, h =>
    intro σ a w hst
    simp only [drawsOk, Bool.and_eq_true] at hd
    have hrx : rd.isSome = true → rdOk x = true := fun e => by have := hrd e; simp only [rdOk, Bool.and_eq_true] at this; exact this.1
    have hry : rd.isSome = true → rdOk y = true := fun e => by have := hrd e; simp only [rdOk, Bool.and_eq_true] at this; exact this.2
    obtain ⟨s, hs, h⟩ := ev1_spec h
    unfold condS at h
    split at h
    · exact wpIn_cond_true (hvB.1 (hst.ev hs)) (h.h rd hcs hn hnn hd.1 hrx hp hK σ a w hst)
    · exact wpIn_cond_false (hvB.1 (hst.ev hs)) (h.h rd hcs hn hnn hd.2 hry hp hK σ a w hst)
    · rename_i p i
      have he := hvD.1 (hst.ev hs)
      by_cases hpp : p
      · exact wpIn_cond_true (by rw [he]; simp [hpp]) ((h.t hpp).h rd hcs hn hnn hd.1 hrx hp hK σ a w hst)
      · exact wpIn_cond_false (by rw [he]; simp [hpp]) ((h.f hpp).h rd hcs hn hnn hd.2 hry hp hK σ a w hst)
    · exact h.elim
  | .ret, hd, hrd, h => exact fun σ a w hst => wpIn_ret (hK0 .ret _ _ _ h σ a w hst)
  | .exit i, hd, hrd, h => exact fun σ a w hst => wpIn_exit (hK0 (.exit i) _ _ _ h σ a w hst)
  | .block id c, hd, hrd, h =>
    intro σ a w hst
    have hpt : PanicQ (Exit.inBlock id Q) := fun c d v a w h => hp c d v a w h
    simp only [vcS] at h
    refine wpIn_block (h.h rd hcs hn hnn hd hrd hpt (fun S' hS way e o n hk => ?_) σ a w hst)
    cases way with
    | normal => unfold blockK at hk; exact fun σ a w hst => hK S' hS .normal e o n hk σ a w hst
    | ret => unfold blockK at hk; exact fun σ a w hst => hK S' hS .ret e o n hk σ a w hst
    | exit i =>
      intro σ a w hst
      show if i = id then _ else _
      unfold blockK at hk
      simp only at hk
      split at hk
      · rename_i hb
        rw [if_pos (Nat.eq_of_beq_eq_true hb)]; exact hK S' hS .normal e o n hk σ a w hst
      · rename_i hb
        rw [if_neg (fun e => by rw [e, Nat.beq_refl] at hb; cases hb)]; exact hK S' hS (.exit i) e o n hk σ a w hst
  | .scope c, hd, hrd, h =>
    cases rd with
    | some r => exact absurd (hrd rfl) (by simp [rdOk])
    | none =>
    intro σ a w hst
    have hpt : PanicQ (Exit.noGoto Q) := fun c d v a w h => hp c d v a w h
    simp only [vcS] at h
    refine wpIn_wide.2 (wp_scope_straight (wpIn_wide.1 (h.h none hcs hn hnn hd (fun e => by cases e) hpt (fun S' hS way e o n hk => ?_) σ a w hst)))
    cases way with
    | normal => exact fun σ a w hst => hK S' hS .normal e o n hk σ a w hst
    | ret => exact fun σ a w hst => hK S' hS .ret e o n hk σ a w hst
    | exit i => exact fun σ a w hst => hK S' hS (.exit i) e o n hk σ a w hst
  | .label l, hd, hrd, h =>
    intro σ a w hst
    simp only [vcS] at h
    exact wpIn_label (hK0 .normal _ _ _ h σ a w hst)
  | .loop c, hd, hrd, h =>
    cases rd with
    | some r => exact absurd (hrd rfl) (by simp [rdOk])
    | none =>
    intro σ a w hst
    obtain ⟨L, h⟩ := stillK_k h
    obtain ⟨Φ, E, O, N, m, i0, h0, hin, round⟩ := h
    refine wpIn_wide.2 (wp_loop_ghost (fun n a w => ∃ i, m i = n ∧ Φ i ∧ ∃ S1, S.Le S1 ∧ ∃ σ, St P S1 σ (E i) (O i) N a w) (m i0) ⟨i0, rfl, h0, S, .refl S, (hnn ▸ hin).sound hst⟩ ?_)
    rintro n a w ⟨i, rfl, hi, S1, hS1, σ2, hst2⟩
    have hq : PanicQ (Exit.then (fun a w => ∃ j, m j < m i ∧ Φ j ∧ ∃ S1, S.Le S1 ∧ ∃ σ, St P S1 σ (E j) (O j) N a w) Q) := fun c d v a w h => hp c d v a w h
    refine wp_mono (wpIn_wide.1 ((round i hi).h none hcs (hn.trans hS1.n.symm) (hnn.trans hS1.nn.symm) hd (fun e => by cases e) hq (fun S' hS way e o n hk => ?_) σ2 a w hst2)) ?_
    · cases way with
      | normal =>
        unfold loopK at hk
        obtain ⟨j, ⟨h1, h2⟩, h3⟩ := hk
        exact fun σ a w hst => ⟨j, h1, h2, S', hS1.trans hS, ((hnn.trans (hS1.trans hS).nn.symm) ▸ h3).sound hst⟩
      | ret => unfold loopK at hk; exact fun σ a w hst => hK S' (hS1.trans hS) .ret e o n hk σ a w hst
      | exit i => unfold loopK at hk; exact fun σ a w hst => hK S' (hS1.trans hS) (.exit i) e o n hk σ a w hst
    · intro e a' w' hq
      cases e with
      | normal => obtain ⟨j, h1, h2, h3⟩ := hq; exact ⟨m j, h1, j, rfl, h2, h3⟩
      | exit id => exact hq
      | goto l => exact hq
      | ret => exact hq
      | panic ch => exact hq
      | outgrown => exact hq
  | .rangeFunc g ps ra rb, hd, hrd, h =>
    cases rd with
    | some r => exact absurd (hrd rfl) (by simp [rdOk])
    | none =>
    intro σ a w hst
    simp only [drawsOk, Bool.and_eq_true] at hd
    obtain ⟨s, hs, h⟩ := ev1_spec h
    split at h
    · rename_i v
      have hv : a.eval g = v := by
        have := hst.ev hs
        simp only [SV.hv, SV.h1, SV.hc, List.cons.injEq, and_true] at this
        exact this.1
      rcases h with h | h
      · exact RangeS.sound h hcs hn hnn hd.1 hd.2 hK hst hv
      · exact RangeJ.sound h hcs hn hnn hd.1 hd.2 hK hst hv
    · exact h.elim⟩
end
end Go.Proofs.YtdflndjlnkoliaaGreatDoor

import Derived.Test.YtkakpdmlbkgpkaaVc
/- MY OWN ENGINE: the forms of code, loops, whole functions. -/
namespace Go.Proofs.Ytkakpdmlbkgpkaa
set_option linter.all false
open Go.RowKit
inductive Way
  | normal
  | ret
  | exit (i : Nat)
abbrev KW := Way → KS
/-- a region's order: the loads, the loud ones, the walk -/
abbrev Draw := Nat × List Nat × List Nat × Ord
def lkD : List Draw → Nat → Option (List Nat × List Nat × Ord)
  | [], _ => none
  | (k, t, l, o) :: r, n => match Nat.beq k n with
    | true => some (t, l, o)
    | false => lkD r n
/-- may all regions that draw be walked so? -/
def drawsOk (dr : List Draw) : Code → Bool
  | .region id ops true => match lkD dr id with
    | some (t, l, o) => Region.noSelect ops && (o.length == ops.size) && canOk ops t l o (Array.replicate ops.size false) true
    | none => false
  | .region _ _ false => true
  | .seq a b => drawsOk dr a && drawsOk dr b
  | .cond _ a b => drawsOk dr a && drawsOk dr b
  | .block _ c => drawsOk dr c
  | .loop c => drawsOk dr c
  | _ => true
section
variable {P : Program} [TabC P] {S : Sig} {σ : Sg} {env : Env} {objs : List Ob} {nx : Nat} {o : Oper} {a : Act} {w : World}
/-! ## states that are gone into -/
def fitE (env : Env) : Rn → List Ob → Nat → Env → KF → Prop
  | ρ, objs, nx, [], K => K ρ objs nx
  | ρ, objs, nx, (t, e) :: r, K => match lk env t with
    | some s => fitV ρ objs nx e s fun ρ objs nx => fitE env ρ objs nx r K
    | none => False
/-- the names below stand for themselves -/
def idB (nn : Nat) : Rn → Bool
  | [] => true
  | (j, k) :: r => match Nat.blt j nn with
    | true => match Nat.beq j k with
      | true => idB nn r
      | false => false
    | false => idB nn r
theorem idB_spec {nn : Nat} : ∀ {ρ : Rn}, idB nn ρ = true → ∀ j k, j < nn → lkN ρ j = some k → j = k
  | [], _, j, k, _, h => by cases h
  | (i, n) :: r, hb, j, k, hj, h => by
    unfold lkN at h
    unfold idB at hb
    split at h
    · rename_i he
      obtain rfl := Nat.eq_of_beq_eq_true he
      cases h
      have hlt : Nat.blt i nn = true := by simpa [Nat.blt_eq] using hj
      rw [hlt] at hb
      simp only at hb
      split at hb
      · rename_i hq; exact Nat.eq_of_beq_eq_true hq
      · cases hb
    · refine idB_spec (ρ := r) ?_ j k hj h
      split at hb
      · split at hb
        · exact hb
        · cases hb
      · exact hb
/-- from the one state into the other -/
def Into (nn : Nat) (env : Env) (objs : List Ob) (nx : Nat) (E : Env) (O : List Ob) (N : Nat) : Prop :=
  fitE env [] objs nx E fun ρ objs nx => fitOs ρ [] objs nx O fun ρ tk rest nx => match rnB N ρ, idB nn ρ, Nat.ble nn N with
    | true, true, true => True
    | _, _, _ => False
theorem fitE_sound {env : Env} : ∀ {E : Env} {ρ : Rn} {objs : List Ob} {nx : Nat} {K : KF}, fitE env ρ objs nx E K → ∃ ρ' objs' nx', K ρ' objs' nx' ∧ Rn.le ρ ρ' ∧ ∀ S σ a w, St P S σ env objs nx a w → ∃ σ', Sg.le σ σ' ∧ St P S σ' env objs' nx' a w ∧ Later w (S.A σ objs) w (S.A σ' objs') ∧
    ∀ t s, (t, s) ∈ E → s.hv w (S.A σ' objs') (σ'.via ρ') (a.tmps.getD t undef)
  | [], ρ, objs, nx, K, h => ⟨ρ, objs, nx, h, Rn.le.refl _, fun S σ a w hst => ⟨σ, Sg.le.refl _, hst, Later.refl _ _, fun t s hm => by cases hm⟩⟩
  | (t, e) :: r, ρ, objs, nx, K, h => by
    unfold fitE at h
    split at h
    · rename_i s hs
      obtain ⟨ρ1, o1, n1, h, f1⟩ := fitV_sound (P := P) h
      obtain ⟨ρ2, o2, n2, h, l2, f2⟩ := fitE_sound (E := r) h
      refine ⟨ρ2, o2, n2, h, f1.1.trans l2, fun S σ a w hst => ?_⟩
      obtain ⟨σ1, le1, s1, t1, p1⟩ := f1.2 S env σ a w hst
      obtain ⟨σ2, le2, s2, t2, p2⟩ := f2 S σ1 a w s1
      refine ⟨σ2, le1.trans le2, s2, t1.trans t2, fun t' s' hm => ?_⟩
      rcases List.mem_cons.1 hm with he | hm
      · cases he
        exact ((p1 _ (hst.slots t s hs)).later t2).names (via_le le2 l2)
      · exact p2 t' s' hm
    · exact h.elim
theorem Into.sound {E : Env} {O : List Ob} {N : Nat} (h : Into S.nn env objs nx E O N) (hst : St P S σ env objs nx a w) : ∃ σ', St P S σ' E O N a w := by
  obtain ⟨ρ1, o1, n1, h, _, f1⟩ := fitE_sound (P := P) h
  obtain ⟨ρ, tn, rest, n2, h, l2, f2⟩ := fitOs_sound (P := P) h
  split at h
  · rename_i hrn hid hnN
    obtain ⟨σ1, le1, s1, t1, p1⟩ := f1 S σ a w hst
    obtain ⟨σ2, le2, s2, t2, p2⟩ := f2 S env σ1 a w s1
    simp only [List.append_nil] at s2 t2 p2
    have hd := Disj_append.1 s2.obs.disj
    have hown : ∀ b, owns (σ2.via ρ) O b ↔ owns σ2 tn b := p2.owns
    have hle : ∀ b, owns (σ2.via ρ) O b → owns σ2 (tn.reverse ++ rest) b := fun b hb => by rw [owns_append]; exact .inl ((owns_rev b).2 ((hown b).1 hb))
    have hl : Later w (S.A σ2 (tn.reverse ++ rest)) w (S.A (σ2.via ρ) O) := Later.own fun b hb => hb.imp id (hle b)
    refine ⟨σ2.via ρ, { slots := fun t s ht => ?_, dom := fun k hk => by unfold Sg.via; rw [rnB_spec hrn k hk], size := s2.size, defers := s2.defers, obs := ⟨fun o ho => (p2.holds o ho).later hl (fun _ _ => rfl), p2.disj (Disj_perm (List.reverse_perm tn) hd.1), fun b hb => s2.obs.lt b (hle b hb)⟩, hist := s2.hist, own0 := fun b hb => s2.own0 b (hle b hb), a0 := s2.a0, glob := s2.glob.later hl, base := fun k hk v hv => ?_, nnx := Nat.le_of_ble_eq_true hnN }⟩
    · exact (((p1 t s (lk_mem ht)).later t2).names (via_le le2 l2)).later hl
    · unfold Sg.via at hv
      split at hv
      · rename_i k' hk'
        obtain rfl := idB_spec hid k k' hk hk'
        exact s2.base _ hk v hv
      · cases hv
  · exact h.elim
/-- a loop: which of a family of states its head is in; 'm' falls -/
inductive LoopS (nn : Nat) (B : Env → List Ob → Nat → KW → Prop) (env : Env) (objs : List Ob) (nx : Nat) (K : KW) : Prop
  | mk {I : Type} (Φ : I → Prop) (E : I → Env) (O : I → List Ob) (N : Nat) (m : I → Nat) (i0 : I) (h0 : Φ i0) (hin : Into nn env objs nx (E i0) (O i0) N)
    (round : ∀ i, Φ i → B (E i) (O i) N fun way env objs nx => match way with
      | .normal => ∃ j, (m j < m i ∧ Φ j) ∧ Into nn env objs nx (E j) (O j) N
      | .ret => K .ret env objs nx
      | .exit id => K (.exit id) env objs nx)
/-- ways that meet -/
inductive CutS (nn : Nat) (B : Env → List Ob → Nat → KW → Prop) (C : Env → List Ob → Nat → KW → Prop) (env : Env) (objs : List Ob) (nx : Nat) (K : KW) : Prop
  | mk {I : Type} (Φ : I → Prop) (E : I → Env) (O : I → List Ob) (N : Nat)
    (first : B env objs nx fun way env objs nx => match way with
      | .normal => ∃ j, Φ j ∧ Into nn env objs nx (E j) (O j) N
      | .ret => K .ret env objs nx
      | .exit id => K (.exit id) env objs nx)
    (rest : ∀ i, Φ i → C (E i) (O i) N K)
structure Cfg where
  cs : List (Nat × Ctr)
  dr : List Draw
  cut : List Nat
  cutb : List Nat
  n : Nat
  nn : Nat
def cutQ (H : Cfg) : Code → Bool
  | .cond (.tmp t) _ _ => memB H.cut t
  | .block id _ => memB H.cutb id
  | _ => false
variable (P) in
/-- what a text owes -/
def vc (H : Cfg) : Code → Env → List Ob → Nat → KW → Prop
  | .skip, env, objs, nx, K => K .normal env objs nx
  | .region id ops draw, env, objs, nx, K => match draw with
    | false => vcOps P H.cs H.n ops.toList ops.toList env objs nx (K .normal)
    | true => match lkD H.dr id with
      | some (_, _, ord) => vcR P H.cs H.n ops.toList ord true true env objs nx (K .normal)
      | none => False
  | .seq x y, env, objs, nx, K => match cutQ H x with
    | true => CutS H.nn (vc H x) (vc H y) env objs nx K
    | false => vc H x env objs nx fun way env objs nx => match way with
      | .normal => vc H y env objs nx K
      | .ret => K .ret env objs nx
      | .exit i => K (.exit i) env objs nx
  | .cond c x y, env, objs, nx, K => ev1 P env c fun s => match s with
    | .bool true => vc H x env objs nx K
    | .bool false => vc H y env objs nx K
    | .dec p _ => Fork p (vc H x env objs nx K) (vc H y env objs nx K)
    | _ => False
  | .ret, env, objs, nx, K => K .ret env objs nx
  | .exit i, env, objs, nx, K => K (.exit i) env objs nx
  | .block id c, env, objs, nx, K => vc H c env objs nx fun way env objs nx => match way with
    | .normal => K .normal env objs nx
    | .ret => K .ret env objs nx
    | .exit i => match Nat.beq i id with
      | true => K .normal env objs nx
      | false => K (.exit i) env objs nx
  | .loop c, env, objs, nx, K => LoopS H.nn (vc H c) env objs nx K
  | _, _, _, _, _ => False
def exW : Way → Exit
  | .normal => .normal
  | .ret => .ret
  | .exit i => .exit i
theorem hQnone {P : Program} : True := trivial
/-- after a panic nothing of the slots is asked -/
def PanicQ (Q : Exit → Act → World → Prop) : Prop := ∀ c d v a w, Q (.panic c) (a.put d v) w → Q (.panic c) a w
theorem vc_sound {H : Cfg} (hcs : CsOk P H.cs) (hn : H.n = S.n) (hnn : H.nn = S.nn) : ∀ (c : Code) {env : Env} {objs : List Ob} {nx : Nat} {K : KW} {Q : Exit → Act → World → Prop}, drawsOk H.dr c = true → PanicQ Q → vc P H c env objs nx K → (∀ way env objs nx, K way env objs nx → Pr P S env objs nx (Q (exW way))) → Pr P S env objs nx (c.wp P Q)
  | .skip, env, objs, nx, K, Q, hd, hp, h, hK => fun σ a w hst => wp_skip (hK .normal _ _ _ h σ a w hst)
  | .region id ops false, env, objs, nx, K, Q, hd, hp, h, hK => fun σ a w hst => by
    have h' : vcOps P H.cs S.n ops.toList ops.toList env objs nx (K .normal) := by rw [← hn]; exact h
    have := vcOps_sound (Q := Q) hcs h' (fun e o n hk => hK .normal e o n hk) σ a w hst
    obtain ⟨l⟩ := ops
    exact wp_region_lit this
  | .region id ops true, env, objs, nx, K, Q, hd, hp, h, hK => fun σ a w hst => by
    unfold vc at h
    simp only at h
    split at h
    · rename_i t l ord hl
      unfold drawsOk at hd
      rw [hl] at hd
      simp only [Bool.and_eq_true, beq_iff_eq] at hd
      obtain ⟨⟨h1, h2⟩, h3⟩ := hd
      rw [hn] at h
      exact wp_region_can (Kept w) t l ord (TabC.mix (P := P)) h1 h2 h3 hp (Mod.drew _ w) (by
        have hst2 := hst.drewW
        have := vcR_sound (Q := Q) hcs h (fun e o n hk => hK .normal e o n hk) σ a w.drew w.drew hst2 (fun _ => rfl) (fun _ => Mod.refl _ _)
        have hkk : ∀ w', Kept w.drew w' ↔ Kept w w' := fun w' => ⟨fun h => ⟨h.os, h.tape, h.output, h.size, h.block⟩, fun h => ⟨h.os, h.tape, h.output, h.size, h.block⟩⟩
        have e : Kept w.drew = Kept w := funext fun w' => propext (hkk w')
        rw [e] at this; exact this)
    · exact h.elim
  | .seq x y, env, objs, nx, K, Q, hd, hp, h, hK => fun σ a w hst => by
    simp only [drawsOk, Bool.and_eq_true] at hd
    have hpt : PanicQ (Exit.then (y.wp P Q) Q) := fun c d v a w h => hp c d v a w h
    unfold vc at h
    split at h
    · obtain ⟨Φ, E, O, N, first, rest⟩ := h
      refine wp_seq (vc_sound hcs hn hnn x hd.1 hpt first (fun way e o n hk => ?_) σ a w hst)
      cases way with
      | normal =>
        obtain ⟨j, hj, hin⟩ := hk
        intro σ2 a2 w2 hst2
        obtain ⟨σ3, hst3⟩ := (hnn ▸ hin).sound hst2
        exact vc_sound hcs hn hnn y hd.2 hp (rest j hj) hK σ3 a2 w2 hst3
      | ret => exact fun σ a w hst => hK .ret e o n hk σ a w hst
      | exit i => exact fun σ a w hst => hK (.exit i) e o n hk σ a w hst
    · refine wp_seq (vc_sound hcs hn hnn x hd.1 hpt h (fun way e o n hk => ?_) σ a w hst)
      cases way with
      | normal => exact fun σ a w hst => vc_sound hcs hn hnn y hd.2 hp hk hK σ a w hst
      | ret => exact fun σ a w hst => hK .ret e o n hk σ a w hst
      | exit i => exact fun σ a w hst => hK (.exit i) e o n hk σ a w hst
  | .cond c x y, env, objs, nx, K, Q, hd, hp, h, hK => fun σ a w hst => by
    simp only [drawsOk, Bool.and_eq_true] at hd
    obtain ⟨s, hs, h⟩ := ev1_spec h
    split at h
    · exact wp_cond_true (hvB.1 (hst.ev hs)) (vc_sound hcs hn hnn x hd.1 hp h hK σ a w hst)
    · exact wp_cond_false (hvB.1 (hst.ev hs)) (vc_sound hcs hn hnn y hd.2 hp h hK σ a w hst)
    · rename_i p i
      have he := hvD.1 (hst.ev hs)
      by_cases hpp : p
      · exact wp_cond_true (by rw [he]; simp [hpp]) (vc_sound hcs hn hnn x hd.1 hp (h.t hpp) hK σ a w hst)
      · exact wp_cond_false (by rw [he]; simp [hpp]) (vc_sound hcs hn hnn y hd.2 hp (h.f hpp) hK σ a w hst)
    · exact h.elim
  | .ret, env, objs, nx, K, Q, hd, hp, h, hK => fun σ a w hst => wp_ret (hK .ret _ _ _ h σ a w hst)
  | .exit i, env, objs, nx, K, Q, hd, hp, h, hK => fun σ a w hst => wp_exit (hK (.exit i) _ _ _ h σ a w hst)
  | .block id c, env, objs, nx, K, Q, hd, hp, h, hK => fun σ a w hst => by
    have hpt : PanicQ (Exit.inBlock id Q) := fun c d v a w h => hp c d v a w h
    refine wp_block (vc_sound hcs hn hnn c hd hpt h (fun way e o n hk => ?_) σ a w hst)
    cases way with
    | normal => exact fun σ a w hst => hK .normal e o n hk σ a w hst
    | ret => exact fun σ a w hst => hK .ret e o n hk σ a w hst
    | exit i =>
      intro σ a w hst
      show if i = id then _ else _
      simp only at hk
      split at hk
      · rename_i hb
        rw [if_pos (Nat.eq_of_beq_eq_true hb)]; exact hK .normal e o n hk σ a w hst
      · rename_i hb
        rw [if_neg (fun e => by rw [e, Nat.beq_refl] at hb; cases hb)]; exact hK (.exit i) e o n hk σ a w hst
  | .loop c, env, objs, nx, K, Q, hd, hp, h, hK => fun σ a w hst => by
    obtain ⟨Φ, E, O, N, m, i0, h0, hin, round⟩ := h
    refine wp_loop_ghost (fun n a w => ∃ i, m i = n ∧ Φ i ∧ ∃ σ, St P S σ (E i) (O i) N a w) (m i0) ⟨i0, rfl, h0, (hnn ▸ hin).sound hst⟩ ?_
    rintro n a w ⟨i, rfl, hi, σ2, hst2⟩
    have hq : PanicQ (Exit.then (fun a w => ∃ j, m j < m i ∧ Φ j ∧ ∃ σ, St P S σ (E j) (O j) N a w) Q) := fun c d v a w h => hp c d v a w h
    refine wp_mono (vc_sound hcs hn hnn c hd hq (round i hi) (fun way e o n hk => ?_) σ2 a w hst2) ?_
    · cases way with
      | normal =>
        obtain ⟨j, ⟨h1, h2⟩, h3⟩ := hk
        exact fun σ a w hst => ⟨j, h1, h2, (hnn ▸ h3).sound hst⟩
      | ret => exact fun σ a w hst => hK .ret e o n hk σ a w hst
      | exit i => exact fun σ a w hst => hK (.exit i) e o n hk σ a w hst
    · intro e a' w' hq
      cases e with
      | normal => obtain ⟨j, h1, h2, h3⟩ := hq; exact ⟨m j, h1, j, rfl, h2, h3⟩
      | exit id => exact hq
      | goto l => exact hq
      | ret => exact hq
      | panic ch => exact hq
      | outgrown => exact hq
  | .rangeFunc _ _ _ _, _, _, _, _, _, _, _, h, _ => h.elim
  | .scope _, _, _, _, _, _, _, _, h, _ => h.elim
  | .label _, _, _, _, _, _, _, _, h, _ => h.elim
  | .goto _, _, _, _, _, _, _, _, h, _ => h.elim
  | .refuse _, _, _, _, _, _, _, _, h, _ => h.elim
end
end Go.Proofs.Ytkakpdmlbkgpkaa

import Derived.Test.YtdflndjlnkoliaaGreatDoorFit
/- MY OWN ENGINE: contracts and calls. -/
namespace Go.Proofs.YtdflndjlnkoliaaGreatDoor
set_option linter.all false
open Go.RowKit
section
variable {P : Program} [TabC P] {S : Sig} {σ : Sg} {env : Env} {objs : List Ob} {nx : Nat} {a : Act} {w : World}
def fitSO (ρ : Rn) (objs : List Ob) (nx : Nat) (exp act : SO) (K : KF) : Prop := match exp with
  | .box T ps => match act with
    | .box T' qs => match Nat.beq T' T with
      | true => FitL ρ objs nx ps qs K
      | false => False
    | _ => False
  | .row e z enc xs => match act with
    | .row e' z' enc' ys => Side (SO.row e' z' enc' ys = SO.row e z enc xs) (K ρ objs nx)
    | .lits e' z' els => match Nat.beq e' e, Nat.beq z' z with
      | true, true => Side (els = xs.map enc) (K ρ objs nx)
      | _, _ => False
    | .nrow => Side (xs = []) (K ρ objs nx)
    | _ => False
  | .lits e z els => match act with
    | .lits e' z' els' => Side (SO.lits e' z' els' = SO.lits e z els) (K ρ objs nx)
    | .nrow => Side (els = []) (K ρ objs nx)
    | _ => False
  | .mp k e i ek ev l => match act with
    | .mp k' e' i' ek' ev' l' => Side (SO.mp k' e' i' ek' ev' l' = SO.mp k e i ek ev l) (K ρ objs nx)
    | _ => False
  | .ab b => match act with
    | .ab c => Side (SO.ab c = SO.ab b) (K ρ objs nx)
    | _ => False
  | .fbox T ps => match act with
    | .fbox T' qs => Side (SO.fbox T' qs = SO.fbox T ps) (K ρ objs nx)
    | _ => False
  | .frow z enc xs => match act with
    | .frow z' enc' ys => Side (SO.frow z' enc' ys = SO.frow z enc xs) (K ρ objs nx)
    | _ => False
  | _ => False
/-- what was there is what is asked -/
def SOk (exp act : SO) (ρ' : Rn) : Sg → World → Own → Sg → Own → Prop := fun σ w A σ' A' => ∀ j k, lkN ρ' j = some k → (∀ v, σ k = some v → σ' j = some v) → act.holds w A σ k → exp.holds w A' σ' j ∧ ∀ b, exp.own σ' j b ↔ act.own σ k b
theorem nrow_row {A : Own} {k e z : Nat} (h : σ k = some (.slice none 0 0)) : rowH w A σ k e z [] := ⟨_, [], h, by simp, by decide, rfl, World.ownsRow_nil _ _ _ _⟩
theorem rowH.via {A A' : Own} {σ' : Sg} {k j e z : Nat} {els : List (List SV)} (h : rowH w A σ k e z els) (hl : Later w A w A') (hv : ∀ v, σ k = some v → σ' j = some v) : rowH w A' σ' j e z els := by
  obtain ⟨v, cs, h1, h2, h3, h4, h5⟩ := h
  exact ⟨v, cs, hv _ h1, h2, h3, h4.later hl, h5⟩
theorem own_via {A : Own} {σ' : Sg} {k j : Nat} {so act : SO} (hs : (∃ T ps, so = .box T ps) ∨ (∃ e z α, ∃ enc : α → List SV, ∃ xs, so = .row e z enc xs) ∨ (∃ e z els, so = .lits e z els)) (ha : (∃ T ps, act = .box T ps) ∨ (∃ e z α, ∃ enc : α → List SV, ∃ xs, act = .row e z enc xs) ∨ (∃ e z els, act = .lits e z els) ∨ act = .nrow)
    (h : act.holds w A σ k) (hv : ∀ v, σ k = some v → σ' j = some v) (b : Nat) : so.own σ' j b ↔ act.own σ k b := by
  have hn : ∃ v, σ k = some v := by
    rcases h.named with ⟨a, rfl⟩ | h
    · rcases ha with ⟨_, _, h⟩ | ⟨_, _, _, _, _, h⟩ | ⟨_, _, _, h⟩ | h <;> cases h
    · exact h
  obtain ⟨v, hk⟩ := hn
  have e1 : so.own σ' j b ↔ ∃ v, σ' j = some v ∧ blkO v = some b := by rcases hs with ⟨_, _, rfl⟩ | ⟨_, _, _, _, _, rfl⟩ | ⟨_, _, _, rfl⟩ <;> exact Iff.rfl
  have e2 : act.own σ k b ↔ ∃ v, σ k = some v ∧ blkO v = some b := by rcases ha with ⟨_, _, rfl⟩ | ⟨_, _, _, _, _, rfl⟩ | ⟨_, _, _, rfl⟩ | rfl <;> exact Iff.rfl
  rw [e1, e2, hk, hv v hk]
theorem fitSO_sound {ρ : Rn} {exp act : SO} {K : KF} (h : fitSO ρ objs nx exp act K) : ∃ ρ' objs' nx', K ρ' objs' nx' ∧ FitS P ρ objs nx ρ' objs' nx' fun σ w A σ' A' => SOk exp act ρ' σ w A σ' A' := by
  unfold fitSO at h
  split at h
  · rename_i T ps
    split at h
    · rename_i T' qs
      split at h
      · rename_i hT
        obtain rfl := Nat.eq_of_beq_eq_true hT
        obtain ⟨ρ', o', n', hK, f⟩ := h.h (P := P)
        refine ⟨ρ', o', n', hK, f.1, fun S env σ a w hst => ?_⟩
        obtain ⟨σ', l, s, t, p⟩ := f.2 S env σ a w hst
        refine ⟨σ', l, s, t, fun j k hjk hv hh => ⟨?_, own_via (.inl ⟨_, _, rfl⟩) (.inl ⟨_, _, rfl⟩) hh hv⟩⟩
        obtain ⟨b, cs, h1, h2, h3⟩ := hh
        exact ⟨b, cs, hv _ h1, h2, p cs h3⟩
      · exact h.elim
    · exact h.elim
  · rename_i e z α enc xs
    split at h
    · refine ⟨ρ, objs, nx, h.k, FitS.id fun S env σ a w hst j k hjk hv hh => ?_⟩
      rw [← h.h]
      exact ⟨rowH.via hh (Later.refl _ _) hv, own_via (.inr (.inl ⟨_, _, _, _, _, rfl⟩)) (.inr (.inl ⟨_, _, _, _, _, rfl⟩)) hh hv⟩
    · split at h
      · rename_i he hz
        obtain rfl := Nat.eq_of_beq_eq_true he
        obtain rfl := Nat.eq_of_beq_eq_true hz
        refine ⟨ρ, objs, nx, h.k, FitS.id fun S env σ a w hst j k hjk hv hh => ?_⟩
        have e := h.h; subst e
        exact ⟨rowH.via hh (Later.refl _ _) hv, own_via (.inr (.inl ⟨_, _, _, _, _, rfl⟩)) (.inr (.inr (.inl ⟨_, _, _, rfl⟩))) hh hv⟩
      · exact h.elim
    · refine ⟨ρ, objs, nx, h.k, FitS.id fun S env σ a w hst j k hjk hv hh => ?_⟩
      have e := h.h; subst e
      exact ⟨nrow_row (hv _ hh), own_via (.inr (.inl ⟨_, _, _, _, _, rfl⟩)) (.inr (.inr (.inr rfl))) hh hv⟩
    · exact h.elim
  · split at h
    · refine ⟨ρ, objs, nx, h.k, FitS.id fun S env σ a w hst j k hjk hv hh => ?_⟩
      rw [← h.h]
      exact ⟨rowH.via hh (Later.refl _ _) hv, own_via (.inr (.inr ⟨_, _, _, rfl⟩)) (.inr (.inr (.inl ⟨_, _, _, rfl⟩))) hh hv⟩
    · refine ⟨ρ, objs, nx, h.k, FitS.id fun S env σ a w hst j k hjk hv hh => ?_⟩
      have e := h.h; subst e
      exact ⟨nrow_row (hv _ hh), own_via (.inr (.inr ⟨_, _, _, rfl⟩)) (.inr (.inr (.inr rfl))) hh hv⟩
    · exact h.elim
  · split at h
    · refine ⟨ρ, objs, nx, h.k, FitS.id fun S env σ a w hst j k hjk hv hh => ?_⟩
      rw [← h.h]
      obtain ⟨b, es, clock, h1, h2⟩ := hh
      refine ⟨⟨b, es, clock, hv _ h1, h2⟩, fun c => ?_⟩
      simp only [SO.own, h1, hv _ h1]
    · exact h.elim
  · split at h
    · refine ⟨ρ, objs, nx, h.k, FitS.id fun S env σ a w hst j k hjk hv hh => ?_⟩
      rw [← h.h]
      exact ⟨hh, fun b => Iff.rfl⟩
    · exact h.elim
  · split at h
    · refine ⟨ρ, objs, nx, h.k, FitS.id fun S env σ a w hst j k hjk hv hh => ?_⟩
      rw [← h.h]
      obtain ⟨v, h1, h2, h3⟩ := hh
      exact ⟨⟨v, hv _ h1, h2, h3⟩, fun b => Iff.rfl⟩
    · exact h.elim
  · split at h
    · refine ⟨ρ, objs, nx, h.k, FitS.id fun S env σ a w hst j k hjk hv hh => ?_⟩
      rw [← h.h]
      obtain ⟨v, h1, h2⟩ := hh
      exact ⟨⟨v, hv _ h1, h2⟩, fun b => Iff.rfl⟩
    · exact h.elim
  · exact h.elim
/-- an object out of the list -/
def rmO : List Ob → Nat → Option (SO × List Ob)
  | [], _ => none
  | (k, so) :: r, n => match Nat.beq k n with
    | true => some (so, r)
    | false => match rmO r n with
      | some (so', r') => some (so', (k, so) :: r')
      | none => none
theorem rmO_perm : ∀ {l r : List Ob} {n : Nat} {so : SO}, rmO l n = some (so, r) → List.Perm l ((n, so) :: r)
  | [], _, _, _, h => by simp [rmO] at h
  | (k, u) :: l, r, n, so, h => by
    unfold rmO at h
    split at h
    · rename_i hb
      obtain rfl := Nat.eq_of_beq_eq_true hb
      simp only [Option.some.injEq, Prod.mk.injEq] at h
      obtain ⟨rfl, rfl⟩ := h
      exact List.Perm.refl _
    · split at h
      · rename_i so' r' hr
        simp only [Option.some.injEq, Prod.mk.injEq] at h
        obtain ⟨rfl, rfl⟩ := h
        exact (List.Perm.cons _ (rmO_perm hr)).trans (List.Perm.swap _ _ _)
      · cases h
abbrev KO := Rn → List Ob → List Ob → Nat → Prop
theorem St.perm {m : List Ob} (h : St P S σ env objs nx a w) (hp : List.Perm objs m) : St P S σ env m nx a w :=
  { slots := fun t s ht => (h.slots t s ht).later (ownsA_perm hp), dom := h.dom, size := h.size, defers := h.defers, obs := h.obs.perm hp, hist := h.hist, own0 := fun b hb => h.own0 b ((owns_perm hp b).2 hb), a0 := h.a0, mks := h.mks, glob := h.glob.later (ownsA_perm hp), base := h.base, nnx := h.nnx }
/-- the state of some objects alone; the others are somebody's -/
theorem St.local {tk : List Ob} (h : St P S σ env (tk ++ objs) nx a w) : St P ⟨fun b => S.A0 b ∨ owns σ tk b, owns σ objs, w, S.n, S.s0, S.nn, S.ds⟩ σ env objs nx a w := by
  have hd := Disj_append.1 h.obs.disj
  have hA : ∀ b, ((S.A0 b ∨ owns σ tk b) ∨ owns σ objs b) ↔ S.A σ (tk ++ objs) b := fun b => by simp only [Sig.A, owns_append, or_assoc]
  have hl : Later w (S.A σ (tk ++ objs)) w (fun b => (S.A0 b ∨ owns σ tk b) ∨ owns σ objs b) := Later.own fun b hb => (hA b).1 hb
  refine { slots := fun t s ht => (h.slots t s ht).later hl, dom := h.dom, size := h.size, defers := h.defers, obs := ⟨fun o ho => (h.obs.holds o (List.mem_append_right _ ho)).later hl (fun _ _ => rfl), hd.2.1, fun b hb => ?_⟩, hist := Mod.refl _ _, own0 := fun b hb => .inl hb, a0 := fun b hb => ?_, mks := fun D hD => ⟨.inl (h.mks D hD).1, (h.mks D hD).2⟩, glob := h.glob.later hl, base := h.base, nnx := h.nnx }
  · have := h.obs.lt b (by rw [owns_append]; exact .inr hb)
    exact ⟨this.1, fun hx => hx.elim this.2 fun hx => hd.2.2 b hx hb⟩
  · rcases hb with hb | hb
    · exact h.a0lt b hb
    · exact (h.obs.lt b (by rw [owns_append]; exact .inl hb)).1
/-- back to all of them -/
theorem St.global {tk objs' : List Ob} {σ' : Sg} {nx' : Nat} (h : St P S σ env (tk ++ objs) nx a w) (hle : Sg.le σ σ') (h' : St P ⟨fun b => S.A0 b ∨ owns σ tk b, owns σ objs, w, S.n, S.s0, S.nn, S.ds⟩ σ' env objs' nx' a w) :
    St P S σ' env (tk ++ objs') nx' a w ∧ Later w (S.A σ (tk ++ objs)) w (S.A σ' (tk ++ objs')) := by
  have htk : ∀ o ∈ tk, o.2.holds w (S.A σ (tk ++ objs)) σ o.1 := fun o ho => h.obs.holds o (List.mem_append_left _ ho)
  have hot : ∀ b, owns σ' tk b ↔ owns σ tk b := owns_names hle htk
  have hoo : ∀ b, owns σ' objs' b → owns σ objs b := fun b hb => (h'.own0 b hb).resolve_right (fun hx => by have := (h'.obs.lt b hb).1; simp only at hx; omega)
  have hle2 : ∀ b, owns σ' (tk ++ objs') b → owns σ (tk ++ objs) b := fun b hb => by
    rw [owns_append] at hb ⊢
    exact hb.imp (hot b).1 (hoo b)
  have hl : Later w (S.A σ (tk ++ objs)) w (S.A σ' (tk ++ objs')) := Later.own fun b hb => hb.imp id (hle2 b)
  have hd := Disj_append.1 h.obs.disj
  have hA : ∀ b, ((S.A0 b ∨ owns σ tk b) ∨ owns σ' objs' b) ↔ S.A σ' (tk ++ objs') b := fun b => by simp only [Sig.A, owns_append, or_assoc, hot]
  have hl2 : Later w (fun b => (S.A0 b ∨ owns σ tk b) ∨ owns σ' objs' b) w (S.A σ' (tk ++ objs')) := Later.own fun b hb => (hA b).2 hb
  refine ⟨{ slots := fun t s ht => (h'.slots t s ht).later hl2, dom := h'.dom, size := h'.size, defers := h'.defers, obs := ⟨fun o ho => ?_, ?_, fun b hb => h.obs.lt b (hle2 b hb)⟩, hist := h.hist, own0 := fun b hb => h.own0 b (hle2 b hb), a0 := h.a0, mks := h.mks, glob := h.glob.later hl, base := h'.base, nnx := h'.nnx }, hl⟩
  · rcases List.mem_append.1 ho with ho | ho
    · exact ((htk o ho).names hle).later hl (fun _ _ => rfl)
    · exact (h'.obs.holds o ho).later hl2 (fun _ _ => rfl)
  · refine Disj_append.2 ⟨Disj_names hle htk hd.1, h'.obs.disj, fun b hb hx => ?_⟩
    exact hd.2.2 b ((hot b).1 hb) (hoo b hx)
/-- objects as they are asked, beside those that are there -/
def MatchO (σ : Sg) (ρ : Rn) (w : World) (A : Own) : List Ob → List Ob → Prop
  | [], tn => tn = []
  | (j, so) :: r, tn => ∃ k act m, tn = (k, act) :: m ∧ lkN ρ j = some k ∧ so.holds w A (σ.via ρ) j ∧ (∀ b, so.own (σ.via ρ) j b ↔ act.own σ k b) ∧ MatchO σ ρ w A r m
/-- object by object (told by what it is worth) -/
structure FitOs (ρ : Rn) (tk objs : List Ob) (nx : Nat) (exps : List Ob) (K : KO) : Prop where
  h : ∀ {P : Program} [TabC P], ∃ ρ' tn objs' nx', K ρ' (tn.reverse ++ tk) objs' nx' ∧ Rn.le ρ ρ' ∧ ∀ S env σ a w, St P S σ env (tk ++ objs) nx a w →
    ∃ σ', Sg.le σ σ' ∧ St P S σ' env ((tn.reverse ++ tk) ++ objs') nx' a w ∧ Later w (S.A σ (tk ++ objs)) w (S.A σ' ((tn.reverse ++ tk) ++ objs')) ∧ MatchO σ' ρ' w (S.A σ' ((tn.reverse ++ tk) ++ objs')) exps tn
/-- the first of the blocks taken together -/
def abName : List Ob → Option Nat
  | [] => none
  | (k, .ab _) :: _ => some k
  | _ :: r => abName r
def fitOsS (ρ : Rn) (tk objs : List Ob) (nx : Nat) (exps : List Ob) (K : KO) : Prop := match exps with
  | [] => K ρ tk objs nx
  | (j, so) :: r => match lkN ρ j with
    | some k => match rmO objs k with
      | some (act, rest) => fitSO ρ rest nx so act fun ρ rest nx => FitOs ρ ((k, act) :: tk) rest nx r K
      | none => False
    | none => match so with
      | .ab _ => match abName objs with
        | some k => match rmO objs k with
          | some (act, rest) => fitSO ((j, k) :: ρ) rest nx so act fun ρ rest nx => FitOs ρ ((k, act) :: tk) rest nx r K
          | none => False
        | none => False
      | _ => False
theorem FitOs.unf {ρ : Rn} {tk exps : List Ob} {K : KO} (h : fitOsS ρ tk objs nx exps K) : FitOs ρ tk objs nx exps K := ⟨fun {P} _ => by
  match exps, h with
  | [], h => exact ⟨ρ, [], objs, nx, h, Rn.le.refl _, fun S env σ a w hst => ⟨σ, Sg.le.refl _, hst, Later.refl _ _, rfl⟩⟩
  | (j, so) :: r, h =>
    simp only [fitOsS] at h
    have main : ∀ {ρ0 : Rn} {k : Nat} {act : SO} {rest : List Ob}, Rn.le ρ ρ0 → lkN ρ0 j = some k → rmO objs k = some (act, rest) → (fitSO ρ0 rest nx so act fun ρ rest nx => FitOs ρ ((k, act) :: tk) rest nx r K) →
        ∃ ρ' tn objs' nx', K ρ' (tn.reverse ++ tk) objs' nx' ∧ Rn.le ρ ρ' ∧ ∀ S env σ a w, St P S σ env (tk ++ objs) nx a w →
          ∃ σ', Sg.le σ σ' ∧ St P S σ' env ((tn.reverse ++ tk) ++ objs') nx' a w ∧ Later w (S.A σ (tk ++ objs)) w (S.A σ' ((tn.reverse ++ tk) ++ objs')) ∧ MatchO σ' ρ' w (S.A σ' ((tn.reverse ++ tk) ++ objs')) ((j, so) :: r) tn := by
      intro ρ0 k act rest hle hk hrm h
      obtain ⟨ρ1, o1, n1, h, f1⟩ := fitSO_sound (P := P) h
      obtain ⟨ρ2, tn, o2, n2, h, l2, f2⟩ := h.h (P := P)
      refine ⟨ρ2, (k, act) :: tn, o2, n2, by simpa using h, hle.trans (f1.1.trans l2), fun S env σ a w hst => ?_⟩
      have hp : List.Perm (tk ++ objs) (((k, act) :: tk) ++ rest) := by
        refine (List.Perm.append_left tk (rmO_perm hrm)).trans ?_
        simpa using List.perm_middle (a := (k, act)) (l₁ := tk) (l₂ := rest)
      have hst1 := hst.perm hp
      have lp : Later w (S.A σ (tk ++ objs)) w (S.A σ (((k, act) :: tk) ++ rest)) := ownsA_perm hp
      obtain ⟨σ1, le1, s1, t1, p1⟩ := f1.2 _ _ _ _ _ hst1.local
      obtain ⟨g1, g2⟩ := hst1.global le1 s1
      obtain ⟨σ2, le2, s2, t2, p2⟩ := f2 S env σ1 a w g1
      have e : (((k, act) :: tn).reverse ++ tk) ++ o2 = (tn.reverse ++ (k, act) :: tk) ++ o2 := by simp
      rw [e]
      refine ⟨σ2, le1.trans le2, s2, lp.trans (g2.trans t2), k, act, tn, rfl, l2 _ _ (f1.1 _ _ hk), ?_⟩
      have hact : act.holds w (fun b => (S.A0 b ∨ owns σ ((k, act) :: tk) b) ∨ owns σ rest b) σ k := by
        have := hst1.obs.holds (k, act) (by simp)
        exact this.later (Later.own fun b hb => by simp only [Sig.A, owns_append]; exact hb.elim (fun h => h.elim .inl (fun h => .inr (.inl h))) (fun h => .inr (.inr h))) (fun _ _ => rfl)
      obtain ⟨q1, q2⟩ := p1 j k (f1.1 _ _ hk) (fun v hv => by unfold Sg.via; rw [f1.1 _ _ hk]; exact le1 _ _ hv) hact
      have hl3 : Later w (fun b => (S.A0 b ∨ owns σ ((k, act) :: tk) b) ∨ owns σ1 o1 b) w (S.A σ2 ((tn.reverse ++ (k, act) :: tk) ++ o2)) := by
        refine Later.trans (Later.own fun b hb => ?_) t2
        have ht1 : ∀ b, owns σ1 ((k, act) :: tk) b ↔ owns σ ((k, act) :: tk) b := owns_names le1 (fun o ho => hst1.obs.holds o (List.mem_append_left _ ho))
        rcases hb with hb | hb
        · exact .inl (.inl hb)
        · rw [owns_append] at hb
          exact hb.elim (fun h => .inl (.inr ((ht1 b).1 h))) .inr
      refine ⟨(q1.later hl3 (fun _ _ => rfl)).names (via_le le2 l2), fun b => ?_, p2⟩
      have hw : ∀ b, act.own σ2 k b ↔ act.own σ k b := fun b => SO.own_names (le1.trans le2) hact b
      rw [hw b, ← q2 b]
      exact SO.own_names (via_le le2 l2) q1 b
    split at h
    · rename_i k hk
      split at h
      · rename_i act rest hrm
        exact main (Rn.le.refl _) hk hrm h
      · exact h.elim
    · rename_i hno
      split at h
      · split at h
        · rename_i k hk
          split at h
          · rename_i act rest hrm
            refine main (ρ0 := (j, k) :: ρ) (fun j' n e => ?_) (by simp [lkN, Nat.beq_refl]) hrm h
            unfold lkN
            split
            · rename_i hb
              have := Nat.eq_of_beq_eq_true hb
              subst this; rw [hno] at e; cases e
            · exact e
          · exact h.elim
        · exact h.elim
      · exact h.elim⟩
end
end Go.Proofs.YtdflndjlnkoliaaGreatDoor

import Derived.Test.YtdflndjlnkoliaaGreatDoorLd
/- MY OWN ENGINE: what is there, held against what is asked. -/
namespace Go.Proofs.YtdflndjlnkoliaaGreatDoor
set_option linter.all false
open Go.RowKit
abbrev Rn := List (Nat × Nat)
def lkN : Rn → Nat → Option Nat
  | [], _ => none
  | (j, k) :: r, t => match Nat.beq j t with
    | true => some k
    | false => lkN r t
/-- the names, seen through a renaming -/
def Sg.via (σ : Sg) (ρ : Rn) : Sg := fun j => match lkN ρ j with
  | some k => σ k
  | none => none
def Rn.le (ρ ρ' : Rn) : Prop := ∀ j k, lkN ρ j = some k → lkN ρ' j = some k
theorem Rn.le.refl (ρ : Rn) : Rn.le ρ ρ := fun _ _ h => h
theorem Rn.le.trans {a b c : Rn} (h : Rn.le a b) (k : Rn.le b c) : Rn.le a c := fun j n e => k j n (h j n e)
theorem via_le {σ σ' : Sg} {ρ ρ' : Rn} (h : Sg.le σ σ') (k : Rn.le ρ ρ') : Sg.le (σ.via ρ) (σ'.via ρ') := fun j v e => by
  unfold Sg.via at e ⊢
  split at e
  · rename_i n hn
    rw [k _ _ hn]; exact h _ _ e
  · cases e
def bindN (ρ : Rn) (j k : Nat) (K : Rn → Prop) : Prop := match lkN ρ j with
  | some k' => match Nat.beq k' k with
    | true => K ρ
    | false => False
  | none => K ((j, k) :: ρ)
theorem bindN_spec {ρ : Rn} {j k : Nat} {K : Rn → Prop} (h : bindN ρ j k K) : ∃ ρ', K ρ' ∧ Rn.le ρ ρ' ∧ lkN ρ' j = some k := by
  unfold bindN at h
  split at h
  · rename_i k' hk
    split at h
    · rename_i hb
      obtain rfl := Nat.eq_of_beq_eq_true hb
      exact ⟨ρ, h, Rn.le.refl _, hk⟩
    · exact h.elim
  · rename_i hn
    refine ⟨_, h, fun j' n e => ?_, ?_⟩
    · unfold lkN
      split
      · rename_i hb
        have := Nat.eq_of_beq_eq_true hb
        subst this; rw [hn] at e; cases e
      · exact e
    · simp [lkN, Nat.beq_refl]
abbrev KF := Rn → List Ob → Nat → Prop
section
variable {P : Program} [TabC P] {S : Sig} {σ : Sg} {env : Env} {objs : List Ob} {nx : Nat} {a : Act} {w : World}
/-- nil slices stand for empty ones -/
def nilsL : List SV → Bool
  | [] => false
  | .nils :: _ => true
  | _ :: r => nilsL r
def nilsLL : List (List SV) → Bool
  | [] => false
  | e :: r => match nilsL e with
    | true => true
    | false => nilsLL r
def wk1 (s t : SV) : Prop := match s with
  | .nils => match t with
    | .fs z enc xs => xs = []
    | t => SV.nils = t
  | s => s = t
def wkL : List SV → List SV → Prop
  | [], l => [] = l
  | s :: r, l => match l with
    | [] => False
    | t :: q => wk1 s t ∧ wkL r q
def wkLL : List (List SV) → List (List SV) → Prop
  | [], l => [] = l
  | s :: r, l => match l with
    | [] => False
    | t :: q => wkL s t ∧ wkLL r q
theorem wk1_hc {s t : SV} (h : wk1 s t) {w : World} {A : Own} {σ : Sg} {cs : List Value} (hc : s.hc w A σ cs) : t.hc w A σ cs ∧ s.sz = t.sz := by
  unfold wk1 at h
  split at h
  · split at h
    · subst h
      simp only [SV.hc] at hc ⊢
      subst hc
      exact ⟨⟨none, 0, rfl, Nat.le_refl _, by decide, fun _ => by simp, fun i hi => absurd hi (by simp), fun ad had => by cases had⟩, rfl⟩
    · subst h; exact ⟨hc, rfl⟩
  · subst h; exact ⟨hc, rfl⟩
theorem wkL_hL : ∀ {l m : List SV}, wkL l m → ∀ {w : World} {A : Own} {σ : Sg} {cs : List Value}, hL w A l σ cs → hL w A m σ cs
  | [], m, h, w, A, σ, cs, hc => by simp only [wkL] at h; subst h; exact hc
  | s :: r, [], h, w, A, σ, cs, hc => by simp only [wkL] at h
  | s :: r, t :: q, h, w, A, σ, cs, hc => by
    simp only [wkL] at h
    simp only [hL] at hc ⊢
    obtain ⟨a, b, h1, h2, h3⟩ := hc
    exact ⟨a, b, h1, (wk1_hc h.1 h2).1, wkL_hL h.2 h3⟩
theorem wkLL_hE : ∀ {l m : List (List SV)}, wkLL l m → ∀ {w : World} {A : Own} {σ : Sg} {cs : List Value}, hE w A σ l cs → hE w A σ m cs ∧ l.length = m.length
  | [], m, h, w, A, σ, cs, hc => by simp only [wkLL] at h; subst h; exact ⟨hc, rfl⟩
  | s :: r, [], h, w, A, σ, cs, hc => by simp only [wkLL] at h
  | s :: r, t :: q, h, w, A, σ, cs, hc => by
    simp only [wkLL] at h
    simp only [hE] at hc ⊢
    obtain ⟨a, b, h1, h2, h3⟩ := hc
    have := wkLL_hE h.2 h3
    exact ⟨⟨a, b, h1, wkL_hL h.1 h2, this.1⟩, by simp [this.2]⟩
theorem hE_sz : ∀ {l : List (List SV)} {w : World} {A : Own} {σ : Sg} {cs : List Value}, hE w A σ l cs → ∀ {m : List (List SV)}, wkLL l m → ∀ {z : Nat}, (∀ e ∈ l, szL e = z) → ∀ e ∈ m, szL e = z
  | [], w, A, σ, cs, hc, m, h, z, hz => by simp only [wkLL] at h; subst h; exact hz
  | s :: r, w, A, σ, cs, hc, [], h, z, hz => by simp only [wkLL] at h
  | s :: r, w, A, σ, cs, hc, t :: q, h, z, hz => by
    simp only [wkLL] at h
    simp only [hE] at hc
    obtain ⟨a, b, h1, h2, h3⟩ := hc
    intro e he
    rcases List.mem_cons.1 he with rfl | he
    · rw [← (wkL_hL h.1 h2).len, h2.len]; exact hz s (List.mem_cons_self ..)
    · exact hE_sz h3 h.2 (fun e he => hz e (List.mem_cons_of_mem _ he)) e he
theorem rowH.wk {A : Own} {k e z : Nat} {els els' : List (List SV)} (h : rowH w A σ k e z els) (hw : wkLL els els') : rowH w A σ k e z els' := by
  obtain ⟨v, cs, h1, h2, h3, h4, h5⟩ := h
  have := wkLL_hE hw h4
  exact ⟨v, cs, h1, hE_sz h4 hw h2, by rw [← this.2]; exact h3, this.1, by rw [← this.2]; exact h5⟩
/-- a slice that nobody writes is asked -/
def fitFs (objs : List Ob) (z : Nat) {α : Type} (enc : α → List SV) (xs : List α) (act : SV) (K : List Ob → Prop) : Prop := match act with
  | .fs z' enc' ys => Side (SV.fs z' enc' ys = SV.fs z enc xs) (K objs)
  | .nils => Side (xs = []) (K objs)
  | .own k => match lk objs k with
    | some (.row e z' enc' ys) => frz objs k fun o => Side (SV.fs z' enc' ys = SV.fs z enc xs) (K o)
    | some (.frow z' enc' ys) => Side (SV.fs z' enc' ys = SV.fs z enc xs) (K objs)
    | some (.lits e z' els) => match Nat.beq z' z with
      | true => match nilsLL els with
        | true => Side (wkLL els (xs.map enc)) (setK objs k k (.frow z enc xs) K)
        | false => Side (els = xs.map enc) (setK objs k k (.frow z enc xs) K)
      | false => False
    | _ => False
  | .bsl k off lo hi => nn1 objs (.bsl k off lo hi) fun o s => match s with
    | .fs z' enc' ys => Side (SV.fs z' enc' ys = SV.fs z enc xs) (K o)
    | _ => False
  | _ => False
theorem frz_lk {k e z : Nat} {α : Type} {enc : α → List SV} {xs : List α} {K : List Ob → Prop} (hk : lk objs k = some (.row e z enc xs)) (h : frz objs k K) : ∃ l, setO objs k k (.frow z enc xs) = some l ∧ K l := by
  unfold frz at h
  rw [hk] at h
  exact setK_spec h
theorem lk_setO : ∀ {l l' : List Ob} {n n' : Nat} {so : SO}, setO l n n' so = some l' → n = n' → lk l' n = some so
  | [], _, _, _, _, h, _ => by simp [setO] at h
  | (k, u) :: r, l', n, n', so, h, e => by
    unfold setO at h
    split at h
    · simp only [Option.some.injEq] at h; subst h; subst e
      simp [lk, Nat.beq_refl]
    · rename_i hb
      split at h
      · rename_i r' hr
        simp only [Option.some.injEq] at h; subst h
        simp only [lk, hb]; exact lk_setO hr e
      · cases h
/-- a ghost step, and what it makes of a value -/
theorem fitFs_sound {z : Nat} {α : Type} {enc : α → List SV} {xs : List α} {act : SV} {K : List Ob → Prop} (h : fitFs objs z enc xs act K) : ∃ objs', K objs' ∧ GS P objs objs' ∧ ∀ {S env nx σ a w cs}, St P S σ env objs nx a w → act.hc w (S.A σ objs) σ cs → (SV.fs z enc xs).hc w (S.A σ objs') sg0 cs := by
  unfold fitFs at h
  split at h
  · rename_i z' β enc' ys
    refine ⟨objs, h.k, GS.refl, fun {S env nx σ a w cs} hst hc => ?_⟩
    rw [← h.h]
    exact hc
  · refine ⟨objs, h.k, GS.refl, fun {S env nx σ a w cs} hst hc => ?_⟩
    have := h.h; subst this
    simp only [SV.hc] at hc ⊢
    subst hc
    exact ⟨none, 0, rfl, Nat.le_refl _, by decide, fun _ => by simp, fun i hi => absurd hi (by simp), fun ad had => by cases had⟩
  · rename_i k
    split at h
    · rename_i e z' β enc' ys hk
      obtain ⟨l, hl, hK⟩ := frz_lk hk h
      obtain ⟨o', ho', g1, g2⟩ := frz_sound (P := P) (K := fun o => o = l) (objs := objs) (k := k) (by unfold frz setK; rw [hk]; simp [hl])
      subst ho'
      refine ⟨o', hK.k, ⟨g1, g2⟩, fun {S env nx σ a w cs} hst hc => ?_⟩
      obtain ⟨v, h1, h2⟩ := lk_holds (g1 S env nx σ a w hst) (lk_setO hl rfl)
      simp only [SV.hc] at hc
      obtain ⟨u, e1, _, rfl⟩ := hc
      rw [h1] at e1; cases e1
      rw [← hK.h]; exact h2
    · rename_i z' β enc' ys hk
      refine ⟨objs, h.k, GS.refl, fun {S env nx σ a w cs} hst hc => ?_⟩
      obtain ⟨v, h1, h2⟩ := lk_holds hst hk
      simp only [SV.hc] at hc
      obtain ⟨u, e1, _, rfl⟩ := hc
      rw [h1] at e1; cases e1
      rw [← h.h]; exact h2
    · rename_i e z' els hk
      split at h
      · rename_i hz
        obtain rfl := Nat.eq_of_beq_eq_true hz
        have hh : wkLL els (xs.map enc) ∨ els = xs.map enc := by
          split at h
          · exact .inl h.h
          · exact .inr h.h
        have hkk : setK objs k k (.frow z' enc xs) K := by
          split at h
          · exact h.k
          · exact h.k
        obtain ⟨l, hl, hK⟩ := setK_spec hkk
        have hrow : ∀ {w A σ}, rowH w A σ k e z' els → rowH w A σ k e z' (xs.map enc) := fun hr => by
          rcases hh with hh | hh
          · exact hr.wk hh
          · rw [← hh]; exact hr
        have hs := setO_spec hk hl
        have hle : ∀ σ b, owns σ l b → owns σ objs b := fun σ => hs.owns_le (fun b hb => hb.elim)
        have g1 : ∀ S env nx σ a w, St P S σ env objs nx a w → St P S σ env l nx a w := fun S env nx σ a w hst => by
          have hd := own_disj hst hs (fun b hb => hb)
          exact hst.ghost hs (rowH.fs (hrow (lk_holds hst hk)) (fun b hb => hb.imp id (hle σ b)) (fun b v h1 h2 => hd b ⟨v, h1, h2⟩)) (fun b hb => hb.elim)
        refine ⟨l, hK, ⟨g1, hle⟩, fun {S env nx σ a w cs} hst hc => ?_⟩
        obtain ⟨v, h1, h2⟩ := lk_holds (g1 S env nx σ a w hst) (lk_setO hl rfl)
        simp only [SV.hc] at hc
        obtain ⟨u, e1, _, rfl⟩ := hc
        rw [h1] at e1; cases e1
        exact h2
      · exact h.elim
    · exact h.elim
  · obtain ⟨o', s', h, g, e⟩ := nn1_sound (P := P) h
    split at h
    · refine ⟨o', h.k, g, fun {S env nx σ a w cs} hst hc => ?_⟩
      rw [← h.h]; exact e hst hc
    · exact h.elim
  · exact h.elim
/-- one part -/
def fit1 (ρ : Rn) (objs : List Ob) (nx : Nat) (exp act : SV) (K : KF) : Prop := match exp with
  | .own j => match act with
    | .own k => bindN ρ j k fun ρ => K ρ objs nx
    | .nils => bindN ρ j nx fun ρ => K ρ ((nx, .nrow) :: objs) (nx + 1)
    | _ => False
  | .ptr j off => match act with
    | .ptr k off' => match Nat.beq off' off with
      | true => bindN ρ j k fun ρ => K ρ objs nx
      | false => False
    | _ => False
  | .fs z enc xs => fitFs objs z enc xs act fun o => K ρ o nx
  | .bool b => match asB act with
    | some c => Side (c = b) (K ρ objs nx)
    | none => False
  | .dec p i => match asP act with
    | some d => Side (d.p ↔ p) (K ρ objs nx)
    | none => False
  | .rptr _ _ _ _ => False
  | .cptr _ _ _ => False
  | .bsl _ _ _ _ => False
  | .fpt es => match act with
    | .ptr k off => match Nat.beq off 0 with
      | true => frzB objs k fun o ps => Side (SV.fpt ps = SV.fpt es) (K ρ o nx)
      | false => False
    | .fpt ps => Side (SV.fpt ps = SV.fpt es) (K ρ objs nx)
    | _ => False
  | exp => Side (act = exp) (K ρ objs nx)
/-- what a fit owes: the state goes on, and what was there is what is asked -/
def FitS (P : Program) [TabC P] (ρ : Rn) (objs : List Ob) (nx : Nat) (ρ' : Rn) (objs' : List Ob) (nx' : Nat) (Φ : Sg → World → Own → Sg → Own → Prop) : Prop :=
  Rn.le ρ ρ' ∧ ∀ S env σ a w, St P S σ env objs nx a w → ∃ σ', Sg.le σ σ' ∧ St P S σ' env objs' nx' a w ∧ Later w (S.A σ objs) w (S.A σ' objs') ∧ Φ σ w (S.A σ objs) (σ'.via ρ') (S.A σ' objs')
theorem FitS.id {ρ : Rn} {Φ : Sg → World → Own → Sg → Own → Prop} (h : ∀ S env σ a w, St P S σ env objs nx a w → Φ σ w (S.A σ objs) (σ.via ρ) (S.A σ objs)) : FitS P ρ objs nx ρ objs nx Φ :=
  ⟨Rn.le.refl _, fun S env σ a w hst => ⟨σ, Sg.le.refl _, hst, Later.refl _ _, h S env σ a w hst⟩⟩
theorem GS.fit {ρ : Rn} {objs' : List Ob} {Φ : Sg → World → Own → Sg → Own → Prop} (g : GS P objs objs') (h : ∀ S env σ a w, St P S σ env objs nx a w → Φ σ w (S.A σ objs) (σ.via ρ) (S.A σ objs')) : FitS P ρ objs nx ρ objs' nx Φ :=
  ⟨Rn.le.refl _, fun S env σ a w hst => ⟨σ, Sg.le.refl _, g.1 S env nx σ a w hst, g.later S σ w, h S env σ a w hst⟩⟩
theorem asB_hc {s : SV} {b : Bool} (h : asB s = some b) {A : Own} {cs : List Value} : s.hc w A σ cs ↔ cs = [.bool b] := by
  cases s <;> simp only [asB, reduceCtorEq, Option.some.injEq] at h <;> subst h <;> simp only [SV.hc]
theorem asP_hc {s : SV} {d : DP} (h : asP s = some d) {A : Own} {cs : List Value} : s.hc w A σ cs ↔ cs = [.bool (@decide d.p d.i)] := by
  cases s <;> simp only [asP, reduceCtorEq, Option.some.injEq] at h <;> subst h <;> simp only [SV.hc]
  simp
theorem St.nilName (h : St P S σ env objs nx a w) : St P S (σ.set nx (.slice none 0 0)) env ((nx, .nrow) :: objs) (nx + 1) a w ∧ Later w (S.A σ objs) w (S.A (σ.set nx (.slice none 0 0)) ((nx, .nrow) :: objs)) := by
  have h1 := h.name (.slice none 0 0)
  have hle := Sg.le_set (σ := σ) (v := .slice none 0 0) (h.dom nx (Nat.le_refl _))
  have hno : ∀ b, ¬ SO.own (σ.set nx (.slice none 0 0)) nx .nrow b := fun b ⟨v, hv, hb⟩ => by rw [Sg.set_self] at hv; cases hv; cases hb
  have how : ∀ b, owns (σ.set nx (.slice none 0 0)) ((nx, .nrow) :: objs) b → owns (σ.set nx (.slice none 0 0)) objs b := fun b hb => hb.elim (fun x => (hno b x).elim) (fun x => x)
  refine ⟨h1.upd (M := fun _ => False) (Mod.refl _ w) (fun _ x => x.elim) (fun b hb => .inl (how b hb)) (h1.obs.cons (Mod.refl _ w) (Sg.set_self _ _ _) (fun b hb => (hno b hb).elim) h1.a0lt), Later.own fun b hb => hb.imp id fun hb => (owns_names hle h.obs.holds b).1 (how b hb)⟩
theorem fit1_sound {ρ : Rn} {exp act : SV} {K : KF} (h : fit1 ρ objs nx exp act K) : ∃ ρ' objs' nx', K ρ' objs' nx' ∧ FitS P ρ objs nx ρ' objs' nx' fun σ w A σ' A' => ∀ cs, act.hc w A σ cs → exp.hc w A' σ' cs := by
  unfold fit1 at h
  split at h
  · rename_i j
    split at h
    · rename_i k
      obtain ⟨ρ', hK, hle, hj⟩ := bindN_spec h
      refine ⟨ρ', objs, nx, hK, hle, fun S env σ a w hst => ⟨σ, Sg.le.refl _, hst, Later.refl _ _, fun cs hc => ?_⟩⟩
      simp only [SV.hc, Sg.via, hj] at hc ⊢; exact hc
    · obtain ⟨ρ', hK, hle, hj⟩ := bindN_spec h
      refine ⟨ρ', _, nx + 1, hK, hle, fun S env σ a w hst => ⟨_, Sg.le_set (hst.dom nx (Nat.le_refl _)), hst.nilName.1, hst.nilName.2, fun cs hc => ?_⟩⟩
      simp only [SV.hc, Sg.via, hj] at hc ⊢
      exact ⟨_, Sg.set_self _ _ _, rfl, hc⟩
    · exact h.elim
  · rename_i j off
    split at h
    · rename_i k off'
      split at h
      · rename_i hb
        obtain rfl := Nat.eq_of_beq_eq_true hb
        obtain ⟨ρ', hK, hle, hj⟩ := bindN_spec h
        refine ⟨ρ', objs, nx, hK, hle, fun S env σ a w hst => ⟨σ, Sg.le.refl _, hst, Later.refl _ _, fun cs hc => ?_⟩⟩
        simp only [SV.hc, Sg.via, hj] at hc ⊢; exact hc
      · exact h.elim
    · exact h.elim
  · obtain ⟨o', hK, g, e⟩ := fitFs_sound (P := P) h
    exact ⟨ρ, o', nx, hK, g.fit fun S env σ a w hst cs hc => SV.hc.names _ _ (fun k v e => by cases e) (e hst hc)⟩
  · split at h
    · rename_i hb
      refine ⟨ρ, objs, nx, h.k, FitS.id fun S env σ a w hst cs hc => ?_⟩
      rw [asB_hc hb] at hc; simp only [SV.hc]; rw [hc, h.h]
    · exact h.elim
  · split at h
    · rename_i d hd
      refine ⟨ρ, objs, nx, h.k, FitS.id fun S env σ a w hst cs hc => ?_⟩
      rw [asP_hc hd] at hc; simp only [SV.hc]; rw [hc]
      congr 2
      exact decide_eq_decide.2 h.h
    · exact h.elim
  · exact h.elim
  · exact h.elim
  · exact h.elim
  · rename_i es
    split at h
    · rename_i k off
      split at h
      · rename_i hb
        obtain rfl := Nat.eq_of_beq_eq_true hb
        obtain ⟨o', ps', hK, g, e⟩ := frzB_sound (P := P) h
        refine ⟨ρ, o', nx, hK.k, g.fit fun S env σ a w hst cs hc => ?_⟩
        have e1 := hK.h
        cases e1
        have := e hst hc
        simp only [SV.hc] at this ⊢
        exact this
      · exact h.elim
    · refine ⟨ρ, objs, nx, h.k, FitS.id fun S env σ a w hst cs hc => ?_⟩
      have e1 := h.h
      cases e1
      simp only [SV.hc] at hc ⊢
      exact hc
    · exact h.elim
  · refine ⟨ρ, objs, nx, h.k, FitS.id fun S env σ a w hst cs hc => ?_⟩
    have e := h.h; subst e
    cases act <;> first | exact hc | (simp only [SV.hc] at hc ⊢; exact hc) | skip
    all_goals first | (simp_all; done) | (exfalso; solve_by_elim)
theorem FitS.trans {ρ1 ρ2 ρ3 : Rn} {o1 o2 o3 : List Ob} {n1 n2 n3 : Nat} {Φ Ψ X : Sg → World → Own → Sg → Own → Prop} (h : FitS P ρ1 o1 n1 ρ2 o2 n2 Φ) (k : FitS P ρ2 o2 n2 ρ3 o3 n3 Ψ)
    (hx : ∀ {S : Sig} {σ σ1 σ2 : Sg} {w : World}, Sg.le σ σ1 → Sg.le (σ1.via ρ2) (σ2.via ρ3) → Later w (S.A σ o1) w (S.A σ1 o2) → Later w (S.A σ1 o2) w (S.A σ2 o3) → Φ σ w (S.A σ o1) (σ1.via ρ2) (S.A σ1 o2) → Ψ σ1 w (S.A σ1 o2) (σ2.via ρ3) (S.A σ2 o3) → X σ w (S.A σ o1) (σ2.via ρ3) (S.A σ2 o3)) : FitS P ρ1 o1 n1 ρ3 o3 n3 X :=
  ⟨h.1.trans k.1, fun S env σ a w hst => by
    obtain ⟨σ1, l1, s1, t1, p1⟩ := h.2 S env σ a w hst
    obtain ⟨σ2, l2, s2, t2, p2⟩ := k.2 S env σ1 a w s1
    exact ⟨σ2, l1.trans l2, s2, t1.trans t2, hx l1 (via_le l2 k.1) t1 t2 p1 p2⟩⟩
/-- part by part (told by what it is worth, so that nobody reckons it but by its rule) -/
structure FitL (ρ : Rn) (objs : List Ob) (nx : Nat) (es ss : List SV) (K : KF) : Prop where
  h : ∀ {P : Program} [TabC P], ∃ ρ' objs' nx', K ρ' objs' nx' ∧ FitS P ρ objs nx ρ' objs' nx' fun σ w A σ' A' => ∀ cs, hL w A ss σ cs → hL w A' es σ' cs
def fitLS (ρ : Rn) (objs : List Ob) (nx : Nat) (es ss : List SV) (K : KF) : Prop := match es with
  | [] => match ss with
    | [] => K ρ objs nx
    | _ :: _ => False
  | e :: r => match ss with
    | [] => False
    | s :: t => fit1 ρ objs nx e s fun ρ objs nx => FitL ρ objs nx r t K
theorem FitL.unf {ρ : Rn} {es ss : List SV} {K : KF} (h : fitLS ρ objs nx es ss K) : FitL ρ objs nx es ss K := ⟨fun {P} _ => by
  match es, ss, h with
  | [], [], h => exact ⟨ρ, objs, nx, h, FitS.id fun S env σ a w hst cs hc => by simp only [hL] at hc ⊢; exact hc⟩
  | e :: r, s :: t, h =>
    simp only [fitLS] at h
    obtain ⟨ρ1, o1, n1, h, f1⟩ := fit1_sound (P := P) h
    obtain ⟨ρ2, o2, n2, h, f2⟩ := h.h (P := P)
    refine ⟨ρ2, o2, n2, h, f1.trans f2 fun hs hv l1 l2 p1 p2 cs hc => ?_⟩
    simp only [hL] at hc ⊢
    obtain ⟨c1, c2, rfl, h1, h2⟩ := hc
    exact ⟨c1, c2, rfl, SV.hc.names _ _ hv (SV.hc.later l2 _ _ _ (p1 c1 h1)), p2 c2 (hL.names _ _ hs (hL.later l1 _ _ _ h2))⟩
  | [], _ :: _, h => exact h.elim
  | _ :: _, [], h => exact h.elim⟩
/-- one value -/
def fitA (ρ : Rn) (objs : List Ob) (nx : Nat) (exp act : SV) (K : KF) : Prop := match exp with
  | .agg es => match act with
    | .agg ss => FitL ρ objs nx es ss K
    | _ => False
  | .tup _ => False
  | .undef => K ρ objs nx
  | exp => match act with
    | .agg _ => False
    | .tup _ => False
    | .undef => False
    | act => fit1 ρ objs nx exp act K
theorem fitA_sound {ρ : Rn} {exp act : SV} {K : KF} (h : fitA ρ objs nx exp act K) : ∃ ρ' objs' nx', K ρ' objs' nx' ∧ FitS P ρ objs nx ρ' objs' nx' fun σ w A σ' A' => ∀ v, act.h1 w A σ v → exp.h1 w A' σ' v := by
  have single : fit1 ρ objs nx exp act K → (∀ ps, exp ≠ .agg ps) → exp ≠ .undef → (∀ ps, act ≠ .agg ps) → act ≠ .undef → ∃ ρ' objs' nx', K ρ' objs' nx' ∧ FitS P ρ objs nx ρ' objs' nx' fun σ w A σ' A' => ∀ v, act.h1 w A σ v → exp.h1 w A' σ' v := fun h e1 e2 e3 e4 => by
    obtain ⟨ρ', o', n', hK, f⟩ := fit1_sound (P := P) h
    have c1 : ∀ {w A σ v}, act.h1 w A σ v → act.hc w A σ [v] := fun {w A σ v} h => by cases act <;> first | exact h | exact absurd rfl (e3 _) | exact absurd rfl e4
    have c2 : ∀ {w A σ v}, exp.hc w A σ [v] → exp.h1 w A σ v := fun {w A σ v} h => by cases exp <;> first | exact h | exact absurd rfl (e1 _) | exact absurd rfl e2
    exact ⟨ρ', o', n', hK, f.1, fun S env σ a w hst => by obtain ⟨σ', l, s, t, p⟩ := f.2 S env σ a w hst; exact ⟨σ', l, s, t, fun v hv => c2 (p _ (c1 hv))⟩⟩
  unfold fitA at h
  split at h
  · split at h
    · obtain ⟨ρ', o', n', hK, f⟩ := h.h (P := P)
      exact ⟨ρ', o', n', hK, f.1, fun S env σ a w hst => by obtain ⟨σ', l, s, t, p⟩ := f.2 S env σ a w hst; exact ⟨σ', l, s, t, fun v ⟨cs, h1, h2⟩ => ⟨cs, h1, p cs h2⟩⟩⟩
    · exact h.elim
  · exact h.elim
  · exact ⟨ρ, objs, nx, h, FitS.id fun S env σ a w hst v hv => trivial⟩
  · rename_i e1 e2 e3
    split at h
    · exact h.elim
    · exact h.elim
    · exact h.elim
    · rename_i f1 f2 f3
      exact single h (fun ps e => e1 ps e) (fun e => e3 e) (fun ps e => f1 ps e) (fun e => f3 e)
structure FitAs (ρ : Rn) (objs : List Ob) (nx : Nat) (es ss : List SV) (K : KF) : Prop where
  h : ∀ {P : Program} [TabC P], ∃ ρ' objs' nx', K ρ' objs' nx' ∧ FitS P ρ objs nx ρ' objs' nx' fun σ w A σ' A' => ∀ vs, hvs w A σ ss vs → hvs w A' σ' es vs
def fitAsS (ρ : Rn) (objs : List Ob) (nx : Nat) (es ss : List SV) (K : KF) : Prop := match es with
  | [] => match ss with
    | [] => K ρ objs nx
    | _ :: _ => False
  | e :: r => match ss with
    | [] => False
    | s :: t => fitA ρ objs nx e s fun ρ objs nx => FitAs ρ objs nx r t K
theorem FitAs.unf {ρ : Rn} {es ss : List SV} {K : KF} (h : fitAsS ρ objs nx es ss K) : FitAs ρ objs nx es ss K := ⟨fun {P} _ => by
  match es, ss, h with
  | [], [], h => exact ⟨ρ, objs, nx, h, FitS.id fun S env σ a w hst vs hv => hv⟩
  | e :: r, s :: t, h =>
    simp only [fitAsS] at h
    obtain ⟨ρ1, o1, n1, h, f1⟩ := fitA_sound (P := P) h
    obtain ⟨ρ2, o2, n2, h, f2⟩ := h.h (P := P)
    refine ⟨ρ2, o2, n2, h, f1.trans f2 fun hs hv l1 l2 p1 p2 vs hc => ?_⟩
    obtain ⟨v, m, rfl, h1, h2⟩ := hc
    exact ⟨v, m, rfl, ((p1 v h1).later l2).names hv, p2 m ((h2.later l1).names hs)⟩
  | [], _ :: _, h => exact h.elim
  | _ :: _, [], h => exact h.elim⟩
def fitV (ρ : Rn) (objs : List Ob) (nx : Nat) (exp act : SV) (K : KF) : Prop := match exp with
  | .tup es => match act with
    | .tup ss => FitAs ρ objs nx es ss K
    | _ => False
  | exp => fitA ρ objs nx exp act K
theorem fitV_sound {ρ : Rn} {exp act : SV} {K : KF} (h : fitV ρ objs nx exp act K) : ∃ ρ' objs' nx', K ρ' objs' nx' ∧ FitS P ρ objs nx ρ' objs' nx' fun σ w A σ' A' => ∀ v, act.hv w A σ v → exp.hv w A' σ' v := by
  unfold fitV at h
  split at h
  · split at h
    · obtain ⟨ρ', o', n', hK, f⟩ := h.h (P := P)
      exact ⟨ρ', o', n', hK, f.1, fun S env σ a w hst => by obtain ⟨σ', l, s, t, p⟩ := f.2 S env σ a w hst; exact ⟨σ', l, s, t, fun v ⟨cs, h1, h2⟩ => ⟨cs, h1, p cs h2⟩⟩⟩
    · exact h.elim
  · rename_i e1
    obtain ⟨ρ', o', n', hK, f⟩ := fitA_sound (P := P) h
    refine ⟨ρ', o', n', hK, f.1, fun S env σ a w hst => by
      obtain ⟨σ', l, s, t, p⟩ := f.2 S env σ a w hst
      refine ⟨σ', l, s, t, fun v hv => ?_⟩
      have hv1 : act.h1 w (S.A σ objs) σ v ∨ ∃ vs, act = .tup vs := by cases act <;> first | exact .inl hv | exact .inr ⟨_, rfl⟩
      rcases hv1 with hv1 | ⟨vs, rfl⟩
      · have := p v hv1
        cases exp <;> first | exact this | exact absurd rfl (e1 _)
      · unfold fitA at h
        cases exp <;> first | trivial | exact absurd rfl (e1 _) | (simp at h)⟩
end
end Go.Proofs.YtdflndjlnkoliaaGreatDoor

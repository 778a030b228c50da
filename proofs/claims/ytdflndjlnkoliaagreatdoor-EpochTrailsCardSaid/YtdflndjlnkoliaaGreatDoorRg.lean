import Derived.RangeFuncLeaves
import Derived.Test.YtdflndjlnkoliaaGreatDoorVc2
/- MY OWN ENGINE: ranges over a function. -/
namespace Go.Proofs.YtdflndjlnkoliaaGreatDoor
set_option linter.all false
open Go.RowKit
/-- objects, under names of their own, taken together -/
def packAO (τ : Sg) (os : List Ob) (q : Prop) : AO where
  own := owns τ os
  holds := fun w A => q ∧ (∀ o ∈ os, o.2.holds w A τ o.1) ∧ Disj τ os
  plain := False
  lt := fun h hb => by
    obtain ⟨o, ho, hb⟩ := (owns_iff os _).1 hb
    exact SO.own_lt (h.2.1 o ho) _ hb
  later := fun h hl hb => ⟨h.1, fun o ho => (h.2.1 o ho).later hl fun b hob => hb b (owns_mem ho hob), h.2.2⟩
  any := fun h => h.elim
/-- a loop's frame: its objects, its record, its slots -/
def frAO (τ : Sg) (env : Env) (tmps : Array Value) (os : List Ob) (l : Nat) (r : Loop) (q : Prop) : AO where
  own := fun b => owns τ os b ∨ b = l
  holds := fun w A => q ∧ (∀ o ∈ os, o.2.holds w A τ o.1) ∧ Disj τ os ∧ (∀ b, owns τ os b → b ≠ l) ∧ w.heap[l]? = some (.loop r) ∧ ∀ t s, lk env t = some s → s.hv w A τ (tmps.getD t undef)
  plain := False
  lt := fun h hb => by
    rcases hb with hb | rfl
    · obtain ⟨o, ho, hb⟩ := (owns_iff os _).1 hb
      exact SO.own_lt (h.2.1 o ho) _ hb
    · exact (Array.getElem?_eq_some_iff.1 h.2.2.2.2.1).1
  later := fun h hl hb => ⟨h.1, fun o ho => (h.2.1 o ho).later hl fun b hob => hb b (.inl (owns_mem ho hob)), h.2.2.1, h.2.2.2.1, (hb _ (.inr rfl)).trans h.2.2.2.2.1, fun t s ht => (h.2.2.2.2.2 t s ht).later hl⟩
  any := fun h => h.elim
/-- the loop's record, by its state -/
abbrev recS (fn : FuncId) (tmps : Array Value) (ps : Array Tmp) (ra rb : Code) (D : Nat) (st : LoopState) : Loop := { state := st, pending := none, fn, tmps, params := ps, assign := ra, body := rb, defers := D }
/-- a closure of function f, which holds m boxes -/
def cloQ (f m : Nat) (τ : Sg) (v : Value) : Prop := ∃ lb : List Value, lb.length = m ∧ (∀ i, i < m → τ i = lb[i]?) ∧ (∀ u ∈ lb, ∃ b, u = .pointer (some ⟨b, 0, none⟩)) ∧ v = .func (.func f) #[] lb.toArray ∧ ∀ k, m ≤ k → τ k = none
def ptrsF : Nat → Nat → List SV
  | _, 0 => []
  | k, n + 1 => .ptr k 0 :: ptrsF (k + 1) n
/-- whom the function yields to: what it hands him, when it may, what becomes of his state -/
def yCtr {I X : Type} (xargs : X → List SV) (xpre : I → X → Prop) (nxt : I → X → I) (J : I × Sg → AO) : Ctr where
  D := (I × Sg) × X
  pre := fun (s, x) => xpre s.1 x
  args := fun (_, x) => xargs x
  objs := fun (s, _) => [(0, .ab (J s))]
  nn := 1
  E := I × Sg
  post := fun (s, x) s' => s'.1 = nxt s.1 x
  res := fun _ _ => .bool true
  out := fun _ s' => [(0, .ab (J s'))]
/-- a part without names -/
def nmlP : SV → Bool
  | .fs _ _ _ => true
  | .fpt _ => true
  | s => flatS s
def nmlPs : List SV → Bool
  | [] => true
  | s :: r => match nmlP s with
    | true => nmlPs r
    | false => false
/-- a slot's value that holds no name but a box's -/
def nmlS (M : Nat) : SV → Bool
  | .agg ps => nmlPs ps
  | .ptr k _ => Nat.blt k M
  | .fs _ _ _ => true
  | .fpt _ => true
  | s => flatS s
def nmlE (M : Nat) : Env → Bool
  | [] => true
  | (_, s) :: r => match nmlS M s with
    | true => nmlE M r
    | false => false
def nmlL : List SV → Bool
  | [] => true
  | s :: r => match nmlS 0 s with
    | true => nmlL r
    | false => false
def psEnv : List Nat → List SV → Env → Env
  | p :: ps, s :: ss, E => psEnv ps ss ((p, s) :: E)
  | _, _, E => E
def psBl (n : Nat) : List Nat → Bool
  | [] => true
  | p :: r => match Nat.blt p n with
    | true => psBl n r
    | false => false
def boxIn : List Ob → Nat → Bool
  | [], _ => false
  | (j, .box _ _) :: r, k => match Nat.beq j k with
    | true => true
    | false => boxIn r k
  | _ :: r, k => boxIn r k
/-- all boxes that the slots point to are there -/
def boxesE (os : List Ob) : Env → Bool
  | [] => true
  | (_, .ptr k _) :: r => match boxIn os k with
    | true => boxesE os r
    | false => false
  | _ :: r => boxesE os r
def roundK (M : Nat) (O : List Ob) (N : Nat) : KW := fun way env objs nx => match way with
  | .normal => Into0 M objs nx O N
  | _ => False
/-- what a closure's contract says of him to whom it yields -/
structure CloLaw (P : Program) [TabC P] {I X : Type} (xargs : X → List SV) (xpre : I → X → Prop) (nxt : I → X → I) (m : Nat) (cos : List Ob) (C : (I × Sg → AO) → Value → Ctr) (d : ∀ J y, Sg → (C J y).D) (i0 : I) (fin : I → Prop) : Prop where
  args : ∀ J y τ, (C J y).args (d J y τ) = .val y :: ptrsF 0 m
  objs : ∀ J y τ, (C J y).objs (d J y τ) = cos ++ [(m, .ab (J (i0, τ)))]
  nn : ∀ J y, (C J y).nn = m + 1
  pre : ∀ J y τ, (yCtr xargs xpre nxt J).OkBy P (CallsV P y) → (C J y).pre (d J y τ)
  out : ∀ J y τ e, (C J y).post (d J y τ) e → ∃ i τ', fin i ∧ (C J y).out (d J y τ) e = [(m, .ab (J (i, τ')))]
section
variable {P : Program} [TabC P] {S : Sig} {σ τ : Sg} {env : Env} {objs os rest : List Ob} {nx k j : Nat} {a : Act} {w w' : World} {A0 : Own}
theorem nmlP_hc {s : SV} {A : Own} {τ' : Sg} {cs : List Value} (h : nmlP s = true) (hv : s.hc w A τ cs) : s.hc w A τ' cs := by
  cases s <;> first
    | (simp [nmlP, flatS] at h; done)
    | exact hv
theorem nmlPs_hL {A : Own} {τ' : Sg} : ∀ {l : List SV} {cs : List Value}, nmlPs l = true → hL w A l τ cs → hL w A l τ' cs
  | [], cs, _, hv => hv
  | s :: r, cs, h, ⟨x, y, h1, h2, h3⟩ => by
    unfold nmlPs at h
    split at h
    · rename_i hs
      exact ⟨x, y, h1, nmlP_hc hs h2, nmlPs_hL h h3⟩
    · cases h
theorem nmlS_mv {M : Nat} {s : SV} {A : Own} {τ' : Sg} {v : Value} (h : nmlS M s = true) (hv : s.hv w A τ v) (hp : ∀ k off, s = .ptr k off → k < M → τ' k = τ k) : s.hv w A τ' v := by
  cases s <;> first
    | (simp [nmlS, flatS] at h; done)
    | exact hv
    | (obtain ⟨cs, h1, h2⟩ := hv; exact ⟨cs, h1, nmlPs_hL h h2⟩)
    | skip
  rename_i o off
  simp only [SV.hv, SV.h1, SV.hc] at hv ⊢
  rw [hp o off rfl (by simpa [nmlS, Nat.blt_eq] using h)]
  exact hv
theorem nmlE_mem {M : Nat} : ∀ {E : Env}, nmlE M E = true → ∀ t s, lk E t = some s → nmlS M s = true
  | [], _, t, s, h => by simp [lk] at h
  | (j, u) :: r, h, t, s, hl => by
    unfold nmlE at h
    split at h
    · rename_i hu
      unfold lk at hl
      split at hl
      · cases hl; exact hu
      · exact nmlE_mem h t s hl
    · cases h
theorem boxIn_mem : ∀ {os : List Ob} {k : Nat}, boxIn os k = true → ∃ T ps, (k, SO.box T ps) ∈ os
  | [], k, h => by simp [boxIn] at h
  | (j, so) :: r, k, h => by
    unfold boxIn at h
    split at h
    · rename_i e; cases e
    · rename_i e
      cases e
      split at h
      · rename_i hb
        obtain rfl := Nat.eq_of_beq_eq_true hb
        exact ⟨_, _, .head _⟩
      · obtain ⟨T, ps, hm⟩ := boxIn_mem h; exact ⟨T, ps, .tail _ hm⟩
    · rename_i e
      cases e
      obtain ⟨T, ps, hm⟩ := boxIn_mem h; exact ⟨T, ps, .tail _ hm⟩
theorem boxesE_mem {os : List Ob} : ∀ {E : Env}, boxesE os E = true → ∀ t k off, lk E t = some (.ptr k off) → ∃ T ps, (k, SO.box T ps) ∈ os
  | [], _, t, k, off, hl => by simp [lk] at hl
  | (j, u) :: r, h, t, k, off, hl => by
    unfold lk at hl
    unfold boxesE at h
    split at h
    · rename_i e; cases e
    · rename_i e
      cases e
      split at h
      · rename_i hb
        split at hl
        · cases hl; exact boxIn_mem hb
        · exact boxesE_mem h t k off hl
      · cases h
    · rename_i hne e
      cases e
      split at hl
      · cases hl; exact (hne _ _ _ rfl).elim
      · exact boxesE_mem h t k off hl
theorem nmlL_mem : ∀ {l : List SV}, nmlL l = true → ∀ s ∈ l, nmlS 0 s = true
  | [], _, s, h => by cases h
  | u :: r, h, s, hm => by
    unfold nmlL at h
    split at h
    · rename_i hu
      rcases List.mem_cons.1 hm with rfl | hm
      · exact hu
      · exact nmlL_mem h s hm
    · cases h
theorem psB_mem {n : Nat} : ∀ {l : List Nat}, psBl n l = true → ∀ p ∈ l, p < n
  | [], _, p, h => by cases h
  | q :: r, h, p, hm => by
    unfold psBl at h
    split at h
    · rename_i hu
      rcases List.mem_cons.1 hm with rfl | hm
      · simpa [Nat.blt_eq] using hu
      · exact psB_mem h p hm
    · cases h
/-- the slots behind a yield's arguments are laid -/
theorem psE_slots {A : Own} {n : Nat} : ∀ {ps : List Nat} {ss : List SV} {vs : List Value} {E : Env} {tmps : Array Value}, psBl n ps = true → tmps.size = n → ps.length = ss.length → (∀ s ∈ ss, nmlS 0 s = true) → (∃ σ, hvs w A σ ss vs) → (∀ t s, lk E t = some s → s.hv w A τ (tmps.getD t undef)) →
    (∀ t s, lk (psEnv ps ss E) t = some s → s.hv w A τ (((ps.zip vs).foldl (fun t p => t.setIfInBounds p.1 p.2) tmps).getD t undef)) ∧ ((ps.zip vs).foldl (fun t p => t.setIfInBounds p.1 p.2) tmps).size = n
  | [], [], vs, E, tmps, _, hz, _, _, _, h => ⟨h, hz⟩
  | p :: ps, s :: ss, vs, E, tmps, hb, hz, hl, hok, ⟨σ, v, m, h1, h2, h3⟩, h => by
    subst h1
    have hp := psB_mem hb p (by simp)
    simp only [psEnv, List.zip_cons_cons, List.foldl_cons]
    refine psE_slots (ps := ps) (ss := ss) (by unfold psBl at hb; split at hb <;> first | exact hb | cases hb) (by simpa using hz) (by simpa using hl) (fun u hu => hok u (List.mem_cons_of_mem _ hu)) ⟨σ, h3⟩ fun t u hu => ?_
    unfold lk at hu
    split at hu
    · rename_i he
      obtain rfl := Nat.eq_of_beq_eq_true he
      cases hu
      rw [show (tmps.setIfInBounds p v).getD p undef = v by simp [Array.getD_eq_getD_getElem?, hz, hp]]
      have hs := hok s (by simp)
      refine nmlS_mv (τ := σ) hs ?_ fun k off e hk => absurd hk (Nat.not_lt_zero k)
      cases s <;> first | exact h2 | (simp [nmlS, flatS] at hs; done)
    · rename_i he
      have hne : p ≠ t := fun e => by rw [e, Nat.beq_refl] at he; cases he
      have := h t u hu
      simp only [Array.getD_eq_getD_getElem?] at this ⊢
      rw [Array.getElem?_setIfInBounds_ne hne]; exact this
  | [], _ :: _, _, _, _, _, _, hl, _, _, _ => by simp at hl
  | _ :: _, [], _, _, _, _, _, hl, _, _, _ => by simp at hl
theorem Mod.putObj (w : World) (l : Nat) (o : Obj) : Mod (fun b => b = l) w (w.putObj l o) :=
  ⟨rfl, rfl, rfl, by simp, fun k _ hk => World.putObj_heap_other hk⟩
/-- a block that is not one's own, turned -/
theorem St.putA {l : Nat} {o : Obj} (h : St P S σ env objs nx a w) (hl : S.A0 l) (hds : l ∉ S.ds) : St P { S with w0 := w.putObj l o, M0 := owns σ objs } σ env objs nx a (w.putObj l o) := by
  have hno : ∀ b, owns σ objs b → b ≠ l := fun b hb e => (h.obs.lt b hb).2 (e ▸ hl)
  have hlat : Later w (S.A σ objs) (w.putObj l o) (S.A σ objs) := (Mod.putObj w l o).later (fun b hb => .inl (hb ▸ hl)) (fun b _ hb => hb)
  exact { slots := fun t s hs => (h.slots t s hs).later hlat, dom := h.dom, size := h.size, defers := h.defers
          obs := ⟨fun r hr => (h.obs.holds r hr).later hlat fun b hb => World.putObj_heap_other (hno b (owns_mem hr hb)), h.obs.disj, fun b hb => by have := h.obs.lt b hb; exact ⟨by rw [(show (w.putObj l o).heap.size = w.heap.size by simp)]; exact this.1, this.2⟩⟩
          hist := Mod.refl _ _, own0 := fun b hb => .inl hb, a0 := fun b hb => by rw [(show (w.putObj l o).heap.size = w.heap.size by simp)]; exact h.a0 b hb
          mks := fun D hD => ⟨(h.mks D hD).1, (World.putObj_heap_other (fun e => hds (by first | (rw [e]; exact hD) | (rw [← e]; exact hD)))).trans (h.mks D hD).2⟩
          glob := h.glob.later hlat, base := h.base, nnx := h.nnx }
theorem yield_of {l D : Nat} {fn : FuncId} {tmps : Array Value} {ps : Array Tmp} {ra rb : Code} {args : Array Value} {R : Ending → World → Prop} (hl : w.heap[l]? = some (.loop (recS fn tmps ps ra rb D .ready))) (hs : args.size = ps.size)
    (h : ra.wpIn (Fence.wide.inRound l) 0 P (Exit.then (fun a1 w1 => w1.heap[l]? = some (.loop (recS fn tmps ps ra rb D .ready)) ∧ rb.wpIn (Fence.wide.inRound l) 0 P (fun e _ w3 => e = .normal ∧ w3.heap[l]? = some (.loop (recS fn tmps ps ra rb D .busy)) ∧ R (.returned (.bool true)) (w3.putObj l (.loop (recS fn tmps ps ra rb D .ready)))) a1 (w1.putObj l (.loop (recS fn tmps ps ra rb D .busy)))) (fun _ _ _ => False))
      { tmps := (ps.zip args).foldl (fun t (p, v) => t.setIfInBounds p v) tmps, defers := [] } w) : YieldAt Fence.wide 0 P l args w R := by
  refine ⟨fn, _, ra, rb, run_yield hl hs, roundIn_of_wpIn trivial (wpIn_mono h ?_)⟩
  intro e a1 w1 hq
  cases e with
  | normal =>
    obtain ⟨h1, h2⟩ := hq
    refine ⟨_, run_beginRound h1 rfl, wpIn_mono h2 ?_⟩
    rintro e a3 w3 ⟨rfl, h3, h4⟩
    exact ⟨_, _, run_endRound none h3, h4⟩
  | _ => exact hq.elim
theorem range_enter {n : Nat} {g : Operand} {ps : Array Tmp} {ra rb : Code} {Q : Exit → Act → World → Prop} {lb : Array Value} {f : Nat} (hg : a.eval g = .func (.func f) #[] lb) (ef : ∀ args w, (callFunc f args).run P w = .ok (.enter f args) w)
    (hcall : ∀ (fn : FuncId), Calls P f (#[.func (.yield (w.heap.size + 1)) #[] #[]] ++ lb) ((w.alloc (.deferred (some []))).alloc (.loop (recS fn a.tmps ps ra rb w.heap.size .ready))) fun e w2 => (∃ v, e = .returned v) ∧ w2.heap[w.heap.size + 1]? = some (.loop (recS fn a.tmps ps ra rb w.heap.size .ready)) ∧
      Q .normal { a with defers := mkD w.heap.size :: a.defers } (w2.putObj (w.heap.size + 1) (.loop (recS fn a.tmps ps ra rb w.heap.size .exhausted)))) :
    (Code.rangeFunc g ps ra rb).wpIn Fence.wide n P Q a w := by
  refine wpIn_rangeFunc ?_
  intro fn hfn
  obtain ⟨W1, hW1⟩ : ∃ W1, (w.alloc (.deferred (some []))).alloc (.loop (recS fn a.tmps ps ra rb w.heap.size .ready)) = W1 := ⟨_, rfl⟩
  refine ⟨w.heap.size + 1, [{ target := .collected w.heap.size, args := #[] }], W1, { target := .fn (.func f) lb, args := #[.func (.yield (w.heap.size + 1)) #[] #[]] }, W1, f, #[.func (.yield (w.heap.size + 1)) #[] #[]] ++ lb, W1, hW1 ▸ run_enterLoop_outer _ _ _ _ _, ?_, ?_, ?_, ?_, ?_⟩
  · simp only [resolve, hg]
    simp [go_sem]
  · intro f' hf'; trivial
  · simp [invoke, go_sem, ef]
  · intro h; cases h
  · refine callsIn_wide.2 ((hW1 ▸ hcall fn).mono ?_)
    rintro e w2 ⟨⟨v, rfl⟩, hl, hq⟩
    exact ⟨none, _, run_endLoop hl (by simp), hq⟩
theorem fr_owns {env0 : Env} {tmps : Array Value} {l : Nat} {r : Loop} {q : Prop} (b : Nat) : owns σ [(k, .ab (frAO τ env0 tmps os l r q))] b ↔ owns τ os b ∨ b = l := by simp [owns, SO.own, frAO]
theorem pack_owns {q : Prop} (b : Nat) : owns σ [(k, .ab (packAO τ os q))] b ↔ owns τ os b := by simp [owns, SO.own, packAO]
theorem Obs.unpack {q : Prop} (h : Obs σ A0 [(k, .ab (packAO τ os q))] w) : q ∧ Obs τ A0 os w := by
  obtain ⟨h1, h2, h3⟩ := h.holds _ (List.mem_singleton.2 rfl)
  have hl : Later w (fun b => A0 b ∨ owns σ [(k, .ab (packAO τ os q))] b) w (fun b => A0 b ∨ owns τ os b) := Later.own fun b hb => hb.imp id (pack_owns b).2
  exact ⟨h1, fun o ho => (h2 o ho).later hl (fun _ _ => rfl), h3, fun b hb => h.lt b ((pack_owns b).2 hb)⟩
theorem Obs.pack {q : Prop} (h : Obs τ A0 os w) (hq : q) : Obs σ A0 [(k, .ab (packAO τ os q))] w := by
  have hl : Later w (fun b => A0 b ∨ owns τ os b) w (fun b => A0 b ∨ owns σ [(k, .ab (packAO τ os q))] b) := Later.own fun b hb => hb.imp id (pack_owns b).1
  refine ⟨fun o ho => ?_, ⟨fun b _ hb => hb, trivial⟩, fun b hb => h.lt b ((pack_owns b).1 hb)⟩
  obtain rfl := List.mem_singleton.1 ho
  exact ⟨hq, fun o ho => (h.holds o ho).later hl (fun _ _ => rfl), h.disj⟩
/-- the frame that a loop's rounds find -/
abbrev frJ {I : Type} (E : Env) (tmps : Array Value) (O : I → List Ob) (M N l : Nat) (r : Loop) (τ0 : Sg) (s : I × Sg) : AO := frAO s.2 E tmps (O s.1) l r ((∀ k, N ≤ k → s.2 k = none) ∧ ∀ k, k < M → ∀ v, s.2 k = some v → τ0 k = some v)
theorem yield_ok {H : Cfg} {I X : Type} {xargs : X → List SV} {xpre : I → X → Prop} {nxt : I → X → I} {O : I → List Ob} {E : Env} {M N D l : Nat} {tmps : Array Value} {fn : FuncId} {ps : Array Tmp} {ra rb : Code} {τ0 : Sg} (hcs : CsOk P H.cs) (hps : psBl H.n ps.toList = true) (hE : nmlE M E = true) (hMN : M ≤ N) (hra : rdOk ra = true) (hrb : rdOk rb = true) (hd1 : drawsOk H.dr ra = true) (hd2 : drawsOk H.dr rb = true)
    (hx : ∀ x, nmlL (xargs x) = true ∧ (xargs x).length = ps.toList.length) (hb : ∀ i, boxesE (O i) E = true) (hsz : tmps.size = H.n)
    (round : ∀ i x, xpre i x → Vc P { H with nn := M } ra (psEnv ps.toList (xargs x) E) (O i) N (seqK (Vc P { H with nn := M } rb) (roundK M (O (nxt i x)) N))) :
    (yCtr xargs xpre nxt (frJ E tmps O M N l (recS fn tmps ps ra rb D .ready) τ0)).OkBy P (CallsV P (.func (.yield l) #[] #[])) := by
  rintro ⟨⟨i, τ⟩, x⟩ hpre A0 w σ vs hA hobs hargs hdom hgl
  have hpre : xpre i x := hpre
  have hargs : hvs w (Av A0 σ [(0, .ab (frJ E tmps O M N l (recS fn tmps ps ra rb D .ready) τ0 (i, τ)))]) σ (xargs x) vs := hargs
  have hobs : Obs σ A0 [(0, .ab (frJ E tmps O M N l (recS fn tmps ps ra rb D .ready) τ0 (i, τ)))] w := hobs
  obtain ⟨⟨hq1, hq2⟩, hho, hdj, hlo, hl, hsl⟩ := hobs.holds _ (List.mem_singleton.2 rfl)
  have hAe : ∀ b, Av A0 σ [(0, .ab (frJ E tmps O M N l (recS fn tmps ps ra rb D .ready) τ0 (i, τ)))] b ↔ (A0 b ∨ owns τ (O i) b ∨ b = l) := fun b => or_congr_right (fr_owns b)
  have hlt : l < w.heap.size := (Array.getElem?_eq_some_iff.1 hl).1
  have hlA : ¬ A0 l := (hobs.lt l ((fr_owns l).2 (.inr rfl))).2
  let Sa : Sig := ⟨fun b => A0 b ∨ b = l, owns τ (O i), w, H.n, τ, M, []⟩
  have hlat : Later w (Av A0 σ [(0, .ab (frJ E tmps O M N l (recS fn tmps ps ra rb D .ready) τ0 (i, τ)))]) w (Sa.A τ (O i)) := Later.own fun b hb => (hAe b).2 (by
    rcases hb with (hb | hb) | hb
    · exact .inl hb
    · exact .inr (.inr hb)
    · exact .inr (.inl hb))
  obtain ⟨hsl2, hsz2⟩ := psE_slots (τ := τ) hps hsz (hx x).2.symm (nmlL_mem (hx x).1) ⟨σ, hargs⟩ hsl
  have hlen : vs.length = ps.size := by
    have hlen0 : ∀ {A : Own} {l : List SV} {vs : List Value}, hvs w A σ l vs → vs.length = l.length := by
      intro A l
      induction l with
      | nil => intro vs h; simp only [hvs] at h; simp [h]
      | cons s r ih => rintro vs ⟨v, m, rfl, _, h⟩; simp [ih h]
    rw [hlen0 hargs, (hx x).2]; simp
  refine ⟨l, rfl, yield_of hl (by simpa using hlen) ?_⟩
  have et : (ps.zip vs.toArray).foldl (fun t (p, v) => t.setIfInBounds p v) tmps = (ps.toList.zip vs).foldl (fun t p => t.setIfInBounds p.1 p.2) tmps := by
    rw [← Array.foldl_toList, Array.toList_zip]
  rw [et]
  have ha : St P Sa τ (psEnv ps.toList (xargs x) E) (O i) N { tmps := (ps.toList.zip vs).foldl (fun t p => t.setIfInBounds p.1 p.2) tmps, defers := [] } w :=
    { slots := fun t s ht => (hsl2 t s ht).later hlat, dom := hq1, size := hsz2, defers := rfl
      obs := ⟨fun o ho => (hho o ho).later hlat (fun _ _ => rfl), hdj, fun b hb => ⟨(hobs.lt b ((fr_owns b).2 (.inl hb))).1, fun h => h.elim (hobs.lt b ((fr_owns b).2 (.inl hb))).2 (hlo b hb)⟩⟩
      hist := Mod.refl _ _, own0 := fun b hb => .inl hb, a0 := fun b hb => hb.elim (hA b) (fun e => e ▸ hlt), mks := fun D hD => (by cases hD)
      glob := hgl.later hlat, base := fun k _ v hv => hv, nnx := hMN }
  refine (round i x hpre).h (some l) hcs rfl rfl hd1 (fun _ => hra) (fun c d v a w h => h) ?_ τ _ w ha
  intro S1 hS1 way env1 objs1 nx1 hk σ1 a1 w1 h1
  cases way with
  | ret => unfold seqK at hk; exact hk.elim
  | exit j => unfold seqK at hk; exact hk.elim
  | normal =>
    unfold seqK at hk
    have e1 := hS1.w0
    have e2 := hS1.M0
    have e3 := hS1.n
    have e4 := hS1.s0
    have e5 := hS1.nn
    have hh1 : Mod (owns τ (O i)) w w1 := by have := h1.hist; rw [e1, e2] at this; exact this
    have ho1 : ∀ b, owns σ1 objs1 b → owns τ (O i) b ∨ w.heap.size ≤ b := fun b hb => by have := h1.own0 b hb; rw [e1, e2] at this; exact this
    have hl1 : w1.heap[l]? = some (.loop (recS fn tmps ps ra rb D .ready)) := (hh1.block l hlt fun h => hlo l h rfl).trans hl
    refine ⟨hl1, ?_⟩
    have hlS : S1.A0 l := hS1.a0 l (.inr rfl)
    have hlt1 : l < w1.heap.size := Nat.lt_of_lt_of_le hlt hh1.size
    have hb1 := h1.putA (l := l) (o := .loop (recS fn tmps ps ra rb D .busy)) hlS (fun hD => (hS1.ds l hD).elim (fun h => (by cases h)) (fun h => absurd (show w.heap.size ≤ l from h) (by omega)))
    refine hk.h (S := { S1 with w0 := w1.putObj l (.loop (recS fn tmps ps ra rb D .busy)), M0 := owns σ1 objs1 }) (some l) hcs e3.symm e5.symm hd2 (fun _ => hrb) (fun c d v a w h => by cases h.1) ?_ σ1 a1 _ hb1
    intro S2 hS2 way env2 objs2 nx2 hk2 σ2 a2 w2 h2
    cases way with
    | ret => exact hk2.elim
    | exit j => exact hk2.elim
    | normal =>
      have f1 := hS2.w0
      have f2 := hS2.M0
      have f4 := hS2.s0
      have f5 := hS2.nn
      have hk2 : Into0 M objs2 nx2 (O (nxt i x)) N := hk2
      rw [show M = S2.nn from (f5.trans e5).symm] at hk2
      obtain ⟨σ3, h3⟩ := hk2.sound h2
      have hh2 : Mod (owns σ1 objs1) (w1.putObj l (.loop (recS fn tmps ps ra rb D .busy))) w2 := by have := h3.hist; rw [f1, f2] at this; exact this
      have ho3 : ∀ b, owns σ3 (O (nxt i x)) b → owns τ (O i) b ∨ w.heap.size ≤ b := fun b hb => by
        have := h3.own0 b hb
        rw [f1, f2] at this
        rcases this with h | h
        · exact ho1 b h
        · have h : (w1.putObj l (.loop (recS fn tmps ps ra rb D .busy))).heap.size ≤ b := h
          rw [show (w1.putObj l (.loop (recS fn tmps ps ra rb D .busy))).heap.size = w1.heap.size by simp] at h
          exact .inr (Nat.le_trans hh1.size h)
      have hl2 : w2.heap[l]? = some (.loop (recS fn tmps ps ra rb D .busy)) := (hh2.block l (by simpa using hlt1) fun h => (h1.obs.lt l h).2 hlS).trans (World.putObj_heap_same hlt1)
      have hlt2 : l < w2.heap.size := (Array.getElem?_eq_some_iff.1 hl2).1
      have hlS2 : S2.A0 l := hS2.a0 l hlS
      have hl3 : (w2.putObj l (.loop (recS fn tmps ps ra rb D .ready))).heap[l]? = some (.loop (recS fn tmps ps ra rb D .ready)) := World.putObj_heap_same hlt2
      have hmod : Mod (fun b => owns τ (O i) b ∨ b = l) w (w2.putObj l (.loop (recS fn tmps ps ra rb D .ready))) :=
        (((hh1.mono fun b hb => .inl hb).step (Mod.putObj w1 l _) (fun b hb => .inl (.inr hb))).step hh2 (fun b hb => (ho1 b hb).imp .inl id)).step (Mod.putObj w2 l _) (fun b hb => .inl (.inr hb))
      have hA3 : ∀ b, Av A0 (fun _ => none) [(0, .ab (frJ E tmps O M N l (recS fn tmps ps ra rb D .ready) τ0 (nxt i x, σ3)))] b ↔ (A0 b ∨ owns σ3 (O (nxt i x)) b ∨ b = l) := fun b => or_congr_right (fr_owns b)
      have hA02 : ∀ b, A0 b → S2.A0 b := fun b hb => hS2.a0 b (hS1.a0 b (.inl hb))
      have lat3 : Later w2 (S2.A σ3 (O (nxt i x))) (w2.putObj l (.loop (recS fn tmps ps ra rb D .ready))) (Av A0 (fun _ => none) [(0, .ab (frJ E tmps O M N l (recS fn tmps ps ra rb D .ready) τ0 (nxt i x, σ3)))]) :=
        (Mod.putObj w2 l _).later (fun b hb => .inl (hb ▸ hlS2)) (fun b _ hb => by
          rcases (hA3 b).1 hb with h | h | h
          · exact .inl (hA02 b h)
          · exact .inr h
          · exact .inl (h ▸ hlS2))
      have latw : Later w (Av A0 σ [(0, .ab (frJ E tmps O M N l (recS fn tmps ps ra rb D .ready) τ0 (i, τ)))]) (w2.putObj l (.loop (recS fn tmps ps ra rb D .ready))) (Av A0 (fun _ => none) [(0, .ab (frJ E tmps O M N l (recS fn tmps ps ra rb D .ready) τ0 (nxt i x, σ3)))]) :=
        hmod.later (fun b hb => (hAe b).2 (.inr hb)) (fun b hbl hb => (hAe b).2 (by
          rcases (hA3 b).1 hb with h | h | h
          · exact .inl h
          · exact .inr (.inl ((ho3 b h).resolve_right (by omega)))
          · exact .inr (.inr h)))
      have hbase : ∀ k, k < M → ∀ v, σ3 k = some v → τ k = some v := fun k hk v hv => by
        have := h3.base k (by rw [f5]; show k < S1.nn; rw [e5]; exact hk) v hv
        rw [f4] at this
        have : S1.s0 k = some v := this
        rw [e4] at this; exact this
      refine ⟨rfl, hl2, (nxt i x, σ3), .bool true, fun _ => none, rfl, rfl, (fun k hk v hv => by cases hv), (fun k _ => rfl), rfl, hmod.mono (fun b hb => ⟨rfl, (fr_owns b).2 hb⟩), ⟨fun o ho => ?_, ⟨fun b _ hb => hb, trivial⟩, fun b hb => ?_⟩, fun b hb => ?_⟩
      · obtain rfl := List.mem_singleton.1 ho
        refine ⟨⟨h3.dom, fun k hk v hv => hq2 k hk v (hbase k hk v hv)⟩, fun o ho => (h3.obs.holds o ho).later lat3 fun b hb => World.putObj_heap_other fun e => (h3.obs.lt b (owns_mem ho hb)).2 (e ▸ hlS2), h3.obs.disj, fun b hb e => (h3.obs.lt b hb).2 (e ▸ hlS2), hl3, fun t s ht => ?_⟩
        refine nmlS_mv (τ := τ) (nmlE_mem hE t s ht) ((hsl t s ht).later latw) fun k off e hk => ?_
        subst e
        obtain ⟨T, qs, hm⟩ := boxesE_mem (hb (nxt i x)) t k off ht
        obtain ⟨b, cs, hσ, _⟩ := h3.obs.holds _ hm
        have hσ : σ3 k = _ := hσ
        show σ3 k = τ k
        rw [hσ, hbase k hk _ hσ]
      · rcases (fr_owns b).1 hb with hb | rfl
        · have := h3.obs.lt b hb
          exact ⟨by rw [show (w2.putObj l (.loop (recS fn tmps ps ra rb D .ready))).heap.size = w2.heap.size by simp]; exact this.1, fun h => this.2 (hA02 b h)⟩
        · exact ⟨by rw [show (w2.putObj b (.loop (recS fn tmps ps ra rb D .ready))).heap.size = w2.heap.size by simp]; exact hlt2, hlA⟩
      · rcases (fr_owns b).1 hb with hb | rfl
        · exact (ho3 b hb).imp (fun h => (fr_owns b).2 (.inl h)) id
        · exact .inl ((fr_owns b).2 (.inr rfl))
variable (P) in
/-- A RANGE OVER A FUNCTION, each round to its end: the closure (its contract's law), the loop's states, a round, what is owed behind it -/
inductive RangeS (H : Cfg) (v : Value) (ps : List Nat) (ra rb : Code) (env : Env) (objs : List Ob) (nx : Nat) (K : KW) : Prop
  | mk {I X : Type} {xargs : X → List SV} {xpre : I → X → Prop} {nxt : I → X → I} {m : Nat} {cos : List Ob} {C : (I × Sg → AO) → Value → Ctr} {d : ∀ J y, Sg → (C J y).D} {i0 : I} {fin : I → Prop}
      (law : CloLaw P xargs xpre nxt m cos C d i0 fin) (f : Nat) (hC : ∀ J y, (C J y).Ok P f) (τc : Sg) (k : Nat) (rest : List Ob) (hrm : rmO objs k = some (.ab (packAO τc cos (cloQ f m τc v)), rest))
      (E : Env) (O : I → List Ob) (M N : Nat) (hcl : nth (TabC.cl P) f = some true) (chk : (psBl H.n ps && nmlE M E && Nat.ble H.nn M && Nat.ble M N && rdOk ra && rdOk rb) = true)
      (hx : ∀ x, nmlL (xargs x) = true ∧ (xargs x).length = ps.length) (hb : ∀ i, boxesE (O i) E = true)
      (hin : Into H.nn env rest nx E (O i0) N)
      (round : ∀ i x, xpre i x → Vc P { H with nn := M } ra (psEnv ps (xargs x) E) (O i) N (seqK (Vc P { H with nn := M } rb) (roundK M (O (nxt i x)) N)))
      (last : ∀ i, fin i → K .normal E (O i) N)
theorem ptrs_hvs {A : Own} : ∀ {l : List Value} {k : Nat}, (∀ i, i < l.length → σ (k + i) = l[i]?) → (∀ u ∈ l, ∃ b, u = .pointer (some ⟨b, 0, none⟩)) → hvs w A σ (ptrsF k l.length) l
  | [], k, _, _ => rfl
  | u :: r, k, h, hp => by
    obtain ⟨b, rfl⟩ := hp u (by simp)
    refine ⟨_, r, rfl, ⟨b, 0, by simpa using h 0 (by simp), rfl⟩, ptrs_hvs (fun i hi => ?_) fun u hu => hp u (List.mem_cons_of_mem _ hu)⟩
    have := h (i + 1) (by simp only [List.length_cons]; omega)
    rw [show k + 1 + i = k + (i + 1) by omega, this]; simp
theorem RangeS.sound {H : Cfg} {v : Value} {ps : Array Tmp} {ra rb : Code} {K : KW} {g : Operand} {Q : Exit → Act → World → Prop} (h : RangeS P H v ps.toList ra rb env objs nx K) (hcs : CsOk P H.cs) (hn : H.n = S.n) (hnn : H.nn = S.nn) (hd1 : drawsOk H.dr ra = true) (hd2 : drawsOk H.dr rb = true)
    (hK : ∀ S', S.Le S' → ∀ way env objs nx, K way env objs nx → Pr P S' env objs nx (Q (exW way))) (hst : St P S σ env objs nx a w) (hg : a.eval g = v) : (Code.rangeFunc g ps ra rb).wpIn Fence.wide 0 P Q a w := by
  obtain @⟨I, X, xargs, xpre, nxt, m, cos, C, d, i0, fin, law, f, hC, τc, k, rest, hrm, E, O, M, N, hcl, chk, hx, hb, hin, round, last⟩ := h
  simp only [Bool.and_eq_true, Nat.ble_eq] at chk
  obtain ⟨⟨⟨⟨⟨hps, hE⟩, hnM⟩, hMN⟩, hra⟩, hrb⟩ := chk
  have hp := hst.perm (rmO_perm hrm)
  obtain ⟨⟨lb, hlen, hlb, hptr, hv, hdomc⟩, hch, hcd⟩ := (show (packAO τc cos (cloQ f m τc v)).holds w (S.A σ ((k, SO.ab (packAO τc cos (cloQ f m τc v))) :: rest)) from hp.obs.holds _ (List.mem_cons_self ..))
  have hloc := St.local (tk := [(k, SO.ab (packAO τc cos (cloQ f m τc v)))]) hp
  rw [hnn] at hin
  let Sl : Sig := ⟨fun b => S.A0 b ∨ owns σ [(k, SO.ab (packAO τc cos (cloQ f m τc v)))] b, owns σ rest, w, S.n, S.s0, S.nn, S.ds⟩
  obtain ⟨τ0, h0⟩ := Into.sound (S := Sl) hin hloc
  have ef : ∀ args w, (callFunc f args).run P w = .ok (.enter f args) w := by
    obtain ⟨fn, h1, h2, h3⟩ := call_spec (P := P) hcl
    have h4 : ¬ fn.body = none := by intro e; rw [e] at h3; cases h3
    have h5 : ¬ fn.name = "runtime.NumGoroutine" := by simpa using h2
    intro args w
    simp [callFunc, h1, h5, h4]
  refine range_enter (hg.trans hv) ef fun fn => ?_
  -- the world of the call
  let W0 := w.alloc (.deferred (some []))
  let rc : LoopState → Loop := recS fn a.tmps ps ra rb w.heap.size
  let W1 := W0.alloc (.loop (rc .ready))
  let l := w.heap.size + 1
  have hz0 : W0.heap.size = w.heap.size + 1 := World.size_alloc _ _
  have hz1 : W1.heap.size = w.heap.size + 2 := by show (W0.alloc _).heap.size = _; rw [World.size_alloc, hz0]
  have hD1 : W1.heap[w.heap.size]? = some (.deferred (some [])) := (Below.heap_alloc _ _ _ (by omega)).trans (World.alloc_heap_new _ _)
  have hl1 : W1.heap[l]? = some (.loop (rc .ready)) := by
    have := World.alloc_heap_new W0 (.loop (rc .ready))
    rw [hz0] at this; exact this
  have hk1 : Kept w W1 := (Mod.alloc _ w _).trans (Mod.alloc _ W0 _)
  let J : I × Sg → AO := frJ E a.tmps O M N l (rc .ready) τ0
  have hJo : ∀ s b, (J s).own b ↔ owns s.2 (O s.1) b ∨ b = l := fun s b => Iff.rfl
  have hoc : ∀ (s : I × Sg) b, owns τc (cos ++ [(m, SO.ab (J s))]) b ↔ owns τc cos b ∨ owns s.2 (O s.1) b ∨ b = l := fun s b => by
    rw [owns_append]
    exact or_congr_right (fr_owns b)
  -- what is own, at the statement's head
  have hown0 : ∀ b, owns σ ((k, SO.ab (packAO τc cos (cloQ f m τc v))) :: rest) b ↔ owns τc cos b ∨ owns σ rest b := fun b => Iff.rfl
  have hOr : ∀ b, owns τ0 (O i0) b → owns σ rest b := fun b hb => (h0.own0 b hb).resolve_right fun h => by have := (h0.obs.lt b hb).1; exact absurd h (by simpa using this)
  have hcoslt : ∀ b, owns τc cos b → b < w.heap.size ∧ ¬ S.A0 b := fun b hb => hp.obs.lt b ((hown0 b).2 (.inl hb))
  have hOlt : ∀ b, owns τ0 (O i0) b → b < w.heap.size ∧ ¬ S.A0 b := fun b hb => hp.obs.lt b ((hown0 b).2 (.inr (hOr b hb)))
  have hcO : ∀ b, owns τc cos b → ¬ owns τ0 (O i0) b := fun b hb h => hp.obs.disj.1 b hb (hOr b h)
  let A1 : Own := fun b => S.A0 b ∨ b = w.heap.size
  have hlatO : Later w (fun b => (S.A0 b ∨ owns σ [(k, SO.ab (packAO τc cos (cloQ f m τc v)))] b) ∨ owns τ0 (O i0) b) W1 (Av A1 τc (cos ++ [(m, SO.ab (J (i0, τ0)))])) :=
    hk1.later _ fun b hbl hb => by
      rcases hb with (hb | hb) | hb
      · exact .inl (.inl hb)
      · omega
      · rcases (hoc _ b).1 hb with h | h | h
        · exact .inl (.inr ((pack_owns b).2 h))
        · exact .inr h
        · omega
  have hlatc : Later w (S.A σ ((k, SO.ab (packAO τc cos (cloQ f m τc v))) :: rest)) W1 (Av A1 τc (cos ++ [(m, SO.ab (J (i0, τ0)))])) :=
    hk1.later _ fun b hbl hb => by
      rcases hb with (hb | hb) | hb
      · exact .inl hb
      · omega
      · rcases (hoc _ b).1 hb with h | h | h
        · exact .inr ((hown0 b).2 (.inl h))
        · exact .inr ((hown0 b).2 (.inr (hOr b h)))
        · omega
  have hobs1 : Obs τc A1 (cos ++ [(m, SO.ab (J (i0, τ0)))]) W1 := by
    refine ⟨fun o ho => ?_, Disj_append.2 ⟨hcd, ⟨fun b _ hb => hb, trivial⟩, fun b hb hb' => ?_⟩, fun b hb => ?_⟩
    · rcases List.mem_append.1 ho with ho | ho
      · exact (hch o ho).later hlatc fun b hb => hk1.block b (hcoslt b (owns_mem ho hb)).1 id
      · obtain rfl := List.mem_singleton.1 ho
        exact ⟨⟨h0.dom, fun _ _ _ hv => hv⟩, fun o ho => (h0.obs.holds o ho).later hlatO fun b hb => hk1.block b (hOlt b (owns_mem ho hb)).1 id, h0.obs.disj, fun b hb e => by have := (hOlt b hb).1; omega, hl1, fun t s ht => (h0.slots t s ht).later hlatO⟩
    · rcases (fr_owns b).1 hb' with h | h
      · exact hcO b hb h
      · have := (hcoslt b hb).1; omega
    · rcases (hoc _ b).1 hb with h | h | h
      · have := hcoslt b h; exact ⟨by omega, fun hx => hx.elim this.2 (fun e => by omega)⟩
      · have := hOlt b h; exact ⟨by omega, fun hx => hx.elim this.2 (fun e => by omega)⟩
      · exact ⟨by omega, fun hx => hx.elim (fun hx => by have := hst.a0lt b hx; omega) (fun e => by omega)⟩
  have hy : (yCtr xargs xpre nxt J).OkBy P (CallsV P (.func (.yield l) #[] #[])) := yield_ok hcs hps hE hMN hra hrb hd1 hd2 hx hb (by rw [hst.size]; exact hn.symm) round
  have call := hC J (.func (.yield l) #[] #[]) (d J (.func (.yield l) #[] #[]) τ0) (law.pre J _ τ0 hy) A1 W1 τc (.func (.yield l) #[] #[] :: lb)
  rw [law.objs, law.args, law.nn] at call
  have call := call (fun b hb => hb.elim (fun h => by have := hst.a0lt b h; omega) (fun e => by omega)) hobs1
    ⟨_, lb, rfl, ⟨rfl, rfl⟩, hlen ▸ ptrs_hvs (fun i hi => by rw [Nat.zero_add]; exact hlb i (hlen ▸ hi)) hptr⟩ (fun k hk => hdomc k (by omega)) (hp.glob.later hlatc)
  have ea : (Value.func (Fn.yield l) #[] #[] :: lb).toArray = #[Value.func (Fn.yield (w.heap.size + 1)) #[] #[]] ++ lb.toArray := by simp; rfl
  rw [ea] at call
  refine call.mono ?_
  rintro e w2 ⟨e', vr, σ', rfl, hpost, _, _, _, hmod, hobs2, hnew⟩
  obtain ⟨i, τ', hfin, hout⟩ := law.out J _ τ0 e' hpost
  rw [hout] at hobs2 hnew
  obtain ⟨⟨hq1, hq2⟩, hho, hdj, hlo, hl2, hsl⟩ := (show (J (i, τ')).holds w2 (Av A1 σ' [(m, SO.ab (J (i, τ')))]) from hobs2.holds _ (List.mem_singleton.2 rfl))
  refine ⟨⟨vr, rfl⟩, hl2, ?_⟩
  have hlt2 : l < w2.heap.size := (Array.getElem?_eq_some_iff.1 hl2).1
  have hA2 : ∀ b, Av A1 σ' [(m, SO.ab (J (i, τ')))] b ↔ (A1 b ∨ owns τ' (O i) b ∨ b = l) := fun b => or_congr_right (fr_owns b)
  have hmod1 : Mod (owns τc (cos ++ [(m, SO.ab (J (i0, τ0)))])) W1 w2 := hmod.mono fun b hb => hb.2
  have hnew1 : ∀ b, owns τ' (O i) b → owns τc cos b ∨ owns τ0 (O i0) b ∨ w.heap.size ≤ b := fun b hb => by
    rcases hnew b ((fr_owns b).2 (.inl hb)) with h | h
    · rcases (hoc _ b).1 h with h | h | h
      · exact .inl h
      · exact .inr (.inl h)
      · exact .inr (.inr (by omega))
    · exact .inr (.inr (by omega))
  let w3 := w2.putObj l (.loop (rc .exhausted))
  have hz3 : w3.heap.size = w2.heap.size := by show (w2.putObj l _).heap.size = _; simp
  have hmodw : Mod (fun b => owns τc cos b ∨ owns τ0 (O i0) b) w w3 :=
    ((hk1.mod _).step hmod1 (fun b hb => by
      rcases (hoc _ b).1 hb with h | h | h
      · exact .inl (.inl h)
      · exact .inl (.inr h)
      · exact .inr (by omega))).step (Mod.putObj w2 l _) (fun b hb => .inr (by omega))
  let S3 : Sig := { S with A0 := A1, ds := w.heap.size :: S.ds }
  have lat23 : Later w2 (Av A1 σ' [(m, SO.ab (J (i, τ')))]) w3 (S3.A τ' (O i)) := (Mod.putObj w2 l _).later (fun b hb => (hA2 b).2 (.inr (.inr hb))) fun b _ hb => (hA2 b).2 (hb.imp id .inl)
  have lat03 : Later w (S.A σ ((k, SO.ab (packAO τc cos (cloQ f m τc v))) :: rest)) w3 (S3.A τ' (O i)) :=
    hmodw.later (fun b hb => .inr ((hown0 b).2 (hb.imp id (hOr b)))) fun b hbl hb => by
      rcases hb with (hb | hb) | hb
      · exact .inl hb
      · omega
      · rcases hnew1 b hb with h | h | h
        · exact .inr ((hown0 b).2 (.inl h))
        · exact .inr ((hown0 b).2 (.inr (hOr b h)))
        · omega
  have hkeepD : ∀ D', A1 D' → D' < w2.heap.size → D' ≠ l → D' < W1.heap.size → w3.heap[D']? = W1.heap[D']? := fun D' hA' _ hne hlt => (World.putObj_heap_other hne).trans (hmod1.block D' hlt fun ho => (hobs1.lt D' ho).2 hA')
  have hsize12 : W1.heap.size ≤ w2.heap.size := hmod1.size
  refine hK S3 ⟨rfl, rfl, rfl, rfl, rfl, fun b hb => .inl hb, fun b hb => hb.imp id (fun e => by rw [e]; exact hst.hist.size), fun D' hD => ?_, fun hnd => ?_⟩ .normal E (O i) N (last i hfin) τ' _ w3 ?_
  · rcases List.mem_cons.1 hD with rfl | hD
    · exact .inr hst.hist.size
    · exact .inl hD
  · refine List.nodup_cons.2 ⟨fun hD => ?_, hnd⟩
    have := hst.a0lt _ (hst.mks _ hD).1; omega
  · exact
      { slots := fun t s ht => (hsl t s ht).later lat23
        dom := hq1, size := hst.size, defers := by show mkD w.heap.size :: a.defers = _; rw [hst.defers]; rfl
        obs := ⟨fun o ho => (hho o ho).later lat23 fun b hb => World.putObj_heap_other fun e => hlo b (owns_mem ho hb) e, hdj, fun b hb => by
          have := hobs2.lt b ((fr_owns b).2 (.inl hb))
          exact ⟨by rw [hz3]; exact this.1, this.2⟩⟩
        hist := hst.hist.step hmodw fun b hb => hp.own0 b ((hown0 b).2 (hb.imp id (hOr b)))
        own0 := fun b hb => by
          rcases hnew1 b hb with h | h | h
          · exact hp.own0 b ((hown0 b).2 (.inl h))
          · exact hp.own0 b ((hown0 b).2 (.inr (hOr b h)))
          · exact .inr (Nat.le_trans hst.hist.size h)
        a0 := fun b hb => by
          rw [hz3]
          rcases hb with hb | hb
          · have := hst.a0lt b hb; omega
          · omega
        mks := fun D' hD => by
          rcases List.mem_cons.1 hD with rfl | hD
          · exact ⟨.inr rfl, (hkeepD _ (.inr rfl) (by omega) (by omega) (by omega)).trans hD1⟩
          · have h1 := hst.mks D' hD
            have h2 := hst.a0lt _ h1.1
            exact ⟨.inl h1.1, (hkeepD _ (.inl h1.1) (by omega) (by omega) (by omega)).trans ((hk1.block D' h2 id).trans h1.2)⟩
        glob := hp.glob.later lat03
        base := fun k hk v hv => h0.base k hk v (hq2 k (Nat.lt_of_lt_of_le (hnn ▸ hk) hnM) v hv)
        nnx := by rw [← hnn]; exact Nat.le_trans hnM hMN }
end
end Go.Proofs.YtdflndjlnkoliaaGreatDoor

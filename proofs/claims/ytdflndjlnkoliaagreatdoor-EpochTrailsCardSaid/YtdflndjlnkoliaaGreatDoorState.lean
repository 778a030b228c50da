import Derived.Test.YtdflndjlnkoliaaGreatDoorSv
/- MY OWN ENGINE: own objects, the state of a walk. -/
namespace Go.Proofs.YtdflndjlnkoliaaGreatDoor
set_option linter.all false
open Go.RowKit
/-- some blocks taken together -/
structure AO where
  own : Own
  holds : World → Own → Prop
  plain : Prop
  lt : ∀ {w A b}, holds w A → own b → b < w.heap.size
  later : ∀ {w A w' A'}, holds w A → Later w A w' A' → (∀ b, own b → w'.heap[b]? = w.heap[b]?) → holds w' A'
  any : ∀ {w A A'}, plain → holds w A → holds w A'
inductive SO : Type 1
  | box (T : Nat) (ps : List SV)
  | row (e z : Nat) {α : Type} (enc : α → List SV) (xs : List α)
  | lits (e z : Nat) (els : List (List SV))
  | fbox (T : Nat) (ps : List SV)
  | frow (z : Nat) {α : Type} (enc : α → List SV) (xs : List α)
  | nrow
  | mp (k e : Nat) {κ ν : Type} (inst : DecidableEq κ) (ek : κ → SV) (ev : ν → SV) (l : List (κ × ν))
  | ab (a : AO)
abbrev Ob := Nat × SO
def blkO : Value → Option Nat
  | .pointer (some a) => some a.block
  | .slice (some a) _ _ => some a.block
  | .map (some b) => some b
  | _ => none
def SO.own (σ : Sg) (k : Nat) : SO → Own
  | .ab a => a.own
  | .fbox _ _ => fun _ => False
  | .frow _ _ _ => fun _ => False
  | _ => fun b => ∃ v, σ k = some v ∧ blkO v = some b
def rowH (w : World) (A : Own) (σ : Sg) (k e z : Nat) (els : List (List SV)) : Prop :=
  ∃ v cs, σ k = some v ∧ (∀ e ∈ els, szL e = z) ∧ els.length ≤ 140737488355328 ∧ hE w A sg0 els cs ∧ w.ownsRow 0 e z v els.length cs
/-- a map's entries -/
def mE (w : World) (A : Own) {κ ν : Type} (ek : κ → SV) (ev : ν → SV) : List (κ × ν) → List MapEntry → Prop
  | [], es => es = []
  | p :: r, es => ∃ e t, es = e :: t ∧ (ek p.1).hv w A sg0 e.key ∧ (ev p.2).hv w A sg0 e.val ∧ mE w A ek ev r t
def mapH (w : World) (A : Own) (σ : Sg) (k : Nat) {κ ν : Type} (ek : κ → SV) (ev : ν → SV) (l : List (κ × ν)) : Prop :=
  ∃ b es clock, σ k = some (.map (some b)) ∧ w.heap[b]? = some (.map es clock) ∧ mE w A ek ev l es.toList ∧ (l.map Prod.fst).Nodup ∧ l.length ≤ 140737488355328
theorem mE.later {w w' : World} {A A' : Own} (hl : Later w A w' A') {κ ν : Type} {ek : κ → SV} {ev : ν → SV} : ∀ {l : List (κ × ν)} {es : List MapEntry}, mE w A ek ev l es → mE w' A' ek ev l es
  | [], es, h => h
  | p :: r, es, ⟨e, t, h1, h2, h3, h4⟩ => ⟨e, t, h1, h2.later hl, h3.later hl, h4.later hl⟩
def SO.holds (w : World) (A : Own) (σ : Sg) (k : Nat) : SO → Prop
  | .box T ps => ∃ b cs, σ k = some (.pointer (some ⟨b, 0, none⟩)) ∧ w.heap[b]? = some (.cells cs.toArray T (0, 0)) ∧ hL w A ps σ cs
  | .row e z enc xs => rowH w A σ k e z (xs.map enc)
  | .lits e z els => rowH w A σ k e z els
  | .fbox T ps => ∃ v, σ k = some v ∧ (SV.fpt ps).hc w A sg0 [v] ∧ ∃ b, v = .pointer (some ⟨b, 0, none⟩)
  | .frow z enc xs => ∃ v, σ k = some v ∧ (SV.fs z enc xs).hc w A sg0 [v]
  | .nrow => σ k = some (.slice none 0 0)
  | .mp _ _ _ ek ev l => mapH w A σ k ek ev l
  | .ab a => a.holds w A
def owns (σ : Sg) : List Ob → Own
  | [] => fun _ => False
  | o :: r => fun b => o.2.own σ o.1 b ∨ owns σ r b
def Disj (σ : Sg) : List Ob → Prop
  | [] => True
  | o :: r => (∀ b, o.2.own σ o.1 b → ¬ owns σ r b) ∧ Disj σ r
/-- all objects hold; the own blocks stand, are apart, and are none of A0's -/
structure Obs (σ : Sg) (A0 : Own) (objs : List Ob) (w : World) : Prop where
  holds : ∀ o ∈ objs, o.2.holds w (fun b => A0 b ∨ owns σ objs b) σ o.1
  disj : Disj σ objs
  lt : ∀ b, owns σ objs b → b < w.heap.size ∧ ¬ A0 b
theorem own_blk {w : World} {e : TypeId} {z : Nat} {v : Value} {n : Nat} {cs : List Value} (h : w.ownsRow 0 e z v n cs) : blkO v = v.ownBlock ∧ v.oneCell' = true := by
  rcases h.2 with ⟨rfl, _⟩ | ⟨g, cap, cur, rfl, _⟩ <;> exact ⟨rfl, rfl⟩
theorem rowH.lt {w : World} {A : Own} {σ : Sg} {k e z : Nat} {els : List (List SV)} (h : rowH w A σ k e z els) {b : Nat} {v : Value} (hv : σ k = some v) (hb : blkO v = some b) : b < w.heap.size := by
  obtain ⟨u, cs, h1, _, _, _, ho⟩ := h
  rw [hv] at h1; cases h1
  rw [(own_blk ho).1] at hb
  exact (ho.lt b hb).2
theorem SO.own_lt {w : World} {A : Own} {σ : Sg} {k : Nat} {o : SO} (h : o.holds w A σ k) : ∀ b, o.own σ k b → b < w.heap.size := by
  intro b hb
  cases o with
  | box T ps =>
    obtain ⟨c, cs, h1, h2, _⟩ := h
    obtain ⟨v, hv, hb⟩ := hb
    rw [h1] at hv; cases hv; cases hb
    exact (Array.getElem?_eq_some_iff.1 h2).1
  | row e z enc xs => obtain ⟨v, hv, hb⟩ := hb; exact rowH.lt h hv hb
  | lits e z els => obtain ⟨v, hv, hb⟩ := hb; exact rowH.lt h hv hb
  | fbox T ps => exact hb.elim
  | frow z enc xs => exact hb.elim
  | nrow => obtain ⟨v, hv, hb⟩ := hb; simp only [SO.holds] at h; rw [h] at hv; cases hv; cases hb
  | mp _ _ _ ek ev l =>
    obtain ⟨c, es, clock, h1, h2, _⟩ := h
    obtain ⟨v, hv, hb⟩ := hb
    rw [h1] at hv; cases hv; cases hb
    exact (Array.getElem?_eq_some_iff.1 h2).1
  | ab a => exact a.lt h hb
theorem rowH.later {w w' : World} {A A' : Own} {σ : Sg} {k e z : Nat} {els : List (List SV)} (h : rowH w A σ k e z els) (hl : Later w A w' A') (hb : ∀ b v, σ k = some v → blkO v = some b → w'.heap[b]? = w.heap[b]?) : rowH w' A' σ k e z els := by
  obtain ⟨v, cs, hv, h1, h2, h3, ho⟩ := h
  refine ⟨v, cs, hv, h1, h2, h3.later hl, ho.1, ?_⟩
  rcases ho.2 with hn | ⟨g, cap, cur, rfl, hb0, hg, rest⟩
  · exact .inl hn
  · exact .inr ⟨g, cap, cur, rfl, hb0, (hb g _ hv rfl).trans hg, rest⟩
/-- an object outlives a step that turns none of its blocks -/
theorem SO.holds.later {w w' : World} {A A' : Own} {σ : Sg} {k : Nat} {o : SO} (h : o.holds w A σ k) (hl : Later w A w' A') (hb : ∀ b, o.own σ k b → w'.heap[b]? = w.heap[b]?) : o.holds w' A' σ k := by
  cases o with
  | box T ps =>
    obtain ⟨b, cs, h1, h2, h3⟩ := h
    exact ⟨b, cs, h1, (hb b ⟨_, h1, rfl⟩).trans h2, hL.later hl _ _ _ h3⟩
  | row e z enc xs => exact rowH.later h hl (fun b v hv hk => hb b ⟨v, hv, hk⟩)
  | lits e z els => exact rowH.later h hl (fun b v hv hk => hb b ⟨v, hv, hk⟩)
  | fbox T ps => obtain ⟨v, h1, h2, h3⟩ := h; exact ⟨v, h1, SV.hc.later hl _ _ _ h2, h3⟩
  | frow z enc xs => obtain ⟨v, h1, h2⟩ := h; exact ⟨v, h1, SV.hc.later hl _ _ _ h2⟩
  | nrow => exact h
  | mp _ _ _ ek ev l =>
    obtain ⟨c, es, clock, h1, h2, h3, h4, h5⟩ := h
    exact ⟨c, es, clock, h1, (hb c ⟨_, h1, rfl⟩).trans h2, h3.later hl, h4, h5⟩
  | ab a => exact a.later h hl hb
theorem owns_mem {σ : Sg} {objs : List Ob} {o : Ob} (ho : o ∈ objs) {b : Nat} (hb : o.2.own σ o.1 b) : owns σ objs b := by
  induction objs with
  | nil => cases ho
  | cons p r ih =>
    rcases List.mem_cons.1 ho with rfl | h
    · exact .inl hb
    · exact .inr (ih h)
theorem owns_append {σ : Sg} : ∀ (l m : List Ob) (b : Nat), owns σ (l ++ m) b ↔ owns σ l b ∨ owns σ m b
  | [], m, b => by simp [owns]
  | o :: r, m, b => by simp only [List.cons_append, owns, owns_append r m b, or_assoc]
theorem owns_iff {σ : Sg} : ∀ (l : List Ob) (b : Nat), owns σ l b ↔ ∃ o ∈ l, o.2.own σ o.1 b
  | [], b => by simp [owns]
  | o :: r, b => by simp [owns, owns_iff r b]
theorem Disj_append {σ : Sg} : ∀ {l m : List Ob}, Disj σ (l ++ m) ↔ Disj σ l ∧ Disj σ m ∧ ∀ b, owns σ l b → ¬ owns σ m b
  | [], m => by simp [Disj, owns]
  | o :: r, m => by
    simp only [List.cons_append, Disj, owns, Disj_append (l := r), owns_append, not_or]
    constructor
    · rintro ⟨h1, h2, h3, h4⟩
      exact ⟨⟨fun b hb => (h1 b hb).1, h2⟩, h3, fun b hb => hb.elim (fun x => (h1 b x).2) (h4 b)⟩
    · rintro ⟨⟨h1, h2⟩, h3, h4⟩
      exact ⟨fun b hb => ⟨h1 b hb, h4 b (.inl hb)⟩, h2, h3, fun b hb => h4 b (.inr hb)⟩

/-! ## an object found in the list, and another in its place -/
inductive SetO : List Ob → Ob → Ob → List Ob → Prop
  | here {o o' : Ob} {r : List Ob} : SetO (o :: r) o o' (o' :: r)
  | there {x o o' : Ob} {r r' : List Ob} (h : SetO r o o' r') : SetO (x :: r) o o' (x :: r')
theorem SetO.split {l m : List Ob} {o o' : Ob} (h : SetO l o o' m) : ∃ a b, l = a ++ o :: b ∧ m = a ++ o' :: b := by
  induction h with
  | here => exact ⟨[], _, rfl, rfl⟩
  | there _ ih => obtain ⟨a, b, rfl, rfl⟩ := ih; exact ⟨_ :: a, b, rfl, rfl⟩
theorem SetO.mem {l m : List Ob} {o o' : Ob} (h : SetO l o o' m) : o ∈ l := by
  obtain ⟨a, b, rfl, _⟩ := h.split; simp
theorem SetO.owns_iff {σ : Sg} {l m : List Ob} {o o' : Ob} (h : SetO l o o' m) : ∃ R : Own, (∀ b, owns σ l b ↔ R b ∨ o.2.own σ o.1 b) ∧ (∀ b, owns σ m b ↔ R b ∨ o'.2.own σ o'.1 b) ∧ (Disj σ l → ∀ b, R b → ¬ o.2.own σ o.1 b) := by
  obtain ⟨a, b, rfl, rfl⟩ := h.split
  refine ⟨fun x => owns σ a x ∨ owns σ b x, fun x => ?_, fun x => ?_, fun hd x hx => ?_⟩
  · simp only [owns_append, owns]; exact ⟨fun h => h.elim (fun x => .inl (.inl x)) (fun h => h.elim .inr (fun x => .inl (.inr x))), fun h => h.elim (fun h => h.elim .inl (fun x => .inr (.inr x))) (fun x => .inr (.inl x))⟩
  · simp only [owns_append, owns]; exact ⟨fun h => h.elim (fun x => .inl (.inl x)) (fun h => h.elim .inr (fun x => .inl (.inr x))), fun h => h.elim (fun h => h.elim .inl (fun x => .inr (.inr x))) (fun x => .inr (.inl x))⟩
  · rw [Disj_append] at hd
    intro ho
    rcases hx with hx | hx
    · exact hd.2.2 x hx (.inl ho)
    · exact hd.2.1.1 x ho hx
/-- an object taken out -/
inductive Take : List Ob → Ob → List Ob → Prop
  | here {o : Ob} {r : List Ob} : Take (o :: r) o r
  | there {x o : Ob} {r r' : List Ob} (h : Take r o r') : Take (x :: r) o (x :: r')
theorem Take.perm {l r : List Ob} {o : Ob} (h : Take l o r) : List.Perm l (o :: r) := by
  induction h with
  | here => exact List.Perm.refl _
  | there _ ih => exact (List.Perm.cons _ ih).trans (List.Perm.swap _ _ _)
theorem owns_perm {σ : Sg} {l m : List Ob} (h : List.Perm l m) (b : Nat) : owns σ l b ↔ owns σ m b := by
  rw [owns_iff, owns_iff]
  exact ⟨fun ⟨o, ho, hb⟩ => ⟨o, h.mem_iff.1 ho, hb⟩, fun ⟨o, ho, hb⟩ => ⟨o, h.mem_iff.2 ho, hb⟩⟩
theorem Disj_perm {σ : Sg} {l m : List Ob} (h : List.Perm l m) : Disj σ l → Disj σ m := by
  induction h with
  | nil => exact id
  | cons x hp ih => exact fun ⟨h1, h2⟩ => ⟨fun b hb hx => h1 b hb ((owns_perm hp b).2 hx), ih h2⟩
  | swap x y l => exact fun ⟨h1, h2, h3⟩ => ⟨fun b hb hx => hx.elim (fun hy => h1 b hy (.inl hb)) (h2 b hb), fun b hb hx => h1 b hb (.inr hx), h3⟩
  | trans _ _ ih1 ih2 => exact fun h => ih2 (ih1 h)
theorem ownsA_perm {A0 : Own} {σ : Sg} {l m : List Ob} (h : List.Perm l m) {w : World} : Later w (fun b => A0 b ∨ owns σ l b) w (fun b => A0 b ∨ owns σ m b) :=
  Later.own fun b hx => hx.imp id (owns_perm h b).2
theorem Obs.perm {A0 : Own} {σ : Sg} {l m : List Ob} {w : World} (h : Obs σ A0 l w) (hp : List.Perm l m) : Obs σ A0 m w :=
  ⟨fun o ho => (h.holds o (hp.mem_iff.2 ho)).later (ownsA_perm hp) (fun _ _ => rfl), Disj_perm hp h.disj, fun b hb => h.lt b ((owns_perm hp b).2 hb)⟩
/-- some objects alone -/
theorem Obs.sub {A0 : Own} {σ : Sg} {objs objs' : List Ob} {w : World} (h : Obs σ A0 objs w) (hs : List.Sublist objs' objs) : Obs σ A0 objs' w := by
  have hle : ∀ b, owns σ objs' b → owns σ objs b := fun b hb => by
    rw [owns_iff] at hb ⊢; obtain ⟨o, ho, hb⟩ := hb; exact ⟨o, hs.subset ho, hb⟩
  refine ⟨fun r hr => (h.holds r (hs.subset hr)).later (Later.own fun b hx => hx.imp id (hle b)) (fun _ _ => rfl), ?_, fun x hx => h.lt x (hle x hx)⟩
  have hd := h.disj
  clear hle h
  induction hs with
  | slnil => trivial
  | cons _ _ ih => exact ih hd.2
  | cons_cons a hs ih => exact ⟨fun b hb hx => hd.1 b hb (by rw [owns_iff] at hx ⊢; obtain ⟨o, ho, hb⟩ := hx; exact ⟨o, hs.subset ho, hb⟩), ih hd.2⟩
theorem Obs.tail {A0 : Own} {σ : Sg} {o : Ob} {r : List Ob} {w : World} (h : Obs σ A0 (o :: r) w) : Obs σ A0 r w := h.sub (List.sublist_cons_self _ _)
/-! ### more names -/
theorem rowH.names {w : World} {A : Own} {σ σ' : Sg} {k e z : Nat} {els : List (List SV)} (hs : Sg.le σ σ') (h : rowH w A σ k e z els) : rowH w A σ' k e z els := by
  obtain ⟨v, cs, h1, h2, h3, h4, h5⟩ := h; exact ⟨v, cs, hs _ _ h1, h2, h3, h4, h5⟩
theorem SO.holds.names {w : World} {A : Own} {σ σ' : Sg} (hs : Sg.le σ σ') {k : Nat} {o : SO} (h : o.holds w A σ k) : o.holds w A σ' k := by
  cases o with
  | box T ps => obtain ⟨b, cs, h1, h2, h3⟩ := h; exact ⟨b, cs, hs _ _ h1, h2, hL.names _ _ hs h3⟩
  | row e z enc xs => exact rowH.names hs h
  | lits e z els => exact rowH.names hs h
  | fbox T ps => obtain ⟨v, h1, h2⟩ := h; exact ⟨v, hs _ _ h1, h2⟩
  | frow z enc xs => obtain ⟨v, h1, h2⟩ := h; exact ⟨v, hs _ _ h1, h2⟩
  | nrow => exact hs _ _ h
  | mp _ _ _ ek ev l => obtain ⟨c, es, clock, h1, h2⟩ := h; exact ⟨c, es, clock, hs _ _ h1, h2⟩
  | ab a => exact h
theorem SO.holds.named {w : World} {A : Own} {σ : Sg} {k : Nat} {o : SO} (h : o.holds w A σ k) : (∃ a, o = .ab a) ∨ ∃ v, σ k = some v := by
  cases o with
  | box T ps => obtain ⟨b, cs, h1, _⟩ := h; exact .inr ⟨_, h1⟩
  | row e z enc xs => obtain ⟨v, cs, h1, _⟩ := h; exact .inr ⟨_, h1⟩
  | lits e z els => obtain ⟨v, cs, h1, _⟩ := h; exact .inr ⟨_, h1⟩
  | fbox T ps => obtain ⟨v, h1, h2⟩ := h; exact .inr ⟨v, h1⟩
  | frow z enc xs => obtain ⟨v, h1, h2⟩ := h; exact .inr ⟨v, h1⟩
  | nrow => exact .inr ⟨_, h⟩
  | mp _ _ _ ek ev l => obtain ⟨c, es, clock, h1, _⟩ := h; exact .inr ⟨_, h1⟩
  | ab a => exact .inl ⟨a, rfl⟩
theorem SO.own_names {w : World} {A : Own} {σ σ' : Sg} (hs : Sg.le σ σ') {k : Nat} {o : SO} (h : o.holds w A σ k) (b : Nat) : o.own σ' k b ↔ o.own σ k b := by
  rcases h.named with ⟨a, rfl⟩ | ⟨v, hv⟩
  · exact Iff.rfl
  · have hv' := hs _ _ hv
    cases o <;> simp only [SO.own, hv, hv']
theorem owns_names {A : Own} {w : World} {σ σ' : Sg} (hs : Sg.le σ σ') {objs : List Ob} (h : ∀ o ∈ objs, o.2.holds w A σ o.1) (b : Nat) : owns σ' objs b ↔ owns σ objs b := by
  rw [owns_iff, owns_iff]
  exact ⟨fun ⟨o, ho, hb⟩ => ⟨o, ho, (SO.own_names hs (h o ho) b).1 hb⟩, fun ⟨o, ho, hb⟩ => ⟨o, ho, (SO.own_names hs (h o ho) b).2 hb⟩⟩
theorem Disj_names {A : Own} {w : World} {σ σ' : Sg} (hs : Sg.le σ σ') : ∀ {objs : List Ob}, (∀ o ∈ objs, o.2.holds w A σ o.1) → Disj σ objs → Disj σ' objs
  | [], _, _ => trivial
  | o :: r, h, ⟨h1, h2⟩ => ⟨fun b hb hx => h1 b ((SO.own_names hs (h o (by simp)) b).1 hb) ((owns_names hs (fun o ho => h o (List.mem_cons_of_mem _ ho)) b).1 hx), Disj_names hs (fun o ho => h o (List.mem_cons_of_mem _ ho)) h2⟩
theorem Obs.names {A0 : Own} {σ σ' : Sg} {objs : List Ob} {w : World} (hs : Sg.le σ σ') (h : Obs σ A0 objs w) : Obs σ' A0 objs w :=
  ⟨fun o ho => ((h.holds o ho).names hs).later (Later.own fun b hx => hx.imp id (owns_names hs h.holds b).1) (fun _ _ => rfl), Disj_names hs h.holds h.disj, fun b hb => h.lt b ((owns_names hs h.holds b).1 hb)⟩
def Sg.set (σ : Sg) (k : Nat) (v : Value) : Sg := fun n => if n = k then some v else σ n
theorem Sg.le_set {σ : Sg} {k : Nat} {v : Value} (h : σ k = none) : Sg.le σ (σ.set k v) := fun n u e => by
  unfold Sg.set
  split
  · rename_i hn; subst hn; rw [h] at e; cases e
  · exact e
theorem Sg.set_self (σ : Sg) (k : Nat) (v : Value) : σ.set k v k = some v := by simp [Sg.set]

/-- an object turned in its place -/
theorem Obs.set {A0 : Own} {σ : Sg} {objs objs' : List Ob} {w w' : World} {p q : Ob} (h : Obs σ A0 objs w) (hs : SetO objs p q objs') (hm : Mod (p.2.own σ p.1) w w')
    (hq : q.2.holds w' (fun b => A0 b ∨ owns σ objs' b) σ q.1) (hqo : ∀ b, q.2.own σ q.1 b → p.2.own σ p.1 b ∨ w.heap.size ≤ b) (hA : ∀ b, A0 b → b < w.heap.size) : Obs σ A0 objs' w' := by
  obtain ⟨R, h1, h2, h3⟩ := hs.owns_iff (σ := σ)
  have hqlt := SO.own_lt hq
  have hlat : Later w (fun b => A0 b ∨ owns σ objs b) w' (fun b => A0 b ∨ owns σ objs' b) :=
    hm.later (fun b hb => .inr ((h1 b).2 (.inr hb))) (fun b hb hx => hx.imp id fun hx => by
      rcases (h2 b).1 hx with h | h
      · exact (h1 b).2 (.inl h)
      · rcases hqo b h with h | h
        · exact (h1 b).2 (.inr h)
        · omega)
  obtain ⟨a, b, rfl, rfl⟩ := hs.split
  have hd := h.disj
  have hRq : ∀ x, (owns σ a x ∨ owns σ b x) → ¬ q.2.own σ q.1 x := fun x hx hq' => by
    have hxl : x < w.heap.size := (h.lt x (by rw [owns_append]; exact hx.imp id .inr)).1
    rcases hqo x hq' with h' | h'
    · rw [Disj_append] at hd
      rcases hx with hx | hx
      · exact hd.2.2 x hx (.inl h')
      · exact hd.2.1.1 x h' hx
    · omega
  refine ⟨fun r hr => ?_, ?_, fun x hx => ?_⟩
  · rcases List.mem_append.1 hr with hr | hr
    · refine (h.holds r (List.mem_append_left _ hr)).later hlat fun x hx => hm.block x ((h.lt x (by rw [owns_append]; exact .inl (owns_mem hr hx))).1) fun hp => ?_
      rw [Disj_append] at hd; exact hd.2.2 x (owns_mem hr hx) (.inl hp)
    · rcases List.mem_cons.1 hr with rfl | hr
      · exact hq
      · refine (h.holds r (List.mem_append_right _ (List.mem_cons_of_mem _ hr))).later hlat fun x hx => hm.block x ((h.lt x (by rw [owns_append]; exact .inr (.inr (owns_mem hr hx)))).1) fun hp => ?_
        rw [Disj_append] at hd; exact hd.2.1.1 x hp (owns_mem hr hx)
  · rw [Disj_append] at hd ⊢
    exact ⟨hd.1, ⟨fun x hx hb => hRq x (.inr hb) hx, hd.2.1.2⟩, fun x hx hc => hc.elim (hRq x (.inl hx)) (fun hb => hd.2.2 x hx (.inr hb))⟩
  · rw [owns_append] at hx
    have old : owns σ a x ∨ owns σ b x → x < w'.heap.size ∧ ¬ A0 x := fun hh =>
      have := h.lt x (by rw [owns_append]; exact hh.imp id .inr)
      ⟨Nat.lt_of_lt_of_le this.1 hm.size, this.2⟩
    rcases hx with hx | hx | hx
    · exact old (.inl hx)
    · refine ⟨hqlt x hx, fun hA0 => ?_⟩
      rcases hqo x hx with h' | h'
      · exact (h.lt x (by rw [owns_append]; exact .inr (.inl h'))).2 hA0
      · have := hA x hA0; omega
    · exact old (.inr hx)
/-- a new object -/
theorem Obs.cons {A0 : Own} {σ : Sg} {objs : List Ob} {w w' : World} {q : Ob} (h : Obs σ A0 objs w) (hm : Kept w w')
    (hq : q.2.holds w' (fun b => A0 b ∨ owns σ (q :: objs) b) σ q.1) (hqo : ∀ b, q.2.own σ q.1 b → w.heap.size ≤ b) (hA : ∀ b, A0 b → b < w.heap.size) : Obs σ A0 (q :: objs) w' := by
  have hqlt := SO.own_lt hq
  have hlat : Later w (fun b => A0 b ∨ owns σ objs b) w' (fun b => A0 b ∨ owns σ (q :: objs) b) :=
    hm.later _ fun b hb hx => hx.imp id fun hx => by
      rcases hx with h | h
      · have := hqo b h; omega
      · exact h
  refine ⟨fun r hr => ?_, ⟨fun x hx hb => ?_, h.disj⟩, fun x hx => ?_⟩
  · rcases List.mem_cons.1 hr with rfl | hr
    · exact hq
    · exact (h.holds r hr).later hlat fun x hx => hm.block x ((h.lt x (owns_mem hr hx)).1) (fun y => y)
  · have := (h.lt x hb).1; have := hqo x hx; omega
  · rcases hx with hx | hx
    · exact ⟨hqlt x hx, fun hA0 => by have := hA x hA0; have := hqo x hx; omega⟩
    · exact ⟨Nat.lt_of_lt_of_le (h.lt x hx).1 hm.size, (h.lt x hx).2⟩
end Go.Proofs.YtdflndjlnkoliaaGreatDoor

import Derived.Test.YtnjjhhnkanklfaaFn
import Derived.Test.YtnjjhhnkanklfaaTab
/- MY OWN ENGINE: rows of bytes that are held by their values. -/
namespace Go.Proofs.Ytnjjhhnkanklfaa
set_option linter.all false
open Go.RowKit
abbrev Bs0 := List (BitVec 8)
def rowB' (e : Nat) (w : World) (v : Value) (b : Bs0) : Prop := b.length ≤ 140737488355328 ∧ w.ownsRow 0 e 1 v b.length (b.map (bV .u8))
theorem hE_b {w : World} {A : Own} {σ : Sg} : ∀ {b : Bs0} {cs : List Value}, hE w A σ (b.map eB) cs ↔ cs = b.map (bV .u8)
  | [], cs => by simp [hE]
  | x :: r, cs => by
    simp only [List.map_cons, hE]
    constructor
    · rintro ⟨c, rest, rfl, h1, h2⟩
      have h1' := hL.single.1 h1
      simp only [SV.hc] at h1'
      rw [h1', hE_b.1 h2]; rfl
    · rintro rfl
      exact ⟨[bV .u8 x], r.map (bV .u8), rfl, hL.single.2 (by simp only [SV.hc]), hE_b.2 rfl⟩
theorem rowH_b {w : World} {A : Own} {σ : Sg} {k e : Nat} {b : Bs0} : rowH w A σ k e 1 (b.map eB) ↔ ∃ v, σ k = some v ∧ rowB' e w v b := by
  constructor
  · rintro ⟨v, cs, h0, h1, h2, h3, h4⟩
    have := hE_b.1 h3; subst this
    rw [List.length_map] at h2 h4
    exact ⟨v, h0, h2, h4⟩
  · rintro ⟨v, h0, h1, h2⟩
    refine ⟨v, b.map (bV .u8), h0, fun e he => ?_, by rw [List.length_map]; exact h1, hE_b.2 rfl, by rw [List.length_map]; exact h2⟩
    obtain ⟨x, _, rfl⟩ := List.mem_map.1 he
    rfl
theorem rowB'.lt {e : Nat} {w : World} {v : Value} {b : Bs0} (h : rowB' e w v b) {k : Nat} (hk : blkO v = some k) : k < w.heap.size := by
  rw [(own_blk h.2).1] at hk
  exact (h.2.lt k hk).2
theorem rowB'.later {e : Nat} {w w' : World} {v : Value} {b : Bs0} (h : rowB' e w v b) (hb : ∀ k, blkO v = some k → w'.heap[k]? = w.heap[k]?) : rowB' e w' v b := by
  refine ⟨h.1, h.2.1, ?_⟩
  rcases h.2.2 with hn | ⟨g, cap, cur, rfl, hb0, hg, rest⟩
  · exact .inl hn
  · exact .inr ⟨g, cap, cur, rfl, hb0, (hb g rfl).trans hg, rest⟩
abbrev VB := Value × Bs0
def apartL (l : List VB) : Prop := l.Pairwise fun p q => ∀ k, blkO p.1 = some k → blkO q.1 ≠ some k
def subsAO (e : Nat) (l : List VB) : AO where
  own := fun k => ∃ p ∈ l, blkO p.1 = some k
  holds := fun w _ => (∀ p ∈ l, rowB' e w p.1 p.2) ∧ apartL l
  plain := True
  lt := fun h ⟨p, hp, hk⟩ => (h.1 p hp).lt hk
  later := fun h _ hb => ⟨fun p hp => (h.1 p hp).later fun k hk => hb k ⟨p, hp, hk⟩, h.2⟩
  any := fun _ h => h
section
variable {P : Program} [TabC P] {S : Sig} {σ : Sg} {env : Env} {objs : List Ob} {nx : Nat} {a : Act} {w : World} {A : Own}
/-- a state whose objects are taken apart otherwise: the same blocks are own -/
theorem St.re {S' : Sig} {σ' : Sg} {env' : Env} {objs' : List Ob} {nx' : Nat} (h : St P S σ env objs nx a w) (hA0 : S'.A0 = S.A0) (hn : S'.n = S.n) (hs : Sg.le σ σ') (hown : ∀ b, owns σ' objs' b ↔ owns σ objs b)
    (hslots : ∀ t s, lk env' t = some s → s.hv w (S.A σ objs) σ' (a.tmps.getD t undef)) (hdom : ∀ k, nx' ≤ k → σ' k = none)
    (hholds : ∀ o ∈ objs', o.2.holds w (S.A σ objs) σ' o.1) (hdisj : Disj σ' objs') (hist : Mod S'.M0 S'.w0 w) (own0 : ∀ b, owns σ objs b → S'.M0 b ∨ S'.w0.heap.size ≤ b) (a0 : ∀ b, S.A0 b → b < S'.w0.heap.size ∧ ¬ S'.M0 b)
    (base : ∀ k, k < S'.nn → ∀ v, σ' k = some v → S'.s0 k = some v) (nnx : S'.nn ≤ nx') : St P S' σ' env' objs' nx' a w := by
  have hA : ∀ b, S'.A σ' objs' b ↔ S.A σ objs b := fun b => by simp only [Sig.A, hA0, hown b]
  have hl : Later w (S.A σ objs) w (S'.A σ' objs') := Later.own fun b hb => (hA b).1 hb
  exact { slots := fun t s ht => (hslots t s ht).later hl, dom := hdom, size := by rw [hn]; exact h.size, defers := h.defers
          obs := ⟨fun o ho => (hholds o ho).later hl (fun _ _ => rfl), hdisj, fun b hb => by rw [hA0]; exact h.obs.lt b ((hown b).1 hb)⟩
          hist := hist, own0 := fun b hb => own0 b ((hown b).1 hb), a0 := by rw [hA0]; exact a0, glob := h.glob.later hl, base := base, nnx := nnx }
theorem own_row {e : Nat} {b : Bs0} {k : Nat} (x : Nat) : (SO.row e 1 eB b).own σ k x ↔ ∃ v, σ k = some v ∧ blkO v = some x := Iff.rfl
/-- what is owed where the opened row goes back -/
inductive CloseS (j e : Nat) (l1 l2 : List VB) (v : Value) (m : Nat) (K : KS) (env : Env) (objs : List Ob) (nx : Nat) : Prop
  | mk (b : Bs0) (o3 o4 : List Ob) (so : SO) (h3 : rmO objs m = some (.row e 1 eB b, o3)) (hj : lk o3 j = some (.ab (subsAO e (l1 ++ l2)))) (h4 : setO o3 j j (.ab (subsAO e (l1 ++ (v, b) :: l2))) = some o4) (k : K env o4 nx)
theorem apart_mid {l1 l2 : List VB} {p : VB} : apartL (l1 ++ p :: l2) ↔ apartL (l1 ++ l2) ∧ ∀ q ∈ l1 ++ l2, ∀ k, blkO p.1 = some k → blkO q.1 ≠ some k := by
  unfold apartL
  simp only [List.pairwise_append, List.pairwise_cons, List.mem_append, List.mem_cons]
  constructor
  · rintro ⟨h1, ⟨h2, h3⟩, h4⟩
    refine ⟨⟨h1, h3, fun a ha b hb => h4 a ha b (.inr hb)⟩, fun q hq k hk => ?_⟩
    rcases hq with hq | hq
    · exact fun hq' => h4 q hq p (.inl rfl) k hq' hk
    · exact h2 q hq k hk
  · rintro ⟨⟨h1, h3, h4⟩, h5⟩
    refine ⟨h1, ⟨fun q hq => h5 q (.inr hq), h3⟩, fun q hq r hr => ?_⟩
    rcases hr with rfl | hr
    · exact fun k hk hk' => h5 q (.inl hq) k hk' hk
    · exact h4 q hq r hr
theorem subs_own_mid {e : Nat} {l1 l2 : List VB} {p : VB} (k : Nat) : (subsAO e (l1 ++ p :: l2)).own k ↔ (subsAO e (l1 ++ l2)).own k ∨ blkO p.1 = some k := by
  show (∃ q ∈ l1 ++ p :: l2, blkO q.1 = some k) ↔ (∃ q ∈ l1 ++ l2, blkO q.1 = some k) ∨ _
  constructor
  · rintro ⟨q, hq, hk⟩
    simp only [List.mem_append, List.mem_cons] at hq
    rcases hq with hq | rfl | hq
    · exact .inl ⟨q, by simp [hq], hk⟩
    · exact .inr hk
    · exact .inl ⟨q, by simp [hq], hk⟩
  · rintro (⟨q, hq, hk⟩ | hk)
    · refine ⟨q, ?_, hk⟩
      simp only [List.mem_append, List.mem_cons] at hq ⊢
      exact hq.imp id .inr
    · exact ⟨p, by simp, hk⟩
/-- a raw value's row, opened -/
theorem OpsK.openS {H : Cfg} {all r : List Oper} {K : KS} {objs1 : List Ob} (j e : Nat) (l1 : List VB) (v : Value) (b : Bs0) (l2 : List VB) (t : Nat) {l : List VB} (hj : lk objs j = some (.ab (subsAO e l))) (hl : l = l1 ++ (v, b) :: l2) (ht : lk env t = some (.val v)) (h1 : setO objs j j (.ab (subsAO e (l1 ++ l2))) = some objs1)
    (h : OpsK P H all r (CloseS j e l1 l2 v nx K) ((t, .own nx) :: env) ((nx, .row e 1 eB b) :: objs1) (nx + 1)) : OpsK P H all r K env objs nx := ⟨fun {S Q ops} hcs hn ha hK => by
  subst hl
  intro σ a w hst
  let σ1 : Sg := σ.set nx v
  let S1 : Sig := { S with s0 := σ1, nn := nx + 1, w0 := w, M0 := fun b => owns σ objs b }
  have hle : Sg.le σ σ1 := Sg.le_set (hst.dom nx (Nat.le_refl _))
  have hs := setO_spec hj h1
  obtain ⟨R, hR1, hR2, hR3⟩ := hs.owns_iff (σ := σ)
  obtain ⟨hrow, hap⟩ := (show (∀ p ∈ l1 ++ (v, b) :: l2, rowB' e w p.1 p.2) ∧ apartL (l1 ++ (v, b) :: l2) from lk_holds hst hj)
  obtain ⟨hap1, hap2⟩ := apart_mid.1 hap
  have hq : (SO.ab (subsAO e (l1 ++ l2))).holds w (S.A σ objs1) σ j := ⟨fun p hp => hrow p (by simp only [List.mem_append, List.mem_cons] at hp ⊢; exact hp.imp id .inr), hap1⟩
  have hst1 := hst.ghost hs hq fun k hk => (subs_own_mid k).2 (.inl hk)
  have hnames : ∀ k, owns σ1 objs1 k ↔ owns σ objs1 k := owns_names hle hst1.obs.holds
  have hnx : σ1 nx = some v := Sg.set_self _ _ _
  have hslot : a.tmps.getD t undef = v ∧ v.oneCell' = true := by
    have := hst.slots t _ ht
    simp only [SV.hv, SV.h1, SV.hc, List.cons.injEq, and_true] at this
    exact this
  have hst2 : St P S1 σ1 ((t, .own nx) :: env) ((nx, .row e 1 eB b) :: objs1) (nx + 1) a w := by
    refine hst.re (S' := S1) rfl rfl hle (fun k => ?_) (fun t' s hs' => ?_) (fun k hk => ?_) (fun o ho => ?_) ⟨fun k hk hx => ?_, Disj_names hle hst1.obs.holds hst1.obs.disj⟩ (Mod.refl _ _) (fun k hk => .inl hk) (fun k hk => ⟨hst.a0lt k hk, fun hx => (hst.obs.lt k hx).2 hk⟩) (fun k _ u hu => hu) (Nat.le_refl _)
    · show (SO.own σ1 nx (.row e 1 eB b) k ∨ owns σ1 objs1 k) ↔ _
      rw [hnames k, hR1 k, hR2 k, own_row]
      show (∃ u, σ1 nx = some u ∧ blkO u = some k) ∨ (R k ∨ (subsAO e (l1 ++ l2)).own k) ↔ R k ∨ (subsAO e (l1 ++ (v, b) :: l2)).own k
      rw [subs_own_mid, hnx]
      constructor
      · rintro (⟨u, hu, hk⟩ | hk | hk)
        · cases hu; exact .inr (.inr hk)
        · exact .inl hk
        · exact .inr (.inl hk)
      · rintro (hk | hk | hk)
        · exact .inr (.inl hk)
        · exact .inr (.inr hk)
        · exact .inl ⟨v, rfl, hk⟩
    · unfold lk at hs'
      split at hs'
      · rename_i hb
        obtain rfl := Nat.eq_of_beq_eq_true hb
        cases hs'
        simp only [SV.hv, SV.h1, SV.hc]
        exact ⟨v, hnx, hslot.2, by rw [hslot.1]⟩
      · exact (hst.slots t' s hs').names hle
    · show (if k = nx then some v else σ k) = none
      rw [if_neg (by omega)]; exact hst.dom k (by omega)
    · rcases List.mem_cons.1 ho with rfl | ho
      · exact rowH_b.2 ⟨v, hnx, hrow (v, b) (by simp)⟩
      · obtain ⟨c, d, rfl, rfl⟩ := hs.split
        rcases List.mem_append.1 ho with ho | ho
        · exact (hst.obs.holds o (List.mem_append_left _ ho)).names hle
        · rcases List.mem_cons.1 ho with rfl | ho
          · exact hq
          · exact (hst.obs.holds o (List.mem_append_right _ (List.mem_cons_of_mem _ ho))).names hle
    · obtain ⟨u, hu, hk⟩ := hk
      rw [hnx] at hu; cases hu
      rcases (hR2 k).1 ((hnames k).1 hx) with hx | ⟨q, hq, hqk⟩
      · exact hR3 hst.obs.disj k hx ((subs_own_mid k).2 (.inr hk))
      · exact hap2 q hq k hk hqk
  refine h.h (S := S1) (Q := Q) (ops := ops) hcs hn ha (fun env2 objs2 nx2 hk => ?_) σ1 a w hst2
  intro σ2 a2 w2 hs2
  obtain ⟨b', o3, o4, so, h3, hj3, h4, hK'⟩ := hk
  have hp := rmO_perm h3
  have hs3 := hs2.perm hp
  have hs4 := setO_spec hj3 h4
  obtain ⟨T, hT1, hT2, hT3⟩ := hs4.owns_iff (σ := σ2)
  obtain ⟨u, hu, hub⟩ := rowH_b.1 (show rowH w2 _ σ2 nx e 1 (b'.map eB) from hs3.obs.holds (nx, .row e 1 eB b') (by simp))
  have huv : u = v := by
    have := hs2.base nx (Nat.lt_succ_self nx) u hu
    have h' : σ1 nx = some u := this
    rw [hnx] at h'; cases h'; rfl
  subst huv
  obtain ⟨hrow2, hap3⟩ := (show (∀ p ∈ l1 ++ l2, rowB' e w2 p.1 p.2) ∧ apartL (l1 ++ l2) from hs3.obs.holds (j, _) (List.mem_cons_of_mem _ (lk_mem hj3)))
  have hd3 : (∀ k, SO.own σ2 nx (.row e 1 eB b') k → ¬ owns σ2 o3 k) ∧ Disj σ2 o3 := hs3.obs.disj
  have hown4 : ∀ k, owns σ2 o4 k ↔ owns σ2 ((nx, .row e 1 eB b') :: o3) k := fun k => by
    rw [hT2 k]
    show T k ∨ (subsAO e (l1 ++ (u, b') :: l2)).own k ↔ (∃ x, σ2 nx = some x ∧ blkO x = some k) ∨ owns σ2 o3 k
    rw [subs_own_mid, hT1 k, hu]
    constructor
    · rintro (hk | hk | hk)
      · exact .inr (.inl hk)
      · exact .inr (.inr hk)
      · exact .inl ⟨u, rfl, hk⟩
    · rintro (⟨x, hx, hk⟩ | hk | hk)
      · cases hx; exact .inr (.inr hk)
      · exact .inl hk
      · exact .inr (.inl hk)
  have hap4 : apartL (l1 ++ (u, b') :: l2) := apart_mid.2 ⟨hap3, fun q hq k hk hqk => hd3.1 k ⟨u, hu, hk⟩ ((hT1 k).2 (.inr ⟨q, hq, hqk⟩))⟩
  have hst4 : St P S σ2 env2 o4 nx2 a2 w2 := by
    have hm := hs2.hist
    refine hs3.re (S' := S) rfl rfl (Sg.le.refl _) (fun k => hown4 k) (fun t' s' hx => hs3.slots t' s' hx) hs2.dom (fun o ho => ?_) ?_ (hst.hist.step hm hst.own0) (fun k hk => ?_) (fun k hk => hst.a0 k hk) (fun k hk x hx => ?_) (Nat.le_trans hst.nnx (Nat.le_trans (Nat.le_succ _) hs2.nnx))
    · obtain ⟨c, d, rfl, rfl⟩ := hs4.split
      rcases List.mem_append.1 ho with ho | ho
      · exact hs3.obs.holds o (List.mem_cons_of_mem _ (List.mem_append_left _ ho))
      · rcases List.mem_cons.1 ho with rfl | ho
        · refine ⟨fun p hp => ?_, hap4⟩
          simp only [List.mem_append, List.mem_cons] at hp
          rcases hp with hp | rfl | hp
          · exact hrow2 p (by simp [hp])
          · exact hub
          · exact hrow2 p (by simp [hp])
        · exact hs3.obs.holds o (List.mem_cons_of_mem _ (List.mem_append_right _ (List.mem_cons_of_mem _ ho)))
    · obtain ⟨c, d, rfl, rfl⟩ := hs4.split
      have hD := Disj_append.1 hd3.2
      have hown : ∀ k, (subsAO e (l1 ++ (u, b') :: l2)).own k → ¬ owns σ2 c k ∧ ¬ owns σ2 d k := fun k hk => by
        rcases (subs_own_mid k).1 hk with hk | hk
        · exact ⟨fun hc => hD.2.2 k hc (.inl hk), hD.2.1.1 k hk⟩
        · have := hd3.1 k ⟨u, hu, hk⟩
          rw [owns_append] at this
          exact ⟨fun hc => this (.inl hc), fun hc => this (.inr (.inr hc))⟩
      refine Disj_append.2 ⟨hD.1, ⟨fun k hk hx => (hown k hk).2 hx, hD.2.1.2⟩, fun k hk hx => ?_⟩
      rcases hx with hx | hx
      · exact (hown k hx).1 hk
      · exact hD.2.2 k hk (.inr hx)
    · rcases hs3.own0 k hk with hk | hk
      · exact hst.own0 k hk
      · exact .inr (Nat.le_trans hst.hist.size hk)
    · have hkn : k < nx := Nat.lt_of_lt_of_le hk hst.nnx
      have h' : σ1 k = some x := hs2.base k (Nat.lt_succ_of_lt hkn) x hx
      have h'' : (if k = nx then some u else σ k) = some x := h'
      rw [if_neg (by omega)] at h''
      exact hst.base k hk x h''
  exact hK _ _ _ hK' σ2 a2 w2 hst4⟩
def sealO (objs : List Ob) (j e : Nat) (l : List VB) (v : Value) (b : Bs0) : List Ob := match setO objs j j (.ab (subsAO e (l ++ [(v, b)]))) with
  | some o => o
  | none => objs
/-- a row of one's own goes to those that are held by their values -/
theorem St.seal {objs1 : List Ob} {j e m t : Nat} {l : List VB} {b : Bs0} (hst : St P S σ env objs nx a w) (ht : lk env t = some (.own m)) (hm : rmO objs m = some (.row e 1 eB b, objs1)) (hj : lk objs1 j = some (.ab (subsAO e l))) :
    ∃ v, St P S σ ((t, .val v) :: env) (sealO objs1 j e l v b) nx a w := by
  have hp := rmO_perm hm
  have hs3 := hst.perm hp
  obtain ⟨v, hv, hvb⟩ := rowH_b.1 (show rowH w _ σ m e 1 (b.map eB) from hs3.obs.holds (m, .row e 1 eB b) (by simp))
  have hset : ∃ o, setO objs1 j j (.ab (subsAO e (l ++ [(v, b)]))) = some o := by
    clear hs3 hp hm hst
    induction objs1 with
    | nil => simp [lk] at hj
    | cons x r ih =>
      obtain ⟨k, so⟩ := x
      unfold lk at hj
      unfold setO
      split at hj
      · rename_i hb; rw [hb]; exact ⟨_, rfl⟩
      · rename_i hb
        obtain ⟨o, ho⟩ := ih hj
        rw [hb, ho]; exact ⟨_, rfl⟩
  obtain ⟨o4, h4⟩ := hset
  have e4 : sealO objs1 j e l v b = o4 := by unfold sealO; rw [h4]
  refine ⟨v, ?_⟩
  rw [e4]
  have hs4 := setO_spec hj h4
  obtain ⟨T, hT1, hT2, hT3⟩ := hs4.owns_iff (σ := σ)
  obtain ⟨hrow2, hap3⟩ := (show (∀ p ∈ l, rowB' e w p.1 p.2) ∧ apartL l from hs3.obs.holds (j, .ab (subsAO e l)) (List.mem_cons_of_mem _ (lk_mem hj)))
  have hd3 : (∀ k, SO.own σ m (.row e 1 eB b) k → ¬ owns σ objs1 k) ∧ Disj σ objs1 := hs3.obs.disj
  have mid : ∀ k, (subsAO e (l ++ [(v, b)])).own k ↔ (subsAO e l).own k ∨ blkO v = some k := fun k => by
    have := subs_own_mid (e := e) (l1 := l) (l2 := []) (p := (v, b)) k
    rw [List.append_nil] at this; exact this
  have hown4 : ∀ k, owns σ o4 k ↔ owns σ ((m, .row e 1 eB b) :: objs1) k := fun k => by
    rw [hT2 k]
    show T k ∨ (subsAO e (l ++ [(v, b)])).own k ↔ (∃ x, σ m = some x ∧ blkO x = some k) ∨ owns σ objs1 k
    rw [mid, hT1 k, hv]
    constructor
    · rintro (hk | hk | hk)
      · exact .inr (.inl hk)
      · exact .inr (.inr hk)
      · exact .inl ⟨v, rfl, hk⟩
    · rintro (⟨x, hx, hk⟩ | hk | hk)
      · cases hx; exact .inr (.inr hk)
      · exact .inl hk
      · exact .inr (.inl hk)
  have hap4 : apartL (l ++ [(v, b)]) := (apart_mid (l1 := l) (l2 := [])).2 ⟨by rw [List.append_nil]; exact hap3, fun q hq k hk hqk => hd3.1 k ⟨v, hv, hk⟩ ((hT1 k).2 (.inr ⟨q, by simpa using hq, hqk⟩))⟩
  refine hs3.re (S' := S) rfl rfl (Sg.le.refl _) (fun k => hown4 k) (fun t' s' hx => ?_) hst.dom (fun o ho => ?_) ?_ hst.hist (fun k hk => hs3.own0 k hk) hst.a0 hst.base hst.nnx
  · unfold lk at hx
    split at hx
    · rename_i hb
      obtain rfl := Nat.eq_of_beq_eq_true hb
      cases hx
      have := hs3.slots t _ ht
      simp only [SV.hv, SV.h1, SV.hc, List.cons.injEq, and_true] at this ⊢
      obtain ⟨u, hu, h1, h2⟩ := this
      rw [hv] at hu; cases hu
      exact ⟨h2, h1⟩
    · exact hs3.slots t' s' hx
  · obtain ⟨c, d, rfl, rfl⟩ := hs4.split
    rcases List.mem_append.1 ho with ho | ho
    · exact hs3.obs.holds o (List.mem_cons_of_mem _ (List.mem_append_left _ ho))
    · rcases List.mem_cons.1 ho with rfl | ho
      · refine ⟨fun p hp => ?_, hap4⟩
        rcases List.mem_append.1 hp with hp | hp
        · exact hrow2 p hp
        · obtain rfl : p = (v, b) := by simpa using hp
          exact hvb
      · exact hs3.obs.holds o (List.mem_cons_of_mem _ (List.mem_append_right _ (List.mem_cons_of_mem _ ho)))
  · obtain ⟨c, d, rfl, rfl⟩ := hs4.split
    have hD := Disj_append.1 hd3.2
    have hown : ∀ k, (subsAO e (l ++ [(v, b)])).own k → ¬ owns σ c k ∧ ¬ owns σ d k := fun k hk => by
      rcases (mid k).1 hk with hk | hk
      · exact ⟨fun hc => hD.2.2 k hc (.inl hk), hD.2.1.1 k hk⟩
      · have := hd3.1 k ⟨v, hv, hk⟩
        rw [owns_append] at this
        exact ⟨fun hc => this (.inl hc), fun hc => this (.inr (.inr hc))⟩
    refine Disj_append.2 ⟨hD.1, ⟨fun k hk hx => (hown k hk).2 hx, hD.2.1.2⟩, fun k hk hx => ?_⟩
    rcases hx with hx | hx
    · exact (hown k hx).1 hk
    · exact hD.2.2 k hk (.inr hx)
theorem OpsK.sealS {H : Cfg} {all r : List Oper} {K : KS} {objs1 : List Ob} (j e m t : Nat) (l : List VB) (b : Bs0) (ht : lk env t = some (.own m)) (hm : rmO objs m = some (.row e 1 eB b, objs1)) (hj : lk objs1 j = some (.ab (subsAO e l)))
    (h : ∀ v, OpsK P H all r K ((t, .val v) :: env) (sealO objs1 j e l v b) nx) : OpsK P H all r K env objs nx := ⟨fun {S Q ops} hcs hn ha hK => by
  intro σ a w hst
  obtain ⟨v, hst'⟩ := hst.seal ht hm hj
  exact (h v).h hcs hn ha hK σ a w hst'⟩
theorem OrdK.sealS {H : Cfg} {all : List Oper} {o0 : List Ob} {N : List Nat} {r : Ord} {ph k : Bool} {K : KS} {objs1 : List Ob} (j e m t : Nat) (l : List VB) (b : Bs0) (ht : lk env t = some (.own m)) (hm : rmO objs m = some (.row e 1 eB b, objs1)) (hj : lk objs1 j = some (.ab (subsAO e l)))
    (h : ∀ v, OrdK P H all o0 N r ph k K ((t, .val v) :: env) (sealO objs1 j e l v b) nx) : OrdK P H all o0 N r ph k K env objs nx := ⟨fun {S Q ops} hcs hn ha hN hK => by
  intro σ a w w0 e0 a0 hst0 hS hst hph hk
  obtain ⟨v, hst'⟩ := hst.seal ht hm hj
  exact (h v).h hcs hn ha hN hK σ a w w0 e0 a0 hst0 hS hst' hph hk⟩
/-- no rows yet -/
theorem Vc.newS {H : Cfg} {c : Code} {K : KW} (e : Nat) (h : Vc P H c env ((nx, .ab (subsAO e [])) :: objs) (nx + 1) K) : Vc P H c env objs nx K := ⟨fun {S Q} hcs hn hnn hd hp hK => by
  intro σ a w hst
  have hno : ∀ k, ¬ (subsAO e []).own k := fun k hk => by obtain ⟨p, hp, _⟩ := hk; cases hp
  refine h.h hcs hn hnn hd hp hK σ a w (hst.re rfl rfl (Sg.le.refl _) (fun k => ⟨fun hk => hk.elim (fun x => (hno k x).elim) id, .inr⟩) (fun t s ht => hst.slots t s ht) (fun k hk => hst.dom k (by omega)) (fun o ho => ?_) ⟨fun k hk => (hno k hk).elim, hst.obs.disj⟩ hst.hist (fun k hk => hst.own0 k hk) hst.a0 hst.base (Nat.le_succ_of_le hst.nnx))
  rcases List.mem_cons.1 ho with rfl | ho
  · exact ⟨fun p hp => (by cases hp), List.Pairwise.nil⟩
  · exact hst.obs.holds o ho⟩
end
/-! ## contracts over such rows -/
theorem h1_fs {w : World} {A A' : Own} {σ σ' : Sg} {z : Nat} {α : Type} {enc : α → List SV} {xs : List α} {v : Value} (hl : ∀ k, A' k → A k) (h : (SV.fs z enc xs).h1 w A σ v) : (SV.fs z enc xs).h1 w A' σ' v := by
  have := SV.hc.later (w := w) (w' := w) (Later.own hl) (SV.fs z enc xs) σ [v] h
  simp only [SV.h1, SV.hc] at this ⊢
  exact this
/-- a function that hands back a new row of bytes -/
def rowC (D : Type) (pre : D → Prop) (arg f : D → Bs0) (e : Nat) : Ctr where
  D := D
  pre := pre
  args := fun d => [.fs 1 eB (arg d)]
  res := fun _ _ => .own 0
  out := fun d _ => [(0, .row e 1 eB (f d))]
  mm := 1
/-- the same, where the new row goes to those that are held by their values -/
def rowS (D : Type) (pre : D → Prop) (arg f : D → Bs0) (e : Nat) : Ctr where
  D := D × List VB
  pre := fun d => pre d.1
  args := fun d => [.fs 1 eB (arg d.1)]
  objs := fun d => [(0, .ab (subsAO e d.2))]
  nn := 1
  E := Value
  res := fun _ v => .val v
  out := fun d v => [(0, .ab (subsAO e (d.2 ++ [(v, f d.1)])))]
  kp := true
/-- the same, where the argument is one of them -/
def rowL (D : Type) (pre : D → Prop) (arg f : D → Bs0) (e : Nat) : Ctr where
  D := D × Value × List VB
  pre := fun d => pre d.1 ∧ (d.2.1, arg d.1) ∈ d.2.2
  args := fun d => [.val d.2.1]
  objs := fun d => [(0, .ab (subsAO e d.2.2))]
  nn := 1
  res := fun _ _ => .own 1
  out := fun d _ => [(0, .ab (subsAO e d.2.2)), (1, .row e 1 eB (f d.1))]
  mm := 1
  kp := true
/-- the same, where the argument is a row of one's own, which stays -/
def rowO (D : Type) (pre : D → Prop) (arg f : D → Bs0) (e : Nat) : Ctr where
  D := D
  pre := pre
  args := fun _ => [.own 0]
  objs := fun d => [(0, .row e 1 eB (arg d))]
  nn := 1
  res := fun _ _ => .own 1
  out := fun d _ => [(0, .row e 1 eB (arg d)), (1, .row e 1 eB (f d))]
  mm := 1
  kp := true
section
variable {P : Program} [TabC P] {fn : Nat} {D : Type} {pre : D → Prop} {arg f : D → Bs0} {e : Nat}
theorem rowS_ok (h : (rowC D pre arg f e).Ok P fn) : (rowS D pre arg f e).Ok P fn := by
  rintro ⟨d, s⟩ hpre A0 w σ vs hA hobs hargs hdom hgl
  have hown : ∀ k, owns σ [(0, SO.ab (subsAO e s))] k ↔ (subsAO e s).own k := fun k => ⟨fun h => h.resolve_right (fun x => x), .inl⟩
  obtain ⟨hrow, hap⟩ := (show (∀ p ∈ s, rowB' e w p.1 p.2) ∧ apartL s from hobs.holds (0, .ab (subsAO e s)) (List.mem_cons_self))
  obtain ⟨v0, m, rfl, hv0, rfl⟩ := hargs
  refine (h d hpre (fun k => A0 k ∨ (subsAO e s).own k) w sg0 [v0] (fun k hk => hk.elim (hA k) fun hk => (hobs.lt k ((hown k).2 hk)).1) ⟨fun o ho => (by cases ho), trivial, fun k hk => hk.elim⟩ ⟨v0, [], rfl, h1_fs (fun k hk => ?_) hv0, rfl⟩ (fun _ _ => rfl) (hgl.later (Later.own fun k hk => ?_))).mono ?_
  · exact hk.elim (fun hk => hk.imp id .inl) (fun x => x.elim)
  · exact hk.elim (fun hk => hk.imp id .inl) (fun x => x.elim)
  · rintro en w' ⟨e', v, σ', rfl, _, hsame, hdom', hres, hm, hobs', hnew⟩
    simp only [rowC, SV.hv, SV.h1, SV.hc, List.cons.injEq, and_true] at hres
    obtain ⟨u, hu, h1u, rfl⟩ := hres
    obtain ⟨u', hu', hub⟩ := rowH_b.1 (show rowH w' _ σ' 0 e 1 ((f d).map eB) from hobs'.holds (0, .row e 1 eB (f d)) (List.mem_cons_self))
    rw [hu] at hu'; cases hu'
    have hlt : ∀ k, blkO v = some k → k < w'.heap.size ∧ ¬ (A0 k ∨ (subsAO e s).own k) := fun k hk => hobs'.lt k (.inl ⟨v, hu, hk⟩)
    have hkeep : Mod (fun _ => False) w w' := hm.mono fun k hk => hk.2.elim
    refine ⟨v, v, σ, rfl, trivial, fun k _ x hx => hx, fun k hk => hdom k hk, ⟨rfl, h1u⟩, hkeep.mono fun _ x => x.elim, ⟨fun o ho => ?_, ⟨fun _ _ x => x, trivial⟩, fun k hk => ?_⟩, fun k hk => ?_⟩
    · rcases List.mem_cons.1 ho with rfl | ho
      · refine ⟨fun p hp => ?_, ?_⟩
        · rcases List.mem_append.1 hp with hp | hp
          · exact (hrow p hp).later fun k hk => hkeep.block k ((hrow p hp).lt hk) (fun x => x)
          · obtain rfl : p = (v, f d) := by simpa using hp
            exact hub
        · have := (apart_mid (l1 := s) (l2 := []) (p := (v, f d))).2 ⟨by simpa using hap, fun q hq k hk hqk => (hlt k hk).2 (.inr ⟨q, by simpa using hq, hqk⟩)⟩
          exact this
      · cases ho
    · have hk' := hk.resolve_right (fun x => x)
      rcases (subs_own_mid (l1 := s) (l2 := []) (p := (v, f d)) k).1 hk' with hk' | hk'
      · rw [List.append_nil] at hk'
        have := hobs.lt k ((hown k).2 hk')
        exact ⟨Nat.lt_of_lt_of_le this.1 hkeep.size, this.2⟩
      · exact ⟨(hlt k hk').1, fun x => (hlt k hk').2 (.inl x)⟩
    · have hk' := hk.resolve_right (fun x => x)
      rcases (subs_own_mid (l1 := s) (l2 := []) (p := (v, f d)) k).1 hk' with hk' | hk'
      · rw [List.append_nil] at hk'
        exact .inl ((hown k).2 hk')
      · exact .inr ((hnew k (.inl ⟨v, hu, hk'⟩)).resolve_left (fun x => x.elim))
theorem rowL_ok (h : (rowC D pre arg f e).Ok P fn) : (rowL D pre arg f e).Ok P fn := by
  rintro ⟨d, v, s⟩ ⟨hpre, hmem⟩ A0 w σ vs hA hobs hargs hdom hgl
  have hown : ∀ k, owns σ [(0, SO.ab (subsAO e s))] k ↔ (subsAO e s).own k := fun k => ⟨fun h => h.resolve_right (fun x => x), .inl⟩
  obtain ⟨hrow, hap⟩ := (show (∀ p ∈ s, rowB' e w p.1 p.2) ∧ apartL s from hobs.holds (0, .ab (subsAO e s)) (List.mem_cons_self))
  obtain ⟨v0, m, rfl, hv0, rfl⟩ := hargs
  simp only [SV.h1, SV.hc, List.cons.injEq, and_true] at hv0
  obtain ⟨rfl, hone⟩ := hv0
  have hr0 : rowH w (fun k => A0 k ∨ (subsAO e s).own k) (sg0.set 0 v0) 0 e 1 ((arg d).map eB) := rowH_b.2 ⟨v0, Sg.set_self _ _ _, hrow _ hmem⟩
  have harg : (SV.fs 1 eB (arg d)).hc w (fun k => (A0 k ∨ ((subsAO e s).own k ∧ blkO v0 ≠ some k)) ∨ False) sg0 [v0] := by
    obtain ⟨u, hu, hc⟩ := hr0.fs (A' := fun k => (A0 k ∨ ((subsAO e s).own k ∧ blkO v0 ≠ some k)) ∨ False) (fun k hk => hk.elim (fun hk => hk.imp id And.left) (fun x => x.elim)) (fun k u hu hk => by
      rw [Sg.set_self] at hu; cases hu
      rintro (hx | x)
      · rcases hx with hx | hx
        · exact (hobs.lt k ((hown k).2 ⟨_, hmem, hk⟩)).2 hx
        · exact hx.2 hk
      · exact x)
    rw [Sg.set_self] at hu; cases hu
    exact hc
  refine (h d hpre (fun k => A0 k ∨ ((subsAO e s).own k ∧ blkO v0 ≠ some k)) w sg0 [v0] (fun k hk => hk.elim (hA k) fun hk => (hobs.lt k ((hown k).2 hk.1)).1) ⟨fun o ho => (by cases ho), trivial, fun k hk => hk.elim⟩ ⟨v0, [], rfl, harg, rfl⟩ (fun _ _ => rfl) (hgl.later (Later.own fun k hk => ?_))).mono ?_
  · exact hk.elim (fun hk => hk.imp id fun hk => .inl hk.1) (fun x => x.elim)
  · rintro en w' ⟨e', v, σ', rfl, _, hsame, hdom', hres, hm, hobs', hnew⟩
    simp only [rowC, SV.hv, SV.h1, SV.hc, List.cons.injEq, and_true] at hres
    obtain ⟨u, hu, h1u, rfl⟩ := hres
    obtain ⟨u', hu', hub⟩ := rowH_b.1 (show rowH w' _ σ' 0 e 1 ((f d).map eB) from hobs'.holds (0, .row e 1 eB (f d)) (List.mem_cons_self))
    rw [hu] at hu'; cases hu'
    have hfresh : ∀ k, blkO v = some k → w.heap.size ≤ k := fun k hk => (hnew k (.inl ⟨v, hu, hk⟩)).resolve_left (fun x => x.elim)
    have hlt : ∀ k, blkO v = some k → k < w'.heap.size := fun k hk => (hobs'.lt k (.inl ⟨v, hu, hk⟩)).1
    have hkeep : Mod (fun _ => False) w w' := hm.mono fun k hk => hk.2.elim
    have hs1 : σ.set 1 v 1 = some v := Sg.set_self _ _ _
    have hrow1 : ∀ k, SO.own (σ.set 1 v) 1 (.row e 1 eB (f d)) k ↔ blkO v = some k := fun k => ⟨fun ⟨u, hu, hk⟩ => by rw [hs1] at hu; cases hu; exact hk, fun hk => ⟨v, hs1, hk⟩⟩
    have hsub : ∀ k, (subsAO e s).own k → k < w.heap.size ∧ ¬ A0 k := fun k hk => hobs.lt k ((hown k).2 hk)
    refine ⟨(), v, σ.set 1 v, rfl, trivial, fun k hk x hx => ?_, fun k hk => ?_, ⟨v, hs1, h1u, rfl⟩, hkeep.mono fun _ x => x.elim, ⟨fun o ho => ?_, ⟨fun k hk hx => ?_, fun _ _ x => x, trivial⟩, fun k hk => ?_⟩, fun k hk => ?_⟩
    · have hk1 : k < 1 := hk
      unfold Sg.set at hx
      rw [if_neg (by omega)] at hx; exact hx
    · have hk1 : 2 ≤ k := hk
      show (if k = 1 then some v else σ k) = none
      rw [if_neg (by omega)]; exact hdom k (by show 1 ≤ k; omega)
    · rcases List.mem_cons.1 ho with rfl | ho
      · exact ⟨fun p hp => (hrow p hp).later fun k hk => hkeep.block k ((hrow p hp).lt hk) (fun x => x), hap⟩
      · rcases List.mem_cons.1 ho with rfl | ho
        · exact rowH_b.2 ⟨v, hs1, hub⟩
        · cases ho
    · have hx' := (hrow1 k).1 (hx.resolve_right (fun x => x))
      have := (hsub k hk).1
      have := hfresh k hx'
      omega
    · rcases hk with hk | hk
      · have := hsub k hk
        exact ⟨Nat.lt_of_lt_of_le this.1 hkeep.size, this.2⟩
      · have hk' := (hrow1 k).1 (hk.resolve_right (fun x => x))
        refine ⟨hlt k hk', fun hx => ?_⟩
        have := hA k hx
        have := hfresh k hk'
        omega
    · rcases hk with hk | hk
      · exact .inl (.inl hk)
      · exact .inr (hfresh k ((hrow1 k).1 (hk.resolve_right (fun x => x))))
theorem rowO_ok (h : (rowC D pre arg f e).Ok P fn) : (rowO D pre arg f e).Ok P fn := by
  rintro d hpre A0 w σ vs hA hobs hargs hdom hgl
  have hr0 : rowH w (fun k => A0 k ∨ owns σ [(0, SO.row e 1 eB (arg d))] k) σ 0 e 1 ((arg d).map eB) := hobs.holds (0, .row e 1 eB (arg d)) (List.mem_cons_self)
  obtain ⟨u0, hu0, hub0⟩ := rowH_b.1 hr0
  have hown : ∀ k, owns σ [(0, SO.row e 1 eB (arg d))] k ↔ blkO u0 = some k := fun k => ⟨fun h => by
    obtain ⟨u, hu, hk⟩ := h.resolve_right (fun x => x)
    rw [hu0] at hu; cases hu; exact hk, fun hk => .inl ⟨u0, hu0, hk⟩⟩
  obtain ⟨v0, m, rfl, hv0, rfl⟩ := hargs
  simp only [SV.h1, SV.hc, List.cons.injEq, and_true] at hv0
  obtain ⟨u, hu, hone, rfl⟩ := hv0
  rw [hu0] at hu; cases hu
  have harg : (SV.fs 1 eB (arg d)).hc w (fun k => A0 k ∨ False) sg0 [u0] := by
    obtain ⟨u, hu, hc⟩ := hr0.fs (A' := fun k => A0 k ∨ False) (fun k hk => .inl (hk.resolve_right (fun x => x))) (fun k u hu hk => by
      rw [hu0] at hu; cases hu
      rintro (hx | x)
      · exact (hobs.lt k ((hown k).2 hk)).2 hx
      · exact x)
    rw [hu0] at hu; cases hu
    exact hc
  refine (h d hpre A0 w sg0 [u0] hA ⟨fun o ho => (by cases ho), trivial, fun k hk => hk.elim⟩ ⟨u0, [], rfl, harg, rfl⟩ (fun _ _ => rfl) (hgl.later (Later.own fun k hk => .inl (hk.resolve_right (fun x => x))))).mono ?_
  rintro en w' ⟨e', v, σ', rfl, _, hsame, hdom', hres, hm, hobs', hnew⟩
  simp only [rowC, SV.hv, SV.h1, SV.hc, List.cons.injEq, and_true] at hres
  obtain ⟨u, hu, h1u, rfl⟩ := hres
  obtain ⟨u', hu', hub⟩ := rowH_b.1 (show rowH w' _ σ' 0 e 1 ((f d).map eB) from hobs'.holds (0, .row e 1 eB (f d)) (List.mem_cons_self))
  rw [hu] at hu'; cases hu'
  have hfresh : ∀ k, blkO v = some k → w.heap.size ≤ k := fun k hk => (hnew k (.inl ⟨v, hu, hk⟩)).resolve_left (fun x => x.elim)
  have hlt : ∀ k, blkO v = some k → k < w'.heap.size := fun k hk => (hobs'.lt k (.inl ⟨v, hu, hk⟩)).1
  have hkeep : Mod (fun _ => False) w w' := hm.mono fun k hk => hk.2.elim
  have hs1 : σ.set 1 v 1 = some v := Sg.set_self _ _ _
  have hs0 : σ.set 1 v 0 = some u0 := by
    show (if 0 = 1 then some v else σ 0) = some u0
    rw [if_neg (by omega)]; exact hu0
  have hrow1 : ∀ k, SO.own (σ.set 1 v) 1 (.row e 1 eB (f d)) k ↔ blkO v = some k := fun k => ⟨fun ⟨u, hu, hk⟩ => by rw [hs1] at hu; cases hu; exact hk, fun hk => ⟨v, hs1, hk⟩⟩
  have hrow0 : ∀ k, SO.own (σ.set 1 v) 0 (.row e 1 eB (arg d)) k ↔ blkO u0 = some k := fun k => ⟨fun ⟨u, hu, hk⟩ => by rw [hs0] at hu; cases hu; exact hk, fun hk => ⟨u0, hs0, hk⟩⟩
  have hsub : ∀ k, blkO u0 = some k → k < w.heap.size ∧ ¬ A0 k := fun k hk => hobs.lt k ((hown k).2 hk)
  refine ⟨(), v, σ.set 1 v, rfl, trivial, fun k hk x hx => ?_, fun k hk => ?_, ⟨v, hs1, h1u, rfl⟩, hkeep.mono fun _ x => x.elim, ⟨fun o ho => ?_, ⟨fun k hk hx => ?_, fun _ _ x => x, trivial⟩, fun k hk => ?_⟩, fun k hk => ?_⟩
  · have hk1 : k < 1 := hk
    unfold Sg.set at hx
    rw [if_neg (by omega)] at hx; exact hx
  · have hk1 : 2 ≤ k := hk
    show (if k = 1 then some v else σ k) = none
    rw [if_neg (by omega)]; exact hdom k (by show 1 ≤ k; omega)
  · rcases List.mem_cons.1 ho with rfl | ho
    · exact rowH_b.2 ⟨u0, hs0, hub0.later fun k hk => hkeep.block k (hsub k hk).1 (fun x => x)⟩
    · rcases List.mem_cons.1 ho with rfl | ho
      · exact rowH_b.2 ⟨v, hs1, hub⟩
      · cases ho
  · have hx' := (hrow1 k).1 (hx.resolve_right (fun x => x))
    have := (hsub k ((hrow0 k).1 hk)).1
    have := hfresh k hx'
    omega
  · rcases hk with hk | hk
    · have := hsub k ((hrow0 k).1 hk)
      exact ⟨Nat.lt_of_lt_of_le this.1 hkeep.size, this.2⟩
    · have hk' := (hrow1 k).1 (hk.resolve_right (fun x => x))
      refine ⟨hlt k hk', fun hx => ?_⟩
      have := hA k hx
      have := hfresh k hk'
      omega
  · rcases hk with hk | hk
    · exact .inl ((hown k).2 ((hrow0 k).1 hk))
    · exact .inr (hfresh k ((hrow1 k).1 (hk.resolve_right (fun x => x))))
end
/-! ## what is handed back, told otherwise -/
def soSame (s s' : SO) : Prop := (∀ σ k, SO.own σ k s = SO.own σ k s') ∧ ∀ w A σ k, s.holds w A σ k = s'.holds w A σ k
def oSame : List Ob → List Ob → Prop
  | [], [] => True
  | (k, s) :: r, (k', s') :: r' => k = k' ∧ soSame s s' ∧ oSame r r'
  | _, _ => False
theorem soSame.rfl' {s : SO} : soSame s s := ⟨fun _ _ => rfl, fun _ _ _ _ => rfl⟩
theorem soSame.row {e z : Nat} {α β : Type} {enc : α → List SV} {enc' : β → List SV} {xs : List α} {ys : List β} (h : xs.map enc = ys.map enc') : soSame (.row e z enc xs) (.row e z enc' ys) :=
  ⟨fun _ _ => rfl, fun w A σ k => by show rowH w A σ k e z (xs.map enc) = rowH w A σ k e z (ys.map enc'); rw [h]⟩
theorem oSame.owns {σ : Sg} : ∀ {a b : List Ob}, oSame a b → owns σ a = owns σ b
  | [], [], _ => rfl
  | (k, s) :: r, (k', s') :: r', ⟨h1, h2, h3⟩ => by
    subst h1
    funext x
    show (SO.own σ k s x ∨ Go.Proofs.Ytnjjhhnkanklfaa.owns σ r x) = (SO.own σ k s' x ∨ Go.Proofs.Ytnjjhhnkanklfaa.owns σ r' x)
    rw [h2.1, oSame.owns h3]
theorem oSame.disj {σ : Sg} : ∀ {a b : List Ob}, oSame a b → Disj σ a → Disj σ b
  | [], [], _, h => h
  | (k, s) :: r, (k', s') :: r', ⟨h1, h2, h3⟩, h => by
    subst h1
    refine ⟨fun b hb => ?_, oSame.disj h3 h.2⟩
    have hb' : SO.own σ k s' b := hb
    rw [← h2.1] at hb'
    rw [← oSame.owns h3]
    exact h.1 b hb'
theorem oSame.mem : ∀ {a b : List Ob}, oSame a b → ∀ o ∈ b, ∃ o' ∈ a, o'.1 = o.1 ∧ soSame o'.2 o.2
  | [], [], _, o, h => by cases h
  | (k, s) :: r, (k', s') :: r', ⟨h1, h2, h3⟩, o, h => by
    rcases List.mem_cons.1 h with rfl | h
    · exact ⟨(k, s), List.mem_cons_self, h1, h2⟩
    · obtain ⟨o', ho', e⟩ := oSame.mem h3 o h
      exact ⟨o', List.mem_cons_of_mem _ ho', e⟩
theorem oSame.obs {σ : Sg} {A0 : Own} {a b : List Ob} {w : World} (h : oSame a b) (ho : Obs σ A0 a w) : Obs σ A0 b w :=
  ⟨fun o hm => by
    obtain ⟨o', hm', h1, h2⟩ := h.mem o hm
    have := ho.holds o' hm'
    rw [h1, h2.2, h.owns] at this
    exact this, h.disj ho.disj, fun x hx => ho.lt x (by rw [h.owns]; exact hx)⟩
theorem Ctr.Ok.out {P : Program} [TabC P] {f : Nat} {c : Ctr} (h : c.Ok P f) {out' : c.D → c.E → List Ob} (hs : ∀ d e, c.pre d → c.post d e → oSame (c.out d e) (out' d e)) : ({ c with out := out' } : Ctr).Ok P f := by
  intro d hpre A0 w σ vs hA hobs hargs hdom hgl
  refine (h d hpre A0 w σ vs hA hobs hargs hdom hgl).mono ?_
  rintro en w' ⟨e', v, σ', rfl, hp, hsame, hdom', hres, hm, hobs', hnew⟩
  have hh := hs d e' hpre hp
  refine ⟨e', v, σ', rfl, hp, hsame, hdom', ?_, hm, hh.obs hobs', ?_⟩
  · show (c.res d e').hv w' (Av A0 σ' (out' d e')) σ' v
    unfold Av at hres ⊢
    rw [← hh.owns]; exact hres
  · intro b hb
    have hb' : owns σ' (out' d e') b := hb
    rw [← hh.owns] at hb'
    exact hnew b hb'
end Go.Proofs.Ytnjjhhnkanklfaa

namespace Go.Proofs.Ytnjjhhnkanklfaa
set_option linter.all false
open Go.RowKit
/-! a net: its frames' bytes are held by their values -/
structure Fv where
  to : Int
  v : Value
  b : Bs0
abbrev eFv (f : Fv) : List SV := [.int .i64 f.to, .val f.v]
abbrev vbs (l : List Fv) : List VB := l.map fun f => (f.v, f.b)
abbrev net (l : List Fv) (lost : Int) : List Ob := [(0, .box 28 [.own 1, .int .i64 lost]), (1, .row 31 2 eFv l)]
abbrev netS (l : List Fv) (lost : Int) : List Ob := [(0, .box 28 [.own 1, .int .i64 lost]), (1, .row 31 2 eFv l), (2, .ab (subsAO 5 (vbs l)))]
theorem vbs_snoc (l : List Fv) (f : Fv) : vbs (l ++ [f]) = vbs l ++ [(f.v, f.b)] := by simp [vbs]
def has_c : Ctr where
  D := Int × List Fv × Int
  args := fun (i, _, _) => [.ptr 0 0, .int .i64 i]
  objs := fun (_, l, lost) => net l lost
  nn := 2
  res := fun (i, l, _) _ => .dec (0 ≤ i ∧ i < l.length) inferInstance
  out := fun (_, l, lost) _ => net l lost
def has_H : Cfg := ⟨[], [], [], [], 20, 2, [], [], []⟩
theorem has_ok : has_c.Ok Try.prog 21 := by
  refine fn_ok has_H 2 rfl _ Try.func21 rfl rfl trivial rfl rfl (by kernel_rfl) (fun _ => Nat.le_of_ble_eq_true rfl) ?_
  rintro ⟨i, l, lost⟩ hp hr
  try dsimp only [has_c] at hp
  try simp only [has_c, Rng, RngL, inR, and_true, true_and] at hr
  repeat' (first | (with_reducible refine Unf.h ?_) | ((conv => whnf); first | refine Fork.mk (fun h => ?_) (fun h => ?_) | (refine Side.mk ?_ ?_; focus (first | with_reducible rfl | omega | (refine ⟨fun h => ?_, fun h => ?_⟩ <;> first | rfl | (cases h; done) | omega | (exfalso; omega) | (simp only [Bool.false_eq_true] at h; done)))) | refine RetE.mk () trivial ?_ | refine retK_r ?_ | exact rfl) | fail); all_goals try (conv => whnf)
def clone_c : Ctr := rowC Bs0 (fun b => b.length ≤ 1000000) (fun b => b) (fun b => b) 5
def clone_H : Cfg := ⟨[], [], [], [], 8, 0, [], [], []⟩
theorem clone_ok : clone_c.Ok Try.prog 20 := by
  refine fn_ok clone_H 0 rfl _ Try.func20 rfl rfl trivial rfl rfl (by kernel_rfl) (fun _ => Nat.le_of_ble_eq_true rfl) ?_
  intro (b : List (BitVec 8)) hp hr
  try dsimp only [clone_c, rowC] at hp
  try simp only [clone_c, rowC, Rng, RngL, inR, and_true, true_and] at hr
  repeat' (first | (with_reducible refine Unf.h ?_) | ((conv => whnf); first | (refine Side.mk ?_ ?_; focus (first | with_reducible rfl | (intros; (try simp only [lenS, inR, cutS, loI, hiI] at *); omega) | exact List.eq_nil_of_length_eq_zero (by assumption))) | refine RetE.mk () trivial ?_ | refine boolK (fun h => ?_) ?_ | refine retK_r ?_ | exact rfl) | fail); all_goals try (conv => whnf)
  all_goals all_goals (conv => whnf)
def cloneS_c : Ctr := rowS Bs0 (fun b => b.length ≤ 1000000) (fun b => b) (fun b => b) 5
def cloneL_c : Ctr := rowL Bs0 (fun b => b.length ≤ 1000000) (fun b => b) (fun b => b) 5
theorem cloneS_ok : cloneS_c.Ok Try.prog 20 := rowS_ok clone_ok
theorem cloneL_ok : cloneL_c.Ok Try.prog 20 := rowL_ok clone_ok
def send_c : Ctr where
  D := Int × Bs0 × List Fv × Int
  pre := fun (_, b, l, lost) => b.length ≤ 1000000 ∧ l.length ≤ 100000 ∧ 0 ≤ lost ∧ lost ≤ 1000000
  args := fun (to, b, _, _) => [.ptr 0 0, .int .i64 to, .fs 1 eB b]
  objs := fun (_, _, l, lost) => netS l lost
  nn := 3
  E := List Fv × Int
  post := fun (to, b, l, lost) (l', lost') => if b.length ≤ 20000 ∧ l.length < 64 then (∃ v, l' = l ++ [⟨to, v, b⟩]) ∧ lost' = lost else l' = l ∧ lost' = lost + 1
  res := fun (_, b, l, _) _ => .dec (b.length ≤ 20000 ∧ l.length < 64) inferInstance
  out := fun _ (l', lost') => [(0, .box 28 [.own 3, .int .i64 lost']), (3, .row 31 2 eFv l'), (2, .ab (subsAO 5 (vbs l')))]
  mm := 1
def send_H : Cfg := ⟨[(20, clone_c)], [(6, [4], [7, 9, 10, 13], (.one 0 0 false (.one 1 0 false (.one 2 0 false (.one 3 0 false (.one 4 1 false (.one 5 0 false (.one 6 0 false (.one 7 2 true (.one 8 0 false (.one 9 2 true (.one 10 2 false (.one 11 0 false (.one 12 0 false (.one 13 2 false .nil)))))))))))))), [])], [], [], 40, 3, [], [], [35]⟩
theorem send_ok : send_c.Ok Try.prog 8 := by
  refine fn_ok send_H 3 rfl _ Try.func8 rfl rfl ⟨clone_ok, trivial⟩ rfl rfl (by kernel_rfl) (fun _ => Nat.le_of_ble_eq_true rfl) ?_
  rintro ⟨to, b, l, lost⟩ hp hr
  try dsimp only [send_c] at hp
  try simp only [send_c, Rng, RngL, inR, and_true, true_and] at hr
  repeat' (first | (with_reducible refine Unf.h ?_) | ((conv => whnf); first | refine Fork.mk (fun h => ?_) (fun h => ?_) | (refine Side.mk ?_ ?_; focus ((intros; (try simp only [lenS, inR, cutS, loI, hiI] at *); omega))) | refine retK_r ?_) | fail); all_goals try (conv => whnf)
  · have hn : ¬ (b.length ≤ 20000 ∧ l.length < 64) := fun h' => by omega
    refine RetE.mk (l, lost + 1) (by show if _ then _ else _; rw [if_neg hn]; exact ⟨rfl, rfl⟩) ?_
    repeat' (first | (with_reducible refine Unf.h ?_) | ((conv => whnf); first | (refine Side.mk ?_ ?_; focus (first | with_reducible rfl | (refine ⟨fun h => ?_, fun h => ?_⟩ <;> first | rfl | (cases h; done) | omega | (exfalso; omega) | (simp only [Bool.false_eq_true] at h; done)))) | exact rfl) | fail); all_goals try (conv => whnf)
  · have hn : ¬ (b.length ≤ 20000 ∧ l.length < 64) := fun h' => by omega
    refine RetE.mk (l, lost + 1) (by show if _ then _ else _; rw [if_neg hn]; exact ⟨rfl, rfl⟩) ?_
    repeat' (first | (with_reducible refine Unf.h ?_) | ((conv => whnf); first | (refine Side.mk ?_ ?_; focus (first | with_reducible rfl | (refine ⟨fun h => ?_, fun h => ?_⟩ <;> first | rfl | (cases h; done) | omega | (exfalso; omega) | (simp only [Bool.false_eq_true] at h; done)))) | exact rfl) | fail); all_goals try (conv => whnf)
  · have hy : b.length ≤ 20000 ∧ l.length < 64 := by omega
    have hpre : clone_c.pre b := by show b.length ≤ 1000000; omega
    refine CallS.mk (c := clone_c) (b) ?_
    repeat' (first | (with_reducible refine Unf.h ?_) | ((conv => whnf); first | (refine Side.mk ?_ ?_; focus (first | with_reducible rfl | assumption)) | refine Got.mk (fun _ _ => ?_)) | fail); all_goals try (conv => whnf)
    all_goals (refine ValS.mk (OrdK.sealS (P := Try.prog) (objs1 := ?o) 2 5 ?m 34 (vbs l) b ?ha ?hb ?hc (fun v => ?hd)); (case ha => exact rfl); (case hb => exact rfl); (case hc => exact rfl))
    all_goals repeat' (first | (with_reducible refine Unf.h ?_) | fail); all_goals try (conv => whnf)
    all_goals refine ⟨[⟨to, v, b⟩], rfl, ?_⟩
    all_goals repeat' (first | (with_reducible refine Unf.h ?_) | ((conv => whnf); first | (refine Side.mk ?_ ?_; focus ((intros; (try simp only [lenS, inR, cutS, loI, hiI] at *); omega))) | refine retK_r ?_) | fail); all_goals try (conv => whnf)
    all_goals refine RetE.mk (l ++ [⟨to, v, b⟩], lost) (by show if _ then _ else _; rw [if_pos hy]; exact ⟨⟨v, rfl⟩, rfl⟩) ?_
    all_goals (repeat' (first | (with_reducible refine Unf.h ?_) | ((conv => whnf); first | (refine Side.mk ?_ ?_; focus (first | with_reducible rfl | (refine ⟨fun h => ?_, fun h => ?_⟩ <;> first | rfl | (cases h; done) | omega | (exfalso; omega) | (simp only [Bool.false_eq_true] at h; done)) | (simp only [*, hy, vbs_snoc]; done))) | exact rfl) | fail); all_goals try (conv => whnf))
    all_goals all_goals (conv => whnf)
def len_c : Ctr where
  D := List Fv × Int
  args := fun _ => [.ptr 0 0]
  objs := fun (l, lost) => net l lost
  nn := 2
  res := fun (l, _) _ => .int .i64 l.length
  out := fun (l, lost) _ => net l lost
def len_H : Cfg := ⟨[], [], [], [], 10, 2, [], [], []⟩
theorem len_ok : len_c.Ok Try.prog 14 := by
  refine fn_ok len_H 2 rfl _ Try.func14 rfl rfl trivial rfl rfl (by kernel_rfl) (fun _ => Nat.le_of_ble_eq_true rfl) ?_
  rintro ⟨l, lost⟩ hp hr
  try dsimp only [len_c] at hp
  try simp only [len_c, Rng, RngL, inR, and_true, true_and] at hr
  repeat' (first | (with_reducible refine Unf.h ?_) | ((conv => whnf); first | (refine Side.mk ?_ ?_; focus (first | with_reducible rfl | (refine congrArg (SV.int _) ?_; omega))) | refine RetE.mk () trivial ?_ | refine retK_r ?_ | exact rfl) | fail); all_goals try (conv => whnf)
def lost_c : Ctr where
  D := List Fv × Int
  args := fun _ => [.ptr 0 0]
  objs := fun (l, lost) => net l lost
  nn := 2
  res := fun (_, lost) _ => .int .i64 lost
  out := fun (l, lost) _ => net l lost
def lost_H : Cfg := ⟨[], [], [], [], 9, 2, [], [], []⟩
theorem lost_ok : lost_c.Ok Try.prog 15 := by
  refine fn_ok lost_H 2 rfl _ Try.func15 rfl rfl trivial rfl rfl (by kernel_rfl) (fun _ => Nat.le_of_ble_eq_true rfl) ?_
  rintro ⟨l, lost⟩ hp hr
  try dsimp only [lost_c] at hp
  try simp only [lost_c, Rng, RngL, inR, and_true, true_and] at hr
  repeat' (first | (with_reducible refine Unf.h ?_) | ((conv => whnf); first | (refine Side.mk ?_ ?_; focus (first | with_reducible rfl | (refine congrArg (SV.int _) ?_; omega))) | refine RetE.mk () trivial ?_ | refine retK_r ?_ | exact rfl) | fail); all_goals try (conv => whnf)
def awake_c : Ctr where
  D := Unit
  args := fun _ => []
  res := fun _ _ => .bool true
def awake_H : Cfg := ⟨[(8, send_c), (14, len_c)], [], [], [], 13, 0, [], [], []⟩
theorem awake_ok : awake_c.Ok Try.prog 7 := by
  refine fn_ok awake_H 0 rfl _ Try.func7 rfl rfl ⟨send_ok, len_ok, trivial⟩ rfl rfl (by kernel_rfl) (fun _ => Nat.le_of_ble_eq_true rfl) ?_
  intro (_ : Unit) hp hr
  refine Vc.newS 5 ?_
  have hpre : send_c.pre (1, [97#8], [], 0) := ⟨by decide, by decide, by decide, by decide⟩
  repeat' (first | (with_reducible refine Unf.h ?_) | ((conv => whnf); first | refine Fork.mk (fun h => ?_) (fun h => ?_) | (refine Side.mk ?_ ?_; focus (first | with_reducible rfl | assumption | (intros; (try simp only [lenS, inR, cutS, loI, hiI] at *); omega) | (simp only [*, List.map_cons, List.map_nil, eB]; done))) | refine RetE.mk () trivial ?_ | refine Got.mk (fun _ _ => ?_) | refine Ex.mk [_] rfl ?_ | refine retK_r ?_ | exact rfl | refine CallS.mk (c := send_c) ((1, [97#8], [], 0)) ?_) | fail); all_goals try (conv => whnf)
  · rename_i e he
    obtain ⟨l', lost'⟩ := e
    have he' : (∃ v, l' = [] ++ [⟨1, v, [97#8]⟩]) ∧ lost' = 0 := he
    obtain ⟨⟨v, rfl⟩, rfl⟩ := he'
    refine CallS.mk (c := len_c) (([] ++ [⟨1, v, [97#8]⟩], 0)) ?_
    repeat' (first | (with_reducible refine Unf.h ?_) | ((conv => whnf); first | (refine Side.mk ?_ ?_; focus (first | with_reducible rfl | exact True.intro | (simp [*]; done))) | refine RetE.mk () trivial ?_ | refine Got.mk (fun _ _ => ?_) | refine retK_r ?_ | exact rfl) | fail); all_goals try (conv => whnf)
    all_goals all_goals (conv => whnf)
  all_goals all_goals (conv => whnf)
theorem vbs_len (l : List Fv) : (vbs l).length = l.length := by simp [vbs]
def frAt (l : List Fv) (i : Int) : Fv := if h : 0 ≤ i ∧ i < l.length then l[i.toNat]'(by omega) else ⟨0, .slice none 0 0, []⟩
theorem frAt_in {l : List Fv} {i : Int} (h0 : 0 ≤ i) (h : i.toNat < l.length) : l[i.toNat] = frAt l i := by unfold frAt; rw [dif_pos ⟨h0, by omega⟩]
def peek_c : Ctr where
  D := Int × List Fv × Int
  pre := fun (i, l, _) => 0 ≤ i ∧ i < l.length ∧ (frAt l i).b.length ≤ 1000000
  args := fun (i, _, _) => [.ptr 0 0, .int .i64 i]
  objs := fun (_, l, lost) => netS l lost
  nn := 3
  res := fun (i, l, _) _ => .tup [.agg [.int .i64 (frAt l i).to, .own 3], .bool true]
  out := fun (i, l, lost) _ => netS l lost ++ [(3, .row 5 1 eB (frAt l i).b)]
  mm := 1
def peek_H : Cfg := ⟨[(21, has_c), (20, cloneL_c)], [(4, [1, 3], [4, 6], (.one 0 0 false (.one 1 1 false (.one 2 0 false (.one 3 1 false (.one 4 2 true (.one 5 0 false (.one 6 2 false (.one 7 0 false .nil)))))))), [])], [], [], 25, 3, [], [], []⟩
theorem peek_ok : peek_c.Ok Try.prog 9 := by
  refine fn_ok peek_H 3 rfl _ Try.func9 rfl rfl ⟨has_ok, cloneL_ok, trivial⟩ rfl rfl (by kernel_rfl) (fun _ => Nat.le_of_ble_eq_true rfl) ?_
  rintro ⟨i, l, lost⟩ hp hr
  try dsimp only [peek_c] at hp
  try simp only [peek_c, Rng, RngL, inR, and_true, true_and] at hr
  obtain ⟨h0, h1, h2⟩ := hp
  have hi : i.toNat < l.length := by omega
  have e := frAt_in h0 hi
  have hmem : ((frAt l i).v, (frAt l i).b) ∈ vbs l := List.mem_map.2 ⟨_, by rw [← e]; exact List.getElem_mem hi, rfl⟩
  have hpre : cloneL_c.pre ((frAt l i).b, (frAt l i).v, vbs l) := ⟨h2, hmem⟩
  repeat' (first | (with_reducible refine Unf.h ?_) | ((conv => whnf); first | refine Fork.mkn (fun h => ?_) (fun h => ?_) | (refine Side.mk ?_ ?_; focus (first | with_reducible rfl | exact True.intro | assumption | omega | (simp only [*, e]; done))) | (refine Idx.mk ?_ ?_; focus (omega)) | refine RetE.mk () trivial ?_ | refine Got.mk (fun _ _ => ?_) | refine retK_r ?_ | exact rfl | refine CallS.mk (c := has_c) ((i, l, lost)) ?_ | refine CallS.mk (c := cloneL_c) (((frAt l i).b, (frAt l i).v, vbs l)) ?_) | fail); all_goals try (conv => whnf)
  all_goals all_goals (conv => whnf)
def peekX_c : Ctr where
  D := Int × List Fv × Int
  pre := fun (i, l, _) => ¬ (0 ≤ i ∧ i < l.length)
  args := fun (i, _, _) => [.ptr 0 0, .int .i64 i]
  objs := fun (_, l, lost) => net l lost
  nn := 2
  res := fun _ _ => .tup [.agg [.int .i64 0, .nils], .bool false]
  out := fun (_, l, lost) _ => net l lost
def peekX_H : Cfg := ⟨[(21, has_c), (20, cloneL_c)], [(4, [1, 3], [4, 6], (.one 0 0 false (.one 1 1 false (.one 2 0 false (.one 3 1 false (.one 4 2 true (.one 5 0 false (.one 6 2 false (.one 7 0 false .nil)))))))), [])], [], [], 25, 2, [], [], []⟩
theorem peekX_ok : peekX_c.Ok Try.prog 9 := by
  refine fn_ok peekX_H 2 rfl _ Try.func9 rfl rfl ⟨has_ok, cloneL_ok, trivial⟩ rfl rfl (by kernel_rfl) (fun _ => Nat.le_of_ble_eq_true rfl) ?_
  rintro ⟨i, l, lost⟩ hp hr
  try dsimp only [peekX_c] at hp
  try simp only [peekX_c, Rng, RngL, inR, and_true, true_and] at hr
  repeat' (first | (with_reducible refine Unf.h ?_) | ((conv => whnf); first | refine Fork.mkn (fun h => ?_) (fun h => ?_) | (refine Side.mk ?_ ?_; focus (first | with_reducible rfl | exact True.intro | assumption)) | (refine Idx.mk ?_ ?_; focus (omega)) | refine RetE.mk () trivial ?_ | refine Got.mk (fun _ _ => ?_) | refine retK_r ?_ | exact rfl | refine CallS.mk (c := has_c) ((i, l, lost)) ?_) | fail); all_goals try (conv => whnf)
  all_goals exact absurd (by assumption) hp
end Go.Proofs.Ytnjjhhnkanklfaa

namespace Go.Proofs.Ytnjjhhnkanklfaa
set_option linter.all false
open Go.RowKit
/-! a net's other calls -/
def cloneO_c : Ctr := rowO Bs0 (fun b => b.length ≤ 1000000) (fun b => b) (fun b => b) 5
theorem cloneO_ok : cloneO_c.Ok Try.prog 20 := rowO_ok clone_ok
/-- a row of one's own is sent, and stays -/
def sendO_c : Ctr where
  D := Int × Bs0 × List Fv × Int
  pre := fun (_, b, l, lost) => b.length ≤ 1000000 ∧ l.length ≤ 100000 ∧ 0 ≤ lost ∧ lost ≤ 1000000
  args := fun (to, _, _, _) => [.ptr 0 0, .int .i64 to, .own 3]
  objs := fun (_, b, l, lost) => netS l lost ++ [(3, .row 5 1 eB b)]
  nn := 4
  E := List Fv × Int
  post := fun (to, b, l, lost) (l', lost') => if b.length ≤ 20000 ∧ l.length < 64 then (∃ v, l' = l ++ [⟨to, v, b⟩]) ∧ lost' = lost else l' = l ∧ lost' = lost + 1
  res := fun (_, b, l, _) _ => .dec (b.length ≤ 20000 ∧ l.length < 64) inferInstance
  out := fun (_, b, _, _) (l', lost') => [(0, .box 28 [.own 4, .int .i64 lost']), (4, .row 31 2 eFv l'), (2, .ab (subsAO 5 (vbs l'))), (3, .row 5 1 eB b)]
  mm := 1
def sendO_H : Cfg := ⟨[(20, cloneO_c)], [(6, [4], [7, 9, 10, 13], (.one 0 0 false (.one 1 0 false (.one 2 0 false (.one 3 0 false (.one 4 1 false (.one 5 0 false (.one 6 0 false (.one 7 2 true (.one 8 0 false (.one 9 2 true (.one 10 2 false (.one 11 0 false (.one 12 0 false (.one 13 2 false .nil)))))))))))))), [])], [], [], 40, 4, [], [], [35]⟩
theorem sendO_ok : sendO_c.Ok Try.prog 8 := by
  refine fn_ok sendO_H 4 rfl _ Try.func8 rfl rfl ⟨cloneO_ok, trivial⟩ rfl rfl (by kernel_rfl) (fun _ => Nat.le_of_ble_eq_true rfl) ?_
  rintro ⟨to, b, l, lost⟩ hp hr
  try dsimp only [sendO_c] at hp
  try simp only [sendO_c, Rng, RngL, inR, and_true, true_and] at hr
  repeat' (first | (with_reducible refine Unf.h ?_) | ((conv => whnf); first | refine Fork.mk (fun h => ?_) (fun h => ?_) | (refine Side.mk ?_ ?_; focus ((intros; (try simp only [lenS, inR, cutS, loI, hiI] at *); omega))) | refine retK_r ?_) | fail); all_goals try (conv => whnf)
  · have hn : ¬ (b.length ≤ 20000 ∧ l.length < 64) := fun h' => by omega
    refine RetE.mk (l, lost + 1) (by show if _ then _ else _; rw [if_neg hn]; exact ⟨rfl, rfl⟩) ?_
    repeat' (first | (with_reducible refine Unf.h ?_) | ((conv => whnf); first | (refine Side.mk ?_ ?_; focus (first | with_reducible rfl | (refine ⟨fun h => ?_, fun h => ?_⟩ <;> first | rfl | (cases h; done) | omega | (exfalso; omega) | (simp only [Bool.false_eq_true] at h; done)))) | exact rfl) | fail); all_goals try (conv => whnf)
  · have hn : ¬ (b.length ≤ 20000 ∧ l.length < 64) := fun h' => by omega
    refine RetE.mk (l, lost + 1) (by show if _ then _ else _; rw [if_neg hn]; exact ⟨rfl, rfl⟩) ?_
    repeat' (first | (with_reducible refine Unf.h ?_) | ((conv => whnf); first | (refine Side.mk ?_ ?_; focus (first | with_reducible rfl | (refine ⟨fun h => ?_, fun h => ?_⟩ <;> first | rfl | (cases h; done) | omega | (exfalso; omega) | (simp only [Bool.false_eq_true] at h; done)))) | exact rfl) | fail); all_goals try (conv => whnf)
  · have hy : b.length ≤ 20000 ∧ l.length < 64 := by omega
    have hpre : cloneO_c.pre b := by show b.length ≤ 1000000; omega
    refine CallS.mk (c := cloneO_c) (b) ?_
    repeat' (first | (with_reducible refine Unf.h ?_) | ((conv => whnf); first | (refine Side.mk ?_ ?_; focus (first | with_reducible rfl | assumption)) | refine Got.mk (fun _ _ => ?_)) | fail); all_goals try (conv => whnf)
    all_goals (refine ValS.mk (OrdK.sealS (P := Try.prog) (objs1 := ?o) 2 5 ?m 34 (vbs l) b ?ha ?hb ?hc (fun v => ?hd)); (case ha => exact rfl); (case hb => exact rfl); (case hc => exact rfl))
    all_goals repeat' (first | (with_reducible refine Unf.h ?_) | fail); all_goals try (conv => whnf)
    all_goals refine ⟨[⟨to, v, b⟩], rfl, ?_⟩
    all_goals repeat' (first | (with_reducible refine Unf.h ?_) | ((conv => whnf); first | (refine Side.mk ?_ ?_; focus ((intros; (try simp only [lenS, inR, cutS, loI, hiI] at *); omega))) | refine retK_r ?_) | fail); all_goals try (conv => whnf)
    all_goals refine RetE.mk (l ++ [⟨to, v, b⟩], lost) (by show if _ then _ else _; rw [if_pos hy]; exact ⟨⟨v, rfl⟩, rfl⟩) ?_
    all_goals (repeat' (first | (with_reducible refine Unf.h ?_) | ((conv => whnf); first | (refine Side.mk ?_ ?_; focus (first | with_reducible rfl | (refine ⟨fun h => ?_, fun h => ?_⟩ <;> first | rfl | (cases h; done) | omega | (exfalso; omega) | (simp only [Bool.false_eq_true] at h; done)) | (simp only [*, hy, vbs_snoc]; done))) | exact rfl) | fail); all_goals try (conv => whnf))
    all_goals all_goals (conv => whnf)
end Go.Proofs.Ytnjjhhnkanklfaa

namespace Go.Proofs.Ytnjjhhnkanklfaa
set_option linter.all false
open Go.RowKit
def copy_c : Ctr where
  D := Int × List Fv × Int
  pre := fun (i, l, lost) => 0 ≤ i ∧ i < l.length ∧ (frAt l i).b.length ≤ 1000000 ∧ l.length ≤ 100000 ∧ 0 ≤ lost ∧ lost ≤ 1000000
  args := fun (i, _, _) => [.ptr 0 0, .int .i64 i]
  objs := fun (_, l, lost) => netS l lost
  nn := 3
  E := List Fv × Int
  post := fun (i, l, lost) (l', lost') => if (frAt l i).b.length ≤ 20000 ∧ l.length < 64 then (∃ v, l' = l ++ [⟨(frAt l i).to, v, (frAt l i).b⟩]) ∧ lost' = lost else l' = l ∧ lost' = lost + 1
  res := fun (i, l, _) _ => .dec ((frAt l i).b.length ≤ 20000 ∧ l.length < 64) inferInstance
  out := fun _ (l', lost') => [(0, .box 28 [.own 3, .int .i64 lost']), (3, .row 31 2 eFv l'), (2, .ab (subsAO 5 (vbs l')))]
  mm := 1
def copy_H : Cfg := ⟨[(9, peek_c), (8, send_c)], [], [], [], 22, 3, [], [], []⟩
theorem copy_ok : copy_c.Ok Try.prog 10 := by
  refine fn_ok copy_H 3 rfl _ Try.func10 rfl rfl ⟨peek_ok, send_ok, trivial⟩ rfl rfl (by kernel_rfl) (fun _ => Nat.le_of_ble_eq_true rfl) ?_
  rintro ⟨i, l, lost⟩ hp hr
  try dsimp only [copy_c] at hp
  try simp only [copy_c, Rng, RngL, inR, and_true, true_and] at hr
  obtain ⟨h0, h1, h2, h3, h4, h5⟩ := hp
  have hpre : peek_c.pre (i, l, lost) := ⟨h0, h1, h2⟩
  have hpre2 : send_c.pre ((frAt l i).to, (frAt l i).b, l, lost) := ⟨h2, h3, h4, h5⟩
  repeat' (first | (with_reducible refine Unf.h ?_) | ((conv => whnf); first | (refine Side.mk ?_ ?_; focus (first | with_reducible rfl | assumption)) | refine Got.mk (fun _ _ => ?_) | refine retK_r ?_ | refine CallS.mk (c := peek_c) ((i, l, lost)) ?_ | refine CallS.mk (c := send_c) (((frAt l i).to, (frAt l i).b, l, lost)) ?_) | fail); all_goals try (conv => whnf)
  all_goals (rename_i e he; obtain ⟨l', lost'⟩ := e; refine RetE.mk (l', lost') he ?_)
  all_goals repeat' (first | (with_reducible refine Unf.h ?_) | ((conv => whnf); first | (refine Side.mk ?_ ?_; focus (with_reducible rfl)) | exact rfl) | fail); all_goals try (conv => whnf)
  all_goals all_goals (conv => whnf)
def modB (b : Bs0) (k : Int) (x : BitVec 8) : Bs0 := b.set k.toNat (b.getD k.toNat 0 ^^^ x)
def setB (l : List Fv) (i k : Int) (x : BitVec 8) : List Fv := l.set i.toNat { frAt l i with b := modB (frAt l i).b k x }
theorem split_at {α : Type} : ∀ (l : List α) (n : Nat) (h : n < l.length), l = l.take n ++ l[n] :: l.drop (n + 1)
  | a :: r, 0, _ => by simp
  | a :: r, n + 1, h => by simpa using split_at r n (by simpa using h)
theorem vbs_at {l : List Fv} {i : Int} (h0 : 0 ≤ i) (h : i.toNat < l.length) : vbs l = vbs (l.take i.toNat) ++ ((frAt l i).v, (frAt l i).b) :: vbs (l.drop (i.toNat + 1)) := by
  conv => lhs; rw [split_at l i.toNat h, frAt_in h0 h]
  simp [vbs]
theorem vbs_set {l : List Fv} {i : Int} (k : Int) (x : BitVec 8) (h0 : 0 ≤ i) (h : i.toNat < l.length) : vbs (setB l i k x) = vbs (l.take i.toNat) ++ ((frAt l i).v, modB (frAt l i).b k x) :: vbs (l.drop (i.toNat + 1)) := by
  unfold setB
  rw [List.set_eq_take_append_cons_drop, if_pos h]
  simp [vbs]
def turn0_c : Ctr where
  D := Int × Int × BitVec 8 × List Fv × Int
  args := fun (i, k, x, _, _) => [.ptr 0 0, .int .i64 i, .int .i64 k, .u8 x]
  objs := fun (_, _, _, l, lost) => netS l lost
  nn := 3
  E := Bool × List Fv
  post := fun (i, k, x, l, _) (r, l') => r = decide (0 ≤ i ∧ i < l.length ∧ 0 ≤ k ∧ k < (frAt l i).b.length) ∧ l' = if 0 ≤ i ∧ i < l.length ∧ 0 ≤ k ∧ k < (frAt l i).b.length then setB l i k x else l
  res := fun _ (r, _) => .bool r
  out := fun (_, _, _, l, lost) (_, l') => [(0, .box 28 [.own 1, .int .i64 lost]), (1, .row 31 2 eFv l), (2, .ab (subsAO 5 (vbs l')))]
def turn0_H : Cfg := ⟨[(21, has_c)], [], [], [], 44, 3, [], [], []⟩
theorem turn0_ok : turn0_c.Ok Try.prog 11 := by
  refine fn_ok turn0_H 3 rfl _ Try.func11 rfl rfl ⟨has_ok, trivial⟩ rfl rfl (by kernel_rfl) (fun _ => Nat.le_of_ble_eq_true rfl) ?_
  rintro ⟨i, k, x, l, lost⟩ hp hr
  try dsimp only [turn0_c] at hp
  try simp only [turn0_c, Rng, RngL, inR, and_true, true_and] at hr
  repeat' (first | (with_reducible refine Unf.h ?_) | ((conv => whnf); first | refine Fork.mkn (fun h => ?_) (fun h => ?_) | refine Fork.mk (fun h => ?_) (fun h => ?_) | (refine Side.mk ?_ ?_; focus (first | with_reducible rfl | exact True.intro | assumption)) | (refine Idx.mk ?_ ?_; focus (omega)) | refine Got.mk (fun _ _ => ?_) | refine retK_r ?_ | refine CallS.mk (c := has_c) ((i, l, lost)) ?_) | fail); all_goals try (conv => whnf)
  · refine RetE.mk (false, l) ⟨by symm; simp only [decide_eq_false_iff_not]; omega, by rw [if_neg (by omega)]⟩ ?_
    repeat' (first | (with_reducible refine Unf.h ?_) | ((conv => whnf); first | (refine Side.mk ?_ ?_; focus (with_reducible rfl)) | exact rfl) | fail); all_goals try (conv => whnf)
  · refine RetE.mk (false, l) ⟨by symm; simp only [decide_eq_false_iff_not]; omega, by rw [if_neg (by omega)]⟩ ?_
    repeat' (first | (with_reducible refine Unf.h ?_) | ((conv => whnf); first | (refine Side.mk ?_ ?_; focus (with_reducible rfl)) | exact rfl) | fail); all_goals try (conv => whnf)
  · have hi : 0 ≤ i ∧ i < l.length := by assumption
    have hi' : i.toNat < l.length := by omega
    have e := frAt_in hi.1 hi'
    have e2 := vbs_at hi.1 hi'
    have e3 := vbs_set k x hi.1 hi'
    rw [e]
    refine ValS.mk (OpsK.openS (P := Try.prog) (objs1 := ?o) 2 5 (vbs (l.take i.toNat)) (frAt l i).v (frAt l i).b (vbs (l.drop (i.toNat + 1))) 26 ?ha e2 ?hb ?hc ?hd)
    (case ha => exact rfl)
    (case hb => exact rfl)
    (case hc => exact rfl)
    repeat' (first | (with_reducible refine Unf.h ?_) | fail); all_goals try (conv => whnf)
    refine CloseS.mk (frAt l i).b ?o3 ?o4 .nrow ?h3 ?hj ?h4 ?kk
    (case h3 => exact rfl)
    (case hj => exact rfl)
    (case h4 => rw [← e2]; exact rfl)
    repeat' (first | (with_reducible refine Unf.h ?_) | ((conv => whnf); first | refine Fork.mk (fun h => ?_) (fun h => ?_) | (refine Side.mk ?_ ?_; focus (assumption)) | (refine Idx.mk ?_ ?_; focus (omega)) | refine retK_r ?_) | fail); all_goals try (conv => whnf)
    · refine RetE.mk (false, l) ⟨by symm; simp only [decide_eq_false_iff_not]; omega, by rw [if_neg (by omega)]⟩ ?_
      repeat' (first | (with_reducible refine Unf.h ?_) | ((conv => whnf); first | (refine Side.mk ?_ ?_; focus (with_reducible rfl)) | exact rfl) | fail); all_goals try (conv => whnf)
    have hk' : k.toNat < (frAt l i).b.length := by omega
    have e4 : modB (frAt l i).b k x = List.set (frAt l i).b k.toNat ((frAt l i).b[k.toNat] ^^^ x) := by unfold modB; rw [List.getD_eq_getElem?_getD, List.getElem?_eq_getElem hk']; rfl
    rw [e]
    refine ValS.mk (OpsK.openS (P := Try.prog) (objs1 := ?ox) 2 5 (vbs (l.take i.toNat)) (frAt l i).v (frAt l i).b (vbs (l.drop (i.toNat + 1))) 37 ?hax e2 ?hbx ?hcx ?hdx)
    (case hax => exact rfl)
    (case hbx => exact rfl)
    (case hcx => exact rfl)
    repeat' (first | (with_reducible refine Unf.h ?_) | ((conv => whnf); first | (refine Side.mk ?_ ?_; focus (omega)) | (refine Idx.mk ?_ ?_; focus (omega)) | refine Ex.mk _ rfl ?_) | fail); all_goals try (conv => whnf)
    rw [← e4]
    refine CloseS.mk (modB (frAt l i).b k x) ?o3x ?o4x .nrow ?h3x ?hjx ?h4x ?kkx
    (case h3x => exact rfl)
    (case hjx => exact rfl)
    (case h4x => rw [← e3]; exact rfl)
    repeat' (first | (with_reducible refine Unf.h ?_) | ((conv => whnf); refine retK_r ?_) | fail); all_goals try (conv => whnf)
    refine RetE.mk (true, setB l i k x) ⟨by symm; simp only [decide_eq_true_eq]; omega, by rw [if_pos (by omega)]⟩ ?_
    repeat' (first | (with_reducible refine Unf.h ?_) | ((conv => whnf); first | (refine Side.mk ?_ ?_; focus (with_reducible rfl)) | exact rfl) | fail); all_goals try (conv => whnf)
theorem eFv_set {l : List Fv} {i : Int} (k : Int) (x : BitVec 8) (h0 : 0 ≤ i) (h : i.toNat < l.length) : l.map eFv = (setB l i k x).map eFv := by
  unfold setB
  conv => lhs; rw [split_at l i.toNat h, frAt_in h0 h]
  rw [List.set_eq_take_append_cons_drop, if_pos h]
  simp
def turn_c : Ctr := { turn0_c with out := fun (_, _, _, _, lost) (_, l') => netS l' lost }
theorem turn_ok : turn_c.Ok Try.prog 11 := turn0_ok.out (by
  rintro ⟨i, k, x, l, lost⟩ ⟨r, l'⟩ hp ⟨_, rfl⟩
  refine ⟨rfl, soSame.rfl', rfl, ?_, rfl, soSame.rfl', trivial⟩
  split
  · rename_i hc
    exact soSame.row (eFv_set k x hc.1 (by omega))
  · exact soSame.rfl')
end Go.Proofs.Ytnjjhhnkanklfaa

namespace Go.Proofs.Ytnjjhhnkanklfaa
set_option linter.all false
open Go.RowKit
def same_c : Ctr where
  D := List (BitVec 8) × List (BitVec 8)
  pre := fun _ => True
  args := fun (a, b) => [.fs 1 eB a, .fs 1 eB b]
  objs := fun _ => []
  nn := 0
  E := Unit
  post := fun _ _ => True
  res := fun (a, b) _ => .dec (a = b) inferInstance
  out := fun _ _ => []
  mm := 0
def same_H : Cfg := ⟨[], [(6, [3, 7], [], (.one 0 0 false (.one 1 0 false (.one 2 0 false (.one 3 1 false (.one 4 0 false (.one 5 0 false (.one 6 0 false (.one 7 1 false (.one 8 0 false .nil))))))))), [])], [], [], 26, 0, [], [], []⟩
theorem same_ok : same_c.Ok Try.prog 12 := by
  refine fn_ok same_H 0 rfl _ Try.func12 rfl rfl trivial rfl rfl (by kernel_rfl) (fun _ => Nat.le_of_ble_eq_true rfl) ?_
  rintro ⟨a, b⟩ hp hr
  try dsimp only [same_c] at hp
  try simp only [same_c, Rng, RngL, inR, and_true, true_and] at hr
  repeat' (first | (with_reducible refine Unf.h ?_) | ((conv => whnf); first | refine Fork.mkn (fun h => ?_) (fun h => ?_) | refine RetE.mk () trivial ?_ | refine retK_r ?_) | fail); all_goals try (conv => whnf)
  · exact Side.mk ⟨fun h => (by cases h), fun e => absurd (congrArg (fun l => ((List.length l : Nat) : Int)) e) h⟩ (by repeat' (first | (with_reducible refine Unf.h ?_) | ((conv => whnf); exact rfl) | fail); all_goals try (conv => whnf))
  have hl : a.length = b.length := by omega
  refine LoopS.mk (fun i : Nat => i ≤ a.length ∧ a.take i = b.take i) (fun i => [(0, .fs 1 eB a), (1, .fs 1 eB b), (5, .int .i64 i)]) (fun _ => []) 0 (fun i => a.length - i) 0 ⟨Nat.zero_le _, rfl⟩ ?_ ?_
  · repeat' (first | (with_reducible refine Unf.h ?_) | ((conv => whnf); first | (refine Side.mk ?_ ?_; focus (first | with_reducible rfl | (refine congrArg (SV.int _) ?_; omega))) | (with_reducible refine Unf.h ?_) | exact True.intro) | fail); all_goals try (conv => whnf)
  · rintro i ⟨hi, he⟩
    repeat' (first | (with_reducible first | refine Unf.h ?_ | refine loopK_n ?_) | ((conv => whnf); first | refine Fork.mkn (fun h => ?_) (fun h => ?_) | refine Fork.mk (fun h => ?_) (fun h => ?_) | (refine Side.mk ?_ ?_; focus ((intros; (try simp only [lenS, inR, cutS, loI, hiI] at *); omega))) | (refine Idx.mk ?_ ?_; focus (omega)) | refine RetE.mk () trivial ?_ | refine retK_r ?_) | fail); all_goals try (conv => whnf)
    · exact Side.mk ⟨fun h => (by cases h), fun e => absurd (by subst e; rfl) h⟩ (by repeat' (first | (with_reducible refine Unf.h ?_) | ((conv => whnf); exact rfl) | fail); all_goals try (conv => whnf))
    · refine ⟨i + 1, ⟨by omega, by omega, ?_⟩, by repeat' (first | (with_reducible refine Unf.h ?_) | ((conv => whnf); first | (refine Side.mk ?_ ?_; focus (first | with_reducible rfl | (refine congrArg (SV.int _) ?_; omega))) | (with_reducible refine Unf.h ?_) | exact True.intro) | fail); all_goals try (conv => whnf)⟩
      have h1 : i < a.length := by omega
      have h2 : i < b.length := by omega
      have h3 : a[i] = b[i] := by simpa using h
      rw [List.take_succ_eq_append_getElem h1, List.take_succ_eq_append_getElem h2, he, h3]
    · refine Side.mk ⟨fun _ => ?_, fun _ => rfl⟩ (by repeat' (first | (with_reducible refine Unf.h ?_) | ((conv => whnf); exact rfl) | fail); all_goals try (conv => whnf))
      have : i = a.length := by omega
      rw [this, List.take_length, hl, List.take_length] at he
      exact he
def own_c : Ctr where
  D := Bs0 × BitVec 16
  args := fun (b, x) => [.fs 1 eB b, .u16 x]
  res := fun _ _ => .bool true
def own_H : Cfg := ⟨[(7, awake_c), (8, sendO_c), (9, peek_c), (10, copy_c), (11, turn_c), (12, same_c)], [(15, [1], [3, 6, 9, 13], (.one 0 0 false (.one 1 1 false (.one 2 0 false (.one 3 2 false (.one 4 0 false (.one 5 0 false (.one 7 0 false (.one 10 0 false (.one 11 0 false (.one 12 0 false (.alt 6 false (.one 8 0 false (.alt 9 false (.one 13 2 false (.one 14 0 false (.one 15 0 false (.one 16 0 false (.one 17 0 false .nil))))) (.one 13 2 false (.one 14 0 false (.one 9 2 false (.one 15 0 false (.one 16 0 false (.one 17 0 false .nil)))))))) (.one 13 2 false (.one 14 0 false (.one 6 2 false (.one 8 0 false (.one 9 2 false (.one 15 0 false (.one 16 0 false (.one 17 0 false .nil))))))))))))))))))), [])], [], [], 90, 0, [], [], []⟩
theorem own_ok : own_c.Ok Try.prog 3 := by
  refine fn_ok own_H 0 rfl _ Try.func3 rfl rfl ⟨awake_ok, sendO_ok, peek_ok, copy_ok, turn_ok, same_ok, trivial⟩ rfl rfl (by kernel_rfl) (fun _ => Nat.le_of_ble_eq_true rfl) ?_
  rintro ⟨b, x⟩ hp hr
  try dsimp only [own_c] at hp
  try simp only [own_c, Rng, RngL, inR, and_true, true_and] at hr
  refine Vc.newS 5 ?_
  repeat' (first | (with_reducible refine Unf.h ?_) | ((conv => whnf); first | refine Fork.mk (fun h => ?_) (fun h => ?_) | (refine Side.mk ?_ ?_; focus (first | with_reducible rfl | exact True.intro | (intros; (try simp only [lenS, inR, cutS, loI, hiI] at *); omega))) | refine RetE.mk () trivial ?_ | refine Got.mk (fun _ _ => ?_) | refine retK_r ?_ | exact rfl | refine CallS.mk (c := awake_c) (()) ?_) | fail); all_goals try (conv => whnf)
  have h0 : b.length ≤ 300 := by omega
  have h1 : 0 < b.length := by omega
  have hpre : sendO_c.pre (1, b, [], 0) := ⟨by show b.length ≤ 1000000; omega, by decide, by decide, by decide⟩
  repeat' (first | (with_reducible refine Unf.h ?_) | ((conv => whnf); first | (refine Side.mk ?_ ?_; focus (first | with_reducible rfl | assumption | omega | (simp only [*, List.map_cons, List.map_nil, eB]; done))) | refine Got.mk (fun _ _ => ?_) | refine CallS.mk (c := sendO_c) ((1, b, [], 0)) ?_) | fail); all_goals try (conv => whnf)
  rename_i e he
  obtain ⟨l', lost'⟩ := e
  have he' : if b.length ≤ 20000 ∧ ([] : List Fv).length < 64 then (∃ v, l' = [] ++ [⟨1, v, b⟩]) ∧ lost' = (0 : Int) else l' = [] ∧ lost' = 0 + 1 := he
  rw [if_pos ⟨by omega, by decide⟩] at he'
  obtain ⟨⟨v, rfl⟩, rfl⟩ := he'
  all_goals try (conv => whnf)
  have k0 := Int.emod_nonneg (x.toNat : Int) (show (b.length : Int) ≠ 0 by omega)
  have k1 := Int.emod_lt_of_pos (x.toNat : Int) (show (0 : Int) < b.length by omega)
  generalize (x.toNat : Int) % (b.length : Int) = k at k0 k1 ⊢
  have e0 : frAt ([] ++ [⟨1, v, b⟩]) 0 = ⟨1, v, b⟩ := by simp [frAt]
  have hpre2 : peek_c.pre (0, [] ++ [⟨1, v, b⟩], 0) := ⟨by simp, by simp, by rw [e0]; show b.length ≤ 1000000; omega⟩
  have hpre3 : copy_c.pre (0, [] ++ [⟨1, v, b⟩], 0) := ⟨by simp, by simp, by rw [e0]; show b.length ≤ 1000000; omega, by simp, by simp, by simp⟩
  repeat' (first | (with_reducible refine Unf.h ?_) | ((conv => whnf); first | (refine Side.mk ?_ ?_; focus (first | with_reducible rfl | assumption | omega | (intros; (try simp only [lenS, inR, cutS, loI, hiI, e0] at *); omega))) | (refine Idx.mk ?_ ?_; focus (first | omega | (simp only [lenS, inR, cutS, loI, hiI, e0]; omega))) | refine Got.mk (fun _ _ => ?_) | refine Ex.mk _ rfl ?_ | refine CallS.mk (c := peek_c) ((0, [] ++ [⟨1, v, b⟩], 0)) ?_ | refine CallS.mk (c := copy_c) ((0, [] ++ [⟨1, v, b⟩], 0)) ?_) | fail); all_goals try (conv => whnf)
  rename_i e2 he2
  obtain ⟨l', lost'⟩ := e2
  have he' : if (frAt ([] ++ [⟨1, v, b⟩]) 0).b.length ≤ 20000 ∧ ([] ++ [(⟨1, v, b⟩ : Fv)]).length < 64 then (∃ u, l' = ([] ++ [⟨1, v, b⟩]) ++ [⟨(frAt ([] ++ [⟨1, v, b⟩]) 0).to, u, (frAt ([] ++ [⟨1, v, b⟩]) 0).b⟩]) ∧ lost' = (0 : Int) else l' = [] ++ [⟨1, v, b⟩] ∧ lost' = 0 + 1 := he2
  rw [e0, if_pos ⟨by show b.length ≤ 20000; omega, by simp⟩] at he'
  obtain ⟨⟨u, rfl⟩, rfl⟩ := he'
  generalize hl : ([] ++ [⟨1, v, b⟩]) ++ [(⟨1, u, b⟩ : Fv)] = l2
  have e1 : frAt l2 1 = ⟨1, u, b⟩ := by subst hl; simp [frAt]
  have n1 : l2.length = 2 := by subst hl; simp
  repeat' (first | (with_reducible refine Unf.h ?_) | ((conv => whnf); first | (refine Side.mk ?_ ?_; focus (first | with_reducible rfl | exact True.intro)) | refine Got.mk (fun _ _ => ?_) | refine CallS.mk (c := turn_c) ((1, k, 255#8, l2, 0)) ?_) | fail); all_goals try (conv => whnf)
  rename_i e3 he3
  obtain ⟨r, l3⟩ := e3
  have he3' : r = decide ((0 : Int) ≤ 1 ∧ (1 : Int) < l2.length ∧ 0 ≤ k ∧ k < (frAt l2 1).b.length) ∧ l3 = if (0 : Int) ≤ 1 ∧ (1 : Int) < l2.length ∧ 0 ≤ k ∧ k < (frAt l2 1).b.length then setB l2 1 k 255#8 else l2 := he3
  rw [e1, n1, if_pos ⟨by omega, by omega, k0, k1⟩] at he3'
  obtain ⟨-, rfl⟩ := he3'
  have e4 : frAt (setB l2 1 k 255#8) 0 = ⟨1, v, b⟩ := by subst hl; simp [setB, frAt]
  have e5 : frAt (setB l2 1 k 255#8) 1 = ⟨1, u, modB b k 255#8⟩ := by
    have : frAt (setB l2 1 k 255#8) 1 = { frAt l2 1 with b := modB (frAt l2 1).b k 255#8 } := by subst hl; simp [setB, frAt]
    rw [this, e1]
  have n2 : (setB l2 1 k 255#8).length = 2 := by simp [setB, n1]
  have nm : (modB b k 255#8).length = b.length := by simp [modB]
  generalize setB l2 1 k 255#8 = l3 at e4 e5 n2 ⊢
  have hpre4 : peek_c.pre (0, l3, 0) := ⟨by simp, by rw [n2]; decide, by rw [e4]; show b.length ≤ 1000000; omega⟩
  have hpre5 : peek_c.pre (1, l3, 0) := ⟨by simp, by rw [n2]; decide, by rw [e5]; show (modB b k 255#8).length ≤ 1000000; omega⟩
  refine CallS.mk (c := peek_c) ((0, l3, 0)) ?_
  repeat' (first | (with_reducible refine Unf.h ?_) | ((conv => whnf); first | (refine Side.mk ?_ ?_; focus (first | with_reducible rfl | assumption)) | refine Got.mk (fun _ _ => ?_)) | fail); all_goals try (conv => whnf)
  refine CallS.mk (c := peek_c) ((1, l3, 0)) ?_
  repeat' (first | (with_reducible refine Unf.h ?_) | ((conv => whnf); first | (refine Side.mk ?_ ?_; focus (first | with_reducible rfl | assumption)) | refine Got.mk (fun _ _ => ?_)) | fail); all_goals try (conv => whnf)
  have hx : ∀ (h1 : k.toNat < (modB b k 255#8).length) (h2 : k.toNat < b.length), (modB b k 255#8)[k.toNat]'h1 = b[k.toNat]'h2 ^^^ 255#8 := by
    intro h1 h2
    simp only [modB, List.getElem_set_self, List.getD_eq_getElem?_getD, List.getElem?_eq_getElem h2, Option.getD_some]
  rw [e4, e5]
  refine CallS.mk (c := same_c) (b, b) ?_
  repeat' (first | (with_reducible refine Unf.h ?_) | ((conv => whnf); first | refine Both.mk ?_ ?_ | refine Both.mk ?_ ?_ | refine Fork.mk (fun h => ?_) (fun h => ?_) | (refine Side.mk ?_ ?_; focus (first | with_reducible rfl | exact True.intro | (dsimp only; omega) | (simp [*, nm]; done))) | (refine Idx.mk ?_ ?_; focus (first | omega | (simp only [lenS, inR, cutS, loI, hiI, nm]; omega))) | refine RetE.mk () trivial ?_ | refine Got.mk (fun _ _ => ?_) | refine retK_r ?_ | exact rfl) | fail); all_goals try (conv => whnf)
  all_goals first | exact absurd rfl (by assumption) | refine Side.mk (decide_eq_true (hx _ _)) ?_
  all_goals all_goals try (conv => whnf)
end Go.Proofs.Ytnjjhhnkanklfaa

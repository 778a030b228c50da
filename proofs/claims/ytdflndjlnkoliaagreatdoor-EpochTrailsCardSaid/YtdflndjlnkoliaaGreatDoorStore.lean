import Derived.Test.YtdflndjlnkoliaaGreatDoorEff
/- MY OWN ENGINE: stores. -/
namespace Go.Proofs.YtdflndjlnkoliaaGreatDoor
set_option linter.all false
open Go.RowKit
section
variable {P : Program} [TabC P] {S : Sig} {σ : Sg} {env : Env} {objs : List Ob} {nx : Nat} {o : Oper} {a : Act} {w : World} {x y : Operand} {K : KS}
theorem run_storeVar_at {T : Nat} {i : TI} (ht : ty P T = some i) {w : World} {b off : Nat} {C : Array Value} {t' : TypeId} (hg : w.heap[b]? = some (.cells C t' (0, 0)))
    {v : Value} {l : List Value} (hv : v.cells.toList = l) (hs : l.length = i.size) (hfit : off + l.length ≤ C.size) (h1 : ∀ u ∈ l, u.oneCell' = true) :
    (storeVar T ⟨b, off, none⟩ v).run P w = .ok () (w.setRow b (C.toList.take off ++ l ++ C.toList.drop (off + l.length)).toArray) := by
  have hst := run_storeCells_at P b off t' l 0 C w hg (by simpa using hfit) h1
  simp only [Nat.add_zero] at hst
  have hsz : v.cells.size = i.size := by rw [← hs, ← hv]; simp
  simp [storeVar, run_sizeOf' ht, hsz, hv, hst]
/-- a box turned -/
theorem box_turn {k T' : Nat} {ps ps' : List SV} {objs' : List Ob} {T : Nat} {i : TI} {off : Nat} (ho : o.op = .store T x y) (hd : o.dst = none) (ht : ty P T = some i) (hk : lk objs k = some (.box T' ps)) (hl : setO objs k k (.box T' ps') = some objs') (hK : K env objs' nx)
    (hx : ∀ {σ a w}, St P S σ env objs nx a w → ∀ b, σ k = some (.pointer (some ⟨b, 0, none⟩)) → a.eval x = .pointer (some ⟨b, off, none⟩))
    (hv : ∀ {σ a w cs}, St P S σ env objs nx a w → hL w (S.A σ objs) ps σ cs → (a.eval y).cells.toList.length = i.size ∧ (∀ u ∈ (a.eval y).cells.toList, u.oneCell' = true) ∧ off + i.size ≤ cs.length ∧
      hL w (S.A σ objs) ps' σ (cs.take off ++ (a.eval y).cells.toList ++ cs.drop (off + (a.eval y).cells.toList.length))) : DoesK P S env objs nx o false K := by
  have hs := setO_spec hk hl
  refine DoesK.of hK fun σ a w hst => ?_
  obtain ⟨b, cs, h1, h2, h3⟩ := lk_holds hst hk
  obtain ⟨v1, v2, v3, v4⟩ := hv hst h3
  have hrun := run_storeVar_at (P := P) ht h2 rfl v1 (by rw [v1]; simpa using v3) v2
  have hm := Mod.setRow w b (cs.take off ++ (a.eval y).cells.toList ++ cs.drop (off + (a.eval y).cells.toList.length)).toArray
  obtain ⟨R, e1, e2, _⟩ := hs.owns_iff (σ := σ)
  have hbown : ∀ so : SO, (∃ ps, so = .box T' ps) → ∀ c, so.own σ k c ↔ c = b := by
    rintro so ⟨ps, rfl⟩ c
    simp only [SO.own, h1, Option.some.injEq]
    constructor
    · rintro ⟨v, rfl, h⟩; simp only [blkO, Option.some.injEq] at h; exact h.symm
    · rintro rfl; exact ⟨_, rfl, rfl⟩
  have hM : ∀ c, c = b → owns σ objs c := fun c hc => (e1 c).2 (.inr ((hbown _ ⟨ps, rfl⟩ c).2 hc))
  have hown : ∀ c, owns σ objs' c → owns σ objs c ∨ w.heap.size ≤ c := fun c hc => .inl ((e1 c).2 (((e2 c).1 hc).imp id fun h => (hbown _ ⟨ps, rfl⟩ c).2 ((hbown _ ⟨ps', rfl⟩ c).1 h)))
  refine ⟨.skip, undef, w.setRow b (cs.take off ++ (a.eval y).cells.toList ++ cs.drop (off + (a.eval y).cells.toList.length)).toArray, σ, ?_, .inr ⟨rfl, rfl⟩, ?_, fun e => by cases e⟩
  · simp only [execOp, ho, hx hst b h1, Instr.storeAt, Instr.sureAddr, Sem.run_bind, Sem.run_pure, Result.andThen_ok, hrun]
  · rw [hd]
    refine hst.upd hm hM hown (hst.obs.set hs (hm.mono fun c hc => (hbown _ ⟨ps, rfl⟩ c).2 hc) ⟨b, _, h1, setRow_heap w b _ _ T' _ h2, ?_⟩ (fun c hc => .inl ((hbown _ ⟨ps, rfl⟩ c).2 ((hbown _ ⟨ps', rfl⟩ c).1 hc))) hst.a0lt)
    exact hL.later (hst.lat hm hM hown) _ _ _ v4
theorem hE_set {A : Own} {z size off : Nat} {qs e e' : List SV} {ds : List Value} (hs : setP e off size qs = some e') (hd : hL w A qs σ ds) : ∀ {els : List (List SV)} {cs : List Value} {q : Nat}, hE w A σ els cs → (∀ e ∈ els, szL e = z) → els[q]? = some e →
    hE w A σ (els.set q e') (cs.take (q * z + off) ++ ds ++ cs.drop (q * z + off + ds.length)) ∧ ds.length = size ∧ q * z + off + size ≤ cs.length ∧ szL e' = z
  | [], cs, q, h, hz, hq => by simp at hq
  | e0 :: r, cs, 0, ⟨c, rest, hcs, h1, hr⟩, hz, hq => by
    subst hcs
    simp only [List.getElem?_cons_zero, Option.some.injEq] at hq; subst hq
    obtain ⟨s1, s2, s3, s4⟩ := setP_spec hs h1 hd
    have hcz : c.length = z := by rw [h1.len]; exact hz _ (by simp)
    refine ⟨?_, s2, by rw [List.length_append]; omega, by rw [s4]; exact hz _ (by simp)⟩
    simp only [Nat.zero_mul, Nat.zero_add, List.set_cons_zero, hE]
    refine ⟨_, rest, ?_, s1, hr⟩
    rw [List.take_append_of_le_length (by omega), List.drop_append_of_le_length (by omega)]
    simp [List.append_assoc]
  | e0 :: r, cs, q + 1, ⟨c, rest, hcs, h1, hr⟩, hz, hq => by
    subst hcs
    simp only [List.getElem?_cons_succ] at hq
    have hcz : c.length = z := by rw [h1.len]; exact hz _ (by simp)
    obtain ⟨s1, s2, s3, s4⟩ := hE_set hs hd hr (fun e he => hz e (List.mem_cons_of_mem _ he)) hq
    have e1 : (q + 1) * z + off = c.length + (q * z + off) := by rw [Nat.add_mul, Nat.one_mul]; omega
    refine ⟨?_, s2, by rw [List.length_append]; omega, s4⟩
    simp only [List.set_cons_succ, hE]
    refine ⟨c, _, ?_, h1, s1⟩
    rw [e1, List.take_length_add_append, Nat.add_assoc, ← List.drop_drop, List.drop_left]
    simp [List.append_assoc]
/-- a row turned -/
theorem row_turn {k e z q off : Nat} {els : List (List SV)} {so so' : SO} {pe pe' qs : List SV} {objs' : List Ob} {T : Nat} {i : TI} {s : SV} (ho : o.op = .store T x y) (hd : o.dst = none) (ht : ty P T = some i) (hk : lk objs k = some so) (hl : setO objs k k so' = some objs') (hK : K env objs' nx)
    (hso : ∀ w A σ, so.holds w A σ k ↔ rowH w A σ k e z els) (hso' : ∀ w A σ, so'.holds w A σ k ↔ rowH w A σ k e z (els.set q pe')) (hown : ∀ σ b, so.own σ k b ↔ ∃ v, σ k = some v ∧ blkO v = some b) (hown' : ∀ σ b, so'.own σ k b ↔ ∃ v, σ k = some v ∧ blkO v = some b)
    (hx : evx P env x = some (.rptr k q z off)) (hy : evx P env y = some s) (hq : els[q]? = some pe) (hp : prt s = some qs) (hnn : noName qs = true) (hset : setP pe off i.size qs = some pe') : DoesK P S env objs nx o false K := by
  have hs := setO_spec hk hl
  refine DoesK.of hK fun σ a w hst => ?_
  have hh := (hso _ _ _).1 (lk_holds hst hk)
  have hq' : q < els.length := (List.getElem?_eq_some_iff.1 hq).1
  have hlen47 : els.length ≤ 140737488355328 := by obtain ⟨_, _, _, _, h, _⟩ := hh; exact h
  obtain ⟨g, cap, cur, f1, f2, f3, f4, f5, f6, f7⟩ := hh.form hq'
  obtain ⟨g', l, c, e1, e2⟩ := rptr_ev hx hst
  rw [f1] at e1; cases e1
  have hval := noName_spec hnn (σ' := sg0) (prt_spec hp (hst.ev hy))
  obtain ⟨s1, s2, s3, s4⟩ := hE_set hset hval f6 f7 hq
  have hone := hL.one _ _ _ hval
  have s2' : (a.eval y).cells.size = i.size := by simpa using s2
  have hcl : (cur.toList.take (els.length * z)).length = els.length * z := by rw [List.length_take]; have := Nat.mul_le_mul_right z f3; simp; omega
  rw [hcl] at s3
  have hcap : els.length * z ≤ cap * z := Nat.mul_le_mul_right z f3
  have hfit : q * z + off + (a.eval y).cells.toList.length ≤ cur.size := by rw [s2, f5]; omega
  have hrun := run_storeVar_at (P := P) ht f2 (off := q * z + off) rfl s2 hfit hone
  have hm := Mod.setRow w g (cur.toList.take (q * z + off) ++ (a.eval y).cells.toList ++ cur.toList.drop (q * z + off + (a.eval y).cells.toList.length)).toArray
  obtain ⟨R, r1, r2, _⟩ := hs.owns_iff (σ := σ)
  have hb : ∀ b, (∃ v, σ k = some v ∧ blkO v = some b) ↔ b = g := fun b => by
    rw [f1]
    constructor
    · rintro ⟨v, hv, h⟩; cases hv; simp only [blkO, Option.some.injEq] at h; exact h.symm
    · rintro rfl; exact ⟨_, rfl, rfl⟩
  have hM : ∀ c, c = g → owns σ objs c := fun c hc => (r1 c).2 (.inr ((hown σ c).2 ((hb c).2 hc)))
  have how : ∀ c, owns σ objs' c → owns σ objs c ∨ w.heap.size ≤ c := fun c hc => .inl ((r1 c).2 (((r2 c).1 hc).imp id fun h => (hown σ c).2 ((hown' σ c).1 h)))
  refine ⟨.skip, undef, w.setRow g (cur.toList.take (q * z + off) ++ (a.eval y).cells.toList ++ cur.toList.drop (q * z + off + (a.eval y).cells.toList.length)).toArray, σ, ?_, .inr ⟨rfl, rfl⟩, ?_, fun e => by cases e⟩
  · simp only [execOp, ho, e2, Instr.storeAt, Instr.sureAddr, Sem.run_bind, Sem.run_pure, Result.andThen_ok, hrun]
  · rw [hd]
    refine hst.upd hm hM how (hst.obs.set hs (hm.mono fun c hc => (hown σ c).2 ((hb c).2 hc)) ((hso' _ _ _).2 ?_) (fun c hc => .inl ((hown σ c).2 ((hown' σ c).1 hc))) hst.a0lt)
    refine ⟨_, _, f1, fun e' he' => ?_, by simpa using hlen47, s1.later (hst.lat hm hM how), ?_⟩
    · rcases List.mem_or_eq_of_mem_set he' with h | h
      · exact f7 _ h
      · rw [h]; exact s4
    · have hcur : ((cur.toList.take (q * z + off) ++ (a.eval y).cells.toList ++ cur.toList.drop (q * z + off + (a.eval y).cells.toList.length)).toArray.toList.take (els.length * z)) = (cur.toList.take (els.length * z)).take (q * z + off) ++ (a.eval y).cells.toList ++ (cur.toList.take (els.length * z)).drop (q * z + off + (a.eval y).cells.toList.length) := by
        rw [List.take_take, Nat.min_eq_left (by omega), List.drop_take]
        rw [List.take_append, List.take_append]
        have : (List.take (q * z + off) cur.toList).length = q * z + off := by simp; omega
        rw [List.take_of_length_le (l := List.take (q * z + off) cur.toList) (by omega), List.take_of_length_le (l := (a.eval y).cells.toList) (by omega)]
        congr 1
        rw [List.length_append, this, s2]
      refine ⟨?_, .inr ⟨g, cap, (cur.toList.take (q * z + off) ++ (a.eval y).cells.toList ++ cur.toList.drop (q * z + off + (a.eval y).cells.toList.length)).toArray, by simp, Nat.zero_le _, setRow_heap w g cur _ e _ f2, by simpa using f3, f4, ?_, ?_⟩⟩
      · simp only [List.length_append, List.length_take, List.length_drop, List.length_set, Array.length_toList]
        have := f5; omega
      · simp only [List.size_toArray, List.length_append, List.length_take, List.length_drop, Array.length_toList]
        have := f5; omega
      · rw [← hcur]; simp
end
end Go.Proofs.YtdflndjlnkoliaaGreatDoor

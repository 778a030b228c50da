import Derived.Test.YtkcicejnkdobpaaDoorZLSWhere1
import Derived.Test.YtkcicejnkdobpaaDoorLaw
import Derived.ChangeMaps5
import Derived.Lay
/- plain laws: a line read field by field (no program in sight) -/
namespace Go.Proofs.YtkcicejnkdobpaaDoor
set_option linter.all false
theorem take_mem {f : BitVec 8} {l : B8} {i : Nat} (h : l[i]? = some f) : f ∈ l.take (i + 1) := by
  obtain ⟨hi, e⟩ := List.getElem?_eq_some_iff.1 h
  rw [List.take_succ_eq_append_getElem hi, e]; simp
theorem take_mono {f : BitVec 8} {l : B8} {i : Nat} (h : f ∈ l.take i) : f ∈ l.take (i + 1) := by
  rw [List.take_add_one]; exact List.mem_append_left _ h
theorem nodup_ne {l : B8} (hn : l.Nodup) {i j : Nat} {f g : BitVec 8} (hi : l[i]? = some f) (hj : l[j]? = some g) (h : j < i) : g ≠ f := by
  obtain ⟨hi, e1⟩ := List.getElem?_eq_some_iff.1 hi
  obtain ⟨hj, e2⟩ := List.getElem?_eq_some_iff.1 hj
  rw [← e1, ← e2]
  exact List.pairwise_iff_getElem.1 hn j i hj hi h
abbrev sameBut (f : BitVec 8) (a b : Op) : Prop := a.kind = b.kind ∧ ∀ g, fSign g → g ≠ f → agree g a b
abbrev tkPost (o : Op) (f : BitVec 8) (s : B8) (r : Op × Bool) : Prop := sameBut f r.1 o ∧ (r.2 = true → wordP r.1 f ∧ wordR r.1 f = s) ∧ (r.2 = false → ∀ q, wordP q f → wordR q f ≠ s)
/-- behind i fields -/
structure StI (k : Int) (ws : List B8) (i : Nat) (o : Op) : Prop where
  kind : o.kind = k
  bare : bareOn ((formOf k).2.take i) o = o
  got : ∀ j, j < i → ∀ f w, (formOf k).2[j]? = some f → ws[j + 1]? = some w → wordP o f ∧ wordR o f = w
theorem StI.zero (k : Int) (ws : List B8) : StI k ws 0 ⟨k, 0, 0, 0, [], [], []⟩ := ⟨rfl, rfl, fun j h => absurd h (Nat.not_lt_zero _)⟩
theorem StI.step {k : Int} {ws : List B8} {i : Nat} {o o' : Op} {f : BitVec 8} {w : B8} (h : StI k ws i o) (hf : (formOf k).2[i]? = some f) (hw : ws[i + 1]? = some w) (ht : tkPost o f w (o', true)) : StI k ws (i + 1) o' := by
  obtain ⟨⟨h1, h2⟩, h3, _⟩ := ht
  have h3 := h3 rfl
  refine ⟨h1.trans h.kind, ?_, fun j hj f' w' hf' hw' => ?_⟩
  · have hb := h.bare
    have hm := take_mem hf
    have e : ∀ {α : Type} (c : BitVec 8) (x y z : α), (c ∉ (formOf k).2.take (i + 1) → x = y ∧ y = z) → (if c ∈ (formOf k).2.take (i + 1) then x else z) = x := fun c x y z hxy => by
      split
      · rfl
      · rename_i hc; obtain ⟨a, b⟩ := hxy hc; rw [a, b]
    have ne : ∀ {c : BitVec 8}, c ∉ (formOf k).2.take (i + 1) → c ≠ f ∧ c ∉ (formOf k).2.take i := fun hc => ⟨fun x => hc (x ▸ hm), fun x => hc (take_mono x)⟩
    have z : ∀ {α : Type} {c : BitVec 8} {x z : α}, (if c ∈ (formOf k).2.take i then x else z) = x → c ∉ (formOf k).2.take i → x = z := fun h hc => by rw [if_neg hc] at h; exact h.symm
    unfold bareOn
    rw [e 110#8 o'.n o.n 0 (fun hc => ⟨(h2 _ (by decide) (ne hc).1).1 rfl, z (congrArg Op.n hb) (ne hc).2⟩),
      e 109#8 o'.m o.m 0 (fun hc => ⟨(h2 _ (by decide) (ne hc).1).2.1 rfl, z (congrArg Op.m hb) (ne hc).2⟩),
      e 107#8 o'.k o.k 0 (fun hc => ⟨(h2 _ (by decide) (ne hc).1).2.2.1 rfl, z (congrArg Op.k hb) (ne hc).2⟩),
      e 108#8 o'.label o.label [] (fun hc => ⟨(h2 _ (by decide) (ne hc).1).2.2.2.1 rfl, z (congrArg Op.label hb) (ne hc).2⟩),
      e 118#8 o'.value o.value [] (fun hc => ⟨(h2 _ (by decide) (ne hc).1).2.2.2.2.1 rfl, z (congrArg Op.value hb) (ne hc).2⟩),
      e 116#8 o'.list o.list [] (fun hc => ⟨(h2 _ (by decide) (ne hc).1).2.2.2.2.2 rfl, z (congrArg Op.list hb) (ne hc).2⟩)]
  · rcases Nat.lt_or_ge j i with hji | hji
    · have hg := h.got j hji f' w' hf' hw'
      have hs := form_sign k f' (List.mem_of_getElem? hf')
      have ha := agree_word hs (h2 f' hs (nodup_ne (form_nodup k) hf hf' hji))
      exact ⟨ha.2.2 hg.1, ha.1.trans hg.2⟩
    · obtain rfl : j = i := by omega
      rw [hf] at hf'; rw [hw] at hw'
      cases hf'; cases hw'
      exact h3
abbrev stPost (s : B8) (r : Op × Bool) : Prop := (r.2 = true → lineP r.1 ∧ bareO r.1 = r.1 ∧ lineB r.1 = s) ∧ (r.2 = false → ∀ q, lineP q → lineB q ≠ s)
theorem st_no {s : B8} {o : Op} (h : ∀ q, lineP q → splitC 32#8 s = wordsO q → False) : stPost s (o, false) :=
  ⟨fun h => (by simp at h), fun _ q hq e => h q hq ((lineB_iff hq.1 s).1 e)⟩
theorem st_kind0 {s : B8} {w0 : B8} {o : Op} (hw : (splitC 32#8 s)[0]? = some w0) (h : ∀ j : Int, 1 ≤ j → j < 16 → (formOf j).1 ≠ w0) : stPost s (o, false) :=
  st_no fun q hq e => by rw [e] at hw; exact h q.kind hq.1.1 hq.1.2 (Option.some.inj hw)
theorem st_same {s : B8} {w0 : B8} {k : Int} (hw : (splitC 32#8 s)[0]? = some w0) (hk : 1 ≤ k ∧ k < 16) (h : (formOf k).1 = w0) {q : Op} (hq : lineP q) (e : splitC 32#8 s = wordsO q) : q.kind = k := by
  rw [e] at hw
  have : (formOf q.kind).1 = w0 := Option.some.inj hw
  exact names_inj hq.1 hk (this.trans h.symm)
theorem st_len {s : B8} {w0 : B8} {k : Int} {o : Op} (hw : (splitC 32#8 s)[0]? = some w0) (hk : 1 ≤ k ∧ k < 16) (h : (formOf k).1 = w0) (hl : (splitC 32#8 s).length ≠ 1 + (formOf k).2.length) : stPost s (o, false) :=
  st_no fun q hq e => by
    have hqk := st_same hw hk h hq e
    apply hl; rw [e]; unfold wordsO; rw [hqk]; simp; omega
theorem st_field {s : B8} {w0 : B8} {k : Int} {o o' o'' : Op} {i : Nat} {f : BitVec 8} {w : B8} (hw : (splitC 32#8 s)[0]? = some w0) (hk : 1 ≤ k ∧ k < 16) (h : (formOf k).1 = w0) (hf : (formOf k).2[i]? = some f) (hwi : (splitC 32#8 s)[i + 1]? = some w) (ht : tkPost o f w (o', false)) : stPost s (o'', false) :=
  st_no fun q hq e => by
    have hqk := st_same hw hk h hq e
    rw [e] at hwi
    unfold wordsO at hwi
    rw [hqk, List.getElem?_cons_succ, List.getElem?_map, hf] at hwi
    have e2 : wordR q f = w := Option.some.inj hwi
    exact ht.2.2 rfl q (hq.2 f (by rw [hqk]; exact List.mem_of_getElem? hf)) e2
theorem st_end {s : B8} {w0 : B8} {k : Int} {o : Op} (hw : (splitC 32#8 s)[0]? = some w0) (hk : 1 ≤ k ∧ k < 16) (h : (formOf k).1 = w0) (hl : (splitC 32#8 s).length = 1 + (formOf k).2.length) (hi : StI k (splitC 32#8 s) (formOf k).2.length o) : stPost s (o, true) := by
  have hkind := hi.kind
  have hwx : ∀ j (hj : j < (formOf k).2.length), wordP o (formOf k).2[j] ∧ (splitC 32#8 s)[j + 1]? = some (wordR o (formOf k).2[j]) := fun j hj => by
    have hj2 : j + 1 < (splitC 32#8 s).length := by omega
    have hg := hi.got j hj _ _ (List.getElem?_eq_getElem hj) (List.getElem?_eq_getElem hj2)
    exact ⟨hg.1, by rw [hg.2]; exact List.getElem?_eq_getElem hj2⟩
  have hP : lineP o := by
    refine ⟨by rw [hkind]; exact hk, fun f hf => ?_⟩
    rw [hkind] at hf
    obtain ⟨j, hj, rfl⟩ := List.mem_iff_getElem.1 hf
    exact (hwx j hj).1
  refine ⟨fun _ => ⟨hP, ?_, ?_⟩, fun h => (by simp at h)⟩
  · show bareO o = o
    unfold bareO
    have := hi.bare
    rw [List.take_length] at this
    rw [hkind]; exact this
  · show lineB o = s
    refine (lineB_iff hP.1 s).2 ?_
    unfold wordsO
    rw [hkind]
    refine List.ext_getElem? fun j => ?_
    cases j with
    | zero => rw [hw, List.getElem?_cons_zero, h]
    | succ j =>
      rw [List.getElem?_cons_succ, List.getElem?_map]
      by_cases hj : j < (formOf k).2.length
      · rw [(hwx j hj).2, List.getElem?_eq_getElem hj]; rfl
      · rw [List.getElem?_eq_none (by omega), List.getElem?_eq_none (by omega)]; rfl
end Go.Proofs.YtkcicejnkdobpaaDoor

namespace Go.Proofs.YtkcicejnkdobpaaDoor
set_option linter.all false
open Go.RowKit
/-! script.kind, script.take -/
abbrev kdPost (s : B8) (k : Nat) : Prop := (k = 0 → ∀ j : Int, 1 ≤ j → j < 16 → (formOf j).1 ≠ s) ∧ (k ≠ 0 → k < 16 ∧ (formOf (k : Int)).1 = s)
def kd_c : Ctr where
  D := B8
  args := fun s => [.str s]
  E := Nat
  post := fun s k => kdPost s k
  res := fun _ k => .int .i64 (k : Int)
theorem form_getN {i : Nat} (h : ((i : Nat) : Int).toNat < gv0.length) : gv0[((i : Nat) : Int).toNat]'h = formOf (i : Int) := form_get h rfl
def kd_H : Cfg := ⟨[], [], [], [], 20, 0, [], [], []⟩
theorem kd_ok : kd_c.Ok Tryd.prog 40 := by
  refine fn_ok kd_H 0 rfl _ Tryd.func40 rfl rfl trivial rfl rfl (by kernel_rfl) (fun _ => Nat.le_of_ble_eq_true rfl) ?_
  intro (s : B8) hp hr
  try dsimp only [kd_c] at hp
  try simp only [kd_c, Rng, RngL, inR, and_true, true_and] at hr
  repeat' (first | (with_reducible refine Unf.h ?_) | fail); all_goals try (conv => whnf)
  refine LoopS.autoN (I := Nat) (fun i => i ≤ 16 ∧ ∀ j : Int, 1 ≤ j → j < i → (formOf j).1 ≠ s) (fun i => [(6, .int .i64 i)]) (fun _ => []) 0 (fun i => 16 - i) 0 ⟨by omega, fun j h1 h2 => by omega⟩ ?_ ?_
  · repeat' (first | (with_reducible refine Unf.h ?_) | ((conv => whnf); first | (refine Side.mk ?_ ?_; focus (first | with_reducible rfl | (refine congrArg (SV.int _) ?_; omega))) | (with_reducible refine Unf.h ?_) | exact True.intro) | fail); all_goals try (conv => whnf)
  · rintro i ⟨hi, hm⟩
    repeat' (first | (with_reducible refine Unf.h ?_) | ((conv => whnf); first | refine Fork.mk (fun h => ?_) (fun h => ?_) | refine retK_r ?_) | fail); all_goals try (conv => whnf)
    · refine Idx.mk ⟨by omega, by rw [gv0_len]; omega, by omega⟩ ?_
      rw [form_getN]
      have hfl : ∀ j : Int, 1 ≤ j → j < i + 1 → j = i ∨ j < i := fun j _ _ => by omega
      generalize hq : formOf (i : Int) = q
      rw [show e2S q = [.str q.1, .str q.2] from rfl]
      refine frcL2 (x := q.1) (y := q.2) ?_
      refine Side.mk rfl ?_
      have hmm : q.1 ≠ s ∨ i = 0 → ∀ j : Int, 1 ≤ j → j < ((i + 1 : Nat) : Int) → (formOf j).1 ≠ s := fun hc j h1 h2 => by
        rcases hfl j h1 (by omega) with rfl | h
        · rcases hc with hc | hc
          · rw [hq]; exact hc
          · omega
        · exact hm j h1 h
      repeat' (first | (with_reducible first | refine Unf.h ?_ | refine loopK_n ?_) | ((conv => whnf); first | refine Fork.mk (fun h => ?_) (fun h => ?_) | (refine Side.mk ?_ ?_; focus ((intros; (try simp only [lenS, inR, cutS, loI, hiI] at *); omega))) | (with_reducible refine Unf.h ?_) | refine retK_r ?_) | fail); all_goals try (conv => whnf)
      · refine RetE.mk (i : Nat) ⟨fun h => ?_, fun _ => ⟨by omega, by rw [hq]; assumption⟩⟩ ?_
        · have h0 : i = 0 := h
          omega
        repeat' (first | (with_reducible refine Unf.h ?_) | ((conv => whnf); first | (refine Side.mk ?_ ?_; focus ((refine congrArg (SV.int _) ?_; omega))) | exact rfl) | fail); all_goals try (conv => whnf)
      · refine ⟨i + 1, ⟨by omega, by omega, hmm (.inl (by assumption))⟩, ?_⟩
        clear hm hmm hfl
        repeat' (first | (with_reducible refine Unf.h ?_) | ((conv => whnf); first | (refine Side.mk ?_ ?_; focus (first | with_reducible rfl | (refine congrArg (SV.int _) ?_; omega))) | (with_reducible refine Unf.h ?_) | exact True.intro) | fail); all_goals try (conv => whnf)
      · refine ⟨i + 1, ⟨by omega, by omega, hmm (.inr (by omega))⟩, ?_⟩
        clear hm hmm hfl
        repeat' (first | (with_reducible refine Unf.h ?_) | ((conv => whnf); first | (refine Side.mk ?_ ?_; focus (first | with_reducible rfl | (refine congrArg (SV.int _) ?_; omega))) | (with_reducible refine Unf.h ?_) | exact True.intro) | fail); all_goals try (conv => whnf)
    · refine RetE.mk (0 : Nat) ⟨fun _ j h1 h2 => hm j h1 (by omega), fun h => absurd rfl h⟩ ?_
      repeat' (first | (with_reducible refine Unf.h ?_) | ((conv => whnf); first | (refine Side.mk ?_ ?_; focus ((refine congrArg (SV.int _) ?_; omega))) | exact rfl) | fail); all_goals try (conv => whnf)
def tk_c : Ctr where
  D := Op × BitVec 8 × B8
  pre := fun (_, f, s) => fSign f ∧ s.length ≤ 1000000
  args := fun (_, f, s) => [.ptr 0 0, .u8 f, .str s]
  objs := fun (o, _, _) => [(0, .box 39 (eOp o))]
  nn := 1
  E := Op × Bool
  post := fun (o, f, s) r => tkPost o f s r
  res := fun _ r => .bool r.2
  out := fun _ r => [(0, .box 39 (eOp r.1))]
theorem tk_num {o o' : Op} {f : BitVec 8} {s : B8} {n : Int} {ok : Bool} (h : tnPost s (n, ok)) (hs : sameBut f o' o) (hw : ∀ q, (wordP q f ↔ mayN (numF q f)) ∧ wordR q f = numR (numF q f)) (hn : numF o' f = n) : tkPost o f s (o', ok) := by
  obtain ⟨h1, h2⟩ := h
  refine ⟨hs, fun hok => ?_, fun hok q hq => ?_⟩
  · obtain ⟨a, b⟩ := h1 hok
    dsimp only at a b
    refine ⟨(hw o').1.2 (by rw [hn]; exact a), ?_⟩
    rw [(hw o').2, hn, numR_may a, b]
  · rw [(hw q).2, numR_may ((hw q).1.1 hq)]
    exact h2 hok _ ((hw q).1.1 hq)
theorem wN (q : Op) : (wordP q 110#8 ↔ mayN (numF q 110#8)) ∧ wordR q 110#8 = numR (numF q 110#8) := ⟨Iff.rfl, rfl⟩
theorem wM (q : Op) : (wordP q 109#8 ↔ mayN (numF q 109#8)) ∧ wordR q 109#8 = numR (numF q 109#8) := ⟨Iff.rfl, rfl⟩
theorem wK (q : Op) : (wordP q 107#8 ↔ mayN (numF q 107#8)) ∧ wordR q 107#8 = numR (numF q 107#8) := ⟨Iff.rfl, rfl⟩
/-- all fields but one agree -/
theorem sb_of {f : BitVec 8} {a b : Op} (hk : a.kind = b.kind) (h1 : f ≠ 110#8 → a.n = b.n) (h2 : f ≠ 109#8 → a.m = b.m) (h3 : f ≠ 107#8 → a.k = b.k) (h4 : f ≠ 108#8 → a.label = b.label) (h5 : f ≠ 118#8 → a.value = b.value) (h6 : f ≠ 116#8 → a.list = b.list) : sameBut f a b :=
  ⟨hk, fun g _ hgf => ⟨fun e => h1 (fun x => hgf (e.trans x.symm)), fun e => h2 (fun x => hgf (e.trans x.symm)), fun e => h3 (fun x => hgf (e.trans x.symm)), fun e => h4 (fun x => hgf (e.trans x.symm)), fun e => h5 (fun x => hgf (e.trans x.symm)), fun e => h6 (fun x => hgf (e.trans x.symm))⟩⟩
def tk_H : Cfg := ⟨[(51, tn_c), (52, tb_c), (53, tl_c)], [], [], [], 70, 1, [], [], []⟩
theorem tk_ok : tk_c.Ok Tryd.prog 41 := by
  refine fn_ok tk_H 1 rfl _ Tryd.func41 rfl rfl ⟨tn_ok, tb_ok, tl_ok, trivial⟩ rfl rfl (by kernel_rfl) (fun _ => Nat.le_of_ble_eq_true rfl) ?_
  rintro ⟨o, f, s⟩ hp hr
  try dsimp only [tk_c] at hp
  try simp only [tk_c, Rng, RngL, inR, and_true, true_and] at hr
  obtain ⟨hf, hl⟩ := hp
  clear hr
  have p1 : tn_c.pre s := hl
  have p2 : tb_c.pre s := hl
  have p3 : tl_c.pre s := hl
  repeat' (first | (with_reducible refine Unf.h ?_) | ((conv => whnf); first | refine Fork.mk (fun h => ?_) (fun h => ?_) | (refine Side.mk ?_ ?_; focus (first | with_reducible rfl | assumption)) | refine Got.mk (fun _ _ => ?_) | refine retK_r ?_ | refine CallS.mk (c := tn_c) (s) ?_ | refine CallS.mk (c := tb_c) (s) ?_ | refine CallS.mk (c := tl_c) (s) ?_) | fail); all_goals try (conv => whnf)
  · rename_i e he
    obtain rfl : f = 110#8 := h
    obtain ⟨n, ok⟩ := e
    refine RetE.mk (({ o with n := n } : Op), ok) (tk_num he (sb_of rfl (fun h => absurd rfl h) (fun _ => rfl) (fun _ => rfl) (fun _ => rfl) (fun _ => rfl) (fun _ => rfl)) wN rfl) ?_
    repeat' (first | (with_reducible refine Unf.h ?_) | ((conv => whnf); first | (refine Side.mk ?_ ?_; focus (with_reducible rfl)) | exact rfl) | fail); all_goals try (conv => whnf)
  · rename_i e he
    obtain rfl : f = 109#8 := h
    obtain ⟨n, ok⟩ := e
    refine RetE.mk (({ o with m := n } : Op), ok) (tk_num he (sb_of rfl (fun _ => rfl) (fun h => absurd rfl h) (fun _ => rfl) (fun _ => rfl) (fun _ => rfl) (fun _ => rfl)) wM rfl) ?_
    repeat' (first | (with_reducible refine Unf.h ?_) | ((conv => whnf); first | (refine Side.mk ?_ ?_; focus (with_reducible rfl)) | exact rfl) | fail); all_goals try (conv => whnf)
  · rename_i e he
    obtain rfl : f = 107#8 := h
    obtain ⟨n, ok⟩ := e
    refine RetE.mk (({ o with k := n } : Op), ok) (tk_num he (sb_of rfl (fun _ => rfl) (fun _ => rfl) (fun h => absurd rfl h) (fun _ => rfl) (fun _ => rfl) (fun _ => rfl)) wK rfl) ?_
    repeat' (first | (with_reducible refine Unf.h ?_) | ((conv => whnf); first | (refine Side.mk ?_ ?_; focus (with_reducible rfl)) | exact rfl) | fail); all_goals try (conv => whnf)
  · rename_i e he
    obtain rfl : f = 108#8 := h
    obtain ⟨n, ok⟩ := e
    refine RetE.mk (({ o with label := n } : Op), ok) ⟨sb_of rfl (fun _ => rfl) (fun _ => rfl) (fun _ => rfl) (fun h => absurd rfl h) (fun _ => rfl) (fun _ => rfl), fun hok => ⟨trivial, he.1 hok⟩, fun hok q _ => he.2 hok q.label⟩ ?_
    repeat' (first | (with_reducible refine Unf.h ?_) | ((conv => whnf); first | (refine Side.mk ?_ ?_; focus (with_reducible rfl)) | exact rfl) | fail); all_goals try (conv => whnf)
  · rename_i e he
    obtain rfl : f = 118#8 := h
    obtain ⟨n, ok⟩ := e
    refine RetE.mk (({ o with value := n } : Op), ok) ⟨sb_of rfl (fun _ => rfl) (fun _ => rfl) (fun _ => rfl) (fun _ => rfl) (fun h => absurd rfl h) (fun _ => rfl), fun hok => ⟨trivial, he.1 hok⟩, fun hok q _ => he.2 hok q.value⟩ ?_
    repeat' (first | (with_reducible refine Unf.h ?_) | ((conv => whnf); first | (refine Side.mk ?_ ?_; focus (with_reducible rfl)) | exact rfl) | fail); all_goals try (conv => whnf)
  · rename_i e he
    obtain rfl : f = 116#8 := h
    obtain ⟨n, ok⟩ := e
    refine RetE.mk (({ o with list := n } : Op), ok) ⟨sb_of rfl (fun _ => rfl) (fun _ => rfl) (fun _ => rfl) (fun _ => rfl) (fun _ => rfl) (fun h => absurd rfl h), fun hok => ?_, fun hok q hq => ?_⟩ ?_
    · obtain ⟨h1, h2⟩ := he.1 hok
      exact ⟨h1, by rw [wordR_116]; show listR n = s; rw [listR, if_pos h1]; exact h2⟩
    · have hq' : mayL q.list := hq
      rw [wordR_116, listR, if_pos hq']
      exact he.2 hok _ hq'
    repeat' (first | (with_reducible refine Unf.h ?_) | ((conv => whnf); first | (refine Side.mk ?_ ?_; focus (with_reducible rfl)) | exact rfl) | fail); all_goals try (conv => whnf)
  · exfalso
    rcases hf with h | h | h | h | h | h <;> exact absurd h (by assumption)
end Go.Proofs.YtkcicejnkdobpaaDoor

namespace Go.Proofs.YtkcicejnkdobpaaDoor
set_option linter.all false
open Go.RowKit
/-! script.step -/
def st_c : Ctr where
  D := B8
  pre := fun s => s.length ≤ 1000000
  args := fun s => [.str s]
  E := Op × Bool
  post := fun s r => stPost s r
  res := fun _ r => .tup [.agg (eOp r.1), .bool r.2]
def st_H : Cfg := ⟨[(39, split_c), (40, kd_c), (41, tk_c)], [], [], [], 51, 0, [], [], []⟩
theorem st_ok : st_c.Ok Tryd.prog 22 := by
  refine fn_ok st_H 0 rfl _ Tryd.func22 rfl rfl ⟨split_ok, kd_ok, tk_ok, trivial⟩ rfl rfl (by kernel_rfl) (fun _ => Nat.le_of_ble_eq_true rfl) ?_
  intro (s : B8) hp hr
  try dsimp only [st_c] at hp
  try simp only [st_c, Rng, RngL, inR, and_true, true_and] at hr
  have hps : split_c.pre (s, 32#8) := hp
  obtain ⟨ws, hws⟩ : ∃ ws, ws = splitC 32#8 s := ⟨_, rfl⟩
  have hwl : ws.length ≤ 1000001 := by
    rw [hws, splitC_len]; have := List.count_le_length (a := 32#8) (l := s); omega
  have hwm : ∀ w ∈ ws, w.length ≤ 1000000 := fun w hw => by
    rw [hws] at hw
    exact Nat.le_trans (splitC_mem hw).2 hp
  have hw0 : 0 < ws.length := by rw [hws, splitC_len]; omega
  repeat' (first | (with_reducible refine Unf.h ?_) | fail); all_goals try (conv => whnf)
  refine CallS.mk (c := split_c) (s, 32#8) ?_
  repeat' (first | (with_reducible refine Unf.h ?_) | ((conv => whnf); first | (refine Side.mk ?_ ?_; focus (first | with_reducible rfl | assumption | (simp [*]; done))) | refine Got.mk (fun _ _ => ?_)) | fail); all_goals try (conv => whnf)
  refine Idx.mk ⟨by omega, by rw [← hws]; exact hw0⟩ ?_
  simp only [← hws]
  repeat' (first | (with_reducible refine Unf.h ?_) | ((conv => whnf); (with_reducible refine Unf.h ?_)) | fail); all_goals try (conv => whnf)
  refine CallS.mk (c := kd_c) (ws[Int.toNat 0]'hw0) ?_
  repeat' (first | (with_reducible refine Unf.h ?_) | ((conv => whnf); first | (refine Side.mk ?_ ?_; focus (first | with_reducible rfl | exact True.intro)) | refine Got.mk (fun _ _ => ?_)) | fail); all_goals try (conv => whnf)
  rename_i k hk
  revert hk
  revert k
  intro (k : Nat) (hk' : kdPost (ws[0]'hw0) k)
  have h0 : (splitC 32#8 s)[0]? = some (ws[0]'hw0) := by rw [← hws, List.getElem?_eq_getElem hw0]
  have hk16 : k < 16 := by
    rcases Nat.eq_zero_or_pos k with h | h
    · omega
    · exact (hk'.2 (by omega)).1
  refine Idx.mk ⟨by omega, by rw [gv0_len]; omega, by omega⟩ ?_
  rw [form_getN]
  have hfl := form_len (k : Int)
  have hsg := form_sign (k : Int)
  have hkk : k ≠ 0 → 1 ≤ (k : Int) ∧ (k : Int) < 16 := fun h => by omega
  have hend : k ≠ 0 → ∀ o, ws.length = 1 + (formOf (k : Int)).2.length → StI (k : Int) ws (formOf (k : Int)).2.length o → stPost s (o, true) := fun hk0 o c d => st_end h0 (hkk hk0) (hk'.2 hk0).2 (by rw [← hws]; exact c) (by rw [← hws]; exact d)
  have hfd : k ≠ 0 → ∀ o o' o'' i f w, (formOf (k : Int)).2[i]? = some f → ws[i + 1]? = some w → tkPost o f w (o', false) → stPost s (o'', false) := fun hk0 o o' o'' i f w a b c => st_field h0 (hkk hk0) (hk'.2 hk0).2 a (by rw [← hws]; exact b) c
  have hln : k ≠ 0 → ws.length ≠ 1 + (formOf (k : Int)).2.length → ∀ o, stPost s (o, false) := fun hk0 a o => st_len h0 (hkk hk0) (hk'.2 hk0).2 (by rw [← hws]; exact a)
  have hz : k = 0 → ∀ o, stPost s (o, false) := fun h o => st_kind0 h0 (hk'.1 h)
  have hst0 := StI.zero (k : Int) ws
  have hstp : ∀ i o o' f w, StI (k : Int) ws i o → (formOf (k : Int)).2[i]? = some f → ws[i + 1]? = some w → tkPost o f w (o', true) → StI (k : Int) ws (i + 1) o' := fun i o o' f w a b c d => a.step b c d
  generalize formOf (k : Int) = q at hfl hsg hend hfd hln hstp ⊢
  rw [show e2S q = [.str q.1, .str q.2] from rfl]
  refine frcL2 (x := q.1) (y := q.2) ?_
  refine Side.mk rfl ?_
  have hne : ((k : Nat) : Int) = 0 → k = 0 := fun h => by omega
  repeat' (first | (with_reducible refine Unf.h ?_) | ((conv => whnf); first | refine Fork.mkn (fun h => ?_) (fun h => ?_) | refine Fork.mk (fun h => ?_) (fun h => ?_) | (refine Side.mk ?_ ?_; focus (first | omega | (intros; (try simp only [lenS, inR, cutS, loI, hiI] at *); omega))) | refine retK_r ?_) | fail); all_goals try (conv => whnf)
  · exact RetE.mk ((⟨0, 0, 0, 0, [], [], []⟩ : Op), false) (hz (hne h) _) (by repeat' (first | (with_reducible refine Unf.h ?_) | ((conv => whnf); first | (refine Side.mk ?_ ?_; focus (with_reducible rfl)) | (with_reducible refine Unf.h ?_) | exact rfl) | fail); all_goals try (conv => whnf))
  · exact RetE.mk ((⟨0, 0, 0, 0, [], [], []⟩ : Op), false) (hln (fun h => by omega) (by omega) _) (by repeat' (first | (with_reducible refine Unf.h ?_) | ((conv => whnf); first | (refine Side.mk ?_ ?_; focus (with_reducible rfl)) | (with_reducible refine Unf.h ?_) | exact rfl) | fail); all_goals try (conv => whnf))
  · have hk0 : k ≠ 0 := fun e => by omega
    have hwq : ws.length = 1 + q.2.length := by omega
    have hcl : cutL ws (some 1) none = ws.drop 1 := rfl
    clear hz hln hkk hne hk'
    generalize cutL ws (some 1) none = vs at hcl ⊢
    have hvl : vs.length = q.2.length := by rw [hcl, List.length_drop]; omega
    have hvm : ∀ w ∈ vs, w.length ≤ 1000000 := fun w hw => hwm w (by rw [hcl] at hw; exact List.mem_of_mem_drop hw)
    have hvi : ∀ i, vs[i]? = ws[i + 1]? := fun i => by rw [hcl, List.getElem?_drop, Nat.add_comm]
    clear hcl
    refine LoopS.autoN (I := Nat × Op) (fun d => d.1 ≤ q.2.length ∧ StI (k : Int) ws d.1 d.2) (fun d => [(37, .int .i64 d.1), (7, .bool true)]) (fun d => [(0, .box 39 [.int .i64 0, .int .i64 0, .int .i64 0, .int .i64 0, .nils, .nils, .nils]), (1, .box 39 (eOp d.2))]) 2 (fun d => q.2.length - d.1) (0, ⟨(k : Int), 0, 0, 0, [], [], []⟩) ⟨Nat.zero_le _, hst0⟩ ?_ ?_
    · repeat' (first | (with_reducible refine Unf.h ?_) | ((conv => whnf); first | (refine Side.mk ?_ ?_; focus (first | with_reducible rfl | (refine congrArg (SV.int _) ?_; omega))) | (with_reducible refine Unf.h ?_) | exact True.intro) | fail); all_goals try (conv => whnf)
    · rintro ⟨i, o⟩ ⟨hi, hI⟩
      dsimp only at hi hI ⊢
      repeat' (first | (with_reducible refine Unf.h ?_) | ((conv => whnf); first | refine Fork.mk (fun h => ?_) (fun h => ?_) | (refine Idx.mk ?_ ?_; focus (omega)) | refine retK_r ?_) | fail); all_goals try (conv => whnf)
      · have hil : i < q.2.length := by omega
        have hiv : i < vs.length := by omega
        have hf1 : q.2[i]? = some (q.2[((i : Nat) : Int).toNat]'hil) := List.getElem?_eq_getElem hil
        have hw1 : ws[i + 1]? = some (vs[((i : Nat) : Int).toNat]'hiv) := by rw [← hvi]; exact List.getElem?_eq_getElem hiv
        have hpt : tk_c.pre (o, q.2[((i : Nat) : Int).toNat]'hil, vs[((i : Nat) : Int).toNat]'hiv) := ⟨hsg _ (List.getElem_mem _), hvm _ (List.getElem_mem _)⟩
        refine CallS.mk (c := tk_c) (o, q.2[((i : Nat) : Int).toNat]'hil, vs[((i : Nat) : Int).toNat]'hiv) ?_
        repeat' (first | (with_reducible refine Unf.h ?_) | ((conv => whnf); first | (refine Side.mk ?_ ?_; focus (first | with_reducible rfl | assumption)) | refine Got.mk (fun _ _ => ?_)) | fail); all_goals try (conv => whnf)
        rename_i e he
        obtain ⟨o', ok⟩ := e
        cases ok with
        | false =>
          have hno := hfd hk0 o o' o' i _ _ hf1 hw1 he
          repeat' (first | (with_reducible refine Unf.h ?_) | ((conv => whnf); first | (with_reducible refine Unf.h ?_) | refine retK_r ?_) | fail); all_goals try (conv => whnf)
          exact RetE.mk (o', false) hno (by repeat' (first | (with_reducible refine Unf.h ?_) | ((conv => whnf); first | (refine Side.mk ?_ ?_; focus (with_reducible rfl)) | (with_reducible refine Unf.h ?_) | exact rfl) | fail); all_goals try (conv => whnf))
        | true =>
          have hI' := hstp i o o' _ _ hI hf1 hw1 he
          clear he hfd hstp hend
          repeat' (first | (with_reducible first | refine Unf.h ?_ | refine loopK_n ?_) | ((conv => whnf); first | (refine Side.mk ?_ ?_; focus ((intros; (try simp only [lenS, inR, cutS, loI, hiI] at *); omega))) | (with_reducible refine Unf.h ?_)) | fail); all_goals try (conv => whnf)
          refine ⟨(i + 1, o'), ⟨by dsimp only; omega, by dsimp only; omega, hI'⟩, ?_⟩
          repeat' (first | (with_reducible refine Unf.h ?_) | ((conv => whnf); first | (refine Side.mk ?_ ?_; focus (first | with_reducible rfl | (refine congrArg (SV.int _) ?_; omega))) | (with_reducible refine Unf.h ?_) | exact True.intro) | fail); all_goals try (conv => whnf)

      · obtain rfl : i = q.2.length := by omega
        exact RetE.mk (o, true) (hend hk0 o hwq hI) (by repeat' (first | (with_reducible refine Unf.h ?_) | ((conv => whnf); first | (refine Side.mk ?_ ?_; focus (with_reducible rfl)) | (with_reducible refine Unf.h ?_) | exact rfl) | fail); all_goals try (conv => whnf))
end Go.Proofs.YtkcicejnkdobpaaDoor

namespace Go.Proofs.YtkcicejnkdobpaaDoor
set_option linter.all false
open Go.RowKit
/-! script.Read -/
abbrev tooL (s : B8) : Prop := 20000 < s.length ∨ 400 < s.count 10#8
def rdPost (s : B8) (r : List Op × Int × Int) : Prop :=
  (tooL s ∧ r = ([], 0, 3)) ∨ (¬ tooL s ∧ ((allP r.1 ∧ (∀ o ∈ r.1, bareO o = o) ∧ s = conc r.1 ∧ r.2 = (0, 0)) ∨ (r.1 = [] ∧ r.2.2 = 2 ∧ ∃ ls rest, allP ls ∧ s = conc ls ++ rest ∧ rest ≠ [] ∧ noLine rest ∧ r.2.1 = (ls.length : Int) + 1)))
/-- behind some lines: what was read, what is left -/
structure RdI (s : B8) (d : List Op × B8) : Prop where
  ok : allP d.1
  bare : ∀ o ∈ d.1, bareO o = o
  eq : s = conc d.1 ++ d.2
theorem RdI.len {s : B8} {d : List Op × B8} (h : RdI s d) : d.1.length + d.2.length ≤ s.length := by
  have h1 := conc_count h.ok
  have h2 := List.count_le_length (a := 10#8) (l := conc d.1)
  have h3 := congrArg List.length h.eq
  rw [List.length_append] at h3
  omega
theorem RdI.next {s : B8} {d : List Op × B8} {o : Op} (h : RdI s d) (h1 : 10#8 ∈ d.2) (h2 : stPost (cutAt 10#8 d.2).1 (o, true)) : RdI s (d.1 ++ [o], (cutAt 10#8 d.2).2) := by
  obtain ⟨a, b, c⟩ := h2.1 rfl
  refine ⟨fun q hq => ?_, fun q hq => ?_, ?_⟩
  · rcases List.mem_append.1 hq with hq | hq
    · exact h.ok q hq
    · rw [List.mem_singleton.1 hq]; exact a
  · rcases List.mem_append.1 hq with hq | hq
    · exact h.bare q hq
    · rw [List.mem_singleton.1 hq]; exact b
  · show s = conc (d.1 ++ [o]) ++ (cutAt 10#8 d.2).2
    have c' : lineB o = (cutAt 10#8 d.2).1 := c
    rw [conc_snoc, lineS_eq, c', List.append_assoc, List.append_assoc]
    show s = conc d.1 ++ ((cutAt 10#8 d.2).1 ++ 10#8 :: (cutAt 10#8 d.2).2)
    rw [← cutAt_in h1]; exact h.eq
theorem RdI.bad {s : B8} {d : List Op × B8} {o : Op} {ok : Bool} (h : RdI s d) (hs : ¬ tooL s) (hne : d.2 ≠ []) (h1 : 10#8 ∉ d.2 ∨ ok = false) (h2 : stPost (cutAt 10#8 d.2).1 (o, ok)) : rdPost s ([], (d.1.length : Int) + 1, 2) := by
  refine .inr ⟨hs, .inr ⟨rfl, rfl, d.1, d.2, h.ok, h.eq, hne, ?_, rfl⟩⟩
  by_cases hm : 10#8 ∈ d.2
  · have hok : ok = false := h1.resolve_left (fun x => x hm)
    subst hok
    intro q x hq e
    rw [lineS_eq, List.append_assoc] at e
    have h3 := cutAt_app (y := x) (lineB_nl hq.1)
    have h4 : cutAt 10#8 d.2 = (lineB q, x) := by rw [e]; exact h3
    exact h2.2 rfl q hq (by rw [h4])
  · exact noend_noLine hm
theorem RdI.done {s : B8} {d : List Op × B8} (h : RdI s d) (hs : ¬ tooL s) (he : d.2 = []) : rdPost s (d.1, 0, 0) :=
  .inr ⟨hs, .inl ⟨h.ok, h.bare, by rw [h.eq, he, List.append_nil], rfl⟩⟩
def rd_c : Ctr where
  D := B8
  pre := fun s => s.length ≤ 1000000
  args := fun s => [.str s]
  E := List Op × Int × Int
  post := fun s r => rdPost s r
  res := fun _ r => .tup [.fs 7 eOp r.1, .int .i64 r.2.1, .int .i64 r.2.2]
def rd_H : Cfg := ⟨[(20, count_c), (21, cut_c), (22, st_c)], [], [], [], 49, 0, [], [], []⟩
theorem rd_ok : rd_c.Ok Tryd.prog 11 := by
  refine fn_ok rd_H 0 rfl _ Tryd.func11 rfl rfl ⟨count_ok, cut_ok, st_ok, trivial⟩ rfl rfl (by kernel_rfl) (fun _ => Nat.le_of_ble_eq_true rfl) ?_
  intro (s : B8) hp hr
  try dsimp only [rd_c] at hp
  try simp only [rd_c, Rng, RngL, inR, and_true, true_and] at hr
  have hpc : count_c.pre (s, 10#8) := hp
  repeat' (first | (with_reducible refine Unf.h ?_) | ((conv => whnf); first | refine Fork.mk (fun h => ?_) (fun h => ?_) | (refine Side.mk ?_ ?_; focus (omega)) | refine retK_r ?_) | fail); all_goals try (conv => whnf)
  · exact RetE.mk (([] : List Op), 0, 3) (.inl ⟨.inl (by omega), rfl⟩) (by repeat' (first | (with_reducible refine Unf.h ?_) | ((conv => whnf); first | (refine Side.mk ?_ ?_; focus (with_reducible rfl)) | (with_reducible refine Unf.h ?_) | exact rfl) | fail); all_goals try (conv => whnf))
  · refine CallS.mk (c := count_c) (s, 10#8) ?_
    repeat' (first | (with_reducible refine Unf.h ?_) | ((conv => whnf); first | refine Fork.mk (fun h => ?_) (fun h => ?_) | (refine Side.mk ?_ ?_; focus (first | with_reducible rfl | assumption | (simp [*]; done))) | refine Got.mk (fun _ _ => ?_) | refine retK_r ?_) | fail); all_goals try (conv => whnf)
    · exact RetE.mk (([] : List Op), 0, 3) (.inl ⟨.inr (by omega), rfl⟩) (by repeat' (first | (with_reducible refine Unf.h ?_) | ((conv => whnf); first | (refine Side.mk ?_ ?_; focus (with_reducible rfl)) | (with_reducible refine Unf.h ?_) | exact rfl) | fail); all_goals try (conv => whnf))
    · have hs : ¬ tooL s := fun h => by rcases h with h | h <;> omega
      refine LoopS.autoN (I := List Op × B8) (fun d => RdI s d) (fun d => match d.1 with | [] => [(0, .str d.2), (6, .int .i64 1), (5, .nils)] | b :: q => [(0, .str d.2), (6, .int .i64 (((b :: q).length : Int) + 1)), (5, .own 0)]) (fun d => match d.1 with | [] => [] | b :: q => [(0, .row 39 7 eOp (b :: q))]) 1 (fun d => d.2.length) ([], s) ⟨fun o h => absurd h List.not_mem_nil, fun o h => absurd h List.not_mem_nil, rfl⟩ ?_ ?_
      · repeat' (first | (with_reducible refine Unf.h ?_) | ((conv => whnf); first | (refine Side.mk ?_ ?_; focus (with_reducible rfl)) | (with_reducible refine Unf.h ?_) | exact True.intro) | fail); all_goals try (conv => whnf)
      · rintro ⟨_ | ⟨b, q⟩, r⟩ hI
        · have hl := hI.len
          dsimp only at hl
          skip
          repeat' (first | (with_reducible refine Unf.h ?_) | ((conv => whnf); first | refine Fork.mk (fun h => ?_) (fun h => ?_) | (refine Side.mk ?_ ?_; focus ((dsimp only; omega))) | refine retK_r ?_) | fail); all_goals try (conv => whnf)
          · have hrl : 0 < r.length := by dsimp only at h; omega
            have hrne : r ≠ [] := fun e => by rw [e] at hrl; simp at hrl
            have hcl := cutAt_len 10#8 r
            have hp1 : cut_c.pre (r, 10#8) := show r.length ≤ 1000000 by omega
            have hp2 : st_c.pre (cutAt 10#8 r).1 := show (cutAt 10#8 r).1.length ≤ 1000000 by omega
            refine CallS.mk (c := cut_c) (r, 10#8) ?_
            repeat' (first | (with_reducible refine Unf.h ?_) | ((conv => whnf); first | (refine Side.mk ?_ ?_; focus (first | with_reducible rfl | assumption | (simp [*]; done))) | refine Got.mk (fun _ _ => ?_)) | fail); all_goals try (conv => whnf)
            refine CallS.mk (c := st_c) (cutAt 10#8 r).1 ?_
            repeat' (first | (with_reducible refine Unf.h ?_) | ((conv => whnf); first | refine Fork.mkn (fun h => ?_) (fun h => ?_) | (refine Side.mk ?_ ?_; focus (first | with_reducible rfl | assumption)) | refine Got.mk (fun _ _ => ?_) | refine retK_r ?_) | fail); all_goals try (conv => whnf)
            · rename_i e he
              obtain ⟨o, ok⟩ := e
              have hno := hI.bad hs hrne (.inl h) he
              exact RetE.mk (([] : List Op), (0 : Int) + 1, 2) hno (by repeat' (first | (with_reducible refine Unf.h ?_) | ((conv => whnf); first | (refine Side.mk ?_ ?_; focus (first | with_reducible rfl | (simp [*]; done))) | (with_reducible refine Unf.h ?_) | exact rfl) | fail); all_goals try (conv => whnf))
            · rename_i e he
              obtain ⟨o, ok⟩ := e
              cases ok with
              | false =>
                have hno := hI.bad hs hrne (.inr rfl) he
                repeat' (first | (with_reducible refine Unf.h ?_) | ((conv => whnf); first | (with_reducible refine Unf.h ?_) | refine retK_r ?_) | fail); all_goals try (conv => whnf)
                exact RetE.mk (([] : List Op), (0 : Int) + 1, 2) hno (by repeat' (first | (with_reducible refine Unf.h ?_) | ((conv => whnf); first | (refine Side.mk ?_ ?_; focus (first | with_reducible rfl | (simp [*]; done))) | (with_reducible refine Unf.h ?_) | exact rfl) | fail); all_goals try (conv => whnf))
              | true =>
                have hm : 10#8 ∈ r := by assumption
                have hI2 := hI.next hm he
                have hcl2 : (cutAt 10#8 r).2.length < r.length := by
                  have := congrArg List.length (cutAt_in hm)
                  rw [List.length_append, List.length_cons] at this; omega
                clear he hI hs hrne
                repeat' (first | (with_reducible first | refine Unf.h ?_ | refine loopK_n ?_) | ((conv => whnf); first | (refine Side.mk ?_ ?_; focus ((intros; (try simp only [lenS, inR, cutS, loI, hiI] at *); omega))) | (with_reducible refine Unf.h ?_)) | fail); all_goals try (conv => whnf)
                refine ⟨(([] : List Op) ++ [o], (cutAt 10#8 r).2), ⟨hcl2, hI2⟩, ?_⟩
                skip
                repeat' (first | (with_reducible refine Unf.h ?_) | ((conv => whnf); first | (refine Side.mk ?_ ?_; focus (first | with_reducible rfl | (simp only [*, List.map_cons, List.map_nil, eB]; done) | (simp [*]; done))) | (with_reducible refine Unf.h ?_) | exact True.intro) | fail); all_goals try (conv => whnf)
          · have hr0 : r = [] := List.eq_nil_of_length_eq_zero (by dsimp only at h; omega)
            exact RetE.mk (([] : List Op), 0, 0) (hI.done hs hr0) (by repeat' (first | (with_reducible refine Unf.h ?_) | ((conv => whnf); first | (refine Side.mk ?_ ?_; focus (with_reducible rfl)) | (with_reducible refine Unf.h ?_) | exact rfl) | fail); all_goals try (conv => whnf))
        · have hl := hI.len
          dsimp only at hl
          have hq0 : 0 < (b :: q).length := by simp
          repeat' (first | (with_reducible refine Unf.h ?_) | ((conv => whnf); first | refine Fork.mk (fun h => ?_) (fun h => ?_) | (refine Side.mk ?_ ?_; focus ((dsimp only; omega))) | refine retK_r ?_) | fail); all_goals try (conv => whnf)
          · have hrl : 0 < r.length := by dsimp only at h; omega
            have hrne : r ≠ [] := fun e => by rw [e] at hrl; simp at hrl
            have hcl := cutAt_len 10#8 r
            have hp1 : cut_c.pre (r, 10#8) := show r.length ≤ 1000000 by omega
            have hp2 : st_c.pre (cutAt 10#8 r).1 := show (cutAt 10#8 r).1.length ≤ 1000000 by omega
            refine CallS.mk (c := cut_c) (r, 10#8) ?_
            repeat' (first | (with_reducible refine Unf.h ?_) | ((conv => whnf); first | (refine Side.mk ?_ ?_; focus (first | with_reducible rfl | assumption | (simp [*]; done))) | refine Got.mk (fun _ _ => ?_)) | fail); all_goals try (conv => whnf)
            refine CallS.mk (c := st_c) (cutAt 10#8 r).1 ?_
            repeat' (first | (with_reducible refine Unf.h ?_) | ((conv => whnf); first | refine Fork.mkn (fun h => ?_) (fun h => ?_) | (refine Side.mk ?_ ?_; focus (first | with_reducible rfl | assumption)) | refine Got.mk (fun _ _ => ?_) | refine retK_r ?_) | fail); all_goals try (conv => whnf)
            · rename_i e he
              obtain ⟨o, ok⟩ := e
              have hno := hI.bad hs hrne (.inl h) he
              exact RetE.mk (([] : List Op), ((b :: q).length : Int) + 1, 2) hno (by repeat' (first | (with_reducible refine Unf.h ?_) | ((conv => whnf); first | (refine Side.mk ?_ ?_; focus (with_reducible rfl)) | (with_reducible refine Unf.h ?_) | exact rfl) | fail); all_goals try (conv => whnf))
            · rename_i e he
              obtain ⟨o, ok⟩ := e
              cases ok with
              | false =>
                have hno := hI.bad hs hrne (.inr rfl) he
                repeat' (first | (with_reducible refine Unf.h ?_) | ((conv => whnf); first | (with_reducible refine Unf.h ?_) | refine retK_r ?_) | fail); all_goals try (conv => whnf)
                exact RetE.mk (([] : List Op), ((b :: q).length : Int) + 1, 2) hno (by repeat' (first | (with_reducible refine Unf.h ?_) | ((conv => whnf); first | (refine Side.mk ?_ ?_; focus (with_reducible rfl)) | (with_reducible refine Unf.h ?_) | exact rfl) | fail); all_goals try (conv => whnf))
              | true =>
                have hm : 10#8 ∈ r := by assumption
                have hI2 := hI.next hm he
                have hcl2 : (cutAt 10#8 r).2.length < r.length := by
                  have := congrArg List.length (cutAt_in hm)
                  rw [List.length_append, List.length_cons] at this; omega
                clear he hI hs hrne
                repeat' (first | (with_reducible first | refine Unf.h ?_ | refine loopK_n ?_) | ((conv => whnf); first | (refine Side.mk ?_ ?_; focus ((intros; (try simp only [lenS, inR, cutS, loI, hiI] at *); omega))) | refine Ex.mk [_] rfl ?_ | (with_reducible refine Unf.h ?_)) | fail); all_goals try (conv => whnf)
                refine ⟨((b :: q) ++ [o], (cutAt 10#8 r).2), ⟨hcl2, hI2⟩, ?_⟩
                have hl2 : ((b :: q).length : Int) + 1 + 1 = ((b :: (q ++ [o])).length : Int) + 1 := by simp
                repeat' (first | (with_reducible refine Unf.h ?_) | ((conv => whnf); first | (refine Side.mk ?_ ?_; focus (first | with_reducible rfl | (refine congrArg (SV.int _) ?_; omega) | (simp [*, hl2]; done))) | (with_reducible refine Unf.h ?_) | exact True.intro) | fail); all_goals try (conv => whnf)
          · have hr0 : r = [] := List.eq_nil_of_length_eq_zero (by dsimp only at h; omega)
            exact RetE.mk ((b :: q), 0, 0) (hI.done hs hr0) (by repeat' (first | (with_reducible refine Unf.h ?_) | ((conv => whnf); first | (refine Side.mk ?_ ?_; focus (with_reducible rfl)) | (with_reducible refine Unf.h ?_) | exact rfl) | fail); all_goals try (conv => whnf))
end Go.Proofs.YtkcicejnkdobpaaDoor

namespace Go.Proofs.YtkcicejnkdobpaaDoor
set_option linter.all false
open Go.RowKit
/-! the document's Lines, Bare, One, Same -/
def lns_c : Ctr where
  D := B8
  pre := fun s => s.length ≤ 1000000
  args := fun s => [.str s]
  res := fun s _ => .int .i64 (s.count 10#8 : Int)
def lns_H : Cfg := ⟨[], [], [], [], 18, 0, [], [], []⟩
theorem lns_ok : lns_c.Ok Tryd.prog 12 := by
  refine fn_ok lns_H 0 rfl _ Tryd.func12 rfl rfl trivial rfl rfl (by kernel_rfl) (fun _ => Nat.le_of_ble_eq_true rfl) ?_
  intro (s : B8) hp hr
  try dsimp only [lns_c] at hp
  try simp only [lns_c, Rng, RngL, inR, and_true, true_and] at hr
  repeat' (first | (with_reducible refine Unf.h ?_) | fail); all_goals try (conv => whnf)
  refine LoopS.autoN (I := Nat) (fun i => i ≤ s.length) (fun i => [(4, .int .i64 i), (3, .int .i64 ((s.take i).count 10#8 : Int))]) (fun _ => []) 0 (fun i => s.length - i) 0 (Nat.zero_le _) ?_ ?_
  · have e : (s.take 0).count 10#8 = 0 := rfl
    repeat' (first | (with_reducible refine Unf.h ?_) | ((conv => whnf); first | (refine Side.mk ?_ ?_; focus (first | with_reducible rfl | (refine congrArg (SV.int _) ?_; omega))) | (with_reducible refine Unf.h ?_) | exact True.intro) | fail); all_goals try (conv => whnf)
  · intro i hi
    have hc := List.count_le_length (a := 10#8) (l := s.take i)
    rw [List.length_take] at hc
    repeat' (first | (with_reducible first | refine Unf.h ?_ | refine loopK_n ?_) | ((conv => whnf); first | refine Fork.mk (fun h => ?_) (fun h => ?_) | (refine Side.mk ?_ ?_; focus (first | omega | (intros; (try simp only [lenS, inR, cutS, loI, hiI] at *); omega))) | (refine Idx.mk ?_ ?_; focus (omega)) | refine RetE.mk () trivial ?_ | refine retK_r ?_) | fail); all_goals try (conv => whnf)
    · have hil : i < s.length := by omega
      have e : ((s.take i).count 10#8 : Int) + 1 = ((s.take (i + 1)).count 10#8 : Int) := by
        have h' : s[i]'hil = 10#8 := h
        rw [List.take_succ_eq_append_getElem hil, List.count_append, h', show List.count 10#8 [10#8] = 1 by decide]; omega
      clear h
      refine ⟨i + 1, ⟨by omega, by omega⟩, ?_⟩
      repeat' (first | (with_reducible refine Unf.h ?_) | ((conv => whnf); first | (refine Side.mk ?_ ?_; focus (first | with_reducible rfl | (refine congrArg (SV.int _) ?_; omega))) | (with_reducible refine Unf.h ?_) | exact True.intro) | fail); all_goals try (conv => whnf)
    · have hil : i < s.length := by omega
      have e : ((s.take i).count 10#8 : Int) = ((s.take (i + 1)).count 10#8 : Int) := by
        have h' : ¬ s[i]'hil = 10#8 := h
        rw [List.take_succ_eq_append_getElem hil, List.count_append, List.count_cons_of_ne h']; simp
      clear h
      refine ⟨i + 1, ⟨by omega, by omega⟩, ?_⟩
      repeat' (first | (with_reducible refine Unf.h ?_) | ((conv => whnf); first | (refine Side.mk ?_ ?_; focus (first | with_reducible rfl | (refine congrArg (SV.int _) ?_; omega))) | (with_reducible refine Unf.h ?_) | exact True.intro) | fail); all_goals try (conv => whnf)
    · have ht : s.take i = s := List.take_of_length_le (by omega)
      rw [ht]
      repeat' (first | (with_reducible refine Unf.h ?_) | ((conv => whnf); first | (refine Side.mk ?_ ?_; focus ((refine congrArg (SV.int _) ?_; omega))) | exact rfl) | fail); all_goals try (conv => whnf)
def s01_c : Ctr where
  D := B8 × B8
  args := fun (a, b) => [.fs 1 eB a, .fs 1 eB b]
  res := fun (a, b) _ => .dec (a = b) inferInstance
theorem take_eq {α : Type} {a b : List α} {i : Nat} (ha : i < a.length) (hb : i < b.length) (h : a.take i = b.take i) (e : a[i] = b[i]) : a.take (i + 1) = b.take (i + 1) := by
  rw [List.take_succ_eq_append_getElem ha, List.take_succ_eq_append_getElem hb, h, e]
theorem ne_at {α : Type} {a b : List α} {i : Nat} (ha : i < a.length) (hb : i < b.length) (e : ¬ a[i] = b[i]) : ¬ a = b := fun h => by subst h; exact e rfl
def s01_H : Cfg := ⟨[], [(6, [3, 7], [], (.one 0 0 false (.one 1 0 false (.one 2 0 false (.one 3 1 false (.one 4 0 false (.one 5 0 false (.one 6 0 false (.one 7 1 false (.one 8 0 false .nil))))))))), [])], [], [], 26, 0, [], [], []⟩
theorem s01_ok : s01_c.Ok Tryd.prog 42 := by
  refine fn_ok s01_H 0 rfl _ Tryd.func42 rfl rfl trivial rfl rfl (by kernel_rfl) (fun _ => Nat.le_of_ble_eq_true rfl) ?_
  rintro ⟨a, b⟩ hp hr
  try dsimp only [s01_c] at hp
  try simp only [s01_c, Rng, RngL, inR, and_true, true_and] at hr
  repeat' (first | (with_reducible refine Unf.h ?_) | ((conv => whnf); first | refine Fork.mkn (fun h => ?_) (fun h => ?_) | refine RetE.mk () trivial ?_ | refine retK_r ?_) | fail); all_goals try (conv => whnf)
  · have hne : ¬ a = b := fun e => by subst e; exact absurd rfl h
    refine Side.mk ⟨fun h => (by simp at h), fun h => absurd h hne⟩ ?_
    repeat' (first | (with_reducible refine Unf.h ?_) | ((conv => whnf); exact rfl) | fail); all_goals try (conv => whnf)
  · refine LoopS.autoN (I := Nat) (fun i => i ≤ a.length ∧ a.take i = b.take i) (fun i => [(5, .int .i64 i)]) (fun _ => []) 0 (fun i => a.length - i) 0 ⟨Nat.zero_le _, rfl⟩ ?_ ?_
    · repeat' (first | (with_reducible refine Unf.h ?_) | ((conv => whnf); first | (refine Side.mk ?_ ?_; focus (first | with_reducible rfl | (refine congrArg (SV.int _) ?_; omega))) | (with_reducible refine Unf.h ?_) | exact True.intro) | fail); all_goals try (conv => whnf)
    · rintro i ⟨hi, hm⟩
      have hll : i < a.length → i < b.length := fun h => by omega
      repeat' (first | (with_reducible first | refine Unf.h ?_ | refine loopK_n ?_) | ((conv => whnf); first | refine Fork.mkn (fun h => ?_) (fun h => ?_) | refine Fork.mk (fun h => ?_) (fun h => ?_) | (refine Side.mk ?_ ?_; focus ((intros; (try simp only [lenS, inR, cutS, loI, hiI] at *); omega))) | (refine Idx.mk ?_ ?_; focus (omega)) | refine RetE.mk () trivial ?_ | refine retK_r ?_) | fail); all_goals try (conv => whnf)
      · have hil : i < a.length := by omega
        have hne : ¬ a = b := ne_at hil (hll hil) h
        refine Side.mk ⟨fun h => (by simp at h), fun h => absurd h hne⟩ ?_
        repeat' (first | (with_reducible refine Unf.h ?_) | ((conv => whnf); exact rfl) | fail); all_goals try (conv => whnf)
      · have hil : i < a.length := by omega
        refine ⟨i + 1, ⟨by omega, by omega, take_eq hil (hll hil) hm h⟩, ?_⟩
        repeat' (first | (with_reducible refine Unf.h ?_) | ((conv => whnf); first | (refine Side.mk ?_ ?_; focus (first | with_reducible rfl | (refine congrArg (SV.int _) ?_; omega))) | (with_reducible refine Unf.h ?_) | exact True.intro) | fail); all_goals try (conv => whnf)
      · have he : a = b := by
          have h1 : a.take i = a := List.take_of_length_le (by omega)
          have h2 : b.take i = b := List.take_of_length_le (by omega)
          rw [h1, h2] at hm; exact hm
        refine Side.mk ⟨fun _ => he, fun _ => rfl⟩ ?_
        repeat' (first | (with_reducible refine Unf.h ?_) | ((conv => whnf); exact rfl) | fail); all_goals try (conv => whnf)
def i04_c : Ctr where
  D := List Int × List Int
  args := fun (a, b) => [.fs 1 eI a, .fs 1 eI b]
  res := fun (a, b) _ => .dec (a = b) inferInstance
def i04_H : Cfg := ⟨[], [(6, [3, 7], [], (.one 0 0 false (.one 1 0 false (.one 2 0 false (.one 3 1 false (.one 4 0 false (.one 5 0 false (.one 6 0 false (.one 7 1 false (.one 8 0 false .nil))))))))), [])], [], [], 26, 0, [], [], []⟩
theorem i04_ok : i04_c.Ok Tryd.prog 43 := by
  refine fn_ok i04_H 0 rfl _ Tryd.func43 rfl rfl trivial rfl rfl (by kernel_rfl) (fun _ => Nat.le_of_ble_eq_true rfl) ?_
  rintro ⟨a, b⟩ hp hr
  try dsimp only [i04_c] at hp
  try simp only [i04_c, Rng, RngL, inR, and_true, true_and] at hr
  repeat' (first | (with_reducible refine Unf.h ?_) | ((conv => whnf); first | refine Fork.mkn (fun h => ?_) (fun h => ?_) | refine RetE.mk () trivial ?_ | refine retK_r ?_) | fail); all_goals try (conv => whnf)
  · have hne : ¬ a = b := fun e => by subst e; exact absurd rfl h
    refine Side.mk ⟨fun h => (by simp at h), fun h => absurd h hne⟩ ?_
    repeat' (first | (with_reducible refine Unf.h ?_) | ((conv => whnf); exact rfl) | fail); all_goals try (conv => whnf)
  · refine LoopS.autoN (I := Nat) (fun i => i ≤ a.length ∧ a.take i = b.take i) (fun i => [(5, .int .i64 i)]) (fun _ => []) 0 (fun i => a.length - i) 0 ⟨Nat.zero_le _, rfl⟩ ?_ ?_
    · repeat' (first | (with_reducible refine Unf.h ?_) | ((conv => whnf); first | (refine Side.mk ?_ ?_; focus (first | with_reducible rfl | (refine congrArg (SV.int _) ?_; omega))) | (with_reducible refine Unf.h ?_) | exact True.intro) | fail); all_goals try (conv => whnf)
    · rintro i ⟨hi, hm⟩
      have hll : i < a.length → i < b.length := fun h => by omega
      repeat' (first | (with_reducible first | refine Unf.h ?_ | refine loopK_n ?_) | ((conv => whnf); first | refine Fork.mkn (fun h => ?_) (fun h => ?_) | refine Fork.mk (fun h => ?_) (fun h => ?_) | (refine Side.mk ?_ ?_; focus ((intros; (try simp only [lenS, inR, cutS, loI, hiI] at *); omega))) | (refine Idx.mk ?_ ?_; focus (omega)) | refine RetE.mk () trivial ?_ | refine retK_r ?_) | fail); all_goals try (conv => whnf)
      · have hil : i < a.length := by omega
        have hne : ¬ a = b := ne_at hil (hll hil) h
        refine Side.mk ⟨fun h => (by simp at h), fun h => absurd h hne⟩ ?_
        repeat' (first | (with_reducible refine Unf.h ?_) | ((conv => whnf); exact rfl) | fail); all_goals try (conv => whnf)
      · have hil : i < a.length := by omega
        refine ⟨i + 1, ⟨by omega, by omega, take_eq hil (hll hil) hm h⟩, ?_⟩
        repeat' (first | (with_reducible refine Unf.h ?_) | ((conv => whnf); first | (refine Side.mk ?_ ?_; focus (first | with_reducible rfl | (refine congrArg (SV.int _) ?_; omega))) | (with_reducible refine Unf.h ?_) | exact True.intro) | fail); all_goals try (conv => whnf)
      · have he : a = b := by
          have h1 : a.take i = a := List.take_of_length_le (by omega)
          have h2 : b.take i = b := List.take_of_length_le (by omega)
          rw [h1, h2] at hm; exact hm
        refine Side.mk ⟨fun _ => he, fun _ => rfl⟩ ?_
        repeat' (first | (with_reducible refine Unf.h ?_) | ((conv => whnf); exact rfl) | fail); all_goals try (conv => whnf)
def bare_c : Ctr where
  D := Op
  pre := fun o => 1 ≤ o.kind ∧ o.kind < 16
  args := fun o => [.agg (eOp o)]
  res := fun o _ => .agg (eOp (bareO o))
def bare_H : Cfg := ⟨[], [], [], [], 92, 0, [], [], []⟩
theorem bare_ok : bare_c.Ok Tryd.prog 24 := by
  refine fn_ok bare_H 0 rfl _ Tryd.func24 rfl rfl trivial rfl rfl (by kernel_rfl) (fun _ => Nat.le_of_ble_eq_true rfl) ?_
  intro (o : Op) hp hr
  try dsimp only [bare_c] at hp
  try simp only [bare_c, Rng, RngL, inR, and_true, true_and] at hr
  clear hr
  obtain ⟨hp1, hp2⟩ := hp
  have hb : bareO o = bareOn (formOf o.kind).2 o := rfl
  repeat' (first | (with_reducible refine Unf.h ?_) | ((conv => whnf); first | refine Fork.mk (fun h => ?_) (fun h => ?_) | (refine Side.mk ?_ ?_; focus (omega)) | refine RetE.mk () trivial ?_ | refine retK_r ?_ | exact rfl) | fail); all_goals try (conv => whnf)
  all_goals try (
    have hf := congrArg (fun k => (formOf k).2) h
    have hb2 := hb
    rw [hf] at hb2
    simp [bareOn, formOf, gv0, List.getD] at hb2
    rw [hb2]
    repeat' (first | (with_reducible refine Unf.h ?_) | ((conv => whnf); first | (refine Side.mk ?_ ?_; focus (with_reducible rfl)) | exact rfl) | fail); all_goals try (conv => whnf))
  all_goals (
    have h1 : o.kind = 1 ∨ o.kind = 6 := by omega
    have hb2 : bareO o = ⟨o.kind, 0, 0, 0, [], [], []⟩ := by
      rcases h1 with h | h <;> (have hf := congrArg (fun k => (formOf k).2) h; rw [hb, hf]; simp [bareOn, formOf, gv0, List.getD])
    rw [hb2]
    repeat' (first | (with_reducible refine Unf.h ?_) | ((conv => whnf); first | (refine Side.mk ?_ ?_; focus (with_reducible rfl)) | exact rfl) | fail); all_goals try (conv => whnf))
def one_c : Ctr where
  D := Op × Op
  args := fun (a, b) => [.agg (eOp a), .agg (eOp b)]
  E := Bool
  post := fun (a, b) r => a = b → r = true
  res := fun _ r => .bool r
def one_H : Cfg := ⟨[(42, s01_c), (43, i04_c)], [], [], [], 52, 0, [], [], []⟩
theorem one_ok : one_c.Ok Tryd.prog 23 := by
  refine fn_ok one_H 0 rfl _ Tryd.func23 rfl rfl ⟨s01_ok, i04_ok, trivial⟩ rfl rfl (by kernel_rfl) (fun _ => Nat.le_of_ble_eq_true rfl) ?_
  rintro ⟨a, b⟩ hp hr
  try dsimp only [one_c] at hp
  try simp only [one_c, Rng, RngL, inR, and_true, true_and] at hr
  clear hr
  have hno : ∀ r : Bool, ¬ a = b → one_c.post (a, b) r := fun r h e => absurd e h
  repeat' (first | (with_reducible refine Unf.h ?_) | ((conv => whnf); first | refine Fork.mk (fun h => ?_) (fun h => ?_) | refine retK_r ?_) | fail); all_goals try (conv => whnf)
  · refine CallS.mk (c := s01_c) (a.label, b.label) ?_
    repeat' (first | (with_reducible refine Unf.h ?_) | ((conv => whnf); first | refine Fork.mk (fun h => ?_) (fun h => ?_) | (refine Side.mk ?_ ?_; focus (first | with_reducible rfl | exact True.intro)) | refine Got.mk (fun _ _ => ?_) | refine retK_r ?_) | fail); all_goals try (conv => whnf)
    · refine CallS.mk (c := s01_c) (a.value, b.value) ?_
      repeat' (first | (with_reducible refine Unf.h ?_) | ((conv => whnf); first | refine Fork.mk (fun h => ?_) (fun h => ?_) | (refine Side.mk ?_ ?_; focus (first | with_reducible rfl | exact True.intro)) | refine Got.mk (fun _ _ => ?_) | refine retK_r ?_) | fail); all_goals try (conv => whnf)
      · refine CallS.mk (c := i04_c) (a.list, b.list) ?_
        repeat' (first | (with_reducible refine Unf.h ?_) | ((conv => whnf); first | (refine Side.mk ?_ ?_; focus (first | with_reducible rfl | exact True.intro)) | refine Got.mk (fun _ _ => ?_) | refine retK_r ?_) | fail); all_goals try (conv => whnf)
        exact RetE.mk (decide (a.list = b.list)) (fun e => decide_eq_true (congrArg Op.list e)) (by repeat' (first | (with_reducible refine Unf.h ?_) | ((conv => whnf); first | (refine Side.mk ?_ ?_; focus (with_reducible rfl)) | exact rfl) | fail); all_goals try (conv => whnf))
      · exact RetE.mk false (hno _ fun e => h (congrArg Op.value e)) (by repeat' (first | (with_reducible refine Unf.h ?_) | ((conv => whnf); first | (refine Side.mk ?_ ?_; focus (with_reducible rfl)) | exact rfl) | fail); all_goals try (conv => whnf))
    · exact RetE.mk false (hno _ fun e => h (congrArg Op.label e)) (by repeat' (first | (with_reducible refine Unf.h ?_) | ((conv => whnf); first | (refine Side.mk ?_ ?_; focus (with_reducible rfl)) | exact rfl) | fail); all_goals try (conv => whnf))
  · exact RetE.mk false (hno _ fun e => h (congrArg Op.k e)) (by repeat' (first | (with_reducible refine Unf.h ?_) | ((conv => whnf); first | (refine Side.mk ?_ ?_; focus (with_reducible rfl)) | exact rfl) | fail); all_goals try (conv => whnf))
  · exact RetE.mk false (hno _ fun e => h (congrArg Op.m e)) (by repeat' (first | (with_reducible refine Unf.h ?_) | ((conv => whnf); first | (refine Side.mk ?_ ?_; focus (with_reducible rfl)) | exact rfl) | fail); all_goals try (conv => whnf))
  · exact RetE.mk false (hno _ fun e => h (congrArg Op.n e)) (by repeat' (first | (with_reducible refine Unf.h ?_) | ((conv => whnf); first | (refine Side.mk ?_ ?_; focus (with_reducible rfl)) | exact rfl) | fail); all_goals try (conv => whnf))
  · exact RetE.mk false (hno _ fun e => h (congrArg Op.kind e)) (by repeat' (first | (with_reducible refine Unf.h ?_) | ((conv => whnf); first | (refine Side.mk ?_ ?_; focus (with_reducible rfl)) | exact rfl) | fail); all_goals try (conv => whnf))
def ssame_c : Ctr where
  D := List Op × List Op
  pre := fun (_, b) => ∀ o ∈ b, 1 ≤ o.kind ∧ o.kind < 16
  args := fun (a, b) => [.fs 7 eOp a, .fs 7 eOp b]
  E := Bool
  post := fun (a, b) r => a = b.map bareO → r = true
  res := fun _ r => .bool r
def ssame_H : Cfg := ⟨[(24, bare_c), (23, one_c)], [(6, [3, 7], [8, 9], (.one 0 0 false (.one 1 0 false (.one 2 0 false (.one 3 1 false (.one 4 0 false (.one 5 0 false (.one 6 0 false (.one 7 1 false (.one 8 2 true (.one 9 2 false (.one 10 0 false .nil))))))))))), [])], [], [], 28, 0, [], [], []⟩
theorem ssame_ok : ssame_c.Ok Tryd.prog 13 := by
  refine fn_ok ssame_H 0 rfl _ Tryd.func13 rfl rfl ⟨bare_ok, one_ok, trivial⟩ rfl rfl (by kernel_rfl) (fun _ => Nat.le_of_ble_eq_true rfl) ?_
  rintro ⟨a, b⟩ hp hr
  try dsimp only [ssame_c] at hp
  try simp only [ssame_c, Rng, RngL, inR, and_true, true_and] at hr
  repeat' (first | (with_reducible refine Unf.h ?_) | ((conv => whnf); first | refine Fork.mkn (fun h => ?_) (fun h => ?_) | refine retK_r ?_) | fail); all_goals try (conv => whnf)
  · exact RetE.mk false (fun e => by
      exfalso; apply h
      have := congrArg List.length e
      rw [List.length_map] at this; omega) (by repeat' (first | (with_reducible refine Unf.h ?_) | ((conv => whnf); first | (refine Side.mk ?_ ?_; focus (with_reducible rfl)) | exact rfl) | fail); all_goals try (conv => whnf))
  · have hll : ∀ {i : Nat}, i < a.length → i < b.length := fun h => by omega
    refine LoopS.autoN (I := Nat) (fun i => i ≤ a.length) (fun i => [(5, .int .i64 i)]) (fun _ => []) 0 (fun i => a.length - i) 0 (Nat.zero_le _) ?_ ?_
    · repeat' (first | (with_reducible refine Unf.h ?_) | ((conv => whnf); first | (refine Side.mk ?_ ?_; focus (first | with_reducible rfl | (refine congrArg (SV.int _) ?_; omega))) | (with_reducible refine Unf.h ?_) | exact True.intro) | fail); all_goals try (conv => whnf)
    · rintro i hi
      repeat' (first | (with_reducible refine Unf.h ?_) | ((conv => whnf); first | refine Fork.mk (fun h => ?_) (fun h => ?_) | (refine Idx.mk ?_ ?_; focus (omega)) | refine retK_r ?_) | fail); all_goals try (conv => whnf)
      · have hil : i < a.length := by omega
        have hib := hll hil
        have hpb : bare_c.pre (b[((i : Nat) : Int).toNat]'hib) := hp _ (List.getElem_mem _)
        refine CallS.mk (c := bare_c) (b[((i : Nat) : Int).toNat]'hib) ?_
        repeat' (first | (with_reducible refine Unf.h ?_) | ((conv => whnf); first | (refine Side.mk ?_ ?_; focus (first | with_reducible rfl | assumption)) | refine Got.mk (fun _ _ => ?_)) | fail); all_goals try (conv => whnf)
        refine CallS.mk (c := one_c) (a[((i : Nat) : Int).toNat]'hil, bareO (b[((i : Nat) : Int).toNat]'hib)) ?_
        repeat' (first | (with_reducible refine Unf.h ?_) | ((conv => whnf); first | (refine Side.mk ?_ ?_; focus (first | with_reducible rfl | exact True.intro)) | refine Got.mk (fun _ _ => ?_)) | fail); all_goals try (conv => whnf)
        rename_i e he
        have he' : (a[((i : Nat) : Int).toNat]'hil = bareO (b[((i : Nat) : Int).toNat]'hib)) → e = true := he
        clear he
        have key : a = b.map bareO → a[((i : Nat) : Int).toNat]'hil = bareO (b[((i : Nat) : Int).toNat]'hib) := fun e => by
          have h1 := congrArg (fun l => l[i]?) e
          simp only [List.getElem?_map, List.getElem?_eq_getElem hil, List.getElem?_eq_getElem hib, Option.map_some, Option.some.injEq] at h1
          exact h1
        cases e with
        | false =>
          have hno : ¬ a = b.map bareO := fun e => absurd (he' (key e)) (by simp)
          clear he' key
          repeat' (first | (with_reducible refine Unf.h ?_) | ((conv => whnf); first | (with_reducible refine Unf.h ?_) | refine retK_r ?_) | fail); all_goals try (conv => whnf)
          exact RetE.mk false (fun e => absurd e hno) (by repeat' (first | (with_reducible refine Unf.h ?_) | ((conv => whnf); first | (refine Side.mk ?_ ?_; focus (with_reducible rfl)) | exact rfl) | fail); all_goals try (conv => whnf))
        | true =>
          clear he' key
          repeat' (first | (with_reducible first | refine Unf.h ?_ | refine loopK_n ?_) | ((conv => whnf); first | (refine Side.mk ?_ ?_; focus ((intros; (try simp only [lenS, inR, cutS, loI, hiI] at *); omega))) | (with_reducible refine Unf.h ?_)) | fail); all_goals try (conv => whnf)
          refine ⟨i + 1, ⟨by omega, by omega⟩, ?_⟩
          repeat' (first | (with_reducible refine Unf.h ?_) | ((conv => whnf); first | (refine Side.mk ?_ ?_; focus (first | with_reducible rfl | (refine congrArg (SV.int _) ?_; omega))) | (with_reducible refine Unf.h ?_) | exact True.intro) | fail); all_goals try (conv => whnf)
      · exact RetE.mk true (fun _ => rfl) (by repeat' (first | (with_reducible refine Unf.h ?_) | ((conv => whnf); first | (refine Side.mk ?_ ?_; focus (with_reducible rfl)) | exact rfl) | fail); all_goals try (conv => whnf))
end Go.Proofs.YtkcicejnkdobpaaDoor

namespace Go.Proofs.YtkcicejnkdobpaaDoor
set_option linter.all false
open Go.RowKit
/-! ScriptReads, ScriptBack -/
theorem fin_ok {s : B8} {l : List Op} (hs : ¬ tooL s) (hP : allP l) (hb : ∀ o ∈ l, bareO o = o) (he : s = conc l) : l.length ≤ 400 ∧ (∀ o ∈ l, OpZ o) ∧ writeR l = (s, 0) := by
  have hc := conc_count hP
  have h1 : s.length ≤ 20000 := by
    rcases Nat.lt_or_ge 20000 s.length with h | h
    · exact absurd (.inl h) hs
    · exact h
  have h2 : s.count 10#8 ≤ 400 := by
    rcases Nat.lt_or_ge 400 (s.count 10#8) with h | h
    · exact absurd (.inr h) hs
    · exact h
  rw [he] at h1 h2
  rw [hc] at h2
  have ha := conc_accW hP h1
  refine ⟨h2, fun o ho => bare_OpZ (hP o ho) (hb o ho) (by have := conc_ge ho; omega), ?_⟩
  rw [writeR_ok hP (by rw [ha]; omega), ha, he]
def sr_c : Ctr where
  D := B8
  pre := fun s => s.length ≤ 9223372036854775807
  args := fun s => [.str s]
  res := fun _ _ => .bool true
def sr_H : Cfg := ⟨[(7, aw_c), (11, rd_c), (12, lns_c), (10, dwr_c), (13, ssame_c)], [], [], [], 82, 0, [], [], []⟩
theorem sr_ok : sr_c.Ok Tryd.prog 4 := by
  refine fn_ok sr_H 0 rfl _ Tryd.func4 rfl rfl ⟨aw_ok, rd_ok, lns_ok, dwr_ok, ssame_ok, trivial⟩ rfl rfl (by kernel_rfl) (fun _ => Nat.le_of_ble_eq_true rfl) ?_
  intro (s : B8) hp hr
  try dsimp only [sr_c] at hp
  try simp only [sr_c, Rng, RngL, inR, and_true, true_and] at hr
  have hsl0 : s.length < 9223372036854775808 := by omega
  repeat' (first | (with_reducible refine Unf.h ?_) | ((conv => whnf); first | refine Fork.mk (fun h => ?_) (fun h => ?_) | (refine Side.mk ?_ ?_; focus (first | with_reducible rfl | exact True.intro | assumption)) | refine RetE.mk () trivial ?_ | refine Got.mk (fun _ _ => ?_) | refine retK_r ?_ | exact rfl | refine CallS.mk (c := aw_c) (()) ?_) | fail); all_goals try (conv => whnf)
  have hsl : s.length ≤ 21000 := by omega
  have hp1 : rd_c.pre s := show s.length ≤ 1000000 by omega
  have hp2 : lns_c.pre s := show s.length ≤ 1000000 by omega
  have hlc := List.count_le_length (a := 10#8) (l := s)
  refine CallS.mk (c := rd_c) (s) ?_
  repeat (first | (with_reducible refine Unf.h ?_) | ((conv => whnf); first | (refine Side.mk ?_ ?_; focus (first | with_reducible rfl | assumption | exact True.intro | rfl)) | (with_reducible refine Unf.h ?_)))
  conv => whnf
  refine Got.mk (fun e he => ?_)
  obtain ⟨l, at', er⟩ := e
  rcases (show (tooL s ∧ (l, at', er) = (([] : List Op), (0 : Int), (3 : Int))) ∨ (¬ tooL s ∧ ((allP l ∧ (∀ o ∈ l, bareO o = o) ∧ s = conc l ∧ (at', er) = ((0 : Int), (0 : Int))) ∨ (l = [] ∧ er = 2 ∧ ∃ ls rest, allP ls ∧ s = conc ls ++ rest ∧ rest ≠ [] ∧ noLine rest ∧ at' = (ls.length : Int) + 1))) from he) with ⟨ht, he2⟩ | ⟨ht, ⟨hP, hb, hs, he2⟩ | ⟨hl, he2, ls, rest, hP, hs, hne, hno, ha⟩⟩
  all_goals clear he
  · simp only [Prod.mk.injEq] at he2
    obtain ⟨rfl, rfl, rfl⟩ := he2
    repeat' (first | (with_reducible refine Unf.h ?_) | ((conv => whnf); first | refine Fork.mk (fun h => ?_) (fun h => ?_) | (refine Side.mk ?_ ?_; focus (first | with_reducible rfl | assumption | omega | exact dT (by omega) | exact dF (by omega))) | refine RetE.mk () trivial ?_ | refine Got.mk (fun _ _ => ?_) | (with_reducible refine Unf.h ?_) | refine retK_r ?_ | exact rfl | refine CallS.mk (c := lns_c) (s) ?_) | fail); all_goals try (conv => whnf)
    exfalso; rcases ht with h | h <;> omega
  · simp only [Prod.mk.injEq] at he2
    obtain ⟨rfl, rfl⟩ := he2
    obtain ⟨hl4, hz, hw⟩ := fin_ok ht hP hb hs
    have hmap : l = l.map bareO := by
      have := List.map_congr_left (f := bareO) (g := id) (l := l) hb
      rw [this, List.map_id]
    have hpd : dwr_c.pre l := ⟨by omega, hz⟩
    have hpm : ssame_c.pre (l, l) := fun o ho => (hP o ho).1
    have hno : ¬ 20000 < s.length := fun h => ht (.inl h)
    have hno2 : ¬ 400 < s.count 10#8 := fun h => ht (.inr h)
    clear ht hP hb hz
    repeat' (first | (with_reducible refine Unf.h ?_) | ((conv => whnf); first | refine Fork.mk (fun h => ?_) (fun h => ?_) | (refine Side.mk ?_ ?_; focus (first | with_reducible rfl | assumption | omega | (intros; (try simp only [lenS, inR, cutS, loI, hiI] at *); omega))) | refine RetE.mk () trivial ?_ | refine Got.mk (fun _ _ => ?_) | (with_reducible refine Unf.h ?_) | refine retK_r ?_ | exact rfl | refine CallS.mk (c := lns_c) (s) ?_) | fail); all_goals try (conv => whnf)
    · refine CallS.mk (c := dwr_c) l ?_
      simp only [dwr_c, hw]
      repeat' (first | (with_reducible refine Unf.h ?_) | ((conv => whnf); first | refine Fork.mk (fun h => ?_) (fun h => ?_) | (refine Side.mk ?_ ?_; focus (first | with_reducible rfl | assumption | omega)) | refine RetE.mk () trivial ?_ | refine Got.mk (fun _ _ => ?_) | refine retK_r ?_ | exact rfl) | fail); all_goals try (conv => whnf)
      · skip
        refine CallS.mk (c := ssame_c) ((l, l)) ?_
        repeat (first | (with_reducible refine Unf.h ?_) | ((conv => whnf); first | (refine Side.mk ?_ ?_; focus (first | with_reducible rfl | assumption | exact True.intro | rfl)) | (with_reducible refine Unf.h ?_)))
        conv => whnf
        refine Got.mk (fun e he => ?_)
        obtain rfl : e = true := he hmap
        repeat' (first | (with_reducible refine Unf.h ?_) | ((conv => whnf); first | (refine Side.mk ?_ ?_; focus (with_reducible rfl)) | refine RetE.mk () trivial ?_ | (with_reducible refine Unf.h ?_) | refine retK_r ?_ | exact rfl) | fail); all_goals try (conv => whnf)
      · exact absurd rfl h
    · exact absurd rfl ‹¬ (l, (0 : Int), (0 : Int)).snd.snd = 0›
  · have hcl : ls.length ≤ s.count 10#8 := by
      rw [hs, List.count_append, conc_count hP]; omega
    have hno1 : ¬ 20000 < s.length := fun h => ht (.inl h)
    have hno2 : ¬ 400 < s.count 10#8 := fun h => ht (.inr h)
    subst hl he2 ha
    clear hP hs hne hno ht
    repeat' (first | (with_reducible refine Unf.h ?_) | ((conv => whnf); first | refine Fork.mk (fun h => ?_) (fun h => ?_) | (refine Side.mk ?_ ?_; focus (first | with_reducible rfl | assumption | omega | (intros; (try simp only [lenS, inR, cutS, loI, hiI] at *); omega) | exact dF (by omega) | (simp [*]; done))) | refine RetE.mk () trivial ?_ | refine Got.mk (fun _ _ => ?_) | (with_reducible refine Unf.h ?_) | refine retK_r ?_ | exact rfl | refine CallS.mk (c := lns_c) (s) ?_) | fail); all_goals try (conv => whnf)
    exact absurd (show (2 : Int) = 0 from h) (by decide)
theorem back_ok {l : List Op} {s : B8} (h : writeR l = (s, 0)) : allP l ∧ l.length ≤ 400 ∧ s.length ≤ 20000 ∧ s = conc l ∧ ¬ tooL s := by
  unfold writeR at h
  split at h
  · rename_i hP
    split at h
    · simp at h
    · rename_i hn
      simp only [Prod.mk.injEq, and_true] at h
      have h1 : (accW l).length ≤ 20000 := by omega
      have hc := accW_conc hP h1
      have hs : s = conc l := by rw [← h, hc]
      have hcount := conc_count hP
      rw [← hs] at hcount
      refine ⟨hP, by omega, by rw [← h]; omega, hs, fun ht => ?_⟩
      rcases ht with ht | ht
      · rw [← h] at ht; omega
      · omega
  · simp at h
theorem writeR_err (l : List Op) (h : (writeR l).2 ≠ 0) : (writeR l).1 = [] := by
  unfold writeR at h ⊢
  split
  · split
    · rfl
    · rename_i h1 h2; rw [if_pos h1, if_neg h2] at h; exact absurd rfl h
  · rfl
def sbk_c : Ctr where
  D := List Op
  args := fun l => [.fs 7 eOp l]
  res := fun _ _ => .bool true
def sbk_H : Cfg := ⟨[(7, aw_c), (8, sfew_c), (9, wr_c), (11, rd_c), (13, ssame_c)], [], [], [], 42, 0, [], [], []⟩
theorem sbk_ok : sbk_c.Ok Tryd.prog 5 := by
  refine fn_ok sbk_H 0 rfl _ Tryd.func5 rfl rfl ⟨aw_ok, sfew_ok, wr_ok, rd_ok, ssame_ok, trivial⟩ rfl rfl (by kernel_rfl) (fun _ => Nat.le_of_ble_eq_true rfl) ?_
  intro (l : List Op) hp hr
  try dsimp only [sbk_c] at hp
  try simp only [sbk_c, Rng, RngL, inR, and_true, true_and] at hr
  have hpf : sfew_c.pre (l, 300) := show (300 : Int) ≤ 500 by decide
  repeat' (first | (with_reducible refine Unf.h ?_) | ((conv => whnf); first | (refine Side.mk ?_ ?_; focus (first | with_reducible rfl | exact True.intro | assumption)) | refine Got.mk (fun _ _ => ?_) | refine CallS.mk (c := aw_c) (()) ?_ | refine CallS.mk (c := sfew_c) ((l, 300)) ?_) | fail); all_goals try (conv => whnf)
  rename_i e he
  cases e with
  | false =>
    repeat' (first | (with_reducible refine Unf.h ?_) | ((conv => whnf); first | (refine Side.mk ?_ ?_; focus (first | with_reducible rfl | exact True.intro)) | refine RetE.mk () trivial ?_ | refine Got.mk (fun _ _ => ?_) | (with_reducible refine Unf.h ?_) | refine retK_r ?_ | exact rfl | refine CallS.mk (c := aw_c) (()) ?_) | fail); all_goals try (conv => whnf)
  | true =>
    obtain ⟨hz, hn⟩ := (show (∀ o ∈ l, OpZ o) ∧ (l.length : Int) ≤ 300 from he rfl)
    clear he
    have hpw : wr_c.pre l := ⟨by omega, hz⟩
    repeat' (first | (with_reducible refine Unf.h ?_) | ((conv => whnf); first | refine Fork.mkn (fun h => ?_) (fun h => ?_) | (refine Side.mk ?_ ?_; focus (first | with_reducible rfl | assumption)) | refine RetE.mk () trivial ?_ | refine Got.mk (fun _ _ => ?_) | (with_reducible refine Unf.h ?_) | refine retK_r ?_ | refine CallS.mk (c := wr_c) (l) ?_) | fail); all_goals try (conv => whnf)
    · have h2 : (writeR l).1 = [] := writeR_err l h
      repeat' (first | (with_reducible refine Unf.h ?_) | ((conv => whnf); first | (refine Side.mk ?_ ?_; focus ((simp [*, h2]; done))) | exact rfl) | fail); all_goals try (conv => whnf)
    · obtain ⟨s, hs⟩ : ∃ s, writeR l = (s, 0) := ⟨(writeR l).1, Prod.ext rfl (by simpa using h)⟩
      obtain ⟨hP, hl4, hsl, hsc, hnt⟩ := back_ok hs
      have hpr : rd_c.pre s := show s.length ≤ 1000000 by omega
      have hpm : ssame_c.pre (l, l) := fun o ho => (hP o ho).1
      simp only [hs]
      refine CallS.mk (c := rd_c) (s) ?_
      repeat (first | (with_reducible refine Unf.h ?_) | ((conv => whnf); first | (refine Side.mk ?_ ?_; focus (first | with_reducible rfl | assumption | exact True.intro | rfl)) | (with_reducible refine Unf.h ?_)))
      conv => whnf
      refine Got.mk (fun e he => ?_)
      obtain ⟨l', at', er⟩ := e
      rcases (show (tooL s ∧ (l', at', er) = (([] : List Op), (0 : Int), (3 : Int))) ∨ (¬ tooL s ∧ ((allP l' ∧ (∀ o ∈ l', bareO o = o) ∧ s = conc l' ∧ (at', er) = ((0 : Int), (0 : Int))) ∨ (l' = [] ∧ er = 2 ∧ ∃ ls rest, allP ls ∧ s = conc ls ++ rest ∧ rest ≠ [] ∧ noLine rest ∧ at' = (ls.length : Int) + 1))) from he) with ⟨ht, he2⟩ | ⟨ht, ⟨hP', hb, hs', he2⟩ | ⟨hl, he2, ls, rest, hP', hs', hne, hno, ha⟩⟩
      · exact absurd ht hnt
      · clear he
        simp only [Prod.mk.injEq] at he2
        obtain ⟨rfl, rfl⟩ := he2
        have hm := (conc_cut hP' hP noLine_nil noLine_nil (by rw [List.append_nil, List.append_nil, ← hs', hsc])).1
        have hbb := conc_bare hP' hP hm
        have heq : l' = l.map bareO := by
          rw [← hbb]
          have := List.map_congr_left (f := bareO) (g := id) (l := l') hb
          rw [this, List.map_id]
        clear hP' hb hs' hm hbb ht
        repeat' (first | (with_reducible refine Unf.h ?_) | ((conv => whnf); first | refine Fork.mk (fun h => ?_) (fun h => ?_) | (refine Side.mk ?_ ?_; focus (exact dF (by omega))) | refine RetE.mk () trivial ?_ | (with_reducible refine Unf.h ?_) | refine retK_r ?_ | exact rfl) | fail); all_goals try (conv => whnf)
        skip
        refine CallS.mk (c := ssame_c) ((l', l)) ?_
        repeat (first | (with_reducible refine Unf.h ?_) | ((conv => whnf); first | (refine Side.mk ?_ ?_; focus (first | with_reducible rfl | assumption | exact True.intro | rfl)) | (with_reducible refine Unf.h ?_)))
        conv => whnf
        refine Got.mk (fun e he => ?_)
        obtain rfl : e = true := he heq
        repeat' (first | (with_reducible refine Unf.h ?_) | ((conv => whnf); first | (refine Side.mk ?_ ?_; focus (with_reducible rfl)) | refine RetE.mk () trivial ?_ | (with_reducible refine Unf.h ?_) | refine retK_r ?_ | exact rfl) | fail); all_goals try (conv => whnf)
      · exfalso
        have := (conc_cut hP hP' noLine_nil hno (by rw [List.append_nil, ← hs', hsc])).2
        exact hne this.symm
end Go.Proofs.YtkcicejnkdobpaaDoor

namespace Go.Proofs.YtkcicejnkdobpaaDoor
set_option linter.all false
open Go.RowKit
/-! ScriptWhere -/
theorem where_at {l : List Op} {x : B8} {l' : List Op} {at' er : Int} (hP : allP l) (hx : noLine x) (hne : x ≠ []) (ht : ¬ tooL (conc l ++ x)) (h : rdPost (conc l ++ x) (l', at', er)) : er = 2 ∧ at' = (l.length : Int) + 1 := by
  rcases h with ⟨h, _⟩ | ⟨_, ⟨hP', _, hs, _⟩ | ⟨_, he, ls, rest, hP', hs, hrn, hno, ha⟩⟩
  · exact absurd h ht
  · exfalso
    have := (conc_cut hP hP' hx noLine_nil (by rw [List.append_nil]; exact hs)).2
    exact hne this
  · have h1 := (conc_cut hP hP' hx hno hs).1
    have h2 := congrArg List.length h1
    rw [List.length_map, List.length_map] at h2
    exact ⟨he, by rw [h2]; exact ha⟩
theorem bad_len : ∀ x ∈ badL, x.length ≤ 20 := by decide
theorem where_tick {l : List Op} (hP : allP l) (h1 : l.length ≤ 100) (h2 : (conc l).length ≤ 9000) {l' : List Op} {at' er : Int} (h : rdPost (conc l ++ [116#8, 105#8, 99#8, 107#8]) (l', at', er)) : er = 2 ∧ at' = (l.length : Int) + 1 := by
  refine where_at hP (noend_noLine (by decide)) (by simp) (fun ht => ?_) h
  have hc := conc_count hP
  rcases ht with ht | ht
  · rw [List.length_append] at ht; simp at ht; omega
  · rw [List.count_append, hc, show List.count 10#8 [116#8, 105#8, 99#8, 107#8] = 0 by decide] at ht; omega
theorem where_bad {l m : List Op} {x : B8} (hP : allP l) (hQ : allP m) (h1 : l.length ≤ 100) (h2 : (conc l).length ≤ 9000) (h3 : m.length ≤ 100) (h4 : (conc m).length ≤ 9000) (hx : x ∈ badL) {l' : List Op} {at' er : Int} (h : rdPost (conc l ++ (x ++ 10#8 :: conc m)) (l', at', er)) : er = 2 ∧ at' = (l.length : Int) + 1 := by
  refine where_at hP (bad_noLine hx) (by simp) (fun ht => ?_) h
  have hc := conc_count hP
  have hd := conc_count hQ
  have hl := bad_len x hx
  have hz : x.count 10#8 = 0 := List.count_eq_zero.2 (bad_nl x hx)
  rcases ht with ht | ht
  · rw [List.length_append, List.length_append, List.length_cons] at ht; omega
  · rw [List.count_append, List.count_append, hc, hz, List.count_cons, hd] at ht; simp at ht; omega
def swh_c : Ctr where
  D := List Op × List Op × BitVec 8
  args := fun (a, b, x) => [.fs 7 eOp a, .fs 7 eOp b, .u8 x]
  res := fun _ _ => .bool true
def swh_H : Cfg := ⟨[(7, aw_c), (8, sfew_c), (9, wr_c), (11, rd_c)], [], [], [], 100, 0, [], [], []⟩
theorem swh_ok : swh_c.Ok Tryd.prog 6 := by
  refine fn_ok swh_H 0 rfl _ Tryd.func6 rfl rfl ⟨aw_ok, sfew_ok, wr_ok, rd_ok, trivial⟩ rfl rfl (by kernel_rfl) (fun _ => Nat.le_of_ble_eq_true rfl) ?_
  rintro ⟨la, lb, x⟩ hp hr
  try dsimp only [swh_c] at hp
  try simp only [swh_c, Rng, RngL, inR, and_true, true_and] at hr
  have hpf : sfew_c.pre (la, 100) := show (100 : Int) ≤ 500 by decide
  have hpg : sfew_c.pre (lb, 100) := show (100 : Int) ≤ 500 by decide
  repeat' (first | (with_reducible refine Unf.h ?_) | ((conv => whnf); first | (refine Side.mk ?_ ?_; focus (first | with_reducible rfl | exact True.intro | assumption)) | refine Got.mk (fun _ _ => ?_) | refine CallS.mk (c := aw_c) (()) ?_ | refine CallS.mk (c := sfew_c) ((la, 100)) ?_) | fail); all_goals try (conv => whnf)
  rename_i e he
  cases e with
  | false =>
    repeat' (first | (with_reducible refine Unf.h ?_) | ((conv => whnf); first | (refine Side.mk ?_ ?_; focus (first | with_reducible rfl | exact True.intro)) | refine RetE.mk () trivial ?_ | refine Got.mk (fun _ _ => ?_) | (with_reducible refine Unf.h ?_) | refine retK_r ?_ | exact rfl | refine CallS.mk (c := aw_c) (()) ?_) | fail); all_goals try (conv => whnf)
  | true =>
    obtain ⟨hz, hn⟩ := (show (∀ o ∈ la, OpZ o) ∧ (la.length : Int) ≤ 100 from he rfl)
    clear he
    have hpw : wr_c.pre la := ⟨by omega, hz⟩
    repeat' (first | (with_reducible refine Unf.h ?_) | ((conv => whnf); first | (refine Side.mk ?_ ?_; focus (first | with_reducible rfl | assumption)) | refine Got.mk (fun _ _ => ?_) | (with_reducible refine Unf.h ?_) | refine CallS.mk (c := sfew_c) ((lb, 100)) ?_) | fail); all_goals try (conv => whnf)
    rename_i e he
    cases e with
    | false =>
      repeat' (first | (with_reducible refine Unf.h ?_) | ((conv => whnf); first | (refine Side.mk ?_ ?_; focus (first | with_reducible rfl | exact True.intro)) | refine RetE.mk () trivial ?_ | refine Got.mk (fun _ _ => ?_) | (with_reducible refine Unf.h ?_) | refine retK_r ?_ | exact rfl | refine CallS.mk (c := aw_c) (()) ?_) | fail); all_goals try (conv => whnf)
    | true =>
      obtain ⟨hz2, hn2⟩ := (show (∀ o ∈ lb, OpZ o) ∧ (lb.length : Int) ≤ 100 from he rfl)
      clear he
      have hpw2 : wr_c.pre lb := ⟨by omega, hz2⟩
      repeat' (first | (with_reducible refine Unf.h ?_) | ((conv => whnf); (with_reducible refine Unf.h ?_)) | fail); all_goals try (conv => whnf)
      refine CallS.mk (c := wr_c) (la) ?_
      repeat' (first | (with_reducible refine Unf.h ?_) | ((conv => whnf); first | (refine Side.mk ?_ ?_; focus (first | with_reducible rfl | assumption)) | refine Got.mk (fun _ _ => ?_)) | fail); all_goals try (conv => whnf)
      refine CallS.mk (c := wr_c) (lb) ?_
      repeat' (first | (with_reducible refine Unf.h ?_) | ((conv => whnf); first | refine Fork.mkn (fun h => ?_) (fun h => ?_) | (refine Side.mk ?_ ?_; focus (first | with_reducible rfl | assumption)) | refine RetE.mk () trivial ?_ | refine Got.mk (fun _ _ => ?_) | refine retK_r ?_ | exact rfl) | fail); all_goals try (conv => whnf)
      rename_i h1
      obtain ⟨sa, hsa⟩ : ∃ s, writeR la = (s, 0) := ⟨_, Prod.ext rfl h1⟩
      obtain ⟨sb, hsb⟩ : ∃ s, writeR lb = (s, 0) := ⟨_, Prod.ext rfl h⟩
      clear h h1
      obtain ⟨hPa, hla, hsla, hsca, hnta⟩ := back_ok hsa
      obtain ⟨hPb, hlb, hslb, hscb, hntb⟩ := back_ok hsb
      simp only [hsa, hsb]
      have hc0 : la.length ≤ 100 := by omega
      have hd0 : lb.length ≤ 100 := by omega
      repeat' (first | (with_reducible refine Unf.h ?_) | ((conv => whnf); first | refine Fork.mk (fun h => ?_) (fun h => ?_) | (refine Side.mk ?_ ?_; focus (first | with_reducible rfl | omega | (simp [*]; done))) | refine RetE.mk () trivial ?_ | refine retK_r ?_ | exact rfl) | fail); all_goals try (conv => whnf)
      have hx : (x % 14#8).toNat < 14 := by rw [BitVec.toNat_umod]; exact Nat.mod_lt _ (by decide)
      rename_i ha9
      have ha9' : sa.length ≤ 9000 := by omega
      have hb9' : sb.length ≤ 9000 := by omega
      clear ha9 h hpf hpg hpw hpw2 hz hz2 hn hn2 hla hlb hsla hslb hnta hntb hr
      generalize (x % 14#8).toNat = n at hx ⊢
      have hk : n = 0 ∨ n = 1 ∨ n = 2 ∨ n = 3 ∨ n = 4 ∨ n = 5 ∨ n = 6 ∨ n = 7 ∨ n = 8 ∨ n = 9 ∨ n = 10 ∨ n = 11 ∨ n = 12 ∨ n = 13 := by omega
      clear hx
      rcases hk with rfl | rfl | rfl | rfl | rfl | rfl | rfl | rfl | rfl | rfl | rfl | rfl | rfl | rfl
      · repeat' (first | (with_reducible refine Unf.h ?_) | ((conv => whnf); first | (refine Side.mk ?_ ?_; focus ((intros; (try simp only [lenS, inR, cutS, loI, hiI] at *); omega))) | (with_reducible refine Unf.h ?_)) | fail); all_goals try (conv => whnf)
        have hm : (cS #[] : B8) ∈ badL := List.mem_of_getElem? (i := 0) rfl
        have hw20 := bad_len _ hm
        have hpr : rd_c.pre (((sa ++ cS #[]) ++ cS #[10]) ++ sb) := by
          show _ ≤ 1000000
          simp only [List.length_append, show (cS #[10]).length = 1 from rfl]; omega
        have hpt : rd_c.pre (sa ++ [116#8, 105#8, 99#8, 107#8]) := by
          show _ ≤ 1000000
          simp only [List.length_append, List.length_cons, List.length_nil]; omega
        have hs : ((sa ++ cS #[]) ++ cS #[10]) ++ sb = conc la ++ (cS #[] ++ 10#8 :: conc lb) := by
          rw [hsca, hscb, List.append_assoc, List.append_assoc]; rfl
        have hs2 : sa ++ [116#8, 105#8, 99#8, 107#8] = conc la ++ [116#8, 105#8, 99#8, 107#8] := by rw [hsca]
        refine CallS.mk (c := rd_c) (((sa ++ cS #[]) ++ cS #[10]) ++ sb) ?_
        repeat (first | (with_reducible refine Unf.h ?_) | ((conv => whnf); first | (refine Side.mk ?_ ?_; focus (first | with_reducible rfl | assumption | exact True.intro | rfl)) | (with_reducible refine Unf.h ?_)))
        conv => whnf
        refine Got.mk (fun e he => ?_)
        obtain ⟨l1, at1, er1⟩ := e
        obtain ⟨rfl, rfl⟩ := where_bad hPa hPb hc0 (hsca ▸ ha9') hd0 (hscb ▸ hb9') hm (hs ▸ he)
        clear he hs
        repeat' (first | (with_reducible refine Unf.h ?_) | ((conv => whnf); first | (refine Side.mk ?_ ?_; focus ((intros; (try simp only [lenS, inR, cutS, loI, hiI] at *); omega))) | (with_reducible refine Unf.h ?_)) | fail); all_goals try (conv => whnf)
        skip
        refine CallS.mk (c := rd_c) (sa ++ cS #[116, 105, 99, 107]) ?_
        repeat (first | (with_reducible refine Unf.h ?_) | ((conv => whnf); first | (refine Side.mk ?_ ?_; focus (first | with_reducible rfl | assumption | exact True.intro | rfl)) | (with_reducible refine Unf.h ?_)))
        conv => whnf
        refine Got.mk (fun e he => ?_)
        obtain ⟨l2, at2, er2⟩ := e
        obtain ⟨rfl, rfl⟩ := where_tick hPa hc0 (hsca ▸ ha9') (hs2 ▸ he)
        clear he hs2
        repeat' (first | (with_reducible refine Unf.h ?_) | ((conv => whnf); first | refine Fork.mk (fun h => ?_) (fun h => ?_) | (refine Side.mk ?_ ?_; focus (first | (intros; (try simp only [lenS, inR, cutS, loI, hiI] at *); omega) | exact dF (by omega) | (simp [*]; done))) | refine RetE.mk () trivial ?_ | (with_reducible refine Unf.h ?_) | refine retK_r ?_ | exact rfl) | fail); all_goals try (conv => whnf)
        all_goals exact absurd rfl h
      · repeat' (first | (with_reducible refine Unf.h ?_) | ((conv => whnf); first | (refine Side.mk ?_ ?_; focus ((intros; (try simp only [lenS, inR, cutS, loI, hiI] at *); omega))) | (with_reducible refine Unf.h ?_)) | fail); all_goals try (conv => whnf)
        have hm : (cS #[116, 105, 99, 107, 32] : B8) ∈ badL := List.mem_of_getElem? (i := 1) rfl
        have hw20 := bad_len _ hm
        have hpr : rd_c.pre (((sa ++ cS #[116, 105, 99, 107, 32]) ++ cS #[10]) ++ sb) := by
          show _ ≤ 1000000
          simp only [List.length_append, show (cS #[10]).length = 1 from rfl]; omega
        have hpt : rd_c.pre (sa ++ [116#8, 105#8, 99#8, 107#8]) := by
          show _ ≤ 1000000
          simp only [List.length_append, List.length_cons, List.length_nil]; omega
        have hs : ((sa ++ cS #[116, 105, 99, 107, 32]) ++ cS #[10]) ++ sb = conc la ++ (cS #[116, 105, 99, 107, 32] ++ 10#8 :: conc lb) := by
          rw [hsca, hscb, List.append_assoc, List.append_assoc]; rfl
        have hs2 : sa ++ [116#8, 105#8, 99#8, 107#8] = conc la ++ [116#8, 105#8, 99#8, 107#8] := by rw [hsca]
        refine CallS.mk (c := rd_c) (((sa ++ cS #[116, 105, 99, 107, 32]) ++ cS #[10]) ++ sb) ?_
        repeat (first | (with_reducible refine Unf.h ?_) | ((conv => whnf); first | (refine Side.mk ?_ ?_; focus (first | with_reducible rfl | assumption | exact True.intro | rfl)) | (with_reducible refine Unf.h ?_)))
        conv => whnf
        refine Got.mk (fun e he => ?_)
        obtain ⟨l1, at1, er1⟩ := e
        obtain ⟨rfl, rfl⟩ := where_bad hPa hPb hc0 (hsca ▸ ha9') hd0 (hscb ▸ hb9') hm (hs ▸ he)
        clear he hs
        repeat' (first | (with_reducible refine Unf.h ?_) | ((conv => whnf); first | (refine Side.mk ?_ ?_; focus ((intros; (try simp only [lenS, inR, cutS, loI, hiI] at *); omega))) | (with_reducible refine Unf.h ?_)) | fail); all_goals try (conv => whnf)
        skip
        refine CallS.mk (c := rd_c) (sa ++ cS #[116, 105, 99, 107]) ?_
        repeat (first | (with_reducible refine Unf.h ?_) | ((conv => whnf); first | (refine Side.mk ?_ ?_; focus (first | with_reducible rfl | assumption | exact True.intro | rfl)) | (with_reducible refine Unf.h ?_)))
        conv => whnf
        refine Got.mk (fun e he => ?_)
        obtain ⟨l2, at2, er2⟩ := e
        obtain ⟨rfl, rfl⟩ := where_tick hPa hc0 (hsca ▸ ha9') (hs2 ▸ he)
        clear he hs2
        repeat' (first | (with_reducible refine Unf.h ?_) | ((conv => whnf); first | refine Fork.mk (fun h => ?_) (fun h => ?_) | (refine Side.mk ?_ ?_; focus (first | (intros; (try simp only [lenS, inR, cutS, loI, hiI] at *); omega) | exact dF (by omega) | (simp [*]; done))) | refine RetE.mk () trivial ?_ | (with_reducible refine Unf.h ?_) | refine retK_r ?_ | exact rfl) | fail); all_goals try (conv => whnf)
        all_goals exact absurd rfl h
      · repeat' (first | (with_reducible refine Unf.h ?_) | ((conv => whnf); first | (refine Side.mk ?_ ?_; focus ((intros; (try simp only [lenS, inR, cutS, loI, hiI] at *); omega))) | (with_reducible refine Unf.h ?_)) | fail); all_goals try (conv => whnf)
        have hm : (cS #[32, 116, 105, 99, 107] : B8) ∈ badL := List.mem_of_getElem? (i := 2) rfl
        have hw20 := bad_len _ hm
        have hpr : rd_c.pre (((sa ++ cS #[32, 116, 105, 99, 107]) ++ cS #[10]) ++ sb) := by
          show _ ≤ 1000000
          simp only [List.length_append, show (cS #[10]).length = 1 from rfl]; omega
        have hpt : rd_c.pre (sa ++ [116#8, 105#8, 99#8, 107#8]) := by
          show _ ≤ 1000000
          simp only [List.length_append, List.length_cons, List.length_nil]; omega
        have hs : ((sa ++ cS #[32, 116, 105, 99, 107]) ++ cS #[10]) ++ sb = conc la ++ (cS #[32, 116, 105, 99, 107] ++ 10#8 :: conc lb) := by
          rw [hsca, hscb, List.append_assoc, List.append_assoc]; rfl
        have hs2 : sa ++ [116#8, 105#8, 99#8, 107#8] = conc la ++ [116#8, 105#8, 99#8, 107#8] := by rw [hsca]
        refine CallS.mk (c := rd_c) (((sa ++ cS #[32, 116, 105, 99, 107]) ++ cS #[10]) ++ sb) ?_
        repeat (first | (with_reducible refine Unf.h ?_) | ((conv => whnf); first | (refine Side.mk ?_ ?_; focus (first | with_reducible rfl | assumption | exact True.intro | rfl)) | (with_reducible refine Unf.h ?_)))
        conv => whnf
        refine Got.mk (fun e he => ?_)
        obtain ⟨l1, at1, er1⟩ := e
        obtain ⟨rfl, rfl⟩ := where_bad hPa hPb hc0 (hsca ▸ ha9') hd0 (hscb ▸ hb9') hm (hs ▸ he)
        clear he hs
        repeat' (first | (with_reducible refine Unf.h ?_) | ((conv => whnf); first | (refine Side.mk ?_ ?_; focus ((intros; (try simp only [lenS, inR, cutS, loI, hiI] at *); omega))) | (with_reducible refine Unf.h ?_)) | fail); all_goals try (conv => whnf)
        skip
        refine CallS.mk (c := rd_c) (sa ++ cS #[116, 105, 99, 107]) ?_
        repeat (first | (with_reducible refine Unf.h ?_) | ((conv => whnf); first | (refine Side.mk ?_ ?_; focus (first | with_reducible rfl | assumption | exact True.intro | rfl)) | (with_reducible refine Unf.h ?_)))
        conv => whnf
        refine Got.mk (fun e he => ?_)
        obtain ⟨l2, at2, er2⟩ := e
        obtain ⟨rfl, rfl⟩ := where_tick hPa hc0 (hsca ▸ ha9') (hs2 ▸ he)
        clear he hs2
        repeat' (first | (with_reducible refine Unf.h ?_) | ((conv => whnf); first | refine Fork.mk (fun h => ?_) (fun h => ?_) | (refine Side.mk ?_ ?_; focus (first | (intros; (try simp only [lenS, inR, cutS, loI, hiI] at *); omega) | exact dF (by omega) | (simp [*]; done))) | refine RetE.mk () trivial ?_ | (with_reducible refine Unf.h ?_) | refine retK_r ?_ | exact rfl) | fail); all_goals try (conv => whnf)
        all_goals exact absurd rfl h
      · repeat' (first | (with_reducible refine Unf.h ?_) | ((conv => whnf); first | (refine Side.mk ?_ ?_; focus ((intros; (try simp only [lenS, inR, cutS, loI, hiI] at *); omega))) | (with_reducible refine Unf.h ?_)) | fail); all_goals try (conv => whnf)
        have hm : (cS #[84, 105, 99, 107] : B8) ∈ badL := List.mem_of_getElem? (i := 3) rfl
        have hw20 := bad_len _ hm
        have hpr : rd_c.pre (((sa ++ cS #[84, 105, 99, 107]) ++ cS #[10]) ++ sb) := by
          show _ ≤ 1000000
          simp only [List.length_append, show (cS #[10]).length = 1 from rfl]; omega
        have hpt : rd_c.pre (sa ++ [116#8, 105#8, 99#8, 107#8]) := by
          show _ ≤ 1000000
          simp only [List.length_append, List.length_cons, List.length_nil]; omega
        have hs : ((sa ++ cS #[84, 105, 99, 107]) ++ cS #[10]) ++ sb = conc la ++ (cS #[84, 105, 99, 107] ++ 10#8 :: conc lb) := by
          rw [hsca, hscb, List.append_assoc, List.append_assoc]; rfl
        have hs2 : sa ++ [116#8, 105#8, 99#8, 107#8] = conc la ++ [116#8, 105#8, 99#8, 107#8] := by rw [hsca]
        refine CallS.mk (c := rd_c) (((sa ++ cS #[84, 105, 99, 107]) ++ cS #[10]) ++ sb) ?_
        repeat (first | (with_reducible refine Unf.h ?_) | ((conv => whnf); first | (refine Side.mk ?_ ?_; focus (first | with_reducible rfl | assumption | exact True.intro | rfl)) | (with_reducible refine Unf.h ?_)))
        conv => whnf
        refine Got.mk (fun e he => ?_)
        obtain ⟨l1, at1, er1⟩ := e
        obtain ⟨rfl, rfl⟩ := where_bad hPa hPb hc0 (hsca ▸ ha9') hd0 (hscb ▸ hb9') hm (hs ▸ he)
        clear he hs
        repeat' (first | (with_reducible refine Unf.h ?_) | ((conv => whnf); first | (refine Side.mk ?_ ?_; focus ((intros; (try simp only [lenS, inR, cutS, loI, hiI] at *); omega))) | (with_reducible refine Unf.h ?_)) | fail); all_goals try (conv => whnf)
        skip
        refine CallS.mk (c := rd_c) (sa ++ cS #[116, 105, 99, 107]) ?_
        repeat (first | (with_reducible refine Unf.h ?_) | ((conv => whnf); first | (refine Side.mk ?_ ?_; focus (first | with_reducible rfl | assumption | exact True.intro | rfl)) | (with_reducible refine Unf.h ?_)))
        conv => whnf
        refine Got.mk (fun e he => ?_)
        obtain ⟨l2, at2, er2⟩ := e
        obtain ⟨rfl, rfl⟩ := where_tick hPa hc0 (hsca ▸ ha9') (hs2 ▸ he)
        clear he hs2
        repeat' (first | (with_reducible refine Unf.h ?_) | ((conv => whnf); first | refine Fork.mk (fun h => ?_) (fun h => ?_) | (refine Side.mk ?_ ?_; focus (first | (intros; (try simp only [lenS, inR, cutS, loI, hiI] at *); omega) | exact dF (by omega) | (simp [*]; done))) | refine RetE.mk () trivial ?_ | (with_reducible refine Unf.h ?_) | refine retK_r ?_ | exact rfl) | fail); all_goals try (conv => whnf)
        all_goals exact absurd rfl h
      · repeat' (first | (with_reducible refine Unf.h ?_) | ((conv => whnf); first | (refine Side.mk ?_ ?_; focus ((intros; (try simp only [lenS, inR, cutS, loI, hiI] at *); omega))) | (with_reducible refine Unf.h ?_)) | fail); all_goals try (conv => whnf)
        have hm : (cS #[115, 107, 101, 119, 32, 49] : B8) ∈ badL := List.mem_of_getElem? (i := 4) rfl
        have hw20 := bad_len _ hm
        have hpr : rd_c.pre (((sa ++ cS #[115, 107, 101, 119, 32, 49]) ++ cS #[10]) ++ sb) := by
          show _ ≤ 1000000
          simp only [List.length_append, show (cS #[10]).length = 1 from rfl]; omega
        have hpt : rd_c.pre (sa ++ [116#8, 105#8, 99#8, 107#8]) := by
          show _ ≤ 1000000
          simp only [List.length_append, List.length_cons, List.length_nil]; omega
        have hs : ((sa ++ cS #[115, 107, 101, 119, 32, 49]) ++ cS #[10]) ++ sb = conc la ++ (cS #[115, 107, 101, 119, 32, 49] ++ 10#8 :: conc lb) := by
          rw [hsca, hscb, List.append_assoc, List.append_assoc]; rfl
        have hs2 : sa ++ [116#8, 105#8, 99#8, 107#8] = conc la ++ [116#8, 105#8, 99#8, 107#8] := by rw [hsca]
        refine CallS.mk (c := rd_c) (((sa ++ cS #[115, 107, 101, 119, 32, 49]) ++ cS #[10]) ++ sb) ?_
        repeat (first | (with_reducible refine Unf.h ?_) | ((conv => whnf); first | (refine Side.mk ?_ ?_; focus (first | with_reducible rfl | assumption | exact True.intro | rfl)) | (with_reducible refine Unf.h ?_)))
        conv => whnf
        refine Got.mk (fun e he => ?_)
        obtain ⟨l1, at1, er1⟩ := e
        obtain ⟨rfl, rfl⟩ := where_bad hPa hPb hc0 (hsca ▸ ha9') hd0 (hscb ▸ hb9') hm (hs ▸ he)
        clear he hs
        repeat' (first | (with_reducible refine Unf.h ?_) | ((conv => whnf); first | (refine Side.mk ?_ ?_; focus ((intros; (try simp only [lenS, inR, cutS, loI, hiI] at *); omega))) | (with_reducible refine Unf.h ?_)) | fail); all_goals try (conv => whnf)
        skip
        refine CallS.mk (c := rd_c) (sa ++ cS #[116, 105, 99, 107]) ?_
        repeat (first | (with_reducible refine Unf.h ?_) | ((conv => whnf); first | (refine Side.mk ?_ ?_; focus (first | with_reducible rfl | assumption | exact True.intro | rfl)) | (with_reducible refine Unf.h ?_)))
        conv => whnf
        refine Got.mk (fun e he => ?_)
        obtain ⟨l2, at2, er2⟩ := e
        obtain ⟨rfl, rfl⟩ := where_tick hPa hc0 (hsca ▸ ha9') (hs2 ▸ he)
        clear he hs2
        repeat' (first | (with_reducible refine Unf.h ?_) | ((conv => whnf); first | refine Fork.mk (fun h => ?_) (fun h => ?_) | (refine Side.mk ?_ ?_; focus (first | (intros; (try simp only [lenS, inR, cutS, loI, hiI] at *); omega) | exact dF (by omega) | (simp [*]; done))) | refine RetE.mk () trivial ?_ | (with_reducible refine Unf.h ?_) | refine retK_r ?_ | exact rfl) | fail); all_goals try (conv => whnf)
        all_goals exact absurd rfl h
      · repeat' (first | (with_reducible refine Unf.h ?_) | ((conv => whnf); first | (refine Side.mk ?_ ?_; focus ((intros; (try simp only [lenS, inR, cutS, loI, hiI] at *); omega))) | (with_reducible refine Unf.h ?_)) | fail); all_goals try (conv => whnf)
        have hm : (cS #[115, 107, 101, 119, 32, 49, 32, 48, 49] : B8) ∈ badL := List.mem_of_getElem? (i := 5) rfl
        have hw20 := bad_len _ hm
        have hpr : rd_c.pre (((sa ++ cS #[115, 107, 101, 119, 32, 49, 32, 48, 49]) ++ cS #[10]) ++ sb) := by
          show _ ≤ 1000000
          simp only [List.length_append, show (cS #[10]).length = 1 from rfl]; omega
        have hpt : rd_c.pre (sa ++ [116#8, 105#8, 99#8, 107#8]) := by
          show _ ≤ 1000000
          simp only [List.length_append, List.length_cons, List.length_nil]; omega
        have hs : ((sa ++ cS #[115, 107, 101, 119, 32, 49, 32, 48, 49]) ++ cS #[10]) ++ sb = conc la ++ (cS #[115, 107, 101, 119, 32, 49, 32, 48, 49] ++ 10#8 :: conc lb) := by
          rw [hsca, hscb, List.append_assoc, List.append_assoc]; rfl
        have hs2 : sa ++ [116#8, 105#8, 99#8, 107#8] = conc la ++ [116#8, 105#8, 99#8, 107#8] := by rw [hsca]
        refine CallS.mk (c := rd_c) (((sa ++ cS #[115, 107, 101, 119, 32, 49, 32, 48, 49]) ++ cS #[10]) ++ sb) ?_
        repeat (first | (with_reducible refine Unf.h ?_) | ((conv => whnf); first | (refine Side.mk ?_ ?_; focus (first | with_reducible rfl | assumption | exact True.intro | rfl)) | (with_reducible refine Unf.h ?_)))
        conv => whnf
        refine Got.mk (fun e he => ?_)
        obtain ⟨l1, at1, er1⟩ := e
        obtain ⟨rfl, rfl⟩ := where_bad hPa hPb hc0 (hsca ▸ ha9') hd0 (hscb ▸ hb9') hm (hs ▸ he)
        clear he hs
        repeat' (first | (with_reducible refine Unf.h ?_) | ((conv => whnf); first | (refine Side.mk ?_ ?_; focus ((intros; (try simp only [lenS, inR, cutS, loI, hiI] at *); omega))) | (with_reducible refine Unf.h ?_)) | fail); all_goals try (conv => whnf)
        skip
        refine CallS.mk (c := rd_c) (sa ++ cS #[116, 105, 99, 107]) ?_
        repeat (first | (with_reducible refine Unf.h ?_) | ((conv => whnf); first | (refine Side.mk ?_ ?_; focus (first | with_reducible rfl | assumption | exact True.intro | rfl)) | (with_reducible refine Unf.h ?_)))
        conv => whnf
        refine Got.mk (fun e he => ?_)
        obtain ⟨l2, at2, er2⟩ := e
        obtain ⟨rfl, rfl⟩ := where_tick hPa hc0 (hsca ▸ ha9') (hs2 ▸ he)
        clear he hs2
        repeat' (first | (with_reducible refine Unf.h ?_) | ((conv => whnf); first | refine Fork.mk (fun h => ?_) (fun h => ?_) | (refine Side.mk ?_ ?_; focus (first | (intros; (try simp only [lenS, inR, cutS, loI, hiI] at *); omega) | exact dF (by omega) | (simp [*]; done))) | refine RetE.mk () trivial ?_ | (with_reducible refine Unf.h ?_) | refine retK_r ?_ | exact rfl) | fail); all_goals try (conv => whnf)
        all_goals exact absurd rfl h
      · repeat' (first | (with_reducible refine Unf.h ?_) | ((conv => whnf); first | (refine Side.mk ?_ ?_; focus ((intros; (try simp only [lenS, inR, cutS, loI, hiI] at *); omega))) | (with_reducible refine Unf.h ?_)) | fail); all_goals try (conv => whnf)
        have hm : (cS #[115, 107, 101, 119, 32, 49, 32, 45, 48] : B8) ∈ badL := List.mem_of_getElem? (i := 6) rfl
        have hw20 := bad_len _ hm
        have hpr : rd_c.pre (((sa ++ cS #[115, 107, 101, 119, 32, 49, 32, 45, 48]) ++ cS #[10]) ++ sb) := by
          show _ ≤ 1000000
          simp only [List.length_append, show (cS #[10]).length = 1 from rfl]; omega
        have hpt : rd_c.pre (sa ++ [116#8, 105#8, 99#8, 107#8]) := by
          show _ ≤ 1000000
          simp only [List.length_append, List.length_cons, List.length_nil]; omega
        have hs : ((sa ++ cS #[115, 107, 101, 119, 32, 49, 32, 45, 48]) ++ cS #[10]) ++ sb = conc la ++ (cS #[115, 107, 101, 119, 32, 49, 32, 45, 48] ++ 10#8 :: conc lb) := by
          rw [hsca, hscb, List.append_assoc, List.append_assoc]; rfl
        have hs2 : sa ++ [116#8, 105#8, 99#8, 107#8] = conc la ++ [116#8, 105#8, 99#8, 107#8] := by rw [hsca]
        refine CallS.mk (c := rd_c) (((sa ++ cS #[115, 107, 101, 119, 32, 49, 32, 45, 48]) ++ cS #[10]) ++ sb) ?_
        repeat (first | (with_reducible refine Unf.h ?_) | ((conv => whnf); first | (refine Side.mk ?_ ?_; focus (first | with_reducible rfl | assumption | exact True.intro | rfl)) | (with_reducible refine Unf.h ?_)))
        conv => whnf
        refine Got.mk (fun e he => ?_)
        obtain ⟨l1, at1, er1⟩ := e
        obtain ⟨rfl, rfl⟩ := where_bad hPa hPb hc0 (hsca ▸ ha9') hd0 (hscb ▸ hb9') hm (hs ▸ he)
        clear he hs
        repeat' (first | (with_reducible refine Unf.h ?_) | ((conv => whnf); first | (refine Side.mk ?_ ?_; focus ((intros; (try simp only [lenS, inR, cutS, loI, hiI] at *); omega))) | (with_reducible refine Unf.h ?_)) | fail); all_goals try (conv => whnf)
        skip
        refine CallS.mk (c := rd_c) (sa ++ cS #[116, 105, 99, 107]) ?_
        repeat (first | (with_reducible refine Unf.h ?_) | ((conv => whnf); first | (refine Side.mk ?_ ?_; focus (first | with_reducible rfl | assumption | exact True.intro | rfl)) | (with_reducible refine Unf.h ?_)))
        conv => whnf
        refine Got.mk (fun e he => ?_)
        obtain ⟨l2, at2, er2⟩ := e
        obtain ⟨rfl, rfl⟩ := where_tick hPa hc0 (hsca ▸ ha9') (hs2 ▸ he)
        clear he hs2
        repeat' (first | (with_reducible refine Unf.h ?_) | ((conv => whnf); first | refine Fork.mk (fun h => ?_) (fun h => ?_) | (refine Side.mk ?_ ?_; focus (first | (intros; (try simp only [lenS, inR, cutS, loI, hiI] at *); omega) | exact dF (by omega) | (simp [*]; done))) | refine RetE.mk () trivial ?_ | (with_reducible refine Unf.h ?_) | refine retK_r ?_ | exact rfl) | fail); all_goals try (conv => whnf)
        all_goals exact absurd rfl h
      · repeat' (first | (with_reducible refine Unf.h ?_) | ((conv => whnf); first | (refine Side.mk ?_ ?_; focus ((intros; (try simp only [lenS, inR, cutS, loI, hiI] at *); omega))) | (with_reducible refine Unf.h ?_)) | fail); all_goals try (conv => whnf)
        have hm : (cS #[115, 107, 101, 119, 32, 49, 32, 49, 48, 48, 48, 48, 48, 49] : B8) ∈ badL := List.mem_of_getElem? (i := 7) rfl
        have hw20 := bad_len _ hm
        have hpr : rd_c.pre (((sa ++ cS #[115, 107, 101, 119, 32, 49, 32, 49, 48, 48, 48, 48, 48, 49]) ++ cS #[10]) ++ sb) := by
          show _ ≤ 1000000
          simp only [List.length_append, show (cS #[10]).length = 1 from rfl]; omega
        have hpt : rd_c.pre (sa ++ [116#8, 105#8, 99#8, 107#8]) := by
          show _ ≤ 1000000
          simp only [List.length_append, List.length_cons, List.length_nil]; omega
        have hs : ((sa ++ cS #[115, 107, 101, 119, 32, 49, 32, 49, 48, 48, 48, 48, 48, 49]) ++ cS #[10]) ++ sb = conc la ++ (cS #[115, 107, 101, 119, 32, 49, 32, 49, 48, 48, 48, 48, 48, 49] ++ 10#8 :: conc lb) := by
          rw [hsca, hscb, List.append_assoc, List.append_assoc]; rfl
        have hs2 : sa ++ [116#8, 105#8, 99#8, 107#8] = conc la ++ [116#8, 105#8, 99#8, 107#8] := by rw [hsca]
        refine CallS.mk (c := rd_c) (((sa ++ cS #[115, 107, 101, 119, 32, 49, 32, 49, 48, 48, 48, 48, 48, 49]) ++ cS #[10]) ++ sb) ?_
        repeat (first | (with_reducible refine Unf.h ?_) | ((conv => whnf); first | (refine Side.mk ?_ ?_; focus (first | with_reducible rfl | assumption | exact True.intro | rfl)) | (with_reducible refine Unf.h ?_)))
        conv => whnf
        refine Got.mk (fun e he => ?_)
        obtain ⟨l1, at1, er1⟩ := e
        obtain ⟨rfl, rfl⟩ := where_bad hPa hPb hc0 (hsca ▸ ha9') hd0 (hscb ▸ hb9') hm (hs ▸ he)
        clear he hs
        repeat' (first | (with_reducible refine Unf.h ?_) | ((conv => whnf); first | (refine Side.mk ?_ ?_; focus ((intros; (try simp only [lenS, inR, cutS, loI, hiI] at *); omega))) | (with_reducible refine Unf.h ?_)) | fail); all_goals try (conv => whnf)
        skip
        refine CallS.mk (c := rd_c) (sa ++ cS #[116, 105, 99, 107]) ?_
        repeat (first | (with_reducible refine Unf.h ?_) | ((conv => whnf); first | (refine Side.mk ?_ ?_; focus (first | with_reducible rfl | assumption | exact True.intro | rfl)) | (with_reducible refine Unf.h ?_)))
        conv => whnf
        refine Got.mk (fun e he => ?_)
        obtain ⟨l2, at2, er2⟩ := e
        obtain ⟨rfl, rfl⟩ := where_tick hPa hc0 (hsca ▸ ha9') (hs2 ▸ he)
        clear he hs2
        repeat' (first | (with_reducible refine Unf.h ?_) | ((conv => whnf); first | refine Fork.mk (fun h => ?_) (fun h => ?_) | (refine Side.mk ?_ ?_; focus (first | (intros; (try simp only [lenS, inR, cutS, loI, hiI] at *); omega) | exact dF (by omega) | (simp [*]; done))) | refine RetE.mk () trivial ?_ | (with_reducible refine Unf.h ?_) | refine retK_r ?_ | exact rfl) | fail); all_goals try (conv => whnf)
        all_goals exact absurd rfl h
      · repeat' (first | (with_reducible refine Unf.h ?_) | ((conv => whnf); first | (refine Side.mk ?_ ?_; focus ((intros; (try simp only [lenS, inR, cutS, loI, hiI] at *); omega))) | (with_reducible refine Unf.h ?_)) | fail); all_goals try (conv => whnf)
        have hm : (cS #[117, 112, 100, 97, 116, 101, 32, 48, 32, 54, 32, 45] : B8) ∈ badL := List.mem_of_getElem? (i := 8) rfl
        have hw20 := bad_len _ hm
        have hpr : rd_c.pre (((sa ++ cS #[117, 112, 100, 97, 116, 101, 32, 48, 32, 54, 32, 45]) ++ cS #[10]) ++ sb) := by
          show _ ≤ 1000000
          simp only [List.length_append, show (cS #[10]).length = 1 from rfl]; omega
        have hpt : rd_c.pre (sa ++ [116#8, 105#8, 99#8, 107#8]) := by
          show _ ≤ 1000000
          simp only [List.length_append, List.length_cons, List.length_nil]; omega
        have hs : ((sa ++ cS #[117, 112, 100, 97, 116, 101, 32, 48, 32, 54, 32, 45]) ++ cS #[10]) ++ sb = conc la ++ (cS #[117, 112, 100, 97, 116, 101, 32, 48, 32, 54, 32, 45] ++ 10#8 :: conc lb) := by
          rw [hsca, hscb, List.append_assoc, List.append_assoc]; rfl
        have hs2 : sa ++ [116#8, 105#8, 99#8, 107#8] = conc la ++ [116#8, 105#8, 99#8, 107#8] := by rw [hsca]
        refine CallS.mk (c := rd_c) (((sa ++ cS #[117, 112, 100, 97, 116, 101, 32, 48, 32, 54, 32, 45]) ++ cS #[10]) ++ sb) ?_
        repeat (first | (with_reducible refine Unf.h ?_) | ((conv => whnf); first | (refine Side.mk ?_ ?_; focus (first | with_reducible rfl | assumption | exact True.intro | rfl)) | (with_reducible refine Unf.h ?_)))
        conv => whnf
        refine Got.mk (fun e he => ?_)
        obtain ⟨l1, at1, er1⟩ := e
        obtain ⟨rfl, rfl⟩ := where_bad hPa hPb hc0 (hsca ▸ ha9') hd0 (hscb ▸ hb9') hm (hs ▸ he)
        clear he hs
        repeat' (first | (with_reducible refine Unf.h ?_) | ((conv => whnf); first | (refine Side.mk ?_ ?_; focus ((intros; (try simp only [lenS, inR, cutS, loI, hiI] at *); omega))) | (with_reducible refine Unf.h ?_)) | fail); all_goals try (conv => whnf)
        skip
        refine CallS.mk (c := rd_c) (sa ++ cS #[116, 105, 99, 107]) ?_
        repeat (first | (with_reducible refine Unf.h ?_) | ((conv => whnf); first | (refine Side.mk ?_ ?_; focus (first | with_reducible rfl | assumption | exact True.intro | rfl)) | (with_reducible refine Unf.h ?_)))
        conv => whnf
        refine Got.mk (fun e he => ?_)
        obtain ⟨l2, at2, er2⟩ := e
        obtain ⟨rfl, rfl⟩ := where_tick hPa hc0 (hsca ▸ ha9') (hs2 ▸ he)
        clear he hs2
        repeat' (first | (with_reducible refine Unf.h ?_) | ((conv => whnf); first | refine Fork.mk (fun h => ?_) (fun h => ?_) | (refine Side.mk ?_ ?_; focus (first | (intros; (try simp only [lenS, inR, cutS, loI, hiI] at *); omega) | exact dF (by omega) | (simp [*]; done))) | refine RetE.mk () trivial ?_ | (with_reducible refine Unf.h ?_) | refine retK_r ?_ | exact rfl) | fail); all_goals try (conv => whnf)
        all_goals exact absurd rfl h
      · repeat' (first | (with_reducible refine Unf.h ?_) | ((conv => whnf); first | (refine Side.mk ?_ ?_; focus ((intros; (try simp only [lenS, inR, cutS, loI, hiI] at *); omega))) | (with_reducible refine Unf.h ?_)) | fail); all_goals try (conv => whnf)
        have hm : (cS #[117, 112, 100, 97, 116, 101, 32, 48, 32, 32, 45] : B8) ∈ badL := List.mem_of_getElem? (i := 9) rfl
        have hw20 := bad_len _ hm
        have hpr : rd_c.pre (((sa ++ cS #[117, 112, 100, 97, 116, 101, 32, 48, 32, 32, 45]) ++ cS #[10]) ++ sb) := by
          show _ ≤ 1000000
          simp only [List.length_append, show (cS #[10]).length = 1 from rfl]; omega
        have hpt : rd_c.pre (sa ++ [116#8, 105#8, 99#8, 107#8]) := by
          show _ ≤ 1000000
          simp only [List.length_append, List.length_cons, List.length_nil]; omega
        have hs : ((sa ++ cS #[117, 112, 100, 97, 116, 101, 32, 48, 32, 32, 45]) ++ cS #[10]) ++ sb = conc la ++ (cS #[117, 112, 100, 97, 116, 101, 32, 48, 32, 32, 45] ++ 10#8 :: conc lb) := by
          rw [hsca, hscb, List.append_assoc, List.append_assoc]; rfl
        have hs2 : sa ++ [116#8, 105#8, 99#8, 107#8] = conc la ++ [116#8, 105#8, 99#8, 107#8] := by rw [hsca]
        refine CallS.mk (c := rd_c) (((sa ++ cS #[117, 112, 100, 97, 116, 101, 32, 48, 32, 32, 45]) ++ cS #[10]) ++ sb) ?_
        repeat (first | (with_reducible refine Unf.h ?_) | ((conv => whnf); first | (refine Side.mk ?_ ?_; focus (first | with_reducible rfl | assumption | exact True.intro | rfl)) | (with_reducible refine Unf.h ?_)))
        conv => whnf
        refine Got.mk (fun e he => ?_)
        obtain ⟨l1, at1, er1⟩ := e
        obtain ⟨rfl, rfl⟩ := where_bad hPa hPb hc0 (hsca ▸ ha9') hd0 (hscb ▸ hb9') hm (hs ▸ he)
        clear he hs
        repeat' (first | (with_reducible refine Unf.h ?_) | ((conv => whnf); first | (refine Side.mk ?_ ?_; focus ((intros; (try simp only [lenS, inR, cutS, loI, hiI] at *); omega))) | (with_reducible refine Unf.h ?_)) | fail); all_goals try (conv => whnf)
        skip
        refine CallS.mk (c := rd_c) (sa ++ cS #[116, 105, 99, 107]) ?_
        repeat (first | (with_reducible refine Unf.h ?_) | ((conv => whnf); first | (refine Side.mk ?_ ?_; focus (first | with_reducible rfl | assumption | exact True.intro | rfl)) | (with_reducible refine Unf.h ?_)))
        conv => whnf
        refine Got.mk (fun e he => ?_)
        obtain ⟨l2, at2, er2⟩ := e
        obtain ⟨rfl, rfl⟩ := where_tick hPa hc0 (hsca ▸ ha9') (hs2 ▸ he)
        clear he hs2
        repeat' (first | (with_reducible refine Unf.h ?_) | ((conv => whnf); first | refine Fork.mk (fun h => ?_) (fun h => ?_) | (refine Side.mk ?_ ?_; focus (first | (intros; (try simp only [lenS, inR, cutS, loI, hiI] at *); omega) | exact dF (by omega) | (simp [*]; done))) | refine RetE.mk () trivial ?_ | (with_reducible refine Unf.h ?_) | refine retK_r ?_ | exact rfl) | fail); all_goals try (conv => whnf)
        all_goals exact absurd rfl h
      · repeat' (first | (with_reducible refine Unf.h ?_) | ((conv => whnf); first | (refine Side.mk ?_ ?_; focus ((intros; (try simp only [lenS, inR, cutS, loI, hiI] at *); omega))) | (with_reducible refine Unf.h ?_)) | fail); all_goals try (conv => whnf)
        have hm : (cS #[115, 101, 110, 100, 32, 48, 32, 54, 65] : B8) ∈ badL := List.mem_of_getElem? (i := 10) rfl
        have hw20 := bad_len _ hm
        have hpr : rd_c.pre (((sa ++ cS #[115, 101, 110, 100, 32, 48, 32, 54, 65]) ++ cS #[10]) ++ sb) := by
          show _ ≤ 1000000
          simp only [List.length_append, show (cS #[10]).length = 1 from rfl]; omega
        have hpt : rd_c.pre (sa ++ [116#8, 105#8, 99#8, 107#8]) := by
          show _ ≤ 1000000
          simp only [List.length_append, List.length_cons, List.length_nil]; omega
        have hs : ((sa ++ cS #[115, 101, 110, 100, 32, 48, 32, 54, 65]) ++ cS #[10]) ++ sb = conc la ++ (cS #[115, 101, 110, 100, 32, 48, 32, 54, 65] ++ 10#8 :: conc lb) := by
          rw [hsca, hscb, List.append_assoc, List.append_assoc]; rfl
        have hs2 : sa ++ [116#8, 105#8, 99#8, 107#8] = conc la ++ [116#8, 105#8, 99#8, 107#8] := by rw [hsca]
        refine CallS.mk (c := rd_c) (((sa ++ cS #[115, 101, 110, 100, 32, 48, 32, 54, 65]) ++ cS #[10]) ++ sb) ?_
        repeat (first | (with_reducible refine Unf.h ?_) | ((conv => whnf); first | (refine Side.mk ?_ ?_; focus (first | with_reducible rfl | assumption | exact True.intro | rfl)) | (with_reducible refine Unf.h ?_)))
        conv => whnf
        refine Got.mk (fun e he => ?_)
        obtain ⟨l1, at1, er1⟩ := e
        obtain ⟨rfl, rfl⟩ := where_bad hPa hPb hc0 (hsca ▸ ha9') hd0 (hscb ▸ hb9') hm (hs ▸ he)
        clear he hs
        repeat' (first | (with_reducible refine Unf.h ?_) | ((conv => whnf); first | (refine Side.mk ?_ ?_; focus ((intros; (try simp only [lenS, inR, cutS, loI, hiI] at *); omega))) | (with_reducible refine Unf.h ?_)) | fail); all_goals try (conv => whnf)
        skip
        refine CallS.mk (c := rd_c) (sa ++ cS #[116, 105, 99, 107]) ?_
        repeat (first | (with_reducible refine Unf.h ?_) | ((conv => whnf); first | (refine Side.mk ?_ ?_; focus (first | with_reducible rfl | assumption | exact True.intro | rfl)) | (with_reducible refine Unf.h ?_)))
        conv => whnf
        refine Got.mk (fun e he => ?_)
        obtain ⟨l2, at2, er2⟩ := e
        obtain ⟨rfl, rfl⟩ := where_tick hPa hc0 (hsca ▸ ha9') (hs2 ▸ he)
        clear he hs2
        repeat' (first | (with_reducible refine Unf.h ?_) | ((conv => whnf); first | refine Fork.mk (fun h => ?_) (fun h => ?_) | (refine Side.mk ?_ ?_; focus (first | (intros; (try simp only [lenS, inR, cutS, loI, hiI] at *); omega) | exact dF (by omega) | (simp [*]; done))) | refine RetE.mk () trivial ?_ | (with_reducible refine Unf.h ?_) | refine retK_r ?_ | exact rfl) | fail); all_goals try (conv => whnf)
        all_goals exact absurd rfl h
      · repeat' (first | (with_reducible refine Unf.h ?_) | ((conv => whnf); first | (refine Side.mk ?_ ?_; focus ((intros; (try simp only [lenS, inR, cutS, loI, hiI] at *); omega))) | (with_reducible refine Unf.h ?_)) | fail); all_goals try (conv => whnf)
        have hm : (cS #[114, 101, 115, 116, 97, 114, 116, 32, 48, 32, 49, 44, 44, 50] : B8) ∈ badL := List.mem_of_getElem? (i := 11) rfl
        have hw20 := bad_len _ hm
        have hpr : rd_c.pre (((sa ++ cS #[114, 101, 115, 116, 97, 114, 116, 32, 48, 32, 49, 44, 44, 50]) ++ cS #[10]) ++ sb) := by
          show _ ≤ 1000000
          simp only [List.length_append, show (cS #[10]).length = 1 from rfl]; omega
        have hpt : rd_c.pre (sa ++ [116#8, 105#8, 99#8, 107#8]) := by
          show _ ≤ 1000000
          simp only [List.length_append, List.length_cons, List.length_nil]; omega
        have hs : ((sa ++ cS #[114, 101, 115, 116, 97, 114, 116, 32, 48, 32, 49, 44, 44, 50]) ++ cS #[10]) ++ sb = conc la ++ (cS #[114, 101, 115, 116, 97, 114, 116, 32, 48, 32, 49, 44, 44, 50] ++ 10#8 :: conc lb) := by
          rw [hsca, hscb, List.append_assoc, List.append_assoc]; rfl
        have hs2 : sa ++ [116#8, 105#8, 99#8, 107#8] = conc la ++ [116#8, 105#8, 99#8, 107#8] := by rw [hsca]
        refine CallS.mk (c := rd_c) (((sa ++ cS #[114, 101, 115, 116, 97, 114, 116, 32, 48, 32, 49, 44, 44, 50]) ++ cS #[10]) ++ sb) ?_
        repeat (first | (with_reducible refine Unf.h ?_) | ((conv => whnf); first | (refine Side.mk ?_ ?_; focus (first | with_reducible rfl | assumption | exact True.intro | rfl)) | (with_reducible refine Unf.h ?_)))
        conv => whnf
        refine Got.mk (fun e he => ?_)
        obtain ⟨l1, at1, er1⟩ := e
        obtain ⟨rfl, rfl⟩ := where_bad hPa hPb hc0 (hsca ▸ ha9') hd0 (hscb ▸ hb9') hm (hs ▸ he)
        clear he hs
        repeat' (first | (with_reducible refine Unf.h ?_) | ((conv => whnf); first | (refine Side.mk ?_ ?_; focus ((intros; (try simp only [lenS, inR, cutS, loI, hiI] at *); omega))) | (with_reducible refine Unf.h ?_)) | fail); all_goals try (conv => whnf)
        skip
        refine CallS.mk (c := rd_c) (sa ++ cS #[116, 105, 99, 107]) ?_
        repeat (first | (with_reducible refine Unf.h ?_) | ((conv => whnf); first | (refine Side.mk ?_ ?_; focus (first | with_reducible rfl | assumption | exact True.intro | rfl)) | (with_reducible refine Unf.h ?_)))
        conv => whnf
        refine Got.mk (fun e he => ?_)
        obtain ⟨l2, at2, er2⟩ := e
        obtain ⟨rfl, rfl⟩ := where_tick hPa hc0 (hsca ▸ ha9') (hs2 ▸ he)
        clear he hs2
        repeat' (first | (with_reducible refine Unf.h ?_) | ((conv => whnf); first | refine Fork.mk (fun h => ?_) (fun h => ?_) | (refine Side.mk ?_ ?_; focus (first | (intros; (try simp only [lenS, inR, cutS, loI, hiI] at *); omega) | exact dF (by omega) | (simp [*]; done))) | refine RetE.mk () trivial ?_ | (with_reducible refine Unf.h ?_) | refine retK_r ?_ | exact rfl) | fail); all_goals try (conv => whnf)
        all_goals exact absurd rfl h
      · repeat' (first | (with_reducible refine Unf.h ?_) | ((conv => whnf); first | (refine Side.mk ?_ ?_; focus ((intros; (try simp only [lenS, inR, cutS, loI, hiI] at *); omega))) | (with_reducible refine Unf.h ?_)) | fail); all_goals try (conv => whnf)
        have hm : (cS #[114, 101, 115, 116, 97, 114, 116, 32, 48] : B8) ∈ badL := List.mem_of_getElem? (i := 12) rfl
        have hw20 := bad_len _ hm
        have hpr : rd_c.pre (((sa ++ cS #[114, 101, 115, 116, 97, 114, 116, 32, 48]) ++ cS #[10]) ++ sb) := by
          show _ ≤ 1000000
          simp only [List.length_append, show (cS #[10]).length = 1 from rfl]; omega
        have hpt : rd_c.pre (sa ++ [116#8, 105#8, 99#8, 107#8]) := by
          show _ ≤ 1000000
          simp only [List.length_append, List.length_cons, List.length_nil]; omega
        have hs : ((sa ++ cS #[114, 101, 115, 116, 97, 114, 116, 32, 48]) ++ cS #[10]) ++ sb = conc la ++ (cS #[114, 101, 115, 116, 97, 114, 116, 32, 48] ++ 10#8 :: conc lb) := by
          rw [hsca, hscb, List.append_assoc, List.append_assoc]; rfl
        have hs2 : sa ++ [116#8, 105#8, 99#8, 107#8] = conc la ++ [116#8, 105#8, 99#8, 107#8] := by rw [hsca]
        refine CallS.mk (c := rd_c) (((sa ++ cS #[114, 101, 115, 116, 97, 114, 116, 32, 48]) ++ cS #[10]) ++ sb) ?_
        repeat (first | (with_reducible refine Unf.h ?_) | ((conv => whnf); first | (refine Side.mk ?_ ?_; focus (first | with_reducible rfl | assumption | exact True.intro | rfl)) | (with_reducible refine Unf.h ?_)))
        conv => whnf
        refine Got.mk (fun e he => ?_)
        obtain ⟨l1, at1, er1⟩ := e
        obtain ⟨rfl, rfl⟩ := where_bad hPa hPb hc0 (hsca ▸ ha9') hd0 (hscb ▸ hb9') hm (hs ▸ he)
        clear he hs
        repeat' (first | (with_reducible refine Unf.h ?_) | ((conv => whnf); first | (refine Side.mk ?_ ?_; focus ((intros; (try simp only [lenS, inR, cutS, loI, hiI] at *); omega))) | (with_reducible refine Unf.h ?_)) | fail); all_goals try (conv => whnf)
        skip
        refine CallS.mk (c := rd_c) (sa ++ cS #[116, 105, 99, 107]) ?_
        repeat (first | (with_reducible refine Unf.h ?_) | ((conv => whnf); first | (refine Side.mk ?_ ?_; focus (first | with_reducible rfl | assumption | exact True.intro | rfl)) | (with_reducible refine Unf.h ?_)))
        conv => whnf
        refine Got.mk (fun e he => ?_)
        obtain ⟨l2, at2, er2⟩ := e
        obtain ⟨rfl, rfl⟩ := where_tick hPa hc0 (hsca ▸ ha9') (hs2 ▸ he)
        clear he hs2
        repeat' (first | (with_reducible refine Unf.h ?_) | ((conv => whnf); first | refine Fork.mk (fun h => ?_) (fun h => ?_) | (refine Side.mk ?_ ?_; focus (first | (intros; (try simp only [lenS, inR, cutS, loI, hiI] at *); omega) | exact dF (by omega) | (simp [*]; done))) | refine RetE.mk () trivial ?_ | (with_reducible refine Unf.h ?_) | refine retK_r ?_ | exact rfl) | fail); all_goals try (conv => whnf)
        all_goals exact absurd rfl h
      · repeat' (first | (with_reducible refine Unf.h ?_) | ((conv => whnf); first | (refine Side.mk ?_ ?_; focus ((intros; (try simp only [lenS, inR, cutS, loI, hiI] at *); omega))) | (with_reducible refine Unf.h ?_)) | fail); all_goals try (conv => whnf)
        have hm : (cS #[102, 117, 115, 101, 32, 48, 32, 49, 32, 49] : B8) ∈ badL := List.mem_of_getElem? (i := 13) rfl
        have hw20 := bad_len _ hm
        have hpr : rd_c.pre (((sa ++ cS #[102, 117, 115, 101, 32, 48, 32, 49, 32, 49]) ++ cS #[10]) ++ sb) := by
          show _ ≤ 1000000
          simp only [List.length_append, show (cS #[10]).length = 1 from rfl]; omega
        have hpt : rd_c.pre (sa ++ [116#8, 105#8, 99#8, 107#8]) := by
          show _ ≤ 1000000
          simp only [List.length_append, List.length_cons, List.length_nil]; omega
        have hs : ((sa ++ cS #[102, 117, 115, 101, 32, 48, 32, 49, 32, 49]) ++ cS #[10]) ++ sb = conc la ++ (cS #[102, 117, 115, 101, 32, 48, 32, 49, 32, 49] ++ 10#8 :: conc lb) := by
          rw [hsca, hscb, List.append_assoc, List.append_assoc]; rfl
        have hs2 : sa ++ [116#8, 105#8, 99#8, 107#8] = conc la ++ [116#8, 105#8, 99#8, 107#8] := by rw [hsca]
        refine CallS.mk (c := rd_c) (((sa ++ cS #[102, 117, 115, 101, 32, 48, 32, 49, 32, 49]) ++ cS #[10]) ++ sb) ?_
        repeat (first | (with_reducible refine Unf.h ?_) | ((conv => whnf); first | (refine Side.mk ?_ ?_; focus (first | with_reducible rfl | assumption | exact True.intro | rfl)) | (with_reducible refine Unf.h ?_)))
        conv => whnf
        refine Got.mk (fun e he => ?_)
        obtain ⟨l1, at1, er1⟩ := e
        obtain ⟨rfl, rfl⟩ := where_bad hPa hPb hc0 (hsca ▸ ha9') hd0 (hscb ▸ hb9') hm (hs ▸ he)
        clear he hs
        repeat' (first | (with_reducible refine Unf.h ?_) | ((conv => whnf); first | (refine Side.mk ?_ ?_; focus ((intros; (try simp only [lenS, inR, cutS, loI, hiI] at *); omega))) | (with_reducible refine Unf.h ?_)) | fail); all_goals try (conv => whnf)
        skip
        refine CallS.mk (c := rd_c) (sa ++ cS #[116, 105, 99, 107]) ?_
        repeat (first | (with_reducible refine Unf.h ?_) | ((conv => whnf); first | (refine Side.mk ?_ ?_; focus (first | with_reducible rfl | assumption | exact True.intro | rfl)) | (with_reducible refine Unf.h ?_)))
        conv => whnf
        refine Got.mk (fun e he => ?_)
        obtain ⟨l2, at2, er2⟩ := e
        obtain ⟨rfl, rfl⟩ := where_tick hPa hc0 (hsca ▸ ha9') (hs2 ▸ he)
        clear he hs2
        repeat' (first | (with_reducible refine Unf.h ?_) | ((conv => whnf); first | refine Fork.mk (fun h => ?_) (fun h => ?_) | (refine Side.mk ?_ ?_; focus (first | (intros; (try simp only [lenS, inR, cutS, loI, hiI] at *); omega) | exact dF (by omega) | (simp [*]; done))) | refine RetE.mk () trivial ?_ | (with_reducible refine Unf.h ?_) | refine retK_r ?_ | exact rfl) | fail); all_goals try (conv => whnf)
        all_goals exact absurd rfl h
end Go.Proofs.YtkcicejnkdobpaaDoor

/- MY OWN ENGINE: script's table of forms, a listed variable; what an Op is. -/
namespace Go.Proofs.YtkcicejnkdobpaaDoor
set_option linter.all false
open Go.RowKit Go.ChangeShapes Go.WideShapes Go.ChangeAt
theorem Tryd.own : ownKnob Tryd.prog.godebug = none := by kernel_rfl
theorem Tryd.laidOut : laidOutB Tryd.prog = true := by kernel_rfl
section
variable {P : Program} [TabC P] {H : Type} {enc : TypeId × Value → H} {W : World} {spare : Nat → Bool} {held : Bool}
theorem u8s_inj {a b : B8} (h : u8s a = u8s b) : a = b := by
  have := congrArg (List.map (fun x : UInt8 => x.toBitVec)) h
  simpa [u8s, List.map_map, Function.comp_def] using this
theorem str_of {s : ByteArray} {a : B8} (h : s.data.toList = u8s a) : s = baOf a := by
  apply ByteArray.ext
  apply Array.ext'
  rw [h]; rfl
theorem pair_cells {e s : Nat} {j q : TI} (hj : ty P e = some j) (hjk : j.k = .st [(0, s), (1, s)]) (hj2 : j.size = 2) (hq : ty P s = some q) (hqk : q.k = .str) (hq1 : q.size = 1) {fuel : Nat} {cs : List Value} {x : DataW H × List MemPlace} {a b : B8}
    (hx : DataW.trod enc P W 0 spare held fuel e cs = some x) (he : x.1 = .agg [.lit (.string (u8s a)), .lit (.string (u8s b))]) : cs = [.string (baOf a), .string (baOf b)] := by
  obtain ⟨gs, hu, hm⟩ := ty_struct hj hjk
  obtain ⟨xs, n, _, rfl, hlen, hxl, hel⟩ := DataW.trod_struct hu hx
  rw [ty_cells hj, hj2] at hlen
  obtain ⟨g0, g1, hgs⟩ : ∃ g0 g1, gs.toList = [g0, g1] := by
    have := congrArg List.length hm
    rw [List.length_map] at this
    match hh : gs.toList, this with
    | [g0, g1], _ => exact ⟨g0, g1, rfl⟩
  rw [hgs] at hm
  simp only [List.map_cons, List.map_nil, List.cons.injEq, Prod.mk.injEq, and_true] at hm
  obtain ⟨⟨o0, t0⟩, o1, t1⟩ := hm
  have hsz : gs.size = 2 := by rw [← Array.length_toList, hgs]; rfl
  rw [hsz] at hxl
  obtain ⟨x0, x1, rfl⟩ : ∃ x0 x1, xs = [x0, x1] := by
    match xs, hxl with
    | [x0, x1], _ => exact ⟨x0, x1, rfl⟩
  obtain ⟨c0, c1, rfl⟩ : ∃ c0 c1, cs = [c0, c1] := by
    match cs, hlen with
    | [c0, c1], _ => exact ⟨c0, c1, rfl⟩
  have h0 := hel 0 g0 (by rw [← Array.getElem?_toList, hgs]; rfl)
  have h1 := hel 1 g1 (by rw [← Array.getElem?_toList, hgs]; rfl)
  rw [o0, t0, ty_cells hq, hq1] at h0
  rw [o1, t1, ty_cells hq, hq1] at h1
  obtain ⟨s0, e0, e0', _⟩ := DataW.trod_string (ty_str hq hqk) h0
  obtain ⟨s1, e1, e1', _⟩ := DataW.trod_string (ty_str hq hqk) h1
  simp only [List.map_cons, List.map_nil, DataW.agg.injEq, List.cons.injEq, and_true] at he
  subst e0' e1'
  simp only [DataW.lit.injEq, Lit.string.injEq] at he
  rw [str_of he.1] at e0
  rw [str_of he.2] at e1
  simp only [List.drop_zero, List.take_succ_cons, List.take_zero, List.drop_succ_cons, List.cons.injEq, and_true] at e0 e1
  rw [e0, e1]
/-- a listed table of pairs of strings, as the engine has it -/
theorem glob_arr2S {n : String} {g t e s m f : Nat} {i j q : TI} {cs : Array Value} {p : List MemPlace} {gv : List (B8 × B8)} (hg : P.globalNamed n = some g) (hv : W.var? P n = some cs) (ht : ty P t = some i) (hk : i.k = .ar m e) (hj : ty P e = some j) (hjk : j.k = .st [(0, s), (1, s)]) (hj2 : j.size = 2) (hq : ty P s = some q) (hqk : q.k = .str) (hq1 : q.size = 1) (hi : i.size = m * 2) (hl : gv.length = m)
    (hd : DataW.trod enc P W 0 spare held f t cs.toList = some (.agg (gv.map fun b => .agg [.lit (.string (u8s b.1)), .lit (.string (u8s b.2))]), p)) : (SV.fpt [.arrG 2 e2S gv]).hc W none0 sg0 [.pointer (some ⟨g, 0, none⟩)] := by
  obtain ⟨xs, k, _, hx1, hlen, hxl, hel⟩ := DataW.trod_array (ty_array ht hk) hd
  rw [ty_cells ht, hi] at hlen
  simp only [Prod.mk.injEq, DataW.agg.injEq] at hx1
  simp only [World.var?, hg, Option.bind_some] at hv
  simp only [SV.hc]
  split at hv
  · rename_i C T fr hh
    have e := Option.some.inj hv
    refine ⟨g, 0, rfl, fun h => h, C, T, fr, hh, ?_⟩
    rw [List.drop_zero, e]
    refine ⟨cs.toList, [], ?_, ?_, rfl⟩
    · rw [List.append_nil, List.take_of_length_le (by rw [hlen, ← hl]; simp [szL, SV.sz])]
    · simp only [SV.hc]
      refine ⟨by rw [hlen, hl], fun r hr => ?_⟩
      have h1 := hel r (by omega)
      rw [ty_cells hj, hj2] at h1
      have hr' : r < xs.length := by omega
      rw [List.getElem?_eq_getElem hr'] at h1
      have h2 : (xs[r]).1 = .agg [.lit (.string (u8s gv[r].1)), .lit (.string (u8s gv[r].2))] := by
        have := congrArg (fun l => l[r]?) hx1.1
        simp only [List.getElem?_map, List.getElem?_eq_getElem hr', List.getElem?_eq_getElem hr, Option.map_some, Option.some.injEq] at this
        exact this.symm
      rw [pair_cells hj hjk hj2 hq hqk hq1 h1 h2]
      exact ⟨[_], [_], rfl, by simp only [SV.hc], [_], [], rfl, by simp only [SV.hc], rfl⟩
  · cases hv
end
section
variable {H : Type} {enc : TypeId × Value → H} {W : World} {spare : Nat → Bool} {held : Bool}
theorem o_int : Opens Tryd.prog enc W spare held 3 (fun n : Int => [.int .i64 n]) := o_i64 (i := ⟨.int .i64, 1, 8⟩) rfl rfl
theorem o_byte : Opens Tryd.prog enc W spare held 5 eB := o_uns (i := ⟨.int .u8, 1, 1⟩) (k := .u8) (w := 8) (mk := .u8) rfl rfl rfl rfl (fun _ _ => hc8)
theorem o_bytes : Opens Tryd.prog enc W spare held 36 (fun l : List (BitVec 8) => [.fs 1 eB l]) :=
  o_slice (i := ⟨.sl 5, 1, 24⟩) (j := ⟨.int .u8, 1, 1⟩) (f := eB) rfl rfl rfl rfl rfl o_byte (fun _ => rfl)
theorem o_ints : Opens Tryd.prog enc W spare held 37 (fun l : List Int => [.fs 1 eI l]) :=
  o_slice (i := ⟨.sl 3, 1, 24⟩) (j := ⟨.int .i64, 1, 8⟩) (f := eI) rfl rfl rfl rfl rfl o_int (fun _ => rfl)
theorem o_op : Opens Tryd.prog enc W spare held 39 eOp :=
  (o_struct (i := ⟨.st [(0, 3), (1, 3), (2, 3), (3, 3), (4, 36), (5, 36), (6, 37)], 7, 104⟩) rfl rfl
    (o_field (off := 0) (off2 := 1) (j := ⟨.int .i64, 1, 8⟩) rfl o_int (fun _ => rfl) rfl
    (o_field (off := 1) (off2 := 2) (j := ⟨.int .i64, 1, 8⟩) rfl o_int (fun _ => rfl) rfl
    (o_field (off := 2) (off2 := 3) (j := ⟨.int .i64, 1, 8⟩) rfl o_int (fun _ => rfl) rfl
    (o_field (off := 3) (off2 := 4) (j := ⟨.int .i64, 1, 8⟩) rfl o_int (fun _ => rfl) rfl
    (o_field (off := 4) (off2 := 5) (j := ⟨.sl 5, 1, 24⟩) rfl o_bytes (fun _ => rfl) rfl
    (o_field (off := 5) (off2 := 6) (j := ⟨.sl 5, 1, 24⟩) rfl o_bytes (fun _ => rfl) rfl
    (o_last (j := ⟨.sl 3, 1, 24⟩) rfl o_ints (fun _ => rfl)))))))) (fun _ => rfl) (by kernel_rfl)).map (fun p => (⟨p.1, p.2.1, p.2.2.1, p.2.2.2.1, p.2.2.2.2.1, p.2.2.2.2.2.1, p.2.2.2.2.2.2⟩ : Op)) (fun _ => rfl)
theorem o_ops : Opens Tryd.prog enc W spare held 22 (fun l : List Op => [.fs 7 eOp l]) :=
  o_slice (i := ⟨.sl 39, 1, 24⟩) (j := ⟨.st [(0, 3), (1, 3), (2, 3), (3, 3), (4, 36), (5, 36), (6, 37)], 7, 104⟩) rfl rfl rfl rfl rfl o_op (fun _ => rfl)
end
theorem gForms : Tryd.prog.globalNamed "rolodex/script.forms" = some 0 := by kernel_rfl
theorem tForms : (Tryd.prog.globals[0]?).map (·.type) = some 62 := by kernel_rfl
theorem dForms : (Rows.laid_rolodex_script_forms : DataW Unit) = .agg (gv0.map fun b => .agg [.lit (.string (u8s b.1)), .lit (.string (u8s b.2))]) := by kernel_rfl
end Go.Proofs.YtkcicejnkdobpaaDoor

/- MY OWN ENGINE: the variables that the other rows of this seat list; strings and bytes that come in. -/
namespace Go.Proofs.YtkcicejnkdobpaaDoor
set_option linter.all false
open Go.RowKit Go.ChangeShapes Go.WideShapes Go.ChangeAt
def laidL : List (String × DataW Unit) := [("unicode/utf8.acceptRanges", Rows.laid_unicode_utf8_acceptRanges), ("rolodex/script.forms", Rows.laid_rolodex_script_forms), ("unicode/utf8.first", Rows.laid_unicode_utf8_first)]
theorem glob_of_laid {W : World} (h : laidMetH Tryd.prog laidL W) : Glob Tryd.prog W none0 := by
  rw [MakeChecks.laidMetH_plain _ _ _ (by kernel_rfl)] at h
  obtain ⟨ps, ⟨g1, t1, cs1, f1, p1, q1, hg1, ht1, hv1, hd1, ⟨g0, t0, cs0, f0, p0, q0, hg0, ht0, hv0, hd0, _, _⟩, _⟩, _, _⟩ := h
  obtain rfl := Option.some.inj (gForms.symm.trans hg0)
  obtain rfl := Option.some.inj (tForms.symm.trans ht0)
  rw [dForms] at hd0
  intro g ps hm
  have hm' : (g, ps) = (0, [SV.arrG 2 e2S gv0]) := by
    have e : TabC.gl Tryd.prog = [(0, [SV.arrG 2 e2S gv0])] := rfl
    rw [e] at hm
    simpa using hm
  cases hm'
  exact glob_arr2S (i := ⟨.ar 16 61, 32, 512⟩) (j := ⟨.st [(0, 9), (1, 9)], 2, 32⟩) (q := ⟨.str, 1, 16⟩) hg0 hv0 rfl rfl rfl rfl rfl rfl rfl rfl rfl rfl hd0
theorem door_met (os : Os) (args : Array Value) : laidMetH Tryd.prog laidL ((World.laidAll Tryd.prog os laidL).forCall (fun _ _ => 0) ⟨#[], args, []⟩).memory := by
  rw [MakeChecks.laidMetH_plain _ _ _ (by kernel_rfl)]
  exact laidMet_laidAll _ (by kernel_rfl) (by kernel_rfl)
section
variable {P : Program} [TabC P] {H : Type} {enc : TypeId × Value → H} {W : World} {spare : Nat → Bool} {held : Bool}
theorem arg_str {t base : Nat} {i : TI} (ht : ty P t = some i) (hk : i.k = .str) {v : Value} {d : DataW H} {p : List MemPlace} (hv : Value.okWide P W .any base t v) (h : DataW.Trod enc P W 0 spare held t v d p) : ∃ s : B8, (SV.str s).h1 W none0 sg0 v ∧ s.length ≤ 9223372036854775807 := by
  obtain ⟨s, rfl, _, _, hs⟩ := Go.ChangeMaps.open_string (ty_str ht hk) hv h
  refine ⟨s.data.toList.map (·.toBitVec), ?_, ?_⟩
  · simp only [SV.h1, SV.hc]
    rw [baOf_toList]
  · rw [List.length_map]; exact hs
theorem arg_u8 {t base : Nat} {i : TI} (ht : ty P t = some i) (hk : i.k = .int .u8) {v : Value} {d : DataW H} {p : List MemPlace} (hv : Value.okWide P W .any base t v) (h : DataW.Trod enc P W 0 spare held t v d p) : ∃ x : BitVec 8, (SV.u8 x).h1 W none0 sg0 v := by
  obtain ⟨fuel, hT⟩ := h
  obtain ⟨x, hx⟩ := (o_uns (k := .u8) (w := 8) (mk := .u8) ht hk rfl rfl (fun _ _ => hc8)) _ _ _ hT
  obtain ⟨m, rfl⟩ := okWide_int (ty_int ht hk) hv
  refine ⟨x, ?_⟩
  simp only [hL, List.append_nil] at hx
  obtain ⟨a, b, h1, h2, rfl⟩ := hx
  rw [List.append_nil] at h1
  have : a = [Value.int .u8 m] := by rw [← h1]; rfl
  rw [this] at h2; exact h2
end
end Go.Proofs.YtkcicejnkdobpaaDoor

import Derived.Test.YtdflndjlnkoliaaGreatDoorRow
import Derived.Test.YtdflndjlnkoliaaGreatDoorBin
import Derived.Lib.AppendStr
/- MY OWN ENGINE: append; pieces of rows of one's own. -/
namespace Go.Proofs.YtdflndjlnkoliaaGreatDoor
set_option linter.all false
open Go.RowKit
/-- the content of a row -/
inductive EF : Type 1
  | of {α : Type} (enc : α → List SV) (xs : List α)
  | lit (els : List (List SV))
def EF.els : EF → List (List SV)
  | .of enc xs => xs.map enc
  | .lit els => els
def EF.so (e z : Nat) : EF → SO
  | .of enc xs => .row e z enc xs
  | .lit els => .lits e z els
section
variable {P : Program} [TabC P] {S : Sig} {σ : Sg} {env : Env} {objs : List Ob} {nx : Nat} {o : Oper} {a : Act} {w : World} {x y : Operand} {K : KS}
theorem EF.so_holds {e z k : Nat} (f : EF) (w : World) (A : Own) (σ : Sg) : (f.so e z).holds w A σ k ↔ rowH w A σ k e z f.els := by cases f <;> exact Iff.rfl
theorem EF.so_own {e z k : Nat} (f : EF) (σ : Sg) (b : Nat) : (f.so e z).own σ k b ↔ ∃ v, σ k = some v ∧ blkO v = some b := by cases f <;> exact Iff.rfl
/-- a slice whose cells can be read -/
def SlC (w : World) (A : Own) (z : Nat) (els : List (List SV)) (v : Value) : Prop :=
  (∀ e ∈ els, szL e = z) ∧ ∃ ad c cs, v = .slice ad els.length c ∧ hE w A sg0 els cs ∧ (ad = none → els = [] ∧ c = 0) ∧ ∀ a, ad = some a → ∀ j u, cs[j]? = some u → w.cell? (a.add j) = some u
theorem fs_slc {A : Own} {z : Nat} {α : Type} {enc : α → List SV} {xs : List α} {v : Value} (h : (SV.fs z enc xs).hc w A sg0 [v]) : SlC w A z (xs.map enc) v := by
  simp only [SV.hc, List.cons.injEq, and_true] at h
  obtain ⟨ad, c, rfl, h1, h2, h3, h4, h5⟩ := h
  have hsz : ∀ e ∈ xs.map enc, szL e = z := fun e he => by
    obtain ⟨y, hy, rfl⟩ := List.mem_map.1 he
    obtain ⟨i, hi, rfl⟩ := List.mem_iff_getElem.1 hy
    exact h4 i hi
  refine ⟨hsz, ad, c, ?_⟩
  cases ad with
  | none =>
    obtain ⟨rfl, rfl⟩ := h3 rfl
    exact ⟨[], rfl, rfl, fun _ => ⟨rfl, rfl⟩, fun a h => by cases h⟩
  | some ad =>
    have hcase := h5 ad rfl
    obtain ⟨g, p, sp⟩ := ad
    rcases hcase with rfl | ⟨hsp, hA, C, T, fr, hg, he⟩
    · exact ⟨[], rfl, rfl, fun h => (by cases h), fun a ha j u hu => by simp at hu⟩
    · simp only at hsp; subst hsp
      have hin : xs.length * z ≤ C.size - p ∨ xs.length * z = 0 := by
        rcases Nat.eq_zero_or_pos (xs.length * z) with h0 | h0
        · exact .inr h0
        · left
          have hz : 0 < z := Nat.pos_of_mul_pos_left h0 |> fun _ => by
            rcases Nat.eq_zero_or_pos z with h | h
            · rw [h, Nat.mul_zero] at h0; omega
            · exact h
          have hx : 0 < xs.length := by
            rcases Nat.eq_zero_or_pos xs.length with h | h
            · rw [h, Nat.zero_mul] at h0; omega
            · exact h
          have hl := (he (xs.length - 1) (by omega)).len
          rw [h4 _ (by omega), List.length_take, List.length_drop] at hl
          have e1 : (xs.length - 1) * z + z = xs.length * z := by rw [← Nat.succ_mul]; congr 1; omega
          simp only [Array.length_toList] at hl
          omega
      refine ⟨(C.toList.drop p).take (xs.length * z), by simp, ?_, fun h => (by cases h), fun a ha j u hu => ?_⟩
      · refine hE.of (z := z) (by simp; omega) fun i e hi => ?_
        obtain ⟨hi', rfl⟩ := List.getElem?_eq_some_iff.1 hi
        rw [List.length_map] at hi'
        have hmul : (i + 1) * z ≤ xs.length * z := Nat.mul_le_mul_right _ hi'
        rw [Nat.add_mul, Nat.one_mul] at hmul
        rw [take_drop_part (by omega), List.getElem_map]
        exact he i hi'
      · cases ha
        rw [addr_add, cell_of_row w g (p + j) C T fr hg]
        rw [List.getElem?_take] at hu
        split at hu
        · rw [List.getElem?_drop] at hu; simpa using hu
        · cases hu
theorem row_slc {A : Own} {k e z : Nat} {els : List (List SV)} {v : Value} (h : rowH w A σ k e z els) (hv : σ k = some v) : SlC w A z els v := by
  obtain ⟨u, cs, h0, h1, h2, h3, ho⟩ := h
  rw [hv] at h0; cases h0
  refine ⟨h1, ?_⟩
  rcases ho.2 with ⟨rfl, hn⟩ | ⟨g, cap, cur, rfl, hb0, hg, hn, hc, hs, ht⟩
  · have := List.eq_nil_of_length_eq_zero hn
    subst this
    exact ⟨none, 0, [], rfl, rfl, fun _ => ⟨rfl, rfl⟩, fun a h => by cases h⟩
  · refine ⟨some ⟨g, 0, none⟩, cap, cs, rfl, h3, fun h => (by cases h), fun a ha j u hu => ?_⟩
    cases ha
    rw [addr_add, cell_of_row w g (0 + j) cur e (0, 0) hg]
    rw [← ht, List.getElem?_take] at hu
    split at hu
    · simpa using hu
    · cases hu
theorem SlC.later {w' : World} {A A' : Own} {z : Nat} {els : List (List SV)} {v : Value} (h : SlC w A z els v) (hl : Later w A w A') : SlC w A' z els v := by
  obtain ⟨h1, ad, c, cs, h2, h3, h4, h5⟩ := h
  exact ⟨h1, ad, c, cs, h2, h3.later hl, h4, h5⟩
/-- what is appended -/
def srcE (objs : List Ob) (s : SV) (z : Nat) : Option EF := match s with
  | .fs z' enc xs => match Nat.beq z z' with
    | true => some (.of enc xs)
    | false => none
  | .nils => some (.lit [])
  | .own k => match lk objs k with
    | some (.row _ z' enc xs) => match Nat.beq z z' with
      | true => some (.of enc xs)
      | false => none
    | some (.frow z' enc xs) => match Nat.beq z z' with
      | true => some (.of enc xs)
      | false => none
    | some (.lits _ z' els) => match Nat.beq z z' with
      | true => some (.lit els)
      | false => none
    | _ => none
  | _ => none
theorem srcE_spec {s : SV} {z : Nat} {f : EF} (h : srcE objs s z = some f) (hx : evx P env x = some s) (hst : St P S σ env objs nx a w) : SlC w (S.A σ objs) z f.els (a.eval x) := by
  unfold srcE at h
  split at h
  · split at h
    · rename_i hz
      obtain rfl := Nat.eq_of_beq_eq_true hz
      cases h
      obtain ⟨v, rfl, hc⟩ := fs_ev hx hst
      exact fs_slc hc
    · cases h
  · cases h
    have := hst.ev hx
    simp only [SV.hv, SV.h1, SV.hc, List.cons.injEq, and_true] at this
    rw [this]
    exact ⟨by simp [EF.els], none, 0, [], rfl, rfl, fun _ => ⟨rfl, rfl⟩, fun a h => by cases h⟩
  · split at h
    · rename_i hk
      split at h
      · rename_i hz
        obtain rfl := Nat.eq_of_beq_eq_true hz
        cases h
        exact row_slc (lk_holds hst hk) (own_ev hx hst)
      · cases h
    · rename_i hk
      split at h
      · rename_i hz
        obtain rfl := Nat.eq_of_beq_eq_true hz
        cases h
        obtain ⟨v, rfl, hc⟩ := frow_ev hx hk hst
        exact fs_slc hc
      · cases h
    · rename_i hk
      split at h
      · rename_i hz
        obtain rfl := Nat.eq_of_beq_eq_true hz
        cases h
        exact row_slc (lk_holds hst hk) (own_ev hx hst)
      · cases h
    · cases h
  · cases h
def joinE (b s : EF) (K : EF → Prop) : Prop := match b with
  | @EF.of α enc xs => match s with
    | .of enc' ys => Ex (fun zs : List α => zs.map enc = ys.map enc') fun zs => K (.of enc (xs ++ zs))
    | .lit els => Ex (fun zs : List α => zs.map enc = els) fun zs => K (.of enc (xs ++ zs))
  | .lit [] => match s with
    | .of enc ys => K (.of enc ys)
    | .lit els => K (.lit els)
  | .lit els => match s with
    | @EF.of α enc ys => Ex (fun zs : List α => zs.map enc = els) fun zs => K (.of enc (zs ++ ys))
    | .lit els' => match app2 els els' with
      | some l => K (.lit l)
      | none => False
theorem joinE_spec {b s : EF} {K : EF → Prop} (h : joinE b s K) : ∃ f, K f ∧ f.els = b.els ++ s.els := by
  unfold joinE at h
  split at h
  · split at h
    · obtain ⟨zs, h1, h2⟩ := h; exact ⟨_, h2, by simp [EF.els, h1]⟩
    · obtain ⟨zs, h1, h2⟩ := h; exact ⟨_, h2, by simp [EF.els, h1]⟩
  · split at h
    · exact ⟨_, h, by simp [EF.els]⟩
    · exact ⟨_, h, by simp [EF.els]⟩
  · split at h
    · obtain ⟨zs, h1, h2⟩ := h; exact ⟨_, h2, by simp [EF.els, h1]⟩
    · split at h
      · rename_i hl; exact ⟨_, h, by simp [EF.els, app2_eq hl]⟩
      · exact h.elim
/-- the world behind an append -/
theorem run_app {T et : TypeId} {z : Nat} {zp : List SV} {i j : TI} {v xv : Value} {b m : List (List SV)} {A : Own} (ht : ty P T = some i) (hk : i.k = .sl et) (hj : ty P et = some j) (hzr : zeroOf (TabC.tab P) 9 et = some zp) (hzz : szL zp = z) (hz : 0 < z) (rt : TypeId)
    (hrow : (∃ k e, ∃ σ : Sg, σ k = some v ∧ e = et ∧ rowH w A σ k e z b) ∨ (v = .slice none 0 0 ∧ b = [])) (hsl : SlC w A z m xv) (hb : (b.length + m.length) * j.bytes ≤ 140737488355328) (hb2 : b.length + m.length ≤ 140737488355328) :
    ∃ v' w' cs ds, (Builtin.append_ #[T, T] rt #[v, xv]).run P w = .ok v' w' ∧ w'.ownsRow 0 et z v' (b.length + m.length) (cs ++ ds) ∧ w.grownBy w' v.ownBlock ∧ (∀ c, v'.ownBlock = some c → v.ownBlock = some c ∨ w.heap.size ≤ c) ∧ hE w A sg0 b cs ∧ hE w A sg0 m ds ∧ (∀ e ∈ b, szL e = z) := by
  obtain ⟨inf, zv, hi, hz0, hisz, hzc⟩ := zero_spec (P := P) hzr
  obtain ⟨inf', d', hi', hd', hsz', hby, _, _⟩ := ty_spec hj
  rw [hi] at hi'; cases hi'
  obtain ⟨hmz, xa, c, ds, rfl, hE2, hnil, hcells⟩ := hsl
  have hlen2 : ds.length = m.length * z := hE2.len hmz
  have hone2 := hE2.one
  have hzs : zv.cells.size = z := by rw [← hzz, ← (hzc w A sg0).len]; simp
  have hsz2 : inf.size = z := by rw [hisz, hzz]
  obtain ⟨cs, hez, hE, hown⟩ : ∃ cs, (∀ e ∈ b, szL e = z) ∧ hE w A sg0 b cs ∧ w.ownsRow 0 et z v b.length cs := by
    rcases hrow with ⟨k, e, σ, h0, rfl, u, cs, h1, h2, h3, h4, h5⟩ | ⟨rfl, rfl⟩
    · rw [h0] at h1; cases h1; exact ⟨cs, h2, h4, h5⟩
    · exact ⟨[], by simp, rfl, World.ownsRow_nil _ _ _ _⟩
  have key : ∃ v' w', (Builtin.append_ #[T, T] rt #[v, .slice xa m.length c]).run P w = .ok v' w' ∧ w'.ownsRow 0 et z v' (b.length + m.length) (cs ++ ds) ∧ w.grownBy w' v.ownBlock ∧ ∀ b, v'.ownBlock = some b → v.ownBlock = some b ∨ w.heap.size ≤ b := by
    cases xa with
    | none =>
      obtain ⟨rfl, rfl⟩ := hnil rfl
      have hds : ds = [] := List.eq_nil_of_length_eq_zero (by simpa using hlen2)
      subst hds
      exact ⟨v, w, run_append_owned_none (P := P) (w := w) 0 T rt et inf z (ty_slice ht hk) hi v b.length cs hown, by simpa using hown, ⟨rfl, rfl, rfl, Nat.le_refl _, fun _ _ _ => rfl⟩, fun b hb => .inl hb⟩
    | some ad =>
      rcases hown.2 with ⟨rfl, hl0⟩ | ⟨g, cap, cur, rfl, hbg, hg, hnc, hcm, hcs, htake⟩
      · have hcs0 : cs = [] := List.eq_nil_of_length_eq_zero (by rw [hown.1, hl0]; simp)
        subst hcs0
        rw [hl0] at hb hb2 hown ⊢
        obtain ⟨v', w', hr, h2, h3, _⟩ := run_append_own (P := P) w w.heap.size T rt et inf zv z j.bytes (ty_slice ht hk) hi hz0 hsz2 hby hzs hz (.slice none 0 0) 0 [] (World.ownsRow_nil _ _ _ _) ad m.length c ds hlen2 (hcells ad rfl) hone2 (Nat.le_trans hb2 (by decide)) hb (Nat.le_refl _)
        exact ⟨v', w', hr, ⟨h2.1, h2.2.imp id (fun ⟨g, cap, cur, e1, _, e3⟩ => ⟨g, cap, cur, e1, Nat.zero_le _, e3⟩)⟩, h3, fun b hb => .inr (h2.lt b hb).1⟩
      · obtain ⟨v', w', hr, h2, h3, _⟩ := run_append_own (P := P) w 0 T rt et inf zv z j.bytes (ty_slice ht hk) hi hz0 hsz2 hby hzs hz _ b.length cs hown ad m.length c ds hlen2 (hcells ad rfl) hone2 (Nat.le_trans hb2 (by decide)) hb (Nat.zero_le _)
        refine ⟨v', w', hr, h2, h3, fun b' hb' => ?_⟩
        by_cases hroom : b.length + m.length ≤ cap
        · have hfit : b.length * inf.size + ds.length ≤ cur.size := by rw [hlen2, hcs, hsz2, ← Nat.add_mul]; exact Nat.mul_le_mul_right _ hroom
          have hr2 := run_append_room (P := P) w T rt et inf (ty_slice ht hk) hi g b.length cap cur hg ad m.length c ds (by rw [hsz2]; exact hlen2) (hcells ad rfl) hone2 hroom hfit
          rw [hr] at hr2
          cases hr2
          exact .inl hb'
        · have hr2 := run_append_grow (P := P) w T rt et inf zv (ty_slice ht hk) hi hz0 ⟨g, 0, none⟩ b.length cap cs (by rw [hsz2]; exact hown.1) (hown.cells (g := g) rfl) ad m.length c ds (by rw [hsz2]; exact hlen2) (hcells ad rfl) (by omega) (by omega) (growslice_fits (by omega) (by rw [hby]; exact hb))
          rw [hr] at hr2
          cases hr2
          simp only [Value.ownBlock, Option.some.injEq] at hb'
          exact .inr (by omega)
  obtain ⟨v', w', h1, h2, h3, h4⟩ := key
  exact ⟨v', w', cs, ds, h1, h2, h3, h4, hE, hE2, hez⟩
/-- what an append does -/
def AppR (P : Program) (w : World) (A : Own) (T T' rt et : TypeId) (z bytes : Nat) (m : List (List SV)) (xv : Value) : Prop := (∀ e ∈ m, szL e = z) ∧ ∀ (v : Value) (b : List (List SV)), ((∃ k e, ∃ σ : Sg, σ k = some v ∧ e = et ∧ rowH w A σ k e z b) ∨ (v = .slice none 0 0 ∧ b = [])) → (b.length + m.length) * bytes ≤ 140737488355328 → b.length + m.length ≤ 140737488355328 →
    ∃ v' w' cs ds, (Builtin.append_ #[T, T'] rt #[v, xv]).run P w = .ok v' w' ∧ w'.ownsRow 0 et z v' (b.length + m.length) (cs ++ ds) ∧ w.grownBy w' v.ownBlock ∧ (∀ c, v'.ownBlock = some c → v.ownBlock = some c ∨ w.heap.size ≤ c) ∧ hE w A sg0 b cs ∧ hE w A sg0 m ds ∧ (∀ e ∈ b, szL e = z)
theorem run_app' {T et : TypeId} {zp : List SV} {i j : TI} {xv : Value} {m : List (List SV)} {A : Own} (ht : ty P T = some i) (hk : i.k = .sl et) (hj : ty P et = some j) (hzr : zeroOf (TabC.tab P) 9 et = some zp) (hzz : szL zp = j.size) (hz : 0 < j.size) (rt : TypeId) (hsl : SlC w A j.size m xv) : AppR P w A T T rt et j.size j.bytes m xv :=
  ⟨hsl.1, fun _ _ hrow hb hb2 => run_app ht hk hj hzr hzz hz rt hrow hsl hb hb2⟩
variable (P) in
/-- what is appended: elements of the same sort, or a string's bytes -/
def srcA (objs : List Ob) (T T' et : Nat) (j : TI) (u : SV) : Option EF := match Nat.beq T T' with
  | true => srcE objs u j.size
  | false => match j, ty P T', u with
    | ⟨.int .u8, 1, 1⟩, some ⟨.str, _, _⟩, .str l => some (.of eB l)
    | _, _, _ => none
variable (P) in
def evAppend (m : Nat) (dst : Option Nat) (env : Env) (objs : List Ob) (nx : Nat) (T T' : Nat) (s u : SV) (K : KS) : Prop := dstK m dst fun d => match ty P T with
  | some ⟨.sl et, _, _⟩ => match ty P et, zeroOf (TabC.tab P) 9 et with
    | some j, some zp => match sizQ zp j.size, Nat.blt 0 j.size, srcA P objs T T' et j u with
      | true, true, some f => match s with
        | .nils => Side (f.els.length * j.bytes ≤ 140737488355328 ∧ f.els.length ≤ 140737488355328) (K ((d, .own nx) :: env) ((nx, f.so et j.size) :: objs) (nx + 1))
        | .own k => match lk objs k with
          | some (.row e z enc xs) => match Nat.beq e et, Nat.beq z j.size with
            | true, true => joinE (.of enc xs) f fun g => Side (g.els.length * j.bytes ≤ 140737488355328 ∧ g.els.length ≤ 140737488355328) (setK objs k nx (g.so et j.size) fun o => K ((d, .own nx) :: env) o (nx + 1))
            | _, _ => False
          | some (.lits e z els) => match Nat.beq e et, Nat.beq z j.size with
            | true, true => joinE (.lit els) f fun g => Side (g.els.length * j.bytes ≤ 140737488355328 ∧ g.els.length ≤ 140737488355328) (setK objs k nx (g.so et j.size) fun o => K ((d, .own nx) :: env) o (nx + 1))
            | _, _ => False
          | _ => False
        | _ => False
      | _, _, _ => False
    | _, _ => False
  | _ => False
theorem strCells_ba (l : List (BitVec 8)) : Go.Lib.strCells (baOf l) = l.map (bV .u8) := by
  unfold Go.Lib.strCells
  show List.map _ (l.map UInt8.ofBitVec) = _
  rw [List.map_map]; rfl
theorem hE_str {w : World} {A : Own} : ∀ l : List (BitVec 8), hE w A sg0 (l.map eB) (l.map (bV .u8))
  | [] => rfl
  | b :: r => by
    simp only [List.map_cons, hE]
    exact ⟨[bV .u8 b], r.map (bV .u8), rfl, hL.single.2 (by simp only [SV.hc]), hE_str r⟩
theorem grown_owns {e : TypeId} {cs ds : List Value} {z : Array Value} {n m old : Nat} (hc : cs.length = n) (hd : ds.length = m) (hz : z.size = 1) (h : n + m ≤ maxLen) :
    (w.drew.alloc (.cells (cs.toArray ++ ds.toArray ++ Builtin.zeroCells z (grownCap w (n + m) old e - (n + m))) e)).ownsRow 0 e 1 (.slice (some ⟨w.heap.size, 0, none⟩) (n + m) (grownCap w (n + m) old e)) (n + m) (cs ++ ds) ∧
    ∀ row, w.grownBy (w.drew.alloc (.cells (cs.toArray ++ ds.toArray ++ Builtin.zeroCells z (grownCap w (n + m) old e - (n + m))) e)) row := by
  have h1 := grownCap_ge w (n + m) old e
  have hl : (cs ++ ds).length = n + m := by rw [List.length_append, hc, hd]
  refine ⟨⟨by rw [hl, Nat.mul_one], .inr ⟨_, _, _, rfl, Nat.zero_le _, heap_alloc_new w.drew _, h1, grownCap_le_maxLen w _ old e h, ?_, ?_⟩⟩, fun row => ⟨rfl, rfl, rfl, by simp, fun k hk _ => heap_alloc_old w.drew _ hk⟩⟩
  · rw [Array.size_append, Array.size_append, size_zeroCells, hz, List.size_toArray, List.size_toArray, hc, hd]; omega
  · rw [Nat.mul_one, ← hl, Array.toList_append, Array.toList_append]
    exact List.take_left
theorem appR_str {T T' et : TypeId} {zp : List SV} {i j k : TI} {A : Own} (l : List (BitVec 8)) (ht : ty P T = some i) (hk : i.k = .sl et) (hj : ty P et = some j) (hzr : zeroOf (TabC.tab P) 9 et = some zp) (hzz : szL zp = j.size) (h1 : j.size = 1) (hb1 : j.bytes = 1) (hT' : ty P T' = some k) (hks : k.k = .str) (rt : TypeId) : AppR P w A T T' rt et j.size j.bytes (l.map eB) (.string (baOf l)) := by
  refine ⟨fun e he => by obtain ⟨b, _, rfl⟩ := List.mem_map.1 he; rw [h1]; rfl, fun v b hrow hb hb2 => ?_⟩
  obtain ⟨inf, zv, hi, hz0, hisz, hzc⟩ := zero_spec (P := P) hzr
  obtain ⟨inf', d', hi', hd', hsz', hby, _, _⟩ := ty_spec hj
  rw [hi] at hi'; cases hi'
  have hzs : zv.cells.size = 1 := by rw [← h1, ← hzz, ← (hzc w A sg0).len]; simp
  have hsz2 : inf.size = 1 := by rw [hsz', h1]
  have hby1 : inf.bytes = 1 := by rw [hby, hb1]
  have u1 := ty_slice ht hk
  have u2 := ty_str hT' hks
  have hss : (baOf l).size = l.length := baOf_size l
  have hsc := strCells_ba l
  have hda : ((baOf l).data.map fun b => Value.int .u8 b.toNat) = (l.map (bV .u8)).toArray := by
    rw [← hsc]; apply Array.ext'; simp [Go.Lib.strCells]
  rw [List.length_map, hb1, Nat.mul_one] at hb
  rw [List.length_map] at hb2 ⊢
  have hmx : b.length + l.length ≤ maxLen := Nat.le_trans hb2 (by decide)
  rw [h1] at hrow ⊢
  obtain ⟨cs, hez, hE, hown⟩ : ∃ cs, (∀ e ∈ b, szL e = 1) ∧ hE w A sg0 b cs ∧ w.ownsRow 0 et 1 v b.length cs := by
    rcases hrow with ⟨k, e, σ, h0, rfl, u, cs, h1, h2, h3, h4, h5⟩ | ⟨rfl, rfl⟩
    · rw [h0] at h1; cases h1; exact ⟨cs, h2, h4, h5⟩
    · exact ⟨[], by simp, rfl, World.ownsRow_nil _ _ _ _⟩
  have hcl : cs.length = b.length := by rw [hown.1, Nat.mul_one]
  have hdl : (l.map (bV .u8)).length = l.length := List.length_map _
  rcases hown.2 with ⟨rfl, hl0⟩ | ⟨g, cap, cur, rfl, hbg, hg, hnc, hcm, hcs, htake⟩
  · rw [hl0] at hcl hmx hb2 hown ⊢
    obtain rfl := List.eq_nil_of_length_eq_zero hcl
    by_cases hl : l.length = 0
    · obtain rfl := List.eq_nil_of_length_eq_zero hl
      have hf := Go.Lib.run_firstCells_string (P := P) w 1 (baOf [])
      have hcs0 : Go.Lib.strCells (baOf []) = [] := rfl
      have hs0 : (baOf []).size = 0 := rfl
      rw [hs0, hcs0] at hf
      refine ⟨.slice none 0 0, w, [], [], ?_, by simpa using hown, ⟨rfl, rfl, rfl, Nat.le_refl _, fun _ _ _ => rfl⟩, fun c hc => .inl hc, hE, rfl, hez⟩
      simp [Builtin.append_, run_underlying u1, run_underlying u2, sizeOf, typeInfo, hi, hsz2, Builtin.lenOf, hs0, hf]
    · have hr := run_append_nil_string (P := P) w T T' rt et inf zv u1 u2 hi hz0 (baOf l) (by omega) (by omega) (by rw [hby1]; omega)
      obtain ⟨o1, o2⟩ := grown_owns (w := w) (e := et) (cs := []) (ds := l.map (bV .u8)) (z := zv.cells) (n := 0) (m := l.length) (old := 0) rfl hdl hzs hmx
      rw [hda, hss] at hr
      simp only [Nat.zero_add, List.nil_append, Array.empty_append] at o1 o2 ⊢
      exact ⟨_, _, [], _, hr, by simpa using o1, o2 _, fun c hc => .inr (by simp only [Value.ownBlock, Option.some.injEq] at hc; omega), hE, hE_str l, hez⟩
  · by_cases hroom : b.length + l.length ≤ cap
    · have hr := Go.Lib.run_append_room_string (P := P) w T T' rt et inf u1 u2 hi hsz2 g b.length cap cur hg (baOf l) (by rw [hss]; exact hroom) (by rw [hss, hcs, Nat.mul_one]; exact hroom)
      rw [Nat.mul_one] at htake
      rw [hss, hsc, htake] at hr
      refine ⟨_, _, cs, l.map (bV .u8), hr, ⟨by rw [List.length_append, hcl, hdl, Nat.mul_one], .inr ⟨g, cap, _, rfl, hbg, setRow_heap w g cur _ et _ hg, hroom, hcm, ?_, ?_⟩⟩, ⟨rfl, rfl, rfl, by simp, fun k _ hk => setRow_other w g k _ (fun e => hk (by simp [Value.ownBlock, e]))⟩, fun c hc => .inl hc, hE, hE_str l, hez⟩
      · simp only [List.size_toArray, List.length_append, List.length_drop, Array.length_toList, hcl, hdl]; omega
      · have hl : (cs ++ l.map (bV .u8)).length = (b.length + l.length) * 1 := by rw [List.length_append, hcl, hdl, Nat.mul_one]
        rw [← hl]
        exact List.take_left
    · have hr := Go.Lib.run_append_grow_string (P := P) w T T' rt et inf zv u1 u2 hi hz0 ⟨g, 0, none⟩ b.length cap cs (by rw [hsz2, Nat.mul_one]; exact hcl) (hown.cells (g := g) rfl) (baOf l) (by omega) (by rw [hss]; simp only [maxLen] at hmx; omega) (by rw [hby1, hss]; exact growslice_fits (by omega) (by omega))
      obtain ⟨o1, o2⟩ := grown_owns (w := w) (e := et) (cs := cs) (ds := l.map (bV .u8)) (z := zv.cells) (n := b.length) (m := l.length) (old := cap) hcl hdl hzs hmx
      rw [hss, hsc] at hr
      exact ⟨_, _, cs, _, hr, o1, o2 _, fun c hc => .inr (by simp only [Value.ownBlock, Option.some.injEq] at hc; omega), hE, hE_str l, hez⟩
theorem srcA_spec {T T' et : TypeId} {i j : TI} {zp : List SV} {u : SV} {f : EF} (hy : evx P env y = some u) (ht : ty P T = some i) (hik : i.k = .sl et) (hj : ty P et = some j) (hz : zeroOf (TabC.tab P) 9 et = some zp) (hzz : szL zp = j.size) (hpos : 0 < j.size) (hf : srcA P objs T T' et j u = some f) (rt : TypeId) : ∀ σ a w, St P S σ env objs nx a w → AppR P w (S.A σ objs) T T' rt et j.size j.bytes f.els (a.eval y) := by
  intro σ a w hst
  unfold srcA at hf
  split at hf
  · rename_i hT
    obtain rfl := Nat.eq_of_beq_eq_true hT
    exact run_app' ht hik hj hz hzz hpos rt (srcE_spec hf hy hst)
  · split at hf
    · rename_i hT'
      cases hf
      have hv := hvS.1 (hst.ev hy)
      rw [hv]
      exact appR_str _ ht hik hj hz hzz rfl rfl hT' rfl rt
    · cases hf
theorem own_blk' {w : World} {e : TypeId} {z : Nat} {v : Value} {n : Nat} {cs : List Value} (h : w.ownsRow 0 e z v n cs) : blkO v = v.ownBlock := (own_blk h).1
theorem app_own {T T' et k : TypeId} {j : TI} {d : Nat} {f b g : EF} {so : SO} {objs' : List Ob} (ho : o.op = .call { callee := .builtin .append, args := #[x, y], argTypes := #[T, T'] }) (hd : o.dst = some d) (hlt : d < S.n) (hx : evx P env x = some (.own k))
    (hap : ∀ σ a w, St P S σ env objs nx a w → AppR P w (S.A σ objs) T T' o.type et j.size j.bytes f.els (a.eval y)) (hk : lk objs k = some so) (hso : ∀ w A σ, so.holds w A σ k ↔ rowH w A σ k et j.size b.els) (hsown : ∀ σ c, so.own σ k c ↔ ∃ v, σ k = some v ∧ blkO v = some c)
    (hg : g.els = b.els ++ f.els) (hb : g.els.length * j.bytes ≤ 140737488355328 ∧ g.els.length ≤ 140737488355328) (hl : setO objs k nx (g.so et j.size) = some objs') (hK : K ((d, .own nx) :: env) objs' (nx + 1)) : DoesK P S env objs nx o false K := by
  have hs := setO_spec hk hl
  refine DoesK.of hK fun σ a w hst => ?_
  have hrow := (hso _ _ _).1 (lk_holds hst hk)
  have hv := own_ev hx hst
  have hgl : g.els.length = b.els.length + f.els.length := by rw [hg, List.length_append]
  obtain ⟨v', w', cs, ds, hrun, hown', hgr, hgrow, hE1, hE2, hez⟩ := (hap σ a w hst).2 _ _ (.inl ⟨k, et, σ, hv, rfl, hrow⟩) (by rw [← hgl]; exact hb.1) (by rw [← hgl]; exact hb.2)
  have hfz : ∀ e ∈ f.els, szL e = j.size := (hap σ a w hst).1
  have hblk : blkO (a.eval x) = (a.eval x).ownBlock := by
    obtain ⟨u, cs', h1, _, _, _, h5⟩ := hrow
    rw [hv] at h1; cases h1; exact own_blk' h5
  have h1 := hst.name v'
  have hle := Sg.le_set (σ := σ) (v := v') (hst.dom nx (Nat.le_refl _))
  obtain ⟨R, r1, r2, _⟩ := hs.owns_iff (σ := σ.set nx v')
  have hold : ∀ c, so.own (σ.set nx v') k c ↔ (a.eval x).ownBlock = some c := fun c => by
    rw [hsown, hle _ _ hv]
    exact ⟨fun ⟨u, hu, hb⟩ => by cases hu; rw [← hblk]; exact hb, fun h => ⟨_, rfl, by rw [hblk]; exact h⟩⟩
  have hnew : ∀ c, (g.so et j.size).own (σ.set nx v') nx c ↔ v'.ownBlock = some c := fun c => by
    rw [EF.so_own, Sg.set_self]
    exact ⟨fun ⟨u, hu, hb⟩ => by cases hu; rw [← own_blk' hown']; exact hb, fun h => ⟨_, rfl, by rw [own_blk' hown']; exact h⟩⟩
  have hm := Mod.grown hgr
  have hM : ∀ c, (a.eval x).ownBlock = some c → owns (σ.set nx v') objs c := fun c hc => (r1 c).2 (.inr ((hold c).2 hc))
  have how : ∀ c, owns (σ.set nx v') objs' c → owns (σ.set nx v') objs c ∨ w.heap.size ≤ c := fun c hc => by
    rcases (r2 c).1 hc with h | h
    · exact .inl ((r1 c).2 (.inl h))
    · rcases hgrow c ((hnew c).1 h) with h | h
      · exact .inl (hM c h)
      · exact .inr h
  have hlat := h1.lat hm hM how
  have hl0 : Later w (S.A σ objs) w' (S.A (σ.set nx v') objs') := (Later.own fun b hb => hb.imp id (owns_names hle hst.obs.holds b).1).trans hlat
  refine ⟨.value v', v', w', σ.set nx v', ?_, .inl rfl, ?_, fun e => by cases e⟩
  · simp only [execOp, ho, resolve, invoke, builtin, Sem.run_bind, Sem.run_pure, Result.andThen_ok, List.map_toArray, List.map_cons, List.map_nil, hrun]
  · rw [hd]
    refine (h1.upd hm hM how (h1.obs.set hs (hm.mono fun c hc => (hold c).2 hc) ((EF.so_holds g _ _ _).2 ⟨v', cs ++ ds, Sg.set_self _ _ _, ?_, hb.2, ?_, by rw [hgl]; exact hown'⟩) (fun c hc => ?_) h1.a0lt)).put hlt (own_self nx v' (own_blk hown').2)
    · rw [hg]; exact fun e he => (List.mem_append.1 he).elim (hez e) (hfz e)
    · rw [hg]; exact (hE1.later hl0).append (hE2.later hl0)
    · rcases hgrow c ((hnew c).1 hc) with h | h
      · exact .inl ((hold c).2 h)
      · exact .inr h
theorem app_new {T T' et : TypeId} {j : TI} {d : Nat} {f : EF} (ho : o.op = .call { callee := .builtin .append, args := #[x, y], argTypes := #[T, T'] }) (hd : o.dst = some d) (hlt : d < S.n) (hx : evx P env x = some .nils)
    (hap : ∀ σ a w, St P S σ env objs nx a w → AppR P w (S.A σ objs) T T' o.type et j.size j.bytes f.els (a.eval y))
    (hb : f.els.length * j.bytes ≤ 140737488355328 ∧ f.els.length ≤ 140737488355328) (hK : K ((d, .own nx) :: env) ((nx, f.so et j.size) :: objs) (nx + 1)) : DoesK P S env objs nx o false K := by
  refine DoesK.of hK fun σ a w hst => ?_
  have hxv : a.eval x = .slice none 0 0 := by have := hst.ev hx; simpa [SV.hv, SV.h1, SV.hc] using this
  obtain ⟨v', w', cs, ds, hrun, hown', hgr, hgrow, hE1, hE2, _⟩ := (hap σ a w hst).2 (a.eval x) [] (.inr ⟨hxv, rfl⟩) (by simpa using hb.1) (by simpa using hb.2)
  simp only [hE] at hE1; subst hE1
  have hfz : ∀ e ∈ f.els, szL e = j.size := (hap σ a w hst).1
  have h1 := hst.name v'
  have hle := Sg.le_set (σ := σ) (v := v') (hst.dom nx (Nat.le_refl _))
  have hnew : ∀ c, (f.so et j.size).own (σ.set nx v') nx c → w.heap.size ≤ c := fun c hc => by
    rw [EF.so_own, Sg.set_self] at hc
    obtain ⟨u, hu, hb⟩ := hc
    cases hu
    rw [own_blk' hown'] at hb
    rcases hgrow c hb with h | h
    · rw [hxv] at h; cases h
    · exact h
  have hm : Kept w w' := (Mod.grown hgr).mono fun b hb => by rw [hxv] at hb; cases hb
  have how : ∀ c, owns (σ.set nx v') ((nx, f.so et j.size) :: objs) c → owns (σ.set nx v') objs c ∨ w.heap.size ≤ c := fun c hc => hc.elim (fun h => .inr (hnew c h)) .inl
  have hlat := h1.lat hm (fun _ x => x.elim) how
  have hl0 : Later w (S.A σ objs) w' (S.A (σ.set nx v') ((nx, f.so et j.size) :: objs)) := (Later.own fun b hb => hb.imp id (owns_names hle hst.obs.holds b).1).trans hlat
  refine ⟨.value v', v', w', σ.set nx v', ?_, .inl rfl, ?_, fun e => by cases e⟩
  · simp only [execOp, ho, resolve, invoke, builtin, Sem.run_bind, Sem.run_pure, Result.andThen_ok, List.map_toArray, List.map_cons, List.map_nil, hrun]
  · rw [hd]
    refine (h1.upd hm (fun _ x => x.elim) how (h1.obs.cons hm ((EF.so_holds f _ _ _).2 ⟨v', ds, Sg.set_self _ _ _, hfz, hb.2, hE2.later hl0, by simpa using hown'⟩) hnew h1.a0lt)).put hlt (own_self nx v' (own_blk hown').2)
theorem evAppend_sound {T T' : TypeId} {s u : SV} (ho : o.op = .call { callee := .builtin .append, args := #[x, y], argTypes := #[T, T'] }) (hx : evx P env x = some s) (hy : evx P env y = some u) (h : evAppend P S.n o.dst env objs nx T T' s u K) : DoesK P S env objs nx o false K := by
  obtain ⟨d, hd, hlt, h⟩ := dstK_spec h
  split at h
  · rename_i et _ _ ht
    split at h
    · rename_i j zp hj hz
      split at h
      · rename_i f hzz hpos hf
        have hzz' := sizQ_spec hzz
        have hpos' : 0 < j.size := by simpa [Nat.blt_eq] using hpos
        split at h
        · exact app_new ho hd hlt hx (srcA_spec hy ht rfl hj hz hzz' hpos' hf _) h.h h.k
        · split at h
          · rename_i k e z α enc xs hk
            split at h
            · rename_i he hze
              obtain rfl := Nat.eq_of_beq_eq_true he
              obtain rfl := Nat.eq_of_beq_eq_true hze
              obtain ⟨g, hg, hgj⟩ := joinE_spec h
              obtain ⟨l, hl, hK⟩ := setK_spec hg.k
              exact app_own (b := .of enc xs) ho hd hlt hx (srcA_spec hy ht rfl hj hz hzz' hpos' hf _) hk (fun _ _ _ => Iff.rfl) (fun _ _ => Iff.rfl) hgj hg.h hl hK
            · exact h.elim
          · rename_i k e z els hk
            split at h
            · rename_i he hze
              obtain rfl := Nat.eq_of_beq_eq_true he
              obtain rfl := Nat.eq_of_beq_eq_true hze
              obtain ⟨g, hg, hgj⟩ := joinE_spec h
              obtain ⟨l, hl, hK⟩ := setK_spec hg.k
              exact app_own (b := .lit els) ho hd hlt hx (srcA_spec hy ht rfl hj hz hzz' hpos' hf _) hk (fun _ _ _ => Iff.rfl) (fun _ _ => Iff.rfl) hgj hg.h hl hK
            · exact h.elim
          · exact h.elim
        · exact h.elim
      · exact h.elim
    · exact h.elim
  · exact h.elim
end
end Go.Proofs.YtdflndjlnkoliaaGreatDoor

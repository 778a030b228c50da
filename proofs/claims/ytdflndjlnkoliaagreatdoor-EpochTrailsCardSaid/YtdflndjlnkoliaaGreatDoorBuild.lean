import Derived.Test.YtdflndjlnkoliaaGreatDoorSlices
/- MY OWN ENGINE: cells by value, the greater and the smaller, structs and arrays built of parts. -/
namespace Go.Proofs.YtdflndjlnkoliaaGreatDoor
set_option linter.all false
open Go.RowKit
section
variable {P : Program} [TabC P] {S : Sig} {σ : Sg} {env : Env} {objs : List Ob} {nx : Nat} {o : Oper} {a : Act} {w : World} {x y : Operand} {K : SV → Prop}
variable (P) in
def evIndex (T : Nat) (s : SV) (ix : SV) (K : SV → Prop) : Prop := match ixI ix with
  | some m => match ty P T with
    | some ⟨.str, _, _⟩ => match s with
      | .str l => Idx (0 ≤ m ∧ m.toNat < l.length) fun h => K (.u8 (l[m.toNat]'h.2))
      | _ => False
    | some ⟨.ar n e, _, _⟩ => match ty P e with
      | some j => match rowB j with
        | true => match s with
          | .agg [.arr8 (n := n') v] => match Nat.beq j.size 1, j.row, Nat.beq n n' with
            | true, false, true => Idx (0 ≤ m ∧ m.toNat < n') fun h => K (.u8 (v[m.toNat]'h.2))
            | _, _, _ => False
          | .agg [.arr32 (n := n') v] => match Nat.beq j.size 1, j.row, Nat.beq n n' with
            | true, false, true => Idx (0 ≤ m ∧ m.toNat < n') fun h => K (.u32 (v[m.toNat]'h.2))
            | _, _, _ => False
          | .agg [.arrG z enc xs] => match Nat.beq z j.size with
            | true => Idx (0 ≤ m ∧ m.toNat < xs.length ∧ m < n) fun h => frcL (enc (xs[m.toNat]'h.2.1)) fun ps => Side (szL ps = j.size) (svK j.row ps K)
            | false => False
          | .agg ps => match litN m with
            | some q => match Nat.blt q n with
              | true => ldParts j ps (q * j.size) K
              | false => False
            | none => False
          | _ => False
        | false => False
      | none => False
    | _ => False
  | none => False
theorem evIndex_sound {T : TypeId} {s ix : SV} {ixo : Operand} (ho : o.op = .index T x ixo) (hx : evx P env x = some s) (hix : evx P env ixo = some ix) (h : evIndex P T s ix K) : PureK P S env objs nx o K := by
  unfold evIndex at h
  split at h
  · rename_i m hm
    have hi : ∀ {σ a w}, St P S σ env objs nx a w → ∃ k, a.eval ixo = .int k m := fun hst => ixI_spec hm hix hst
    split at h
    · rename_i ht
      split at h
      · rename_i l
        obtain ⟨hq, h⟩ := h
        refine PureK.mk h fun σ a w hst => ⟨_, hv8.2 rfl, fun w' => ?_⟩
        obtain ⟨k, hi⟩ := hi hst
        have h1 := hvS.1 (hst.ev hx)
        have hm1 : m < l.length := by omega
        have e2 : (baOf l).size = l.length := baOf_size l
        have e : (baOf l)[m.toNat]'(by rw [e2]; exact hq.2) = UInt8.ofBitVec (l[m.toNat]'hq.2) := by
          show (baOf l).data[m.toNat]'(by have := hq.2; simp [baOf]; omega) = _
          simp [baOf]
        simp [execOp, ho, h1, hi, Instr.index, asIntOf, run_underlying (ty_str ht rfl), hq.1, hm1, e2, hq.2]
        rw [e]; rfl
      · exact h.elim
    · rename_i n e _ _ ht
      split at h
      · rename_i j hj
        split at h
        · rename_i hrow
          have chunk : ∀ {u r : SV} {f : Nat → Value}, 0 ≤ m ∧ m.toNat < n → j.size = 1 → j.row = false → evx P env x = some (.agg [u]) → u.sz = n → (∀ {w A σ cs}, u.hc w A σ cs → ∀ i, i < n → cs[i]? = some (f i)) → (∀ {w A σ}, r.hv w A σ (f m.toNat)) → K r → PureK P S env objs nx o K := by
            intro u r f hm2 hz1 hr hx hsz hf hv hK
            refine PureK.mk hK fun σ a w hst => ⟨_, hv, fun w' => ?_⟩
            obtain ⟨cs, h1, h2⟩ := hst.ev hx
            rw [hL.single] at h2
            obtain ⟨k, hi⟩ := hi hst
            have hcm := hf h2 m.toNat hm2.2
            have hm1 : m < n := by omega
            have hlt := (List.getElem?_eq_some_iff.1 hcm).1
            have h4 : cs[m.toNat] = f m.toNat := (List.getElem?_eq_some_iff.1 hcm).2
            simp [execOp, ho, h1, hi, Instr.index, asIntOf, run_underlying (ty_array ht rfl), hm2.1, hm1, part, run_isAgg' hj, run_sizeOf' hj, hr, hz1, hlt, h4]
          split at h
          · rename_i n' v
            split at h
            · rename_i hz hr hn
              obtain rfl := Nat.eq_of_beq_eq_true hn
              obtain ⟨hq, h⟩ := h
              exact chunk (f := fun i => if h : i < n then bV .u8 v[i] else undef) hq (Nat.eq_of_beq_eq_true hz) hr hx rfl (fun hc i hi => by simp only [SV.hc] at hc; subst hc; simp [hi]) (by simp [hv8, hq.2]) h
            · exact h.elim
          · rename_i n' v
            split at h
            · rename_i hz hr hn
              obtain rfl := Nat.eq_of_beq_eq_true hn
              obtain ⟨hq, h⟩ := h
              exact chunk (f := fun i => if h : i < n then bV .u32 v[i] else undef) hq (Nat.eq_of_beq_eq_true hz) hr hx rfl (fun hc i hi => by simp only [SV.hc] at hc; subst hc; simp [hi]) (by simp [hv32, hq.2]) h
            · exact h.elim
          · rename_i z α enc xs
            split at h
            · rename_i hz
              obtain rfl := Nat.eq_of_beq_eq_true hz
              obtain ⟨hq, h⟩ := h
              obtain ⟨hsz, h⟩ := frcL_k (K := fun ps => Side (szL ps = j.size) (svK j.row ps K)) h
              obtain ⟨s, hK, hs⟩ := svK_sound h (by rw [hsz]; exact rowB_spec hrow)
              refine PureK.mk hK fun σ a w hst => ?_
              obtain ⟨cs, h1, h2⟩ := hst.ev hx
              rw [hL.single] at h2
              obtain ⟨k, hi⟩ := hi hst
              simp only [SV.hc] at h2
              have h3 := h2.2 m.toNat hq.2.1
              have hle : m.toNat * j.size + j.size ≤ cs.length := by
                rw [h2.1, ← Nat.succ_mul]; exact Nat.mul_le_mul_right _ hq.2.1
              refine ⟨_, hs (h3.names _ _ (fun _ _ h => by cases h)), fun w' => ?_⟩
              have := run_partL hj hrow hle w'
              simp [execOp, ho, h1, hi, Instr.index, asIntOf, run_underlying (ty_array ht rfl), hq.1, hq.2.2, run_sizeOf' hj, this]
            · exact h.elim
          · rename_i ps _ _ _
            split at h
            · rename_i q hq
              split at h
              · rename_i hlt
                have hlt' : q < n := by simpa [Nat.blt_eq] using hlt
                obtain rfl := litN_spec hq
                unfold ldParts at h
                split at h
                · rename_i pa mm z hp
                  obtain ⟨s, hK, hs⟩ := svK_sound h (by rw [(partP_spec hp).2.2]; exact rowB_spec hrow)
                  refine PureK.mk hK fun σ a w hst => ?_
                  obtain ⟨cs, h1, h2⟩ := hst.ev hx
                  obtain ⟨k, hi⟩ := hi hst
                  refine ⟨_, hs (h2.part hp).1, fun w' => ?_⟩
                  have := run_part hj hrow hp h2 w'
                  simp [execOp, ho, h1, hi, Instr.index, asIntOf, run_underlying (ty_array ht rfl), hlt', run_sizeOf' hj, this]
                · exact h.elim
              · exact h.elim
            · exact h.elim
          · exact h.elim
        · exact h.elim
      · exact h.elim
    · exact h.elim
  · exact h.elim
/-! ## the greater, the smaller -/
def evMM (mx : Bool) (s u : SV) (K : SV → Prop) : Prop := match s, u with
  | .int .i64 m, .int .i64 n => match mx with
    | true => K (.int .i64 (max m n))
    | false => K (.int .i64 (min m n))
  | _, _ => False
theorem evMM_sound {mx : Bool} {ts : Array TypeId} {s u : SV} (ho : o.op = .call { callee := .builtin (if mx then .max else .min), args := #[x, y], argTypes := ts }) (hx : evx P env x = some s) (hy : evx P env y = some u) (h : evMM mx s u K) : PureK P S env objs nx o K := by
  unfold evMM at h
  split at h
  · rename_i m n
    split at h
    · refine PureK.mk h fun σ a w hst => ?_
      have h1 := hvI.1 (hst.ev hx); have h2 := hvI.1 (hst.ev hy)
      have r1 := h1.2 rfl; have r2 := h2.2 rfl
      refine ⟨_, hvI.2 ⟨rfl, fun _ => ⟨by have := r1.1; omega, by have := r1.2; have := r2.2; omega⟩⟩, rn_max (by simpa using ho) h1.1 h2.1⟩
    · refine PureK.mk h fun σ a w hst => ?_
      have h1 := hvI.1 (hst.ev hx); have h2 := hvI.1 (hst.ev hy)
      have r1 := h1.2 rfl; have r2 := h2.2 rfl
      refine ⟨_, hvI.2 ⟨rfl, fun _ => ⟨by have := r1.1; have := r2.1; omega, by have := r1.2; omega⟩⟩, rn_min (by simpa using ho) h1.1 h2.1⟩
  · exact h.elim
/-! ## built of parts -/
def splice (C : Array Value) (off : Nat) (l : List Value) : Array Value := (C.toList.take off ++ l ++ C.toList.drop (off + l.length)).toArray
theorem foldl_spliceL (off : Nat) : ∀ (l : List Value) (j : Nat) (A B : List Value), A.length = off + j → l.length ≤ B.length → (l.zipIdx j).foldl (fun cs (c, j) => cs.setIfInBounds (off + j) c) (A ++ B).toArray = (A ++ l ++ B.drop l.length).toArray
  | [], j, A, B, _, _ => by simp
  | v :: r, j, A, [], _, h => by simp at h
  | v :: r, j, A, x :: B, hA, h => by
    simp only [List.zipIdx_cons, List.foldl_cons]
    have e : (A ++ x :: B).toArray.setIfInBounds (off + j) v = ((A ++ [v]) ++ B).toArray := by
      simp only [List.setIfInBounds_toArray]
      congr 1
      rw [← hA, List.set_append_right _ _ (Nat.le_refl _)]
      simp
    rw [e, foldl_spliceL off r (j + 1) (A ++ [v]) B (by simp [hA]; omega) (by simpa using h)]
    simp
theorem foldl_splice (off : Nat) (l : List Value) (C : Array Value) (h : off + l.length ≤ C.size) : (l.zipIdx 0).foldl (fun cs (c, j) => cs.setIfInBounds (off + j) c) C = splice C off l := by
  have h1 := foldl_spliceL off l 0 (C.toList.take off) (C.toList.drop off) (by simp; omega) (by simp; omega)
  rw [List.take_append_drop] at h1
  unfold splice
  rw [List.drop_drop] at h1
  exact h1
theorem fill_cons {place : Nat → Option (Nat × Nat)} {C : Array Value} {i off size : Nat} {v : Value} {l : List Value} {rest : List (Nat × Value)} (hp : place i = some (off, size)) (hv : v.cells.toList = l) (hl : l.length = size) (hf : off + size ≤ C.size) :
    Instr.fill place C ((i, v) :: rest) = Instr.fill place (splice C off l) rest := by
  have hs : v.cells.size = size := by rw [← hl, ← hv]; simp
  have := foldl_splice off v.cells.toList C (by rw [hv]; omega)
  rw [hv] at this
  simp only [Instr.fill, hp, hs]
  rw [if_neg (by simp; omega)]
  congr 1
  rw [← Array.foldl_toList, Array.toList_zipIdx, hv]
  simpa using this
def plc (tab : List TI) : TK → Nat → Option (Nat × Nat)
  | .st fl, i => match nth fl i with
    | some (off, t) => match nth tab t with
      | some j => some (off, j.size)
      | none => none
    | none => none
  | .ar _ e, i => match nth tab e with
    | some j => some (i * j.size, j.size)
    | none => none
  | _, _ => none
/-- a value's parts -/
def prt : SV → Option (List SV)
  | .agg ps => some ps
  | .tup _ => none
  | .undef => none
  | .arr8 _ => none
  | .arr32 _ => none
  | .arrG _ _ _ => none
  | s => some [s]
theorem cells_one {v : Value} (h : v.oneCell' = true) : v.cells.toList = [v] := by cases v <;> first | rfl | simp [Value.oneCell'] at h
theorem prt_spec {s : SV} {ps : List SV} (h : prt s = some ps) {A : Own} {v : Value} (hv : s.hv w A σ v) : hL w A ps σ v.cells.toList := by
  have single : prt s = some [s] → s.h1 w A σ v → (∀ qs, s ≠ .agg qs) → s ≠ .undef → hL w A [s] σ v.cells.toList := fun _ h1 h2 h3 => by
    have : s.hc w A σ [v] := by
      cases s <;> first | exact h1 | exact absurd rfl (h2 _) | exact absurd rfl h3
    rw [cells_one (SV.hc.one _ _ _ this v (by simp)), hL.single]; exact this
  cases s <;> simp only [prt, reduceCtorEq, Option.some.injEq] at h <;> subst h
  all_goals first
    | (refine single rfl hv (fun qs h => by cases h) (fun h => by cases h))
    | (obtain ⟨cs, rfl, h2⟩ := hv; simpa [Value.cells] using h2)
def app3 (a b c : List SV) : Option (List SV) := match app2 b c with
  | some x => app2 a x
  | none => none
theorem app3_eq {a b c d : List SV} (h : app3 a b c = some d) : d = a ++ (b ++ c) := by
  unfold app3 at h
  split at h
  · rename_i x hx
    rw [app2_eq h, app2_eq hx]
  · cases h
/-- some parts in others' place -/
def setP (ps : List SV) (off size : Nat) (qs : List SV) : Option (List SV) := match partP ps off size with
  | some (a, _, z) => match sizQ qs size with
    | true => app3 a qs z
    | false => none
  | none => none
theorem setP_spec {ps qs ps' : List SV} {off size : Nat} (h : setP ps off size qs = some ps') {A : Own} {cs ds : List Value} (hc : hL w A ps σ cs) (hd : hL w A qs σ ds) : hL w A ps' σ (cs.take off ++ ds ++ cs.drop (off + ds.length)) ∧ ds.length = size ∧ off + size ≤ cs.length ∧ szL ps' = szL ps := by
  unfold setP at h
  split at h
  · rename_i pa m z hp
    split at h
    · rename_i hb
      have hb' := sizQ_spec hb
      obtain rfl := app3_eq h
      obtain ⟨rfl, h1, h2⟩ := partP_spec hp
      have hlen := hc.len
      obtain ⟨c1, r, rfl, hc1, hr⟩ := hL.split hc
      obtain ⟨c2, c3, rfl, hc2, hc3⟩ := hL.split hr
      have e1 := hc1.len; have e2 := hc2.len; have e3 := hd.len
      refine ⟨?_, by omega, by simp only [szL_append] at hlen; omega, by simp only [szL_append]; omega⟩
      have t : (c1 ++ (c2 ++ c3)).take off = c1 := by rw [← h1, ← e1, List.take_left]
      have d : (c1 ++ (c2 ++ c3)).drop (off + ds.length) = c3 := by
        rw [show off + ds.length = c1.length + c2.length by omega, ← List.drop_drop, List.drop_left, List.drop_left]
      rw [t, d, List.append_assoc]
      exact hc1.append (hd.append hc3)
    · cases h
  · cases h
def putP (tab : List TI) (k : TK) (ps : List SV) (i : Nat) (s : SV) : Option (List SV) := match ps, s with
  | [@SV.arr8 n v], .u8 x => match plc tab k i with
    | some (off, 1) => match Nat.beq off i, Nat.blt i n with
      | true, true => some [.arr8 (v.setIfInBounds i x)]
      | _, _ => none
    | _ => none
  | [@SV.arr32 n v], .u32 x => match plc tab k i with
    | some (off, 1) => match Nat.beq off i, Nat.blt i n with
      | true, true => some [.arr32 (v.setIfInBounds i x)]
      | _, _ => none
    | _ => none
  | ps, s => match plc tab k i, prt s with
    | some (off, size), some qs => setP ps off size qs
    | _, _ => none
variable (P) in
def putsP (tab : List TI) (k : TK) (env : Env) : List SV → List (Nat × Operand) → Option (List SV)
  | ps, [] => some ps
  | ps, (i, x) :: r => match evx P env x with
    | some s => match putP tab k ps i s with
      | some ps' => putsP tab k env ps' r
      | none => none
    | none => none
theorem set_chunk {L : List Value} {i : Nat} {v : Value} (h : i < L.length) : L.take i ++ [v] ++ L.drop (i + [v].length) = L.set i v := by
  rw [List.set_eq_take_append_cons_drop, if_pos h]; simp
theorem putP_spec {k : TK} {ps ps' : List SV} {i : Nat} {s : SV} {tab : List TI} (h : putP tab k ps i s = some ps') {A : Own} {C : Array Value} {v : Value} {rest : List (Nat × Value)} (hc : hL w A ps σ C.toList) (hv : s.hv w A σ v) :
    ∃ C', Instr.fill (plc tab k) C ((i, v) :: rest) = Instr.fill (plc tab k) C' rest ∧ hL w A ps' σ C'.toList ∧ C'.size = C.size := by
  unfold putP at h
  split at h
  · rename_i n v0 x0
    split at h
    · rename_i off hp
      split at h
      · rename_i hb hlt
        obtain rfl := Nat.eq_of_beq_eq_true hb
        have hlt' : off < n := by simpa [Nat.blt_eq] using hlt
        cases h
        rw [hL.single] at hc
        have hsz := hc.len
        simp only [SV.hc] at hc
        simp only [SV.sz] at hsz
        have hvx := hv8.1 hv; subst hvx
        refine ⟨splice C off [bV .u8 x0], fill_cons hp rfl rfl (by simp at hsz ⊢; omega), ?_, ?_⟩
        · rw [hL.single]; simp only [SV.hc, splice]
          rw [set_chunk (by simp at hsz ⊢; omega), hc, ← List.map_set]
          simp [Vector.toList_setIfInBounds]
        · simp [splice]; simp at hsz; omega
      · cases h
    · cases h
  · rename_i n v0 x0
    split at h
    · rename_i off hp
      split at h
      · rename_i hb hlt
        obtain rfl := Nat.eq_of_beq_eq_true hb
        have hlt' : off < n := by simpa [Nat.blt_eq] using hlt
        cases h
        rw [hL.single] at hc
        have hsz := hc.len
        simp only [SV.hc] at hc
        simp only [SV.sz] at hsz
        have hvx := hv32.1 hv; subst hvx
        refine ⟨splice C off [bV .u32 x0], fill_cons hp rfl rfl (by simp at hsz ⊢; omega), ?_, ?_⟩
        · rw [hL.single]; simp only [SV.hc, splice]
          rw [set_chunk (by simp at hsz ⊢; omega), hc, ← List.map_set]
          simp [Vector.toList_setIfInBounds]
        · simp [splice]; simp at hsz; omega
      · cases h
    · cases h
  · split at h
    · rename_i off size qs hp hq
      have hd := prt_spec hq hv
      obtain ⟨h1, h2, h3, h4⟩ := setP_spec h hc hd
      refine ⟨splice C off v.cells.toList, fill_cons hp rfl h2 (by simpa using h3), by simpa [splice] using h1, ?_⟩
      have := h1.len; have := hc.len
      simp [splice] at *; omega
    · cases h
theorem rn_min3 {z : Operand} {ev : Operand → Value} {k : IntKind} {a b c : Int} {ts : Array TypeId} (ho : o.op = .call { callee := .builtin .min, args := #[x, y, z], argTypes := ts }) (hx : ev x = .int k a) (hy : ev y = .int k b) (hz : ev z = .int k c) : ∀ w', (execOp ev o).run P w' = .ok (.value (.int k (min (min a b) c))) w' := fun w' => by
  simp [execOp, ho, resolve, invoke, builtin, hx, hy, hz, Builtin.min_, Builtin.min2]
  repeat' split
  all_goals try simp_all [Builtin.min2]
  all_goals try omega
  all_goals (split <;> simp_all <;> omega)
def evMin3 (s u v : SV) (K : SV → Prop) : Prop := match s, u, v with
  | .int .i64 m, .int .i64 n, .int .i64 l => K (.int .i64 (min (min m n) l))
  | _, _, _ => False
theorem evMin3_sound {z : Operand} {ts : Array TypeId} {s u v : SV} (ho : o.op = .call { callee := .builtin .min, args := #[x, y, z], argTypes := ts }) (hx : evx P env x = some s) (hy : evx P env y = some u) (hz : evx P env z = some v) (h : evMin3 s u v K) : PureK P S env objs nx o K := by
  unfold evMin3 at h
  split at h
  · refine PureK.mk h fun σ a w hst => ?_
    have h1 := hvI.1 (hst.ev hx); have h2 := hvI.1 (hst.ev hy); have h3 := hvI.1 (hst.ev hz)
    have r1 := h1.2 rfl; have r2 := h2.2 rfl; have r3 := h3.2 rfl
    refine ⟨_, hvI.2 ⟨rfl, fun _ => ⟨by have := r1.1; have := r2.1; have := r3.1; omega, by have := r1.2; omega⟩⟩, rn_min3 ho h1.1 h2.1 h3.1⟩
  · exact h.elim
theorem rn_max4 {z q : Operand} {ev : Operand → Value} {k : IntKind} {a b c d : Int} {ts : Array TypeId} (ho : o.op = .call { callee := .builtin .max, args := #[x, y, z, q], argTypes := ts }) (hx : ev x = .int k a) (hy : ev y = .int k b) (hz : ev z = .int k c) (hq : ev q = .int k d) : ∀ w', (execOp ev o).run P w' = .ok (.value (.int k (max (max (max a b) c) d))) w' := fun w' => by
  have key : ∀ (m n : Int) (w : World), (Builtin.max2 (.int k m) (.int k n)).run P w = .ok (.int k (max m n)) w := fun m n w => by
    by_cases h : m < n
    · have e : max m n = n := by omega
      rw [e]; simp [Builtin.max2, h] <;> omega
    · have e : max m n = m := by omega
      rw [e]; simp [Builtin.max2, h] <;> omega
  have e : max a (max b (max c d)) = max (max (max a b) c) d := by omega
  rw [← e]
  simp [execOp, ho, resolve, invoke, builtin, hx, hy, hz, hq, Builtin.max_, key]
  try omega
def evMax4 (s u v t : SV) (K : SV → Prop) : Prop := match s, u, v, t with
  | .int .i64 m, .int .i64 n, .int .i64 l, .int .i64 j => K (.int .i64 (max (max (max m n) l) j))
  | _, _, _, _ => False
theorem evMax4_sound {z q : Operand} {ts : Array TypeId} {s u v t : SV} (ho : o.op = .call { callee := .builtin .max, args := #[x, y, z, q], argTypes := ts }) (hx : evx P env x = some s) (hy : evx P env y = some u) (hz : evx P env z = some v) (hq : evx P env q = some t) (h : evMax4 s u v t K) : PureK P S env objs nx o K := by
  unfold evMax4 at h
  split at h
  · refine PureK.mk h fun σ a w hst => ?_
    have h1 := hvI.1 (hst.ev hx); have h2 := hvI.1 (hst.ev hy); have h3 := hvI.1 (hst.ev hz); have h4 := hvI.1 (hst.ev hq)
    have r1 := h1.2 rfl; have r2 := h2.2 rfl; have r3 := h3.2 rfl; have r4 := h4.2 rfl
    refine ⟨_, hvI.2 ⟨rfl, fun _ => ⟨by have := r1.1; omega, by have := r1.2; have := r2.2; have := r3.2; have := r4.2; omega⟩⟩, rn_max4 ho h1.1 h2.1 h3.1 h4.1⟩
  · exact h.elim
end
end Go.Proofs.YtdflndjlnkoliaaGreatDoor

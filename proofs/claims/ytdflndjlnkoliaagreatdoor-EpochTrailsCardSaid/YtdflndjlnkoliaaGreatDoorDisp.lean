import Derived.Test.YtdflndjlnkoliaaGreatDoorBuild
import Derived.Test.YtdflndjlnkoliaaGreatDoorEq2
import Derived.Great.BuildSlice
/- MY OWN ENGINE: a struct or an array; the plain operations and the loads, all of them. -/
namespace Go.Proofs.YtdflndjlnkoliaaGreatDoor
set_option linter.all false
open Go.RowKit
section
variable {P : Program} [TabC P] {S : Sig} {σ : Sg} {env : Env} {objs : List Ob} {nx : Nat} {o : Oper} {a : Act} {w : World} {x y : Operand} {K : SV → Prop}
theorem fill_congr {p q : Nat → Option (Nat × Nat)} (h : ∀ i x, p i = some x → q i = some x) : ∀ (parts : List (Nat × Value)) (C out : Array Value), Instr.fill p C parts = some out → Instr.fill q C parts = some out
  | [], C, out, h0 => h0
  | (i, v) :: r, C, out, h0 => by
    unfold Instr.fill at h0 ⊢
    split at h0
    · cases h0
    · rename_i off size hp
      rw [h _ _ hp]
      simp only
      split at h0
      · cases h0
      · rename_i hc
        rw [if_neg hc]
        exact fill_congr h r _ _ h0
theorem places_some (gs : List Field) (h : ∀ f ∈ gs, (P.info? f.type).isSome = true) : ∃ pl : List (Nat × Nat), gs.mapM (fun f : Field => (P.info? f.type).map fun i => (f.offset, i.size)) = some pl ∧ ∀ (i : Nat) (f : Field) (inf : TypeInfo), gs[i]? = some f → P.info? f.type = some inf → pl[i]? = some (f.offset, inf.size) := by
  induction gs with
  | nil => exact ⟨[], rfl, fun i f inf h => by simp at h⟩
  | cons g r ih =>
    obtain ⟨pl, h1, h2⟩ := ih (fun f hf => h f (List.mem_cons_of_mem _ hf))
    obtain ⟨inf, hi⟩ := Option.isSome_iff_exists.1 (h g (by simp))
    refine ⟨(g.offset, inf.size) :: pl, by simp [h1, hi], fun i f inf' hf hinf => ?_⟩
    cases i with
    | zero => simp at hf; subst hf; rw [hi] at hinf; cases hinf; rfl
    | succ i => simp at hf ⊢; exact h2 i f inf' hf hinf
theorem putsP_spec {k : TK} {tab : List TI} : ∀ {parts : List (Nat × Operand)} {ps ps' : List SV}, putsP P tab k env ps parts = some ps' → ∀ {C : Array Value} {σ a w}, St P S σ env objs nx a w → hL w (S.A σ objs) ps σ C.toList →
    ∃ C', Instr.fill (plc tab k) C (parts.map fun (i, x) => (i, a.eval x)) = some C' ∧ hL w (S.A σ objs) ps' σ C'.toList
  | [], ps, ps', h, C, σ, a, w, hst, hc => by simp only [putsP, Option.some.injEq] at h; subst h; exact ⟨C, rfl, hc⟩
  | (i, x) :: r, ps, ps', h, C, σ, a, w, hst, hc => by
    unfold putsP at h
    split at h
    · rename_i s hs
      split at h
      · rename_i ps1 hp
        obtain ⟨C1, h1, h2, _⟩ := putP_spec (rest := r.map fun (i, x) => (i, a.eval x)) hp hc (hst.ev hs)
        obtain ⟨C2, h3, h4⟩ := putsP_spec h hst h2
        exact ⟨C2, by rw [List.map_cons, h1, h3], h4⟩
      · cases h
    · cases h
variable (P) in
def evBuild (env : Env) (T : Nat) (parts : List (Nat × Operand)) (K : SV → Prop) : Prop := match ty P T with
  | some i => match i.row with
    | true => match zeroOf (TabC.tab P) 9 T with
      | some z => match putsP P (TabC.tab P) i.k env z parts with
        | some ps => frcL ps fun ps => K (.agg ps)
        | none => False
      | none => False
    | false => False
  | none => False
theorem evBuild_sound {T : TypeId} {parts : Array (Nat × Operand)} (ho : o.op = .build T parts) (h : evBuild P env T parts.toList K) : PureK P S env objs nx o K := by
  unfold evBuild at h
  split at h
  · rename_i i ht
    split at h
    · rename_i hr
      split at h
      · rename_i ck hz
        split at h
        · rename_i ps hput
          refine PureK.mk (frcL_k h) fun σ a w hst => ?_
          obtain ⟨inf, z, hi, hz0, _, hzc⟩ := zero_spec (P := P) hz
          obtain ⟨C', hfill, hC⟩ := putsP_spec hput hst (hzc w (S.A σ objs) σ)
          refine ⟨.agg C', ⟨C'.toList, by simp, hC⟩, fun w' => ?_⟩
          have hb : P.built T (parts.map fun (i, x) => (i, a.eval x)).toList = some C' := by
            obtain ⟨inf', d, hi', hd, _, _, hb, hall⟩ := ty_spec ht
            rw [hi] at hi'; cases hi'
            unfold Program.built
            rw [Array.toList_map]
            obtain ⟨k, sz, by0⟩ := i
            have hsize : ∀ (t : Nat) (j : TI), nth (TabC.tab P) t = some j → (P.info? t).map (·.size) = some j.size := fun t j hj => by
              obtain ⟨inf2, _, h2, _, h3, _, _, _⟩ := ty_spec (P := P) (t := t) (i := j) hj
              simp [h2, h3]
            cases k with
            | st fl =>
              cases d <;> simp [tkB] at hb
              rename_i gs
              simp only [hi, hd, hz0]
              obtain ⟨pl, h1', h2'⟩ := places_some (P := P) gs.toList (List.all_eq_true.1 hall)
              simp only [h1']
              refine fill_congr (fun i x hx => ?_) _ _ _ (by simpa using hfill)
              simp only [plc] at hx
              split at hx
              · rename_i off t hn
                split at hx
                · rename_i j hj
                  cases hx
                  rw [nth_eq, ← hb, List.getElem?_map] at hn
                  cases hg : gs.toList[i]? with
                  | none => simp [hg] at hn
                  | some f =>
                    simp only [hg, Option.map_some, Option.some.injEq, Prod.mk.injEq] at hn
                    obtain ⟨rfl, rfl⟩ := hn
                    have h3 := hsize _ _ hj
                    cases hinf : P.info? f.type with
                    | none => simp [hinf] at h3
                    | some inf3 =>
                      simp only [hinf, Option.map_some, Option.some.injEq] at h3
                      have := h2' i f inf3 hg hinf
                      rw [← h3]; simpa using this
                · cases hx
              · cases hx
            | ar n e =>
              cases d <;> simp [tkB] at hb
              obtain ⟨rfl, rfl⟩ := hb
              obtain ⟨ie, hinf⟩ := Option.isSome_iff_exists.1 hall
              simp only [hi, hd, hz0, hinf]
              refine fill_congr (fun i x hx => ?_) _ _ _ (by simpa using hfill)
              simp only [plc] at hx
              split at hx
              · rename_i j hj
                have h3 := hsize _ _ hj
                simp only [hinf, Option.map_some, Option.some.injEq] at h3
                rw [h3]; exact hx
              · cases hx
            | _ => simp [TI.row] at hr
          have := run_build w' T (parts.map fun (i, x) => (i, a.eval x)) _ hb
          simp [execOp, ho, this]
        · exact h.elim
      · exact h.elim
    · exact h.elim
  · exact h.elim
/-! ## bytes as a string -/
/-- the bytes that a slice holds -/
def asBytes (s : SV) (objs : List Ob) (K : List (BitVec 8) → Prop) : Prop := match s with
  | .fs 1 enc xs => Ex (fun l : List (BitVec 8) => xs.map enc = l.map eB) K
  | .own k => match lk objs k with
    | some (.row _ 1 enc xs) => Ex (fun l : List (BitVec 8) => xs.map enc = l.map eB) K
    | some (.frow 1 enc xs) => Ex (fun l : List (BitVec 8) => xs.map enc = l.map eB) K
    | some (.lits _ 1 els) => Ex (fun l : List (BitVec 8) => els = l.map eB) K
    | _ => False
  | .nils => K []
  | _ => False

/-! ## all plain operations -/
variable (P) in
def ev1 (env : Env) (x : Operand) (K : SV → Prop) : Prop := match evx P env x with
  | some s => K s
  | none => False
theorem ev1_spec {x : Operand} {K : SV → Prop} (h : ev1 P env x K) : ∃ s, evx P env x = some s ∧ K s := by
  unfold ev1 at h; split at h
  · exact ⟨_, by assumption, h⟩
  · exact h.elim
variable (P) in
/-- an operation that hangs on no world -/
def evPure (env : Env) (objs : List Ob) (op : Op) (K : SV → Prop) : Prop := match op with
  | .move x => ev1 P env x fun s => frc s K
  | .assign x => ev1 P env x fun s => frc s K
  | .pick c x y => ev1 P env c fun c => ev1 P env x fun s => ev1 P env y fun u => evPick c s u K
  | .unOp u _ x => ev1 P env x fun s => evUn u s K
  | .binOp b T x y _ => ev1 P env x fun s => ev1 P env y fun u => evBin2 P b T s u K
  | .convert src dst x => ev1 P env x fun s => evConv P src dst s K
  | .fieldAddr T x f => ev1 P env x fun s => evFieldAddr P T f s K
  | .field T x f => ev1 P env x fun s => evField P T f s K
  | .indexAddr T x y => ev1 P env x fun s => ev1 P env y fun u => evIndexAddr P objs T s u K
  | .index T x y => ev1 P env x fun s => ev1 P env y fun u => evIndex P T s u K
  | .extract x i => ev1 P env x fun s => evExtract s i K
  | .nilCheck x => ev1 P env x fun s => match notNil s with
    | true => frc s K
    | false => False
  | .build T ps => evBuild P env T ps.toList K
  | .slice T x lo hi mx => ev1 P env x fun s => match bndE P env lo, bndE P env hi, bndE P env mx with
    | some l, some h, some m => match mx, hi with
      | none, _ => evSlice P objs T s l h m K
      | some _, some _ => evSlice P objs T s l h m K
      | _, _ => False
    | _, _, _ => False
  | .call c => match c with
    | { callee := .builtin .len, args := ⟨[x]⟩, argTypes := ⟨[T]⟩ } => match ty P T with
      | some ⟨.ar _ _, _, _⟩ => evLen P objs T .undef K
      | _ => ev1 P env x fun s => evLen P objs T s K
    | { callee := .builtin .cap, args := ⟨[x]⟩, argTypes := ⟨[T]⟩ } => ev1 P env x fun s => match ty P T, s with
      | some ⟨.sl _, _, _⟩, .nils => K (.int .i64 0)
      | _, _ => False
    | { callee := .builtin .max, args := ⟨[x, y]⟩, .. } => ev1 P env x fun s => ev1 P env y fun u => evMM true s u K
    | { callee := .builtin .min, args := ⟨[x, y]⟩, .. } => ev1 P env x fun s => ev1 P env y fun u => evMM false s u K
    | { callee := .builtin .min, args := ⟨[x, y, z]⟩, .. } => ev1 P env x fun s => ev1 P env y fun u => ev1 P env z fun v => evMin3 s u v K
    | { callee := .builtin .max, args := ⟨[x, y, z, q]⟩, .. } => ev1 P env x fun s => ev1 P env y fun u => ev1 P env z fun v => ev1 P env q fun t => evMax4 s u v t K
    | _ => False
  | _ => False
theorem evPure_sound (h : evPure P env objs o.op K) : PureK P S env objs nx o K := by
  unfold evPure at h
  split at h
  · rename_i ho; obtain ⟨s, hs, h⟩ := ev1_spec h; exact evMove_sound (.inl ho) hs h
  · rename_i ho; obtain ⟨s, hs, h⟩ := ev1_spec h; exact evMove_sound (.inr ho) hs h
  · rename_i ho; obtain ⟨c, hc, h⟩ := ev1_spec h; obtain ⟨s, hs, h⟩ := ev1_spec h; obtain ⟨u, hu, h⟩ := ev1_spec h; exact evPick_sound ho hc hs hu h
  · rename_i ho; obtain ⟨s, hs, h⟩ := ev1_spec h; exact evUn_sound ho hs h
  · rename_i ho; obtain ⟨s, hs, h⟩ := ev1_spec h; obtain ⟨u, hu, h⟩ := ev1_spec h; exact evBin2_sound ho hs hu h
  · rename_i ho; obtain ⟨s, hs, h⟩ := ev1_spec h; exact evConv_sound ho hs h
  · rename_i ho; obtain ⟨s, hs, h⟩ := ev1_spec h; exact evFieldAddr_sound ho hs h
  · rename_i ho; obtain ⟨s, hs, h⟩ := ev1_spec h; exact evField_sound ho hs h
  · rename_i ho; obtain ⟨s, hs, h⟩ := ev1_spec h; obtain ⟨u, hu, h⟩ := ev1_spec h; exact evIndexAddr_sound ho hs hu h
  · rename_i ho; obtain ⟨s, hs, h⟩ := ev1_spec h; obtain ⟨u, hu, h⟩ := ev1_spec h; exact evIndex_sound ho hs hu h
  · rename_i ho; obtain ⟨s, hs, h⟩ := ev1_spec h; exact evExtract_sound ho hs h
  · rename_i ho; obtain ⟨s, hs, h⟩ := ev1_spec h
    split at h
    · rename_i hn; exact evNilCheck_sound ho hs hn (frc_k h)
    · exact h.elim
  · rename_i ho; exact evBuild_sound ho h
  · rename_i ho; obtain ⟨s, hs, h⟩ := ev1_spec h
    split at h
    · rename_i hl hh hm
      split at h
      · exact evSlice_sound ho hs hl hh hm (.inl rfl) h
      · exact evSlice_sound ho hs hl hh hm (.inr (by simp)) h
      · exact h.elim
    · exact h.elim
  · rename_i ho
    split at h
    · split at h
      · rename_i n e _ _ ht
        unfold evLen at h
        rw [ht] at h
        simp only at h
        split at h
        · rename_i hlt
          have hlt' : n < 9223372036854775808 := by simpa [Nat.blt_eq] using hlt
          refine PureK.mk h fun σ a w hst => ⟨.int .i64 n, hvI.2 ⟨rfl, fun _ => ⟨by omega, by omega⟩⟩, fun w' => ?_⟩
          simp [execOp, ho, resolve, invoke, builtin, Builtin.len_, run_underlying (ty_array ht rfl), goInt]
        · exact h.elim
      · obtain ⟨s, hs, h⟩ := ev1_spec h; exact evLen_sound ho hs h
    · obtain ⟨s, hs, h⟩ := ev1_spec h
      split at h
      · rename_i ht
        refine PureK.mk h fun σ a w hst => ⟨.int .i64 0, hvI.2 ⟨rfl, fun _ => ⟨by omega, by omega⟩⟩, fun w' => ?_⟩
        have hv := hst.ev hs
        simp only [SV.hv, SV.h1, SV.hc, List.cons.injEq, and_true] at hv
        simp [execOp, ho, resolve, invoke, builtin, hv, Builtin.cap_, run_underlying (ty_slice ht rfl), goInt]
      · exact h.elim
    · obtain ⟨s, hs, h⟩ := ev1_spec h; obtain ⟨u, hu, h⟩ := ev1_spec h; exact evMM_sound (mx := true) ho hs hu h
    · obtain ⟨s, hs, h⟩ := ev1_spec h; obtain ⟨u, hu, h⟩ := ev1_spec h; exact evMM_sound (mx := false) ho hs hu h
    · obtain ⟨s, hs, h⟩ := ev1_spec h; obtain ⟨u, hu, h⟩ := ev1_spec h; obtain ⟨v, hv, h⟩ := ev1_spec h; exact evMin3_sound ho hs hu hv h
    · obtain ⟨s, hs, h⟩ := ev1_spec h; obtain ⟨u, hu, h⟩ := ev1_spec h; obtain ⟨v, hv, h⟩ := ev1_spec h; obtain ⟨t, ht, h⟩ := ev1_spec h; exact evMax4_sound ho hs hu hv ht h
    · exact h.elim
  · exact h.elim
variable (P) in
/-- an operation that reads -/
def evLd (env : Env) (objs : List Ob) (op : Op) (K : SV → Prop) : Prop := match op with
  | .load T x => ev1 P env x fun s => evLoad P objs T s K
  | _ => False
theorem evLd_sound (h : evLd P env objs o.op K) : LoadK P S env objs nx o K := by
  unfold evLd at h
  split at h
  · rename_i ho; obtain ⟨s, hs, h⟩ := ev1_spec h; exact evLoad_sound ho hs h
  · exact h.elim
end
end Go.Proofs.YtdflndjlnkoliaaGreatDoor

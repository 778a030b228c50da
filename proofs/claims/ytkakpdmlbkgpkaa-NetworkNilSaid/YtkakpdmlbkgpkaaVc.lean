import Derived.Test.YtkakpdmlbkgpkaaCv
import Derived.Deep.LoopGhost
/- MY OWN ENGINE: what a function's text owes. -/
namespace Go.Proofs.Ytkakpdmlbkgpkaa
set_option linter.all false
open Go.RowKit
abbrev Ord := List (Nat × Nat × Bool)
/-- what the walk is told: contracts, by a function's number; the slots into which a row of one's own is cut off; the conditions and blocks behind which ways meet; how a region that draws its order is walked -/
structure Hints where
  cs : List (Nat × Ctr)
  tr : List Nat
  cut : List Nat
  cutb : List Nat
def memB : List Nat → Nat → Bool
  | [], _ => false
  | k :: r, n => match Nat.beq k n with
    | true => true
    | false => memB r n
section
variable {P : Program} [TabC P] {S : Sig} {σ : Sg} {env : Env} {objs : List Ob} {nx : Nat} {o : Oper} {a : Act} {w : World} {x y : Operand} {K : KS}
/-! ## plain operations, with what they turn in the state's words -/
variable (P) in
def PureG (S : Sig) (env : Env) (objs : List Ob) (nx : Nat) (o : Oper) (K : SV → List Ob → Nat → Prop) : Prop :=
  ∀ σ a w, St P S σ env objs nx a w → ∃ s v σ' objs' nx', K s objs' nx' ∧ St P S σ' env objs' nx' a w ∧ s.hv w (S.A σ' objs') σ' v ∧ ∀ w', (execOp a.eval o).run P w' = .ok (.value v) w'
theorem PureK.g {K : SV → List Ob → Nat → Prop} (h : PureK P S env objs nx o fun s => K s objs nx) : PureG P S env objs nx o K := fun σ a w hst => by
  obtain ⟨s, v, h1, h2, h3⟩ := h σ a w hst
  exact ⟨s, v, σ, objs, nx, h1, hst, h2, h3⟩
variable (P) in
def evSl (env : Env) (objs : List Ob) (nx : Nat) (op : Op) (K : SV → List Ob → Nat → Prop) : Prop := match op with
  | .slice _ x _ _ _ => match evx P env x with
    | some (.own k) => frzL objs k fun o => evPure P env o op fun s => K s o nx
    | _ => evPure P env objs op fun s => K s objs nx
  | op => evPure P env objs op fun s => K s objs nx
theorem evSl_sound {K : SV → List Ob → Nat → Prop} (h : evSl P env objs nx o.op K) : PureG P S env objs nx o K := by
  unfold evSl at h
  split at h
  · rename_i hop
    split at h
    · obtain ⟨o', h, g⟩ := frzL_sound (P := P) h
      have := evPure_sound (S := S) (nx := nx) h
      intro σ a w hst
      obtain ⟨s, v, h1, h2, h3⟩ := this σ a w (g.1 S env nx σ a w hst)
      exact ⟨s, v, σ, o', nx, h1, g.1 S env nx σ a w hst, h2, h3⟩
    · exact (evPure_sound h).g
  · exact (evPure_sound h).g
/-! ## operations, one by one -/
def lkC : List (Nat × Ctr) → Nat → Option Ctr
  | [], _ => none
  | (k, c) :: r, n => match Nat.beq k n with
    | true => some c
    | false => lkC r n
def CsOk (P : Program) [TabC P] : List (Nat × Ctr) → Prop
  | [] => True
  | (k, c) :: r => c.Ok P k ∧ CsOk P r
theorem CsOk.get : ∀ {l : List (Nat × Ctr)} {k : Nat} {c : Ctr}, CsOk P l → lkC l k = some c → c.Ok P k
  | [], _, _, _, h => by simp [lkC] at h
  | (j, d) :: r, k, c, ⟨h1, h2⟩, h => by
    unfold lkC at h
    split at h
    · rename_i hb
      obtain rfl := Nat.eq_of_beq_eq_true hb
      cases h; exact h1
    · exact h2.get h
variable (P) in
/-- an operation that turns the state -/
def vcEff (cs : List (Nat × Ctr)) (n : Nat) (o : Oper) (env : Env) (objs : List Ob) (nx : Nat) (K : KS) : Prop := match o.op with
  | .alloc T => evAlloc P n o.dst env objs nx T K
  | .box T x => ev1 P env x fun s => evBox n o.dst env objs nx T s K
  | .store T x y => ev1 P env x fun s => ev1 P env y fun u => evStore P o.dst env objs nx T s u K
  | .buildSlice T m ps => evLits P n o.dst env objs nx T m ps.toList K
  | .convert T T' x => match Nat.beq T T' with
    | true => ev1 P env x fun s => evCvS P n o.dst env objs nx T s K
    | false => False
  | .load T x => dstK n o.dst fun d => ev1 P env x fun s => evLoad P objs T s fun s => K ((d, s) :: env) objs nx
  | .call c => match c with
    | { callee := .builtin .append, args := ⟨[x, y]⟩, argTypes := ⟨[T, T']⟩ } => match Nat.beq T T' with
      | true => ev1 P env x fun s => ev1 P env y fun u => evAppend P n o.dst env objs nx T s u K
      | false => False
    | { callee := .value (.func f), args := as, argTypes := _ } => match lkC cs f, nth (TabC.cl P) f, evs P env as.toList with
      | some c, some true, some ss => match noTups ss with
        | true => callG c n o.dst ss env objs nx K
        | false => False
      | _, _, _ => False
    | _ => False
  | _ => False
/-- does it keep what stands? -/
def keptB (cs : List (Nat × Ctr)) (op : Op) : Bool := match op with
  | .alloc _ => true
  | .box _ _ => true
  | .buildSlice _ _ _ => true
  | .load _ _ => true
  | .call c => match c with
    | { callee := .value (.func f), .. } => match lkC cs f with
      | some c => Nat.beq c.nn 0
      | none => false
    | _ => false
  | _ => false
theorem DoesK.weak {k k' : Bool} {K : KS} (h : DoesK P S env objs nx o k K) (hk : k' = true → k = true) : DoesK P S env objs nx o k' K := fun σ a w hst X Q hX => h σ a w hst X Q fun σ' e' o' n' a' w' h1 h2 h3 => hX σ' e' o' n' a' w' h1 h2 fun e => h3 (hk e)
theorem vcEff_sound {cs : List (Nat × Ctr)} (hcs : CsOk P cs) (h : vcEff P cs S.n o env objs nx K) : DoesK P S env objs nx o (keptB cs o.op) K := by
  unfold vcEff at h
  split at h
  · rename_i ho; rw [ho]; exact evAlloc_sound ho h
  · rename_i ho; rw [ho]; obtain ⟨s, hs, h⟩ := ev1_spec h; exact evBox_sound ho hs h
  · rename_i ho; rw [ho]; obtain ⟨s, hs, h⟩ := ev1_spec h; obtain ⟨u, hu, h⟩ := ev1_spec h; exact evStore_sound ho hs hu h
  · rename_i ho; rw [ho]; exact evLits_sound ho h
  · rename_i ho
    split at h
    · rename_i hT
      obtain rfl := Nat.eq_of_beq_eq_true hT
      obtain ⟨s, hs, h⟩ := ev1_spec h
      rw [ho]; exact evCvS_sound ho hs h
    · exact h.elim
  · rename_i ho
    obtain ⟨d, hd, hlt, h⟩ := dstK_spec h
    obtain ⟨s, hs, h⟩ := ev1_spec h
    have := evLoad_sound (S := S) (nx := nx) ho hs h
    intro σ a w hst X Q hX
    obtain ⟨s, v, h1, h2, h3⟩ := this σ a w hst
    unfold Oper.wp
    rw [h3 w (Mod.refl _ _)]
    simp only [Oper.upon, hd]
    exact hX σ _ _ _ _ _ h1 (hst.put hlt h2) (fun _ => Mod.refl _ _)
  · rename_i ho
    rw [ho]
    split at h
    · split at h
      · rename_i hT
        obtain rfl := Nat.eq_of_beq_eq_true hT
        obtain ⟨s, hs, h⟩ := ev1_spec h; obtain ⟨u, hu, h⟩ := ev1_spec h; exact evAppend_sound ho hs hu h
      · exact h.elim
    · split at h
      · rename_i f as ts _ _ _ c ss hc hf hs
        split at h
        · rename_i hn
          refine (callG_sound (hcs.get hc) ho hf hs hn h).weak fun hk => ?_
          simp only [keptB, hc] at hk; exact hk
        · exact h.elim
      · exact h.elim
    · exact h.elim
  · exact h.elim
def isEff : Op → Bool
  | .alloc _ => true
  | .box _ _ => true
  | .store _ _ _ => true
  | .buildSlice _ _ _ => true
  | .load _ _ => true
  | .convert T T' _ => Nat.beq T T'
  | .call c => match c.callee with
    | .builtin .append => true
    | .value _ => true
    | _ => false
  | _ => false
variable (P) in
/-- an operation in its turn -/
def vcOp (cs : List (Nat × Ctr)) (n : Nat) (o : Oper) (env : Env) (objs : List Ob) (nx : Nat) (K : KS) : Prop := match isEff o.op with
  | true => vcEff P cs n o env objs nx K
  | false => dstK n o.dst fun d => evSl P env objs nx o.op fun s objs nx => K ((d, s) :: env) objs nx
theorem vcOp_sound {cs : List (Nat × Ctr)} (hcs : CsOk P cs) (h : vcOp P cs S.n o env objs nx K) : DoesK P S env objs nx o false K := by
  unfold vcOp at h
  split at h
  · exact (vcEff_sound hcs h).weak (fun e => by cases e)
  · obtain ⟨d, hd, hlt, h⟩ := dstK_spec h
    have := evSl_sound (P := P) (S := S) h
    intro σ a w hst X Q hX
    obtain ⟨s, v, σ', objs', nx', h1, h2, h3, h4⟩ := this σ a w hst
    unfold Oper.wp
    rw [h4 w]
    simp only [Oper.upon, hd]
    exact hX σ' _ _ _ _ _ h1 (h2.put hlt h3) (fun e => by cases e)
/-! ## guards -/
theorem St.shadowT {d : Nat} {p : Prop} {i : Decidable p} {b : Bool} (h : St P S σ env objs nx a w) (hd : lk env d = some (.dec p i)) (hp : b = @decide p i) : St P S σ ((d, .bool b) :: env) objs nx a w :=
  h.reenv (fun t s ht => by
    unfold lk at ht
    split at ht
    · rename_i hb
      obtain rfl := Nat.eq_of_beq_eq_true hb
      cases ht
      rw [hvB, hp]
      exact hvD.1 (h.slots _ _ hd)
    · exact h.slots t s ht) h.size h.defers
/-- the guard's slot, and what it asks -/
def gdSlot (ops : List Oper) (o : Oper) : Option (Option (Nat × Bool)) := match o.guard with
  | none => some none
  | some (j, want) => match opAt ops j with
    | some oj => match oj.dst with
      | some d => some (some (d, want))
      | none => none
    | none => none
def skipE (n : Nat) (dst : Option Nat) (env : Env) (K : Env → Prop) : Prop := match dst with
  | none => K env
  | some d => match Nat.blt d n with
    | true => K ((d, .undef) :: env)
    | false => False
/-- carried out, or not -/
def vcGuard (ops : List Oper) (n : Nat) (o : Oper) (env : Env) (run : Env → Prop) (skip : Env → Prop) : Prop := match gdSlot ops o with
  | none => False
  | some none => run env
  | some (some (d, want)) => match lk env d with
    | some (.bool b) => match b, want with
      | true, true => run env
      | false, false => run env
      | _, _ => skipE n o.dst env skip
    | some (.dec p i) => match want with
      | true => Fork p (run ((d, .bool true) :: env)) (skipE n o.dst ((d, .bool false) :: env) skip)
      | false => Fork p (skipE n o.dst ((d, .bool true) :: env) skip) (run ((d, .bool false) :: env))
    | _ => False
theorem wanted_of {ops : Array Oper} {d : Nat} {want b : Bool} (hg : gdSlot ops.toList o = some (some (d, want))) (hst : St P S σ env objs nx a w) (hd : lk env d = some (.bool b)) : Region.wanted o (yielded ops a.tmps) = (b == want) := by
  unfold gdSlot at hg
  split at hg
  · cases hg
  · rename_i j want' hgd
    split at hg
    · rename_i oj hoj
      split at hg
      · rename_i d' hd'
        simp only [Option.some.injEq, Prod.mk.injEq] at hg
        obtain ⟨rfl, rfl⟩ := hg
        have h1 := hvB.1 (hst.slots d' _ hd)
        have h2 := opAt_spec hoj
        have hsz : d' < a.tmps.size := by
          rcases Nat.lt_or_ge d' a.tmps.size with hh | hh
          · exact hh
          · simp [Array.getD_eq_getD_getElem?, Array.getElem?_eq_none hh, undef] at h1
        have h3 : a.tmps[d']? = some (.bool b) := by
          rw [Array.getD_eq_getD_getElem?, Array.getElem?_eq_getElem hsz] at h1
          rw [Array.getElem?_eq_getElem hsz]; simpa using h1
        unfold Region.wanted
        rw [hgd]
        simp only [yielded, h2, Option.bind_some, hd', h3]
        cases b <;> cases want' <;> rfl
      · cases hg
    · cases hg
theorem St.skip (hst : St P S σ env objs nx a w) {K : Env → Prop} (h : skipE S.n o.dst env K) : ∃ env', K env' ∧ St P S σ env' objs nx (a.put o.dst undef) w := by
  unfold skipE at h
  split at h
  · rename_i hd; rw [hd]; exact ⟨env, h, hst⟩
  · rename_i d hd
    split at h
    · rename_i hb
      rw [hd]
      exact ⟨_, h, hst.put (by simpa [Nat.blt_eq] using hb) trivial⟩
    · exact h.elim
/-- a guard's two ways -/
theorem guard_sound {ops : Array Oper} {run skip : Env → Prop} (h : vcGuard ops.toList S.n o env run skip) (hst : St P S σ env objs nx a w) :
    (∃ env', run env' ∧ St P S σ env' objs nx a w ∧ Region.wanted o (yielded ops a.tmps) = true) ∨ (∃ env', skip env' ∧ St P S σ env' objs nx (a.put o.dst undef) w ∧ Region.wanted o (yielded ops a.tmps) = false) := by
  unfold vcGuard at h
  split at h
  · exact h.elim
  · rename_i hg
    refine .inl ⟨env, h, hst, ?_⟩
    unfold gdSlot at hg
    unfold Region.wanted
    split at hg
    · rename_i hn; rw [hn]
    · split at hg
      · split at hg <;> cases hg
      · cases hg
  · rename_i d want hg
    have two : ∀ {b : Bool} {env' : Env}, St P S σ env' objs nx a w → lk env' d = some (.bool b) → (b = want → run env') → (b ≠ want → skipE S.n o.dst env' skip) → (∃ env', run env' ∧ St P S σ env' objs nx a w ∧ Region.wanted o (yielded ops a.tmps) = true) ∨ (∃ env', skip env' ∧ St P S σ env' objs nx (a.put o.dst undef) w ∧ Region.wanted o (yielded ops a.tmps) = false) := by
      intro b env' hst' hd hr hs
      have hw := wanted_of hg hst' hd
      by_cases hb : b = want
      · exact .inl ⟨env', hr hb, hst', by rw [hw, hb]; simp⟩
      · obtain ⟨env2, h1, h2⟩ := hst'.skip (hs hb)
        exact .inr ⟨env2, h1, h2, by rw [hw]; simpa using hb⟩
    split at h
    · rename_i b hd
      refine two hst hd (fun e => ?_) (fun e => ?_)
      · subst e; cases b <;> exact h
      · cases b <;> cases want <;> first | exact absurd rfl e | exact h
    · rename_i p i hd
      have self : ∀ b, lk ((d, SV.bool b) :: env) d = some (.bool b) := fun b => by simp [lk, Nat.beq_refl]
      split at h
      · by_cases hp : p
        · exact two (b := true) (hst.shadowT hd (by simp [hp])) (self true) (fun _ => h.t hp) (fun e => absurd rfl e)
        · exact two (b := false) (hst.shadowT hd (by simp [hp])) (self false) (fun e => by cases e) (fun _ => h.f hp)
      · by_cases hp : p
        · exact two (b := true) (hst.shadowT hd (by simp [hp])) (self true) (fun e => by cases e) (fun _ => h.t hp)
        · exact two (b := false) (hst.shadowT hd (by simp [hp])) (self false) (fun _ => h.f hp) (fun e => absurd rfl e)
    · exact h.elim
/-! ## lists of operations -/
variable (P) in
def vcOps (cs : List (Nat × Ctr)) (n : Nat) (all : List Oper) : List Oper → Env → List Ob → Nat → KS → Prop
  | [], env, objs, nx, K => K env objs nx
  | o :: r, env, objs, nx, K => vcGuard all n o env (fun env => vcOp P cs n o env objs nx fun env objs nx => vcOps cs n all r env objs nx K) (fun env => vcOps cs n all r env objs nx K)
variable {Q : Exit → Act → World → Prop}
theorem vcOps_sound {cs : List (Nat × Ctr)} (hcs : CsOk P cs) {ops : Array Oper} : ∀ {r : List Oper} {env : Env} {objs : List Ob} {nx : Nat} {K : KS}, vcOps P cs S.n ops.toList r env objs nx K → (∀ env objs nx, K env objs nx → Pr P S env objs nx (Q .normal)) → Pr P S env objs nx (wpList P ops Q r)
  | [], env, objs, nx, K, h, hK => hK _ _ _ h
  | o :: r, env, objs, nx, K, h, hK => fun σ a w hst => by
    unfold wpList
    rcases guard_sound h hst with ⟨env', h, hst', hw⟩ | ⟨env', h, hst', hw⟩
    · rw [if_pos hw]
      exact .inl (vcOp_sound hcs h σ a w hst' _ _ fun σ' e' o' n' a' w' h1 h2 _ => vcOps_sound hcs h1 hK σ' a' w' h2)
    · rw [if_neg (by rw [hw]; simp)]
      exact vcOps_sound hcs h hK σ _ w hst'
/-! ## a region that draws its order -/
def kAnd : Bool → Bool → Bool
  | true, b => b
  | false, _ => false
def impB : Bool → Bool → Bool
  | true, b => b
  | false, _ => true
variable (P) in
def vcR (cs : List (Nat × Ctr)) (n : Nat) (all : List Oper) : Ord → Bool → Bool → Env → List Ob → Nat → KS → Prop
  | [], _, _, env, objs, nx, K => K env objs nx
  | (i, kind, need) :: r, ph, k, env, objs, nx, K => match opAt all i with
    | none => False
    | some o => match kind with
      | 0 => vcGuard all n o env (fun env => dstK n o.dst fun d => evSl P env objs nx o.op fun s objs nx => vcR cs n all r ph k ((d, s) :: env) objs nx K) (fun env => vcR cs n all r ph k env objs nx K)
      | 1 => match ph with
        | true => vcGuard all n o env (fun env => dstK n o.dst fun d => evLd P env objs o.op fun s => vcR cs n all r ph k ((d, s) :: env) objs nx K) (fun env => vcR cs n all r ph k env objs nx K)
        | false => False
      | _ => match impB need (kAnd k (keptB cs o.op)) with
        | true => vcGuard all n o env (fun env => vcEff P cs n o env objs nx fun env objs nx => vcR cs n all r false (kAnd k (keptB cs o.op)) env objs nx K) (fun env => vcR cs n all r ph k env objs nx K)
        | false => False
theorem vcR_sound {cs : List (Nat × Ctr)} (hcs : CsOk P cs) {ops : Array Oper} : ∀ {r : Ord} {ph k : Bool} {env : Env} {objs : List Ob} {nx : Nat} {K : KS}, vcR P cs S.n ops.toList r ph k env objs nx K → (∀ env objs nx, K env objs nx → Pr P S env objs nx (Q .normal)) →
    ∀ σ a w w0, St P S σ env objs nx a w → (ph = true → w = w0) → (k = true → Kept w0 w) → wpCan P ops Q (Kept w0) r a w
  | [], ph, k, env, objs, nx, K, h, hK => fun σ a w w0 hst _ _ => hK _ _ _ h σ a w hst
  | (i, kind, need) :: r, ph, k, env, objs, nx, K, h, hK => fun σ a w w0 hst hph hk => by
    unfold vcR at h
    split at h
    · exact h.elim
    · rename_i o ho
      split at h
      · rcases guard_sound h hst with ⟨env', h, hst', hw⟩ | ⟨env', h, hst', hw⟩
        · obtain ⟨d, hd, hlt, h⟩ := dstK_spec h
          obtain ⟨s, v, σ', o', n', h1, h2, h3, h4⟩ := evSl_sound (P := P) (S := S) h σ a w hst'
          refine can_pure ho hw h4 ?_
          rw [hd]
          exact vcR_sound hcs h1 hK σ' _ w w0 (h2.put hlt h3) hph hk
        · exact can_skip ho hw (vcR_sound hcs h hK σ _ w w0 hst' hph hk)
      · split at h
        · rcases guard_sound h hst with ⟨env', h, hst', hw⟩ | ⟨env', h, hst', hw⟩
          · obtain ⟨d, hd, hlt, h⟩ := dstK_spec h
            obtain ⟨s, v, h1, h2, h3⟩ := evLd_sound (P := P) (S := S) (nx := nx) h σ a w hst'
            have hww := hph rfl
            subst hww
            refine can_load ho hw (fun w' hw' => h3 w' hw') ?_
            rw [hd]
            exact vcR_sound hcs h1 hK σ _ w w (hst'.put hlt h2) (fun _ => rfl) hk
          · exact can_skip ho hw (vcR_sound hcs h hK σ _ w w0 hst' hph hk)
        · exact h.elim
      · split at h
        · rename_i hne
          rcases guard_sound h hst with ⟨env', h, hst', hw⟩ | ⟨env', h, hst', hw⟩
          · have h2 : wpCan P ops Q (Kept w0) ((i, 2, need) :: r) a w := can_loud ho hw fun X hX => by
              refine vcEff_sound hcs h σ a w hst' X Q fun σ' e' o' n' a' w' h1 h2 h3 => hX _ _ ⟨fun hn => ?_, ?_⟩
              · subst hn
                cases k <;> cases hkb : keptB cs o.op <;> simp [impB, kAnd, hkb] at hne
                exact (hk rfl).trans (h3 hkb)
              · refine vcR_sound hcs h1 hK σ' a' w' w0 h2 (fun e => by cases e) (fun e => ?_)
                cases k <;> cases hkb : keptB cs o.op <;> simp [kAnd, hkb] at e
                exact (hk rfl).trans (h3 hkb)
            match kind, h2 with
            | 0, _ => contradiction
            | 1, _ => contradiction
            | m + 2, h2 => exact h2
          · exact can_skip ho hw (vcR_sound hcs h hK σ _ w w0 hst' hph hk)
        · exact h.elim
end
end Go.Proofs.Ytkakpdmlbkgpkaa

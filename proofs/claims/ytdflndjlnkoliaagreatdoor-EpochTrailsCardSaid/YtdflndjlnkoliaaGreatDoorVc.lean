import Derived.RangeFuncBox
import Derived.RangeFuncFrom
import Derived.RangeFuncCalls
import Derived.TacticsIn
import Derived.Test.YtdflndjlnkoliaaGreatDoorCs
import Derived.Test.YtdflndjlnkoliaaGreatDoorMp
import Derived.Deep.LoopGhost
/- MY OWN ENGINE: what a function's text owes. -/
namespace Go.Proofs.YtdflndjlnkoliaaGreatDoor
set_option linter.all false
open Go.RowKit
abbrev Ord := OT
/-- what the walk is told: contracts, by a function's number; the slots into which a row of one's own is cut off; the conditions and blocks behind which ways meet; how a region that draws its order is walked -/
structure Hints where
  cs : List (Nat × Ctr)
  tr : List Nat
  cut : List Nat
  cutb : List Nat
def memB : List Nat → Nat → Bool
  | [], _ => false
  | k :: r, n => match Nat.beq k n with
    | true => true
    | false => memB r n
section
variable {P : Program} [TabC P] {S : Sig} {σ : Sg} {env : Env} {objs : List Ob} {nx : Nat} {o : Oper} {a : Act} {w : World} {x y : Operand} {K : KS}
/-! ## plain operations, with what they turn in the state's words -/
variable (P) in
def PureG (S : Sig) (env : Env) (objs : List Ob) (nx : Nat) (o : Oper) (K : SV → List Ob → Nat → Prop) : Prop :=
  ∀ σ a w, St P S σ env objs nx a w → ∃ s v σ' objs' nx', K s objs' nx' ∧ St P S σ' env objs' nx' a w ∧ s.hv w (S.A σ' objs') σ' v ∧ ∀ w', (execOp a.eval o).run P w' = .ok (.value v) w'
theorem PureK.g {K : SV → List Ob → Nat → Prop} (h : PureK P S env objs nx o fun s => K s objs nx) : PureG P S env objs nx o K := fun σ a w hst => by
  obtain ⟨s, v, h1, h2, h3⟩ := h σ a w hst
  exact ⟨s, v, σ, objs, nx, h1, hst, h2, h3⟩
variable (P) in
def evSl (env : Env) (objs : List Ob) (nx : Nat) (op : Op) (K : SV → List Ob → Nat → Prop) : Prop := match op with
  | .slice _ x _ _ _ => match evx P env x with
    | some (.own k) => frzL objs k fun o => evPure P env o op fun s => K s o nx
    | _ => evPure P env objs op fun s => K s objs nx
  | op => evPure P env objs op fun s => K s objs nx
theorem evSl_sound {K : SV → List Ob → Nat → Prop} (h : evSl P env objs nx o.op K) : PureG P S env objs nx o K := by
  unfold evSl at h
  split at h
  · rename_i hop
    split at h
    · obtain ⟨o', h, g⟩ := frzL_sound (P := P) h
      have := evPure_sound (S := S) (nx := nx) h
      intro σ a w hst
      obtain ⟨s, v, h1, h2, h3⟩ := this σ a w (g.1 S env nx σ a w hst)
      exact ⟨s, v, σ, o', nx, h1, g.1 S env nx σ a w hst, h2, h3⟩
    · exact (evPure_sound h).g
  · exact (evPure_sound h).g
/-! ## operations, one by one -/
def lkC : List (Nat × Ctr) → Nat → Option Ctr
  | [], _ => none
  | (k, c) :: r, n => match Nat.beq k n with
    | true => some c
    | false => lkC r n
def CsOk (P : Program) [TabC P] : List (Nat × Ctr) → Prop
  | [] => True
  | (k, c) :: r => c.Ok P k ∧ CsOk P r
theorem CsOk.get : ∀ {l : List (Nat × Ctr)} {k : Nat} {c : Ctr}, CsOk P l → lkC l k = some c → c.Ok P k
  | [], _, _, _, h => by simp [lkC] at h
  | (j, d) :: r, k, c, ⟨h1, h2⟩, h => by
    unfold lkC at h
    split at h
    · rename_i hb
      obtain rfl := Nat.eq_of_beq_eq_true hb
      cases h; exact h1
    · exact h2.get h
/-- one or the other -/
inductive Or2 (p q : Prop) : Prop
  | l (h : p)
  | r (h : q)
def hasC : List (Nat × Ctr) → Nat → Bool
  | [], _ => false
  | (k, _) :: r, n => match Nat.beq k n with
    | true => true
    | false => hasC r n
/-- all contracts of a function ask for no objects -/
def keptC : List (Nat × Ctr) → Nat → Bool
  | [], _ => true
  | (k, c) :: r, n => match Nat.beq k n with
    | true => match kpB c.kp (Nat.beq c.nn 0) with
      | true => keptC r n
      | false => false
    | false => keptC r n
/-- a call, by one of the contracts of its function -/
def callsG (cs : List (Nat × Ctr)) (f n : Nat) (dst : Option Nat) (ss : List SV) (env : Env) (objs : List Ob) (nx : Nat) (K : KS) : Prop := match cs with
  | [] => False
  | (k, c) :: r => match Nat.beq k f with
    | true => match hasC r f with
      | true => Or2 (callG c n dst ss env objs nx K) (callsG r f n dst ss env objs nx K)
      | false => callG c n dst ss env objs nx K
    | false => callsG r f n dst ss env objs nx K
theorem callsG_sound {f : Nat} {as : Array Operand} {ts : Array TypeId} {ss : List SV} (ho : o.op = .call { callee := .value (.func f), args := as, argTypes := ts }) (hf : nth (TabC.cl P) f = some true) (ha : evs P env as.toList = some ss) (hnt : noTups ss = true) :
    ∀ {cs : List (Nat × Ctr)}, CsOk P cs → callsG cs f S.n o.dst ss env objs nx K → ∀ X Q σ a w, St P S σ env objs nx a w → (∀ σ' env' objs' nx' a' w', K env' objs' nx' → St P S σ' env' objs' nx' a' w' → (keptC cs f = true → Kept w w') → X a' w') → o.wp P a w X Q
  | [], _, h => h.elim
  | (k, c) :: r, ⟨h1, h2⟩, h => by
    have one : Nat.beq k f = true → callG c S.n o.dst ss env objs nx K → ∀ X Q σ a w, St P S σ env objs nx a w → (∀ σ' env' objs' nx' a' w', K env' objs' nx' → St P S σ' env' objs' nx' a' w' → (keptC ((k, c) :: r) f = true → Kept w w') → X a' w') → o.wp P a w X Q := by
      intro hb hg X Q σ a w hst hX
      obtain rfl := Nat.eq_of_beq_eq_true hb
      refine callG_sound h1 ho hf ha hnt hg σ a w hst X Q fun σ' e' o' n' a' w' g1 g2 g3 => hX σ' e' o' n' a' w' g1 g2 fun hk => g3 ?_
      unfold keptC at hk
      rw [hb] at hk
      simp only at hk
      split at hk
      · assumption
      · cases hk
    unfold callsG at h
    split at h
    · rename_i hb
      split at h
      · intro X Q σ a w hst hX
        rcases h with h | h
        · exact one hb h X Q σ a w hst hX
        · refine callsG_sound ho hf ha hnt h2 h X Q σ a w hst fun σ' e' o' n' a' w' g1 g2 g3 => hX σ' e' o' n' a' w' g1 g2 fun hk => g3 ?_
          unfold keptC at hk
          rw [hb] at hk
          simp only at hk
          split at hk
          · exact hk
          · cases hk
      · exact one hb h
    · rename_i hb
      intro X Q σ a w hst hX
      refine callsG_sound ho hf ha hnt h2 h X Q σ a w hst fun σ' e' o' n' a' w' g1 g2 g3 => hX σ' e' o' n' a' w' g1 g2 fun hk => g3 ?_
      unfold keptC at hk
      rw [hb] at hk
      exact hk
/-- a call, by one of the contracts of its function; what is taken passes the check -/
def callsN (chk : List Ob → Bool) (cs : List (Nat × Ctr)) (f n : Nat) (dst : Option Nat) (ss : List SV) (env : Env) (objs : List Ob) (nx : Nat) (K : KS) : Prop := match cs with
  | [] => False
  | (k, c) :: r => match Nat.beq k f with
    | true => match hasC r f with
      | true => Or2 (callGC chk c n dst ss env objs nx K) (callsN chk r f n dst ss env objs nx K)
      | false => callGC chk c n dst ss env objs nx K
    | false => callsN chk r f n dst ss env objs nx K
theorem callsN_sound {chk : List Ob → Bool} {f : Nat} {as : Array Operand} {ts : Array TypeId} {ss : List SV} (ho : o.op = .call { callee := .value (.func f), args := as, argTypes := ts }) (hf : nth (TabC.cl P) f = some true) (ha : evs P env as.toList = some ss) (hnt : noTups ss = true) :
    ∀ {cs : List (Nat × Ctr)}, CsOk P cs → callsN chk cs f S.n o.dst ss env objs nx K → ∀ X Q σ a w, St P S σ env objs nx a w → (∀ σ' env' objs' nx' a' w', K env' objs' nx' → St P S σ' env' objs' nx' a' w' → (∃ σ2 tn, chk tn = true ∧ Mod (owns σ2 tn) w w' ∧ ∀ k, k < S.nn → ∀ v, σ2 k = some v → S.s0 k = some v) → X a' w') → o.wp P a w X Q
  | [], _, h => h.elim
  | (k, c) :: r, ⟨h1, h2⟩, h => by
    have one : Nat.beq k f = true → callGC chk c S.n o.dst ss env objs nx K → ∀ X Q σ a w, St P S σ env objs nx a w → (∀ σ' env' objs' nx' a' w', K env' objs' nx' → St P S σ' env' objs' nx' a' w' → (∃ σ2 tn, chk tn = true ∧ Mod (owns σ2 tn) w w' ∧ ∀ k, k < S.nn → ∀ v, σ2 k = some v → S.s0 k = some v) → X a' w') → o.wp P a w X Q := by
      intro hb hg
      obtain rfl := Nat.eq_of_beq_eq_true hb
      exact callGC_sound h1 ho hf ha hnt hg
    unfold callsN at h
    split at h
    · rename_i hb
      split at h
      · rcases h with h | h
        · exact one hb h
        · exact callsN_sound ho hf ha hnt h2 h
      · exact one hb h
    · exact callsN_sound ho hf ha hnt h2 h
variable (P) in
def strQ (T' : Nat) : Bool := match ty P T' with
  | some ⟨.str, _, _⟩ => true
  | _ => false
variable (P) in
/-- bytes and strings: it reads rows, or lays one -/
def cvQ (op : Op) : Bool := match op with
  | .convert T T' _ => match ty P T, ty P T' with
    | some ⟨.sl _, _, _⟩, some ⟨.str, _, _⟩ => true
    | some ⟨.str, _, _⟩, some ⟨.sl _, _, _⟩ => true
    | _, _ => false
  | _ => false
def orQ : Bool → Bool → Bool
  | true, _ => true
  | false, b => b
variable (P) in
/-- an operation that turns the state -/
def vcEff (cs : List (Nat × Ctr)) (n : Nat) (o : Oper) (env : Env) (objs : List Ob) (nx : Nat) (K : KS) : Prop := match o.op with
  | .alloc T => evAlloc P n o.dst env objs nx T K
  | .box T x => ev1 P env x fun s => evBox n o.dst env objs nx T s K
  | .store T x y => ev1 P env x fun s => ev1 P env y fun u => evStore P o.dst env objs nx T s u K
  | .buildSlice T m ps => evLits P n o.dst env objs nx T m ps.toList K
  | .convert T T' x => match Nat.beq T T' with
    | true => ev1 P env x fun s => evCvS P n o.dst env objs nx T s K
    | false => match strQ P T' with
      | true => dstK n o.dst fun d => ev1 P env x fun s => evStr P objs T T' s fun s => K ((d, s) :: env) objs nx
      | false => ev1 P env x fun s => evByt P n o.dst env objs nx T T' s K
  | .makeSlice T x y => ev1 P env x fun s => ev1 P env y fun u => evMake P n o.dst env objs nx T s u K
  | .load T x => dstK n o.dst fun d => ev1 P env x fun s => evLoad P objs T s fun s => K ((d, s) :: env) objs nx
  | .makeMap T r => match r with
    | none => evMkMap P n o.dst env objs nx T K
    | some _ => False
  | .lookup T x y c => ev1 P env x fun s => ev1 P env y fun u => evLook P n o.dst env objs nx T s u c K
  | .mapUpdate T x y z => ev1 P env x fun s => ev1 P env y fun u => ev1 P env z fun v => evUpd P o.dst env objs nx T s u v K
  | .call c => match c with
    | { callee := .builtin .append, args := ⟨[x, y]⟩, argTypes := ⟨[T, T']⟩ } => ev1 P env x fun s => ev1 P env y fun u => evAppend P n o.dst env objs nx T T' s u K
    | { callee := .builtin .copy, args := ⟨[x, y]⟩, argTypes := ⟨[T, T']⟩ } => ev1 P env x fun s => ev1 P env y fun u => evCopy P n o.dst env objs nx T s u K
    | { callee := .value (.func f), args := as, argTypes := _ } => match nth (TabC.cl P) f, evs P env as.toList with
      | some true, some ss => match noTups ss with
        | true => callsG cs f n o.dst ss env objs nx K
        | false => False
      | _, _ => False
    | _ => False
  | _ => False
/-- does it keep what stands? -/
def keptB (cs : List (Nat × Ctr)) (op : Op) : Bool := match op with
  | .alloc _ => true
  | .box _ _ => true
  | .buildSlice _ _ _ => true
  | .makeSlice _ _ _ => true
  | .load _ _ => true
  | .makeMap _ _ => true
  | .lookup _ _ _ _ => true
  | .convert T T' _ => match Nat.beq T T' with
    | true => false
    | false => true
  | .call c => match c with
    | { callee := .value (.func f), .. } => keptC cs f
    | _ => false
  | _ => false
theorem DoesK.weak {k k' : Bool} {K : KS} (h : DoesK P S env objs nx o k K) (hk : k' = true → k = true) : DoesK P S env objs nx o k' K := fun σ a w hst X Q hX => h σ a w hst X Q fun σ' e' o' n' a' w' h1 h2 h3 => hX σ' e' o' n' a' w' h1 h2 fun e => h3 (hk e)
theorem vcEff_sound {cs : List (Nat × Ctr)} (hcs : CsOk P cs) (h : vcEff P cs S.n o env objs nx K) : DoesK P S env objs nx o (keptB cs o.op) K := by
  unfold vcEff at h
  split at h
  · rename_i ho; rw [ho]; exact evAlloc_sound ho h
  · rename_i ho; rw [ho]; obtain ⟨s, hs, h⟩ := ev1_spec h; exact evBox_sound ho hs h
  · rename_i ho; rw [ho]; obtain ⟨s, hs, h⟩ := ev1_spec h; obtain ⟨u, hu, h⟩ := ev1_spec h; exact evStore_sound ho hs hu h
  · rename_i ho; rw [ho]; exact evLits_sound ho h
  · rename_i ho
    split at h
    · rename_i hT
      obtain rfl := Nat.eq_of_beq_eq_true hT
      obtain ⟨s, hs, h⟩ := ev1_spec h
      rw [ho]; exact (evCvS_sound ho hs h).weak (fun e => by simp [keptB, Nat.beq_refl] at e)
    · rename_i hne
      split at h
      · obtain ⟨d, hd, hlt, h⟩ := dstK_spec h
        obtain ⟨s, hs, h⟩ := ev1_spec h
        have := evStr_sound (S := S) (nx := nx) ho hs h
        intro σ a w hst X Q hX
        obtain ⟨s, v, h1, h2, h3⟩ := this σ a w hst
        unfold Oper.wp
        rw [h3 w (Mod.refl _ _)]
        simp only [Oper.upon, hd]
        exact hX σ _ _ _ _ _ h1 (hst.put hlt h2) (fun _ => Mod.refl _ _)
      · obtain ⟨s, hs, h⟩ := ev1_spec h
        exact (evByt_sound ho hs h).weak (fun _ => rfl)
  · rename_i ho; rw [ho]; obtain ⟨s, hs, h⟩ := ev1_spec h; obtain ⟨u, hu, h⟩ := ev1_spec h; exact evMake_sound ho hs hu h
  · rename_i ho
    obtain ⟨d, hd, hlt, h⟩ := dstK_spec h
    obtain ⟨s, hs, h⟩ := ev1_spec h
    have := evLoad_sound (S := S) (nx := nx) ho hs h
    intro σ a w hst X Q hX
    obtain ⟨s, v, h1, h2, h3⟩ := this σ a w hst
    unfold Oper.wp
    rw [h3 w (Mod.refl _ _)]
    simp only [Oper.upon, hd]
    exact hX σ _ _ _ _ _ h1 (hst.put hlt h2) (fun _ => Mod.refl _ _)
  · rename_i ho
    split at h
    · rw [ho]; exact evMkMap_sound ho h
    · exact h.elim
  · rename_i ho; rw [ho]; obtain ⟨s, hs, h⟩ := ev1_spec h; obtain ⟨u, hu, h⟩ := ev1_spec h; exact evLook_sound ho hs hu h
  · rename_i ho; rw [ho]; obtain ⟨s, hs, h⟩ := ev1_spec h; obtain ⟨u, hu, h⟩ := ev1_spec h; obtain ⟨v, hv, h⟩ := ev1_spec h; exact evUpd_sound ho hs hu hv h
  · rename_i ho
    rw [ho]
    split at h
    · obtain ⟨s, hs, h⟩ := ev1_spec h; obtain ⟨u, hu, h⟩ := ev1_spec h; exact evAppend_sound ho hs hu h
    · obtain ⟨s, hs, h⟩ := ev1_spec h; obtain ⟨u, hu, h⟩ := ev1_spec h; exact evCopy_sound ho hs hu h
    · split at h
      · rename_i f as ts _ _ ss hf hs
        split at h
        · rename_i hn
          exact fun σ a w hst X Q hX => callsG_sound ho hf hs hn hcs h X Q σ a w hst hX
        · exact h.elim
      · exact h.elim
    · exact h.elim
  · exact h.elim
def isEff : Op → Bool
  | .alloc _ => true
  | .box _ _ => true
  | .store _ _ _ => true
  | .buildSlice _ _ _ => true
  | .makeSlice _ _ _ => true
  | .load _ _ => true
  | .makeMap _ _ => true
  | .lookup _ _ _ _ => true
  | .mapUpdate _ _ _ _ => true
  | .convert T T' _ => Nat.beq T T'
  | .call c => match c.callee with
    | .builtin .append => true
    | .builtin .copy => true
    | .value _ => true
    | _ => false
  | _ => false
variable (P) in
/-- an operation in its turn -/
def vcOp (cs : List (Nat × Ctr)) (n : Nat) (o : Oper) (env : Env) (objs : List Ob) (nx : Nat) (K : KS) : Prop := match orQ (isEff o.op) (cvQ P o.op) with
  | true => vcEff P cs n o env objs nx K
  | false => dstK n o.dst fun d => evSl P env objs nx o.op fun s objs nx => K ((d, s) :: env) objs nx
theorem vcOp_sound {cs : List (Nat × Ctr)} (hcs : CsOk P cs) (h : vcOp P cs S.n o env objs nx K) : DoesK P S env objs nx o false K := by
  unfold vcOp at h
  split at h
  · exact (vcEff_sound hcs h).weak (fun e => by cases e)
  · obtain ⟨d, hd, hlt, h⟩ := dstK_spec h
    have := evSl_sound (P := P) (S := S) h
    intro σ a w hst X Q hX
    obtain ⟨s, v, σ', objs', nx', h1, h2, h3, h4⟩ := this σ a w hst
    unfold Oper.wp
    rw [h4 w]
    simp only [Oper.upon, hd]
    exact hX σ' _ _ _ _ _ h1 (h2.put hlt h3) (fun e => by cases e)
/-! ## guards -/
theorem St.shadowT {d : Nat} {p : Prop} {i : Decidable p} {b : Bool} (h : St P S σ env objs nx a w) (hd : lk env d = some (.dec p i)) (hp : b = @decide p i) : St P S σ ((d, .bool b) :: env) objs nx a w :=
  h.reenv (fun t s ht => by
    unfold lk at ht
    split at ht
    · rename_i hb
      obtain rfl := Nat.eq_of_beq_eq_true hb
      cases ht
      rw [hvB, hp]
      exact hvD.1 (h.slots _ _ hd)
    · exact h.slots t s ht) h.size h.defers
/-- the guard's slot, and what it asks -/
def gdSlot (ops : List Oper) (o : Oper) : Option (Option (Nat × Bool)) := match o.guard with
  | none => some none
  | some (j, want) => match opAt ops j with
    | some oj => match oj.dst with
      | some d => some (some (d, want))
      | none => none
    | none => none
def skipE (n : Nat) (dst : Option Nat) (env : Env) (K : Env → Prop) : Prop := match dst with
  | none => K env
  | some d => match Nat.blt d n with
    | true => K ((d, .tup []) :: env)
    | false => False
/-- carried out, or not -/
def vcGuard (ops : List Oper) (n : Nat) (o : Oper) (env : Env) (run : Env → Prop) (skip : Env → Prop) : Prop := match gdSlot ops o with
  | none => False
  | some none => run env
  | some (some (d, want)) => match lk env d with
    | some (.bool b) => match b, want with
      | true, true => run env
      | false, false => run env
      | _, _ => skipE n o.dst env skip
    | some (.dec p i) => match want with
      | true => Fork p (run ((d, .bool true) :: env)) (skipE n o.dst ((d, .bool false) :: env) skip)
      | false => Fork p (skipE n o.dst ((d, .bool true) :: env) skip) (run ((d, .bool false) :: env))
    | some (.tup []) => skipE n o.dst env skip
    | _ => False
theorem wanted_of {ops : Array Oper} {d : Nat} {want b : Bool} (hg : gdSlot ops.toList o = some (some (d, want))) (hst : St P S σ env objs nx a w) (hd : lk env d = some (.bool b)) : Region.wanted o (yielded ops a.tmps) = (b == want) := by
  unfold gdSlot at hg
  split at hg
  · cases hg
  · rename_i j want' hgd
    split at hg
    · rename_i oj hoj
      split at hg
      · rename_i d' hd'
        simp only [Option.some.injEq, Prod.mk.injEq] at hg
        obtain ⟨rfl, rfl⟩ := hg
        have h1 := hvB.1 (hst.slots d' _ hd)
        have h2 := opAt_spec hoj
        have hsz : d' < a.tmps.size := by
          rcases Nat.lt_or_ge d' a.tmps.size with hh | hh
          · exact hh
          · simp [Array.getD_eq_getD_getElem?, Array.getElem?_eq_none hh, undef] at h1
        have h3 : a.tmps[d']? = some (.bool b) := by
          rw [Array.getD_eq_getD_getElem?, Array.getElem?_eq_getElem hsz] at h1
          rw [Array.getElem?_eq_getElem hsz]; simpa using h1
        unfold Region.wanted
        rw [hgd]
        simp only [yielded, h2, Option.bind_some, hd', h3]
        cases b <;> cases want' <;> rfl
      · cases hg
    · cases hg
theorem wanted_no {ops : Array Oper} {d : Nat} {want : Bool} (hg : gdSlot ops.toList o = some (some (d, want))) (hst : St P S σ env objs nx a w) (hd : lk env d = some (.tup [])) : Region.wanted o (yielded ops a.tmps) = false := by
  unfold gdSlot at hg
  split at hg
  · cases hg
  · rename_i j want' hgd
    split at hg
    · rename_i oj hoj
      split at hg
      · rename_i d' hd'
        simp only [Option.some.injEq, Prod.mk.injEq] at hg
        obtain ⟨rfl, rfl⟩ := hg
        obtain ⟨l, h1, h2⟩ := hst.slots d' _ hd
        simp only [hvs] at h2; subst h2
        have h2 := opAt_spec hoj
        unfold Region.wanted
        rw [hgd]
        simp only [yielded, h2, Option.bind_some, hd']
        cases ht : a.tmps[d']? with
        | none => simp
        | some v =>
          have : a.tmps.getD d' undef = v := by simp [Array.getD_eq_getD_getElem?, ht]
          rw [h1] at this
          subst this
          simp
      · cases hg
    · cases hg
theorem St.skip (hst : St P S σ env objs nx a w) {K : Env → Prop} (h : skipE S.n o.dst env K) : ∃ env', K env' ∧ St P S σ env' objs nx (a.put o.dst undef) w := by
  unfold skipE at h
  split at h
  · rename_i hd; rw [hd]; exact ⟨env, h, hst⟩
  · rename_i d hd
    split at h
    · rename_i hb
      rw [hd]
      exact ⟨_, h, hst.put (by simpa [Nat.blt_eq] using hb) ⟨[], rfl, rfl⟩⟩
    · exact h.elim
/-- a guard's two ways -/
theorem guard_sound {ops : Array Oper} {run skip : Env → Prop} (h : vcGuard ops.toList S.n o env run skip) (hst : St P S σ env objs nx a w) :
    (∃ env', run env' ∧ St P S σ env' objs nx a w ∧ Region.wanted o (yielded ops a.tmps) = true) ∨ (∃ env', skip env' ∧ St P S σ env' objs nx (a.put o.dst undef) w ∧ Region.wanted o (yielded ops a.tmps) = false) := by
  unfold vcGuard at h
  split at h
  · exact h.elim
  · rename_i hg
    refine .inl ⟨env, h, hst, ?_⟩
    unfold gdSlot at hg
    unfold Region.wanted
    split at hg
    · rename_i hn; rw [hn]
    · split at hg
      · split at hg <;> cases hg
      · cases hg
  · rename_i d want hg
    have two : ∀ {b : Bool} {env' : Env}, St P S σ env' objs nx a w → lk env' d = some (.bool b) → (b = want → run env') → (b ≠ want → skipE S.n o.dst env' skip) → (∃ env', run env' ∧ St P S σ env' objs nx a w ∧ Region.wanted o (yielded ops a.tmps) = true) ∨ (∃ env', skip env' ∧ St P S σ env' objs nx (a.put o.dst undef) w ∧ Region.wanted o (yielded ops a.tmps) = false) := by
      intro b env' hst' hd hr hs
      have hw := wanted_of hg hst' hd
      by_cases hb : b = want
      · exact .inl ⟨env', hr hb, hst', by rw [hw, hb]; simp⟩
      · obtain ⟨env2, h1, h2⟩ := hst'.skip (hs hb)
        exact .inr ⟨env2, h1, h2, by rw [hw]; simpa using hb⟩
    split at h
    · rename_i b hd
      refine two hst hd (fun e => ?_) (fun e => ?_)
      · subst e; cases b <;> exact h
      · cases b <;> cases want <;> first | exact absurd rfl e | exact h
    · rename_i p i hd
      have self : ∀ b, lk ((d, SV.bool b) :: env) d = some (.bool b) := fun b => by simp [lk, Nat.beq_refl]
      split at h
      · by_cases hp : p
        · exact two (b := true) (hst.shadowT hd (by simp [hp])) (self true) (fun _ => h.t hp) (fun e => absurd rfl e)
        · exact two (b := false) (hst.shadowT hd (by simp [hp])) (self false) (fun e => by cases e) (fun _ => h.f hp)
      · by_cases hp : p
        · exact two (b := true) (hst.shadowT hd (by simp [hp])) (self true) (fun e => by cases e) (fun _ => h.t hp)
        · exact two (b := false) (hst.shadowT hd (by simp [hp])) (self false) (fun _ => h.f hp) (fun e => absurd rfl e)
    · rename_i hd
      obtain ⟨env2, h1, h2⟩ := hst.skip h
      exact .inr ⟨env2, h1, h2, wanted_no hg hst hd⟩
    · exact h.elim
/-! ## rows of one's own that are cut off -/
def isTr (tr : List Nat) (o : Oper) : Bool := match o.dst with
  | some d => memB tr d
  | none => false
variable (P) in
def vcOpT (tr : List Nat) (cs : List (Nat × Ctr)) (n : Nat) (o : Oper) (env : Env) (objs : List Ob) (nx : Nat) (K : KS) : Prop := match isTr tr o with
  | true => match o.op with
    | .slice T x none (some y) none => ev1 P env x fun s => ev1 P env y fun u => evTrunc P n o.dst env objs nx T s u K
    | _ => False
  | false => vcOp P cs n o env objs nx K
theorem vcOpT_sound {tr : List Nat} {cs : List (Nat × Ctr)} (hcs : CsOk P cs) (h : vcOpT P tr cs S.n o env objs nx K) : DoesK P S env objs nx o false K := by
  unfold vcOpT at h
  split at h
  · split at h
    · rename_i ho
      obtain ⟨s, hs, h⟩ := ev1_spec h; obtain ⟨u, hu, h⟩ := ev1_spec h
      exact (evTrunc_sound ho hs hu h).weak (fun e => by cases e)
    · exact h.elim
  · exact vcOp_sound hcs h
/-! ## lists of operations (told by what they are worth) -/
structure Cfg where
  cs : List (Nat × Ctr)
  dr : List (Nat × List Nat × List Nat × Ord × List Nat)
  cut : List Nat
  cutb : List Nat
  n : Nat
  nn : Nat
  tr : List Nat := []
  cutr : List Nat := []
  vs : List Nat := []
variable (P) in
/-- does it look into what a raw value points to? -/
def isVal (env : Env) (op : Op) : Bool := match op with
  | .call { callee := .builtin .len, args := ⟨[x]⟩, argTypes := _ } => match evx P env x with
    | some (.val _) => true
    | _ => false
  | .indexAddr _ x _ => match evx P env x with
    | some (.val _) => true
    | _ => false
  | .call { callee := .value (.tmp t), .. } => match lk env t with
    | some (.val _) => true
    | some (.fn _) => true
    | _ => false
  | .makeFunc _ _ _ => true
  | _ => false
variable (P) in
def anyOwn (env : Env) : List (Nat × Operand) → Bool
  | [] => false
  | (_, x) :: r => match evx P env x with
    | some (.own _) => true
    | _ => anyOwn env r
def hasNil : List SV → Bool
  | [] => false
  | .nils :: _ => true
  | _ :: r => hasNil r
variable (P) in
def anyNil (env : Env) : List (Nat × Operand) → Bool
  | [] => false
  | (_, x) :: r => match evx P env x with
    | some (.agg l) => match hasNil l with
      | true => true
      | false => anyNil env r
    | _ => anyNil env r
variable (P) in
/-- does it lay a row of one's own into a value, where it is to be held by its own value? or a value with no slice where one is to be told? -/
def isSeal (vs : List Nat) (env : Env) (o : Oper) : Bool := match o.dst with
  | some d => match memB vs d with
    | true => match o.op with
      | .build _ ⟨ps⟩ => anyOwn P env ps
      | .buildSlice _ _ ⟨ps⟩ => anyNil P env ps
      | .box _ x => anyNil P env [(0, x)]
      | _ => false
    | false => false
  | none => false
def or2 : Bool → Bool → Bool
  | true, _ => true
  | false, b => b
/-- here the raw value's row must be opened first -/
structure ValS (p : Prop) : Prop where
  h : p
theorem Oper.wp_in {Q : Exit → Act → World → Prop} {X : Act → World → Prop} {n : Nat} (h : o.wp P a w X Q) : o.wpIn Fence.wide n P a w X Q := by
  refine ⟨fun _ _ => trivial, ?_⟩
  rw [show Fence.wide.round = none from rfl, Oper.semAt_none]
  unfold Oper.wp at h
  revert h
  generalize (execOp a.eval o).run P w = r
  intro h
  match r, h with
  | .ok (.value v) w', h => exact h
  | .ok .skip w', h => exact h
  | .ok (.defer d) w', h => exact h
  | .ok (.enter f args) w', h => exact ⟨fun e => (by cases e), callsIn_wide.2 h⟩
  | .ok (.row row args) w', h => exact ⟨fun e => (by cases e), fun c cs _ => let ⟨v, w', r, s⟩ := h c cs; ⟨v, w', r, stepsIn_wide.2 s⟩⟩
  | .halt (.panic v) w', h => exact h
variable (P) in
structure OpsK (H : Cfg) (all r : List Oper) (K : KS) (env : Env) (objs : List Ob) (nx : Nat) : Prop where
  h : ∀ {S : Sig} {Q : Exit → Act → World → Prop} {ops : Array Oper}, CsOk P H.cs → H.n = S.n → ops.toList = all → (∀ env objs nx, K env objs nx → Pr P S env objs nx (Q .normal)) → Pr P S env objs nx (wpListIn Fence.wide 0 P ops Q r)
variable (P) in
def opsS (H : Cfg) (all r : List Oper) (K : KS) (env : Env) (objs : List Ob) (nx : Nat) : Prop := match r with
  | [] => K env objs nx
  | o :: r => match or2 (isVal P env o.op) (isSeal P H.vs env o) with
    | true => ValS (OpsK P H all (o :: r) K env objs nx)
    | false => vcGuard all H.n o env (fun env => vcOpT P H.tr H.cs H.n o env objs nx (OpsK P H all r K)) (fun env => OpsK P H all r K env objs nx)
theorem OpsK.unf {H : Cfg} {all r : List Oper} {K : KS} (h : opsS P H all r K env objs nx) : OpsK P H all r K env objs nx := ⟨fun {S Q ops} hcs hn ha hK => by
  match r, h with
  | [], h => exact hK _ _ _ h
  | o :: r, h =>
    simp only [opsS] at h
    split at h
    · exact h.h.h hcs hn ha hK
    subst ha
    rw [hn] at h
    intro σ a w hst
    unfold wpListIn
    rcases guard_sound h hst with ⟨env', h, hst', hw⟩ | ⟨env', h, hst', hw⟩
    · rw [if_pos hw]
      exact Oper.wp_in (vcOpT_sound hcs h σ a w hst' _ _ fun σ' e' o' n' a' w' h1 h2 _ => h1.h hcs hn rfl hK σ' a' w' h2)
    · rw [if_neg (by rw [hw]; simp)]
      exact ⟨fun _ _ => trivial, h.h hcs hn rfl hK σ _ w hst'⟩⟩
/-- A CALL OF A VALUE (of a loop's yield): its contract is at hand -/
def CallsV (P : Program) (v : Value) (args : Array Value) (w : World) (R : Ending → World → Prop) : Prop := ∃ l, v = .func (.yield l) #[] #[] ∧ YieldAt Fence.wide 0 P l args w R
theorem CallsV.mono {v : Value} {args : Array Value} {w : World} {R R' : Ending → World → Prop} (h : CallsV P v args w R) (hr : ∀ e w', R e w' → R' e w') : CallsV P v args w R' := by
  obtain ⟨l, hv, fn, tmps, assign, body, hy, hR⟩ := h
  exact ⟨l, hv, fn, tmps, assign, body, hy, hR.mono hr⟩
theorem OpsK.callY {H : Cfg} {all r : List Oper} {K : KS} {o : Oper} {t : Nat} {as : Array Operand} {ts : Array TypeId} {v : Value} {ss : List SV} {c : Ctr} (hc : c.OkBy P (CallsV P v)) (ho : o.op = .call { callee := .value (.tmp t), args := as, argTypes := ts }) (hg : o.guard = none) (hv : lk env t = some (.val v)) (ha : evs P env as.toList = some ss) (hnt : noTups ss = true)
    (h : callG c H.n o.dst ss env objs nx (OpsK P H all r K)) : OpsK P H all (o :: r) K env objs nx := ⟨fun {S Q ops} hcs hn hall hK σ a w hst => by
  rw [hn] at h
  unfold wpListIn
  rw [if_pos (by simp [Region.wanted, hg])]
  have hev : a.eval (.tmp t) = v := by
    have := hst.slots t _ hv
    simp only [SV.hv, SV.h1, SV.hc, List.cons.injEq, and_true] at this
    exact this.1
  obtain ⟨l, hvl, fn, tmps, assign, body, hy, hR⟩ := callG_core (C := CallsV P v) (fun h k => CallsV.mono h k) hc ha hnt h hst (X := wpListIn Fence.wide 0 P ops Q r) (fun σ' e' o' n' a' w' h1 h2 _ => h1.h hcs hn hall hK σ' a' w' h2)
  subst hvl
  refine ⟨fun _ _ => trivial, ?_⟩
  rw [show Fence.wide.round = none from rfl, Oper.semAt_none]
  have hrun : (execOp a.eval o).run P w = .ok (.round l fn tmps assign body) w := by
    simp only [execOp, ho, resolve, Sem.run_bind, Act.eval] at hev ⊢
    rw [hev]
    simp [Deferred.ofValue, invoke, Result.andThen, hy]
  rw [hrun]
  refine ⟨fun e => (by cases e), hR.mono ?_⟩
  rintro e w' ⟨v, rfl, hx⟩
  exact hx⟩
/-! ## a region that draws its order -/
def kAnd : Bool → Bool → Bool
  | true, b => b
  | false, _ => false
def impB : Bool → Bool → Bool
  | true, b => b
  | false, _ => true
/-! loads behind effects: of what stood at the region's head -/
def nmS : SV → Option Nat
  | .ptr k _ => some k
  | .rptr k _ _ _ => some k
  | .cptr k _ _ => some k
  | _ => none
def flatS : SV → Bool
  | .bool _ => true
  | .dec _ _ => true
  | .int _ _ => true
  | .u8 _ => true
  | .u16 _ => true
  | .u32 _ => true
  | .u64 _ => true
  | .str _ => true
  | .nilp => true
  | .nils => true
  | .nilm => true
  | .val _ => true
  | .nilf => true
  | .fn _ => true
  | .arr8 _ => true
  | .arr32 _ => true
  | _ => false
def flatL : List SV → Bool
  | [] => true
  | s :: r => match flatS s with
    | true => flatL r
    | false => false
def flatV : SV → Bool
  | .agg ps => flatL ps
  | s => flatS s
theorem flatS_hc {s : SV} (h : flatS s = true) {w w' : World} {A A' : Own} {σ σ' : Sg} {cs : List Value} (hc : s.hc w A σ cs) : s.hc w' A' σ' cs := by
  cases s <;> first | (simp [flatS] at h; done) | (simp only [SV.hc] at hc ⊢; exact hc)
theorem flatL_hL {w w' : World} {A A' : Own} {σ σ' : Sg} : ∀ {l : List SV}, flatL l = true → ∀ {cs : List Value}, hL w A l σ cs → hL w' A' l σ' cs
  | [], _, cs, hc => by simp only [hL] at hc ⊢; exact hc
  | s :: r, h, cs, hc => by
    simp only [hL] at hc ⊢
    unfold flatL at h
    split at h
    · rename_i hs
      obtain ⟨a, b, h1, h2, h3⟩ := hc
      exact ⟨a, b, h1, flatS_hc hs h2, flatL_hL h h3⟩
    · cases h
theorem flatV_hv {s : SV} (h : flatV s = true) {w w' : World} {A A' : Own} {σ σ' : Sg} {v : Value} (hc : s.hv w A σ v) : s.hv w' A' σ' v := by
  cases s with
  | agg ps => obtain ⟨cs, h1, h2⟩ := hc; exact ⟨cs, h1, flatL_hL h h2⟩
  | tup vs => simp [flatV, flatS] at h
  | undef => trivial
  | _ =>
    simp only [flatV] at h
    simp only [SV.hv, SV.h1] at hc ⊢
    exact flatS_hc h hc
variable (P) in
def evLd2 (env : Env) (o0 : List Ob) (op : Op) (K : SV → Prop) : Prop := match op with
  | .load T (.tmp t) => match lk env t with
    | some s => match nmS s with
      | some k => match lk o0 k with
        | some (.ab _) => False
        | some _ => evLoad P o0 T s fun v => match flatV v with
          | true => K v
          | false => False
        | none => False
      | none => False
    | none => False
  | _ => False
theorem evLd2_sound {o0 : List Ob} {K : SV → Prop} (h : evLd2 P env o0 o.op K) {e0 : Env} {a0 : Act} {w0 : World} (hst0 : St P S S.s0 e0 o0 S.nn a0 w0) (hst : St P S σ env objs nx a w) :
    ∃ s v, K s ∧ s.hv w (S.A σ objs) σ v ∧ ∀ w', Kept w0 w' → (execOp a.eval o).run P w' = .ok (.value v) w' := by
  unfold evLd2 at h
  split at h
  · rename_i T t hop
    split at h
    · rename_i s hs
      split at h
      · rename_i k hk
        have main : ∀ so, lk o0 k = some so → (∀ a, so ≠ .ab a) → (evLoad P o0 T s fun v => match flatV v with
          | true => K v
          | false => False) → ∃ s v, K s ∧ s.hv w (S.A σ objs) σ v ∧ ∀ w', Kept w0 w' → (execOp a.eval o).run P w' = .ok (.value v) w' := by
          intro so hso hab hl
          have hnm : ∃ v, S.s0 k = some v := by
            rcases (lk_holds hst0 hso).named with ⟨a, e⟩ | h
            · exact absurd e (hab a)
            · exact h
          obtain ⟨v0, hv0⟩ := hnm
          have hkn : k < S.nn := by
            rcases Nat.lt_or_ge k S.nn with h | h
            · exact h
            · rw [hst0.dom k h] at hv0; cases hv0
          have hb : ∀ v, σ k = some v → S.s0 k = some v := hst.base k hkn
          have hsv : s.hv w0 (S.A S.s0 o0) S.s0 (a.tmps.getD t undef) := by
            have h1 := hst.slots t s hs
            cases s <;> simp only [nmS, reduceCtorEq, Option.some.injEq] at hk <;> subst hk <;> simp only [SV.hv, SV.h1, SV.hc] at h1 ⊢
            · obtain ⟨b, c, h1, h2⟩ := h1; exact ⟨b, c, hb _ h1, h2⟩
            · obtain ⟨g, l, c, h1, h2⟩ := h1; exact ⟨g, l, c, hb _ h1, h2⟩
            · obtain ⟨b, c, h1, h2⟩ := h1; exact ⟨b, c, hb _ h1, h2⟩
          have hst' : St P S S.s0 [(t, s)] o0 S.nn a w0 := { hst0 with
            slots := fun t' s' h' => by
              unfold lk at h'
              split at h'
              · rename_i he
                obtain rfl := Nat.eq_of_beq_eq_true he
                cases h'; exact hsv
              · cases h'
            size := hst.size, defers := hst.defers }
          obtain ⟨s', v, h1, h2, h3⟩ := evLoad_sound (S := S) (nx := S.nn) (env := [(t, s)]) (x := .tmp t) hop (by simp [evx, lk, Nat.beq_refl]) hl S.s0 a w0 hst'
          split at h1
          · rename_i hf
            exact ⟨s', v, h1, flatV_hv hf h2, h3⟩
          · exact h1.elim
        split at h
        · exact h.elim
        · rename_i so hab hso
          exact main so hso (fun a e => hab a e) h
        · exact h.elim
      · exact h.elim
    · exact h.elim
  · exact h.elim
/-! what a region may write: the boxes of some names -/
def isOwnSO : SO → Bool
  | .box _ _ => true
  | .row _ _ _ _ => true
  | .lits _ _ _ => true
  | _ => false
/-- the same, or a map -/
def isOwnM : SO → Bool
  | .box _ _ => true
  | .row _ _ _ _ => true
  | .lits _ _ _ => true
  | .mp _ _ _ _ _ _ => true
  | _ => false
theorem isOwnM_of {so : SO} (h : isOwnSO so = true) : isOwnM so = true := by cases so <;> first | rfl | cases h
def nOk (o0 : List Ob) : List Nat → Bool
  | [] => true
  | j :: r => match lk o0 j with
    | some so => match isOwnM so with
      | true => nOk o0 r
      | false => false
    | none => false
def MN (σ : Sg) (N : List Nat) : Own := fun b => ∃ k v, memB N k = true ∧ σ k = some v ∧ blkO v = some b
theorem own_blkO {so : SO} {k b : Nat} (h : isOwnM so = true) : so.own σ k b ↔ ∃ v, σ k = some v ∧ blkO v = some b := by
  cases so <;> first | (simp [isOwnM] at h; done) | exact Iff.rfl
theorem own_cells {so : SO} {k b : Nat} {A : Own} {v : Value} (h : isOwnSO so = true) (hh : so.holds w A σ k) (hv : σ k = some v) (hb : blkO v = some b) : b < w.heap.size ∧ ∃ C T fr, w.heap[b]? = some (.cells C T fr) := by
  refine ⟨SO.own_lt hh b ((own_blkO (isOwnM_of h)).2 ⟨v, hv, hb⟩), ?_⟩
  have row : ∀ {e z els}, rowH w A σ k e z els → ∃ C T fr, w.heap[b]? = some (.cells C T fr) := by
    rintro e z els ⟨u, cs, h1, _, _, _, ho⟩
    rw [hv] at h1; cases h1
    rcases ho.2 with ⟨rfl, _⟩ | ⟨g, cap, cur, rfl, _, hg, _⟩
    · cases hb
    · cases hb; exact ⟨_, _, _, hg⟩
  cases so with
  | box T ps =>
    obtain ⟨c, cs, h1, h2, _⟩ := hh
    rw [hv] at h1; cases h1; cases hb; exact ⟨_, _, _, h2⟩
  | row e z enc xs => exact row hh
  | lits e z els => exact row hh
  | _ => simp [isOwnSO] at h
theorem nOk_spec {o0 : List Ob} : ∀ {N : List Nat}, nOk o0 N = true → ∀ k, memB N k = true → ∃ so, lk o0 k = some so ∧ isOwnM so = true
  | [], _, k, h => by simp [memB] at h
  | j :: r, h, k, hk => by
    unfold nOk at h
    split at h
    · rename_i so hso
      split at h
      · rename_i ho
        unfold memB at hk
        split at hk
        · rename_i hb
          obtain rfl := Nat.eq_of_beq_eq_true hb
          exact ⟨so, hso, ho⟩
        · exact nOk_spec h k hk
      · cases h
    · cases h
theorem Disj_lk : ∀ {l : List Ob} {j k b : Nat} {so so' : SO}, Disj σ l → lk l j = some so → lk l k = some so' → j ≠ k → so.own σ j b → ¬ so'.own σ k b
  | [], _, _, _, _, _, _, h, _, _, _ => by simp [lk] at h
  | (i, u) :: r, j, k, b, so, so', hd, h1, h2, hne, ho => by
    intro ho'
    unfold lk at h1 h2
    split at h1
    · rename_i hb1
      obtain rfl := Nat.eq_of_beq_eq_true hb1
      cases h1
      split at h2
      · rename_i hb2
        exact hne (Nat.eq_of_beq_eq_true hb2)
      · exact hd.1 b ho (owns_mem (lk_mem h2) ho')
    · split at h2
      · rename_i hb2
        obtain rfl := Nat.eq_of_beq_eq_true hb2
        cases h2
        exact hd.1 b ho' (owns_mem (lk_mem h1) ho)
      · exact Disj_lk hd.2 h1 h2 hne ho ho'
theorem name_lt {e0 : Env} {o0 : List Ob} {a0 : Act} {w0 : World} (hst0 : St P S S.s0 e0 o0 S.nn a0 w0) {k : Nat} {v : Value} (h : S.s0 k = some v) : k < S.nn := by
  rcases Nat.lt_or_ge k S.nn with h1 | h1
  · exact h1
  · rw [hst0.dom k h1] at h; cases h
/-- the block that an address of a name is in -/
theorem nm_block {s : SV} {k : Nat} {v : Value} {A : Own} (hk : nmS s = some k) (h : s.hv w A σ v) : ∃ b off u, v = .pointer (some ⟨b, off, none⟩) ∧ σ k = some u ∧ blkO u = some b := by
  cases s <;> simp only [nmS, reduceCtorEq, Option.some.injEq] at hk <;> subst hk <;> simp only [SV.hv, SV.h1, SV.hc, List.cons.injEq, and_true] at h
  · obtain ⟨b, c, h1, h2⟩ := h; exact ⟨b, _, _, h2, h1, rfl⟩
  · obtain ⟨g, l, c, h1, h2⟩ := h; exact ⟨g, _, _, h2, h1, rfl⟩
  · obtain ⟨b, c, h1, h2⟩ := h; exact ⟨b, _, _, h2, h1, rfl⟩
variable (P) in
/-- is what is loaded none of what may be written? -/
def ldSep (env : Env) (o0 : List Ob) (N : List Nat) (op : Op) : Bool := match N with
  | [] => true
  | _ :: _ => match op with
    | .load T (.tmp t) => match ty P T, lk env t with
      | some _, some s => match nmS s with
        | some k => match memB N k, lk o0 k with
          | false, some so => isOwnSO so
          | _, _ => false
        | none => false
      | _, _ => false
    | _ => false
theorem ldSep_sound {o0 : List Ob} {N : List Nat} (h : ldSep P env o0 N o.op = true) (hN : nOk o0 N = true) {e0 : Env} {a0 : Act} {w0 : World} (hst0 : St P S S.s0 e0 o0 S.nn a0 w0) (hst : St P S σ env objs nx a w) {v : Value}
    (hr : ∀ w', Kept w0 w' → (execOp a.eval o).run P w' = .ok (.value v) w') : ∀ w', Mod (MN S.s0 N) w0 w' → (execOp a.eval o).run P w' = .ok (.value v) w' := by
  intro w' hm
  unfold ldSep at h
  split at h
  · exact hr w' (hm.mono fun b ⟨k, v, hk, _⟩ => by simp [memB] at hk)
  · split at h
    · rename_i T t hop
      split at h
      · rename_i i s hty hs
        split at h
        · rename_i k hk
          split at h
          · rename_i so hmem hso
            obtain ⟨b, off, u, h1, h2, h3⟩ := nm_block hk (hst.slots t s hs)
            have hnamed : ∃ v, S.s0 k = some v := by
              rcases (lk_holds hst0 hso).named with ⟨a, e⟩ | h'
              · subst e; simp [isOwnSO] at h
              · exact h'
            obtain ⟨u', hu'⟩ := hnamed
            have hb0 := hst.base k (name_lt hst0 hu') u h2
            obtain ⟨hlt, C, T', fr, hc⟩ := own_cells h (lk_holds hst0 hso) hb0 h3
            refine loadOp_same hop hty h1 hc ((hm.block b hlt ?_).trans hc) (hr w0 (Mod.refl _ _))
            · rintro ⟨j, vj, hj, hvj, hbj⟩
              obtain ⟨so', hso', ho'⟩ := nOk_spec hN j hj
              have hne : j ≠ k := fun e => by subst e; rw [hmem] at hj; cases hj
              exact Disj_lk hst0.obs.disj hso' hso hne ((own_blkO ho').2 ⟨vj, hvj, hbj⟩) ((own_blkO (isOwnM_of h)).2 ⟨u, hb0, h3⟩)
          · cases h
        · cases h
      · cases h
    · cases h
/-- is all that was own at the region's head still there? -/
def oldOk (objs : List Ob) : List Ob → Bool
  | [] => true
  | (j, so) :: r => match isOwnM so with
    | true => match lk objs j with
      | some so' => match isOwnM so' with
        | true => oldOk objs r
        | false => false
      | none => false
    | false => false
theorem oldOk_spec {objs : List Ob} : ∀ {o0 : List Ob}, oldOk objs o0 = true → ∀ j so, (j, so) ∈ o0 → isOwnM so = true ∧ ∃ so', lk objs j = some so' ∧ isOwnM so' = true
  | [], _, _, _, h => by cases h
  | (i, u) :: r, h, j, so, hm => by
    unfold oldOk at h
    split at h
    · rename_i h1
      split at h
      · rename_i so' h2
        split at h
        · rename_i h3
          rcases List.mem_cons.1 hm with e | e
          · cases e; exact ⟨h1, so', h2, h3⟩
          · exact oldOk_spec h j so e
        · cases h
      · cases h
    · cases h
theorem lk_of_mem {α : Type _} : ∀ {l : List (Nat × α)} {j : Nat} {x : α}, (j, x) ∈ l → lk l j ≠ none
  | [], _, _, h => by cases h
  | (i, u) :: r, j, x, h => by
    unfold lk
    split
    · simp
    · rename_i hb
      rcases List.mem_cons.1 h with e | e
      · cases e; simp at hb
      · exact lk_of_mem e
theorem owns_ex : ∀ {l : List Ob} {b : Nat}, owns σ l b → ∃ j so, (j, so) ∈ l ∧ so.own σ j b
  | [], _, h => h.elim
  | (i, u) :: r, b, h => by
    rcases h with h | h
    · exact ⟨i, u, List.mem_cons_self, h⟩
    · obtain ⟨j, so, h1, h2⟩ := owns_ex h
      exact ⟨j, so, List.mem_cons_of_mem _ h1, h2⟩
/-- what is own and has a new name is new -/
theorem fresh_own {o0 : List Ob} {e0 : Env} {a0 : Act} {w0 : World} (hst0 : St P S S.s0 e0 o0 S.nn a0 w0) (hS : S.w0 = w0 ∧ ∀ b, S.M0 b → owns S.s0 o0 b) (hst : St P S σ env objs nx a w) {k b : Nat} {so : SO} (hso : lk objs k = some so) (hno : lk o0 k = none) (hold : oldOk objs o0 = true) (ho : so.own σ k b) : w0.heap.size ≤ b := by
  rcases hst.own0 b (owns_mem (lk_mem hso) ho) with h | h
  · obtain ⟨j, so0, hj, hjb⟩ := owns_ex (hS.2 b h)
    obtain ⟨h1, so', h2, h3⟩ := oldOk_spec hold j so0 hj
    obtain ⟨v, hv, hvb⟩ := (own_blkO h1).1 hjb
    have hne : j ≠ k := fun e => by subst e; exact lk_of_mem hj hno
    have hnamed : ∃ v, σ j = some v := by
      rcases (lk_holds hst h2).named with ⟨a, e⟩ | h'
      · subst e; simp [isOwnM] at h3
      · exact h'
    obtain ⟨v', hv'⟩ := hnamed
    have := hst.base j (name_lt hst0 hv) v' hv'
    rw [hv] at this; cases this
    exact absurd ho (Disj_lk hst.obs.disj h2 hso hne ((own_blkO h3).2 ⟨v, hv', hvb⟩))
  · rw [hS.1] at h; exact h
variable (P) in
/-- does it write only what may be written? -/
def stN (env : Env) (o0 objs : List Ob) (N : List Nat) (op : Op) : Bool := match op with
  | .store T (.tmp t) _ => match ty P T, lk env t with
    | some _, some s => match nmS s with
      | some k => match lk objs k with
        | some so => match isOwnSO so with
          | true => match memB N k with
            | true => true
            | false => match lk o0 k with
              | none => oldOk objs o0
              | some _ => false
          | false => false
        | none => false
      | none => false
    | _, _ => false
  | _ => false
theorem stN_sound {o0 : List Ob} {N : List Nat} (h : stN P env o0 objs N o.op = true) (hN : nOk o0 N = true) {e0 : Env} {a0 : Act} {w0 : World} (hst0 : St P S S.s0 e0 o0 S.nn a0 w0) (hS : S.w0 = w0 ∧ ∀ b, S.M0 b → owns S.s0 o0 b) (hst : St P S σ env objs nx a w) (hmod : Mod (MN S.s0 N) w0 w) {X : Act → World → Prop} {Q : Exit → Act → World → Prop}
    (hX : o.wp P a w X Q) : o.wp P a w (fun a' w' => X a' w' ∧ Mod (MN S.s0 N) w0 w') Q := by
  unfold stN at h
  split at h
  · rename_i T t y hop
    split at h
    · rename_i i s hty hs
      split at h
      · rename_i k hk
        split at h
        · rename_i so hso
          split at h
          · rename_i hown
            obtain ⟨b, off, u, h1, h2, h3⟩ := nm_block hk (hst.slots t s hs)
            obtain ⟨hlt, C, T', fr, hc⟩ := own_cells hown (lk_holds hst hso) h2 h3
            refine Oper.wp_mono (fun a' w' h' => ⟨h'.1, hmod.step h'.2 fun c hc => ?_⟩) (storeOp_mod (P := P) hop hty h1 hc hX)
            subst hc
            split at h
            · rename_i hmem
              left
              obtain ⟨so', hso', ho'⟩ := nOk_spec hN k hmem
              have hnamed : ∃ v, S.s0 k = some v := by
                rcases (lk_holds hst0 hso').named with ⟨a, e⟩ | h'
                · subst e; simp [isOwnM] at ho'
                · exact h'
              obtain ⟨u', hu'⟩ := hnamed
              exact ⟨k, u, hmem, hst.base k (name_lt hst0 hu') u h2, h3⟩
            · split at h
              · rename_i hno
                exact .inr (fresh_own hst0 hS hst hso hno h ((own_blkO (isOwnM_of hown)).2 ⟨u, h2, h3⟩))
              · cases h
          · cases h
        · cases h
      · cases h
    · cases h
  · cases h
def orB : Bool → Bool → Bool
  | true, _ => true
  | false, b => b
variable (P) in
structure OrdK (H : Cfg) (all : List Oper) (o0 : List Ob) (N : List Nat) (r : Ord) (ph k : Bool) (K : KS) (env : Env) (objs : List Ob) (nx : Nat) : Prop where
  h : ∀ {S : Sig} {Q : Exit → Act → World → Prop} {ops : Array Oper}, CsOk P H.cs → H.n = S.n → ops.toList = all → nOk o0 N = true → (∀ env objs nx, K env objs nx → Pr P S env objs nx (Q .normal)) →
    ∀ σ a w w0 e0 a0, St P S S.s0 e0 o0 S.nn a0 w0 → (S.w0 = w0 ∧ ∀ b, S.M0 b → owns S.s0 o0 b) → St P S σ env objs nx a w → (ph = true → w = w0) → (k = true → Mod (MN S.s0 N) w0 w) → wpTree P ops Q (fun w' => Mod (MN S.s0 N) w0 w') r a w
/-- all that is taken bears one of these names -/
def inN (N : List Nat) : List Ob → Bool
  | [] => true
  | (k, so) :: r => match isOwnM so with
    | true => match memB N k with
      | true => inN N r
      | false => false
    | false => false
theorem inN_own {N : List Nat} {σ2 : Sg} : ∀ {tk : List Ob}, inN N tk = true → ∀ b, owns σ2 tk b → ∃ k v, memB N k = true ∧ σ2 k = some v ∧ blkO v = some b
  | [], _, b, hb => hb.elim
  | (k, so) :: r, h, b, hb => by
    unfold inN at h
    split at h
    · rename_i ho
      split at h
      · rename_i hm
        rcases hb with hb | hb
        · obtain ⟨v, h1, h2⟩ := (own_blkO ho).1 hb
          exact ⟨k, v, hm, h1, h2⟩
        · exact inN_own h b hb
      · cases h
    · cases h
variable (P) in
/-- a call that turns none but some names' blocks -/
def loudN (cs : List (Nat × Ctr)) (n : Nat) (N : List Nat) (o : Oper) (env : Env) (objs : List Ob) (nx : Nat) (K : KS) : Prop := match o.op with
  | .call c => match c with
    | { callee := .value (.func f), args := as, argTypes := _ } => match nth (TabC.cl P) f, evs P env as.toList with
      | some true, some ss => match noTups ss with
        | true => callsN (inN N) cs f n o.dst ss env objs nx K
        | false => False
      | _, _ => False
    | _ => False
  | _ => False
variable (P) in
def loudS (H : Cfg) (all : List Oper) (o0 : List Ob) (N : List Nat) (o : Oper) (need : Bool) (r : Ord) (ph k : Bool) (K : KS) (env : Env) (objs : List Ob) (nx : Nat) : Prop := vcGuard all H.n o env (fun env => match kAnd k (orB (keptB H.cs o.op) (stN P env o0 objs N o.op)) with
  | true => vcEff P H.cs H.n o env objs nx (OrdK P H all o0 N r false true K)
  | false => match need with
    | true => match k with
      | true => loudN P H.cs H.n N o env objs nx (OrdK P H all o0 N r false true K)
      | false => False
    | false => vcEff P H.cs H.n o env objs nx (OrdK P H all o0 N r false false K)) (fun env => match impB need k with
    | true => OrdK P H all o0 N r ph k K env objs nx
    | false => False)
/-- both are owed -/
structure Both (p q : Prop) : Prop where
  l : p
  r : q
variable (P) in
def ordS (H : Cfg) (all : List Oper) (o0 : List Ob) (N : List Nat) (r : Ord) (ph k : Bool) (K : KS) (env : Env) (objs : List Ob) (nx : Nat) : Prop := match r with
  | .nil => K env objs nx
  | .one i kind need r => match opAt all i with
    | none => False
    | some o => match isSeal P H.vs env o with
      | true => ValS (OrdK P H all o0 N (.one i kind need r) ph k K env objs nx)
      | false => match kind with
      | 0 => vcGuard all H.n o env (fun env => dstK H.n o.dst fun d => evSl P env objs nx o.op fun s objs nx => OrdK P H all o0 N r ph k K ((d, s) :: env) objs nx) (fun env => OrdK P H all o0 N r ph k K env objs nx)
      | 1 => vcGuard all H.n o env (fun env => match ldSep P env o0 N o.op with
        | true => match ph with
          | true => dstK H.n o.dst fun d => evLd P env objs o.op fun s => OrdK P H all o0 N r true k K ((d, s) :: env) objs nx
          | false => dstK H.n o.dst fun d => evLd2 P env o0 o.op fun s => OrdK P H all o0 N r false k K ((d, s) :: env) objs nx
        | false => False) (fun env => OrdK P H all o0 N r ph k K env objs nx)
      | _ => loudS P H all o0 N o need r ph k K env objs nx
  | .alt i need r t => match opAt all i with
    | none => False
    | some o => Both (loudS P H all o0 N o need r ph k K env objs nx) (OrdK P H all o0 N t ph k K env objs nx)
theorem loudS_sound {H : Cfg} {o0 : List Ob} {N : List Nat} {o : Oper} {need : Bool} {r : Ord} {ph k : Bool} {K : KS} {Q : Exit → Act → World → Prop} {ops : Array Oper} {i : Nat} (h : loudS P H ops.toList o0 N o need r ph k K env objs nx) (ho : opAt ops.toList i = some o) (hcs : CsOk P H.cs) (hn : H.n = S.n) (hN : nOk o0 N = true)
    (hK : ∀ env objs nx, K env objs nx → Pr P S env objs nx (Q .normal)) {w0 : World} {e0 : Env} {a0 : Act} (hst0 : St P S S.s0 e0 o0 S.nn a0 w0) (hS : S.w0 = w0 ∧ ∀ b, S.M0 b → owns S.s0 o0 b) (hst : St P S σ env objs nx a w) (hph : ph = true → w = w0) (hk : k = true → Mod (MN S.s0 N) w0 w) :
    wpTree P ops Q (fun w' => Mod (MN S.s0 N) w0 w') (.one i 2 need r) a w := by
  unfold loudS at h
  rw [hn] at h
  obtain h0 := guard_sound h hst
  clear h
  rcases h0 with ⟨env', h, hst', hw⟩ | ⟨env', h, hst', hw⟩
  · refine tree_loud ho hw fun X hX => ?_
    have plain : ∀ k2 : Bool, vcEff P H.cs S.n o env' objs nx (OrdK P H ops.toList o0 N r false k2 K) → (need = true → k2 = true) → (k2 = true → k = true ∧ keptB H.cs o.op = true) → o.wp P a w X Q := by
      intro k2 h hk1 hk2
      refine vcEff_sound hcs h σ a w hst' X Q fun σ' e' o' n' a' w' h1 h2 h3 => hX _ _ ⟨fun hn => ?_, ?_⟩
      · obtain ⟨e1, e2⟩ := hk2 (hk1 hn)
        exact (hk e1).trans ((h3 e2).mono fun _ x => x.elim)
      · refine h1.h hcs hn rfl hN hK σ' a' w' w0 e0 a0 hst0 hS h2 (fun e => by cases e) (fun e => ?_)
        obtain ⟨e1, e2⟩ := hk2 e
        exact (hk e1).trans ((h3 e2).mono fun _ x => x.elim)
    split at h
    · rename_i hkk
      have hkt : k = true := by cases k <;> simp [kAnd] at hkk ⊢
      subst hkt
      cases hkp : keptB H.cs o.op with
      | true => exact plain true h (fun _ => rfl) (fun _ => ⟨rfl, hkp⟩)
      | false =>
        have hs : stN P env' o0 objs N o.op = true := by simpa [kAnd, hkp, orB] using hkk
        have hwp := stN_sound hs hN hst0 hS hst' (hk rfl) (vcEff_sound hcs h σ a w hst' (fun a' w' => ∃ σ' e' o' n', OrdK P H ops.toList o0 N r false true K e' o' n' ∧ St P S σ' e' o' n' a' w') Q fun σ' e' o' n' a' w' h1 h2 _ => ⟨σ', e', o', n', h1, h2⟩)
        refine Oper.wp_mono (fun a' w' h' => ?_) hwp
        obtain ⟨⟨σ', e', o', n', h1, h2⟩, h3⟩ := h'
        have hmm := h3
        exact hX _ _ ⟨fun _ => hmm, h1.h hcs hn rfl hN hK σ' a' w' w0 e0 a0 hst0 hS h2 (fun e => by cases e) (fun _ => hmm)⟩
    · cases need with
      | true =>
        cases k with
        | false => exact h.elim
        | true =>
        simp only at h
        unfold loudN at h
        split at h
        · rename_i c hop
          split at h
          · split at h
            · rename_i hf ha
              split at h
              · rename_i hnt
                refine callsN_sound hop hf ha hnt hcs h X Q σ a w hst' fun σ' e' o' n' a' w' h1 h2 hx => ?_
                obtain ⟨σ2, tk, hin, hm, hb⟩ := hx
                have hmm : Mod (MN S.s0 N) w0 w' := (hk rfl).step hm fun b hbb => .inl (by
                  obtain ⟨k, v, hk1, hk2, hk3⟩ := inN_own hin b hbb
                  obtain ⟨so', hso', ho'⟩ := nOk_spec hN k hk1
                  have hnamed : ∃ v, S.s0 k = some v := by
                    rcases (lk_holds hst0 hso').named with ⟨a, e⟩ | h'
                    · subst e; simp [isOwnM] at ho'
                    · exact h'
                  obtain ⟨u', hu'⟩ := hnamed
                  exact ⟨k, v, hk1, hb k (name_lt hst0 hu') v hk2, hk3⟩)
                exact hX _ _ ⟨fun _ => hmm, h1.h hcs hn rfl hN hK σ' a' w' w0 e0 a0 hst0 hS h2 (fun e => by cases e) (fun _ => hmm)⟩
              · exact h.elim
            · exact h.elim
          · exact h.elim
        · exact h.elim
      | false => exact plain false h (fun e => by cases e) (fun e => by cases e)
  · split at h
    · exact tree_skip ho hw (h.h hcs hn rfl hN hK σ _ w w0 e0 a0 hst0 hS hst' hph hk)
    · exact h.elim
theorem OrdK.unf {H : Cfg} {all : List Oper} {o0 : List Ob} {N : List Nat} {r : Ord} {ph k : Bool} {K : KS} (h : ordS P H all o0 N r ph k K env objs nx) : OrdK P H all o0 N r ph k K env objs nx := ⟨fun {S Q ops} hcs hn ha hN hK => by
  subst ha
  match r, h with
  | .nil, h => exact fun σ a w w0 e0 a0 hst0 _ hst _ _ => hK _ _ _ h σ a w hst
  | .one i kind need r, h =>
    simp only [ordS] at h
    intro σ a w w0 e0 a0 hst0 hS hst hph hk
    split at h
    · exact h.elim
    · rename_i o ho
      split at h
      · exact h.h.h hcs hn rfl hN hK σ a w w0 e0 a0 hst0 hS hst hph hk
      split at h
      · rw [hn] at h
        rcases guard_sound h hst with ⟨env', h, hst', hw⟩ | ⟨env', h, hst', hw⟩
        · obtain ⟨d, hd, hlt, h⟩ := dstK_spec h
          obtain ⟨s, v, σ', o', n', h1, h2, h3, h4⟩ := evSl_sound (P := P) (S := S) h σ a w hst'
          refine tree_pure ho hw h4 ?_
          rw [hd]
          exact h1.h hcs hn rfl hN hK σ' _ w w0 e0 a0 hst0 hS (h2.put hlt h3) hph hk
        · exact tree_skip ho hw (h.h hcs hn rfl hN hK σ _ w w0 e0 a0 hst0 hS hst' hph hk)
      · rw [hn] at h
        rcases guard_sound h hst with ⟨env', h, hst', hw⟩ | ⟨env', h, hst', hw⟩
        · split at h
          · rename_i hsep
            split at h
            · obtain ⟨d, hd, hlt, h⟩ := dstK_spec h
              obtain ⟨s, v, h1, h2, h3⟩ := evLd_sound (P := P) (S := S) (nx := nx) h σ a w hst'
              have hww := hph rfl
              subst hww
              refine tree_load ho hw (ldSep_sound hsep hN hst0 hst' h3) ?_
              rw [hd]
              exact h1.h hcs hn rfl hN hK σ _ w w e0 a0 hst0 hS (hst'.put hlt h2) (fun _ => rfl) hk
            · obtain ⟨d, hd, hlt, h⟩ := dstK_spec h
              obtain ⟨s, v, h1, h2, h3⟩ := evLd2_sound (P := P) (S := S) h hst0 hst'
              refine tree_load ho hw (ldSep_sound hsep hN hst0 hst' h3) ?_
              rw [hd]
              exact h1.h hcs hn rfl hN hK σ _ w w0 e0 a0 hst0 hS (hst'.put hlt h2) (fun e => by cases e) hk
          · exact h.elim
        · exact tree_skip ho hw (h.h hcs hn rfl hN hK σ _ w w0 e0 a0 hst0 hS hst' hph hk)
      · rename_i hk0 hk1
        have h2 := loudS_sound (Q := Q) h ho hcs hn hN hK hst0 hS hst hph hk
        match kind, h2, hk0, hk1 with
        | 0, _, hk0, _ => exact absurd rfl hk0
        | 1, _, _, hk1 => exact absurd rfl hk1
        | m + 2, h2, _, _ => exact h2
  | .alt i need r t, h =>
    simp only [ordS] at h
    intro σ a w w0 e0 a0 hst0 hS hst hph hk
    split at h
    · exact h.elim
    · rename_i o ho
      exact tree_alt (loudS_sound (Q := Q) h.l ho hcs hn hN hK hst0 hS hst hph hk) (h.r.h hcs hn rfl hN hK σ a w w0 e0 a0 hst0 hS hst hph hk)⟩
end
end Go.Proofs.YtdflndjlnkoliaaGreatDoor

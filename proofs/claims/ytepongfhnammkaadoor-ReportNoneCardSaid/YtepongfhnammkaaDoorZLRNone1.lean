import Derived.Test.YtepongfhnammkaaDoorFn
import Derived.Test.YtepongfhnammkaaDoorTab
import Derived.Shelf.Strings.OnBuilder
import Derived.Shelf.Strconv.Itoa4
import Derived.Lib.Builder
import Derived.Lib.UnsafeStr
import Derived.Shelf.RegionOpenPlain
/- the shelf's contracts laid at this seat (printed by tools/shelf.py) -/
namespace Go.Proofs.YtepongfhnammkaaDoor
set_option linter.all false
open Go.Shelf Go.RowKit
def lays156_ren : Go.Shelf.Ren := ⟨fun | 156 => 40 | 165 => 60 | 166 => 39 | 169 => 17 | 240 => 59 | 241 => 71 | 276 => 70 | 277 => 82 | n => n, fun | 31 => 67 | 9 => 9 | 3 => 3 | 4 => 4 | 0 => 0 | 20 => 20 | 72 => 48 | 76 => 113 | 70 => 46 | 37 => 40 | 75 => 112 | 127 => 118 | 164 => 178 | 5 => 5 | 80 => 58 | n => n, fun | n => n⟩
theorem lays156 : Go.Proofs.Lays.n156 Tryd.prog lays156_ren := {
  mixed := by kernel_rfl
  f156 := Tryd.func40.trans (congrArg some (by kernel_rfl))
  f165 := Tryd.func60.trans (congrArg some (by kernel_rfl))
  f166 := Tryd.func39.trans (congrArg some (by kernel_rfl))
  f169 := Tryd.func17.trans (congrArg some (by kernel_rfl))
  f240 := Tryd.func59.trans (congrArg some (by kernel_rfl))
  f241 := Tryd.func71.trans (congrArg some (by kernel_rfl))
  f276 := Tryd.func70.trans (congrArg some (by kernel_rfl))
  f277 := Tryd.func82.trans (congrArg some (by kernel_rfl))
  t0 := Tryd.underlying0
  a0 := Tryd.isAgg0
  z0 := Tryd.sizeOf0
  v0 := Tryd.zeroValue0
  t3 := Tryd.underlying3
  a3 := Tryd.isAgg3
  z3 := Tryd.sizeOf3
  v3 := Tryd.zeroValue3
  t4 := Tryd.underlying4
  a4 := Tryd.isAgg4
  z4 := Tryd.sizeOf4
  v4 := Tryd.zeroValue4
  t9 := Tryd.underlying9
  a9 := Tryd.isAgg9
  z9 := Tryd.sizeOf9
  v9 := Tryd.zeroValue9
  t20 := Tryd.underlying20
  a20 := Tryd.isAgg20
  z20 := Tryd.sizeOf20
  v20 := Tryd.zeroValue20
  t31 := Tryd.underlying67
  a31 := Tryd.isAgg67
  z31 := Tryd.sizeOf67
  v31 := Tryd.zeroValue67
  t37 := Tryd.underlying40
  a37 := Tryd.isAgg40
  z37 := Tryd.sizeOf40
  v37 := Tryd.zeroValue40
  t70 := Tryd.underlying46
  a70 := Tryd.isAgg46
  z70 := Tryd.sizeOf46
  v70 := Tryd.zeroValue46
  t72 := Tryd.underlying48
  a72 := Tryd.isAgg48
  z72 := Tryd.sizeOf48
  v72 := Tryd.zeroValue48
  t75 := Tryd.underlying112
  a75 := Tryd.isAgg112
  z75 := Tryd.sizeOf112
  v75 := Tryd.zeroValue112
  t76 := Tryd.underlying113
  a76 := Tryd.isAgg113
  z76 := Tryd.sizeOf113
  v76 := Tryd.zeroValue113
  t127 := Tryd.underlying118
  a127 := Tryd.isAgg118
  z127 := Tryd.sizeOf118
  v127 := Tryd.zeroValue118
  t164 := Tryd.underlying178
  a164 := Tryd.isAgg178
  z164 := Tryd.sizeOf178
  v164 := Tryd.zeroValue178 }

def lays173_ren : Go.Shelf.Ren := ⟨fun | 173 => 38 | 246 => 58 | 283 => 66 | 284 => 67 | 285 => 68 | 286 => 69 | 129 => 78 | 317 => 77 | 318 => 79 | 319 => 80 | 320 => 81 | 337 => 91 | 338 => 92 | n => n, fun | 2 => 2 | 3 => 3 | 9 => 9 | 4 => 4 | 171 => 172 | 0 => 0 | 53 => 173 | 37 => 40 | 5 => 5 | 173 => 176 | 212 => 185 | 51 => 186 | 20 => 20 | 213 => 187 | 46 => 117 | 232 => 88 | 233 => 197 | n => n, fun | 17 => 1 | 18 => 3 | 19 => 4 | n => n⟩
theorem lays173 : Go.Proofs.LaysM.n173 Tryd.prog lays173_ren := {
  mixed := by kernel_rfl
  f129 := Tryd.func78.trans (congrArg some (by kernel_rfl))
  f173 := Tryd.func38.trans (congrArg some (by kernel_rfl))
  f246 := Tryd.func58.trans (congrArg some (by kernel_rfl))
  f283 := Tryd.func66.trans (congrArg some (by kernel_rfl))
  f284 := Tryd.func67.trans (congrArg some (by kernel_rfl))
  f285 := Tryd.func68.trans (congrArg some (by kernel_rfl))
  f286 := Tryd.func69.trans (congrArg some (by kernel_rfl))
  f317 := Tryd.func77.trans (congrArg some (by kernel_rfl))
  f318 := Tryd.func79.trans (congrArg some (by kernel_rfl))
  f319 := Tryd.func80.trans (congrArg some (by kernel_rfl))
  f320 := Tryd.func81.trans (congrArg some (by kernel_rfl))
  f337 := Tryd.func91.trans (congrArg some (by kernel_rfl))
  f338 := Tryd.func92.trans (congrArg some (by kernel_rfl))
  t0 := Tryd.underlying0
  a0 := Tryd.isAgg0
  z0 := Tryd.sizeOf0
  v0 := Tryd.zeroValue0
  t2 := Tryd.underlying2
  a2 := Tryd.isAgg2
  z2 := Tryd.sizeOf2
  v2 := Tryd.zeroValue2
  t3 := Tryd.underlying3
  a3 := Tryd.isAgg3
  z3 := Tryd.sizeOf3
  v3 := Tryd.zeroValue3
  t4 := Tryd.underlying4
  a4 := Tryd.isAgg4
  z4 := Tryd.sizeOf4
  v4 := Tryd.zeroValue4
  t5 := Tryd.underlying5
  a5 := Tryd.isAgg5
  z5 := Tryd.sizeOf5
  v5 := Tryd.zeroValue5
  t9 := Tryd.underlying9
  a9 := Tryd.isAgg9
  z9 := Tryd.sizeOf9
  v9 := Tryd.zeroValue9
  t20 := Tryd.underlying20
  a20 := Tryd.isAgg20
  z20 := Tryd.sizeOf20
  v20 := Tryd.zeroValue20
  t37 := Tryd.underlying40
  a37 := Tryd.isAgg40
  z37 := Tryd.sizeOf40
  v37 := Tryd.zeroValue40
  t46 := Tryd.underlying117
  a46 := Tryd.isAgg117
  z46 := Tryd.sizeOf117
  v46 := Tryd.zeroValue117
  t51 := Tryd.underlying186
  a51 := Tryd.isAgg186
  z51 := Tryd.sizeOf186
  v51 := Tryd.zeroValue186
  t53 := Tryd.underlying173
  a53 := Tryd.isAgg173
  z53 := Tryd.sizeOf173
  v53 := Tryd.zeroValue173
  t171 := Tryd.underlying172
  a171 := Tryd.isAgg172
  z171 := Tryd.sizeOf172
  v171 := Tryd.zeroValue172
  t173 := Tryd.underlying176
  a173 := Tryd.isAgg176
  z173 := Tryd.sizeOf176
  v173 := Tryd.zeroValue176
  t212 := Tryd.underlying185
  a212 := Tryd.isAgg185
  z212 := Tryd.sizeOf185
  v212 := Tryd.zeroValue185
  t213 := Tryd.underlying187
  a213 := Tryd.isAgg187
  z213 := Tryd.sizeOf187
  t232 := Tryd.underlying88
  a232 := Tryd.isAgg88
  z232 := Tryd.sizeOf88
  v232 := Tryd.zeroValue88
  t233 := Tryd.underlying197
  a233 := Tryd.isAgg197
  z233 := Tryd.sizeOf197
  v233 := Tryd.zeroValue197
  g17 := by kernel_rfl
  g18 := by kernel_rfl
  g19 := by kernel_rfl
  i0 := by kernel_rfl
  i2 := by kernel_rfl
  i3 := by kernel_rfl
  i4 := by kernel_rfl
  i5 := by kernel_rfl
  i9 := by kernel_rfl
  i20 := by kernel_rfl
  i37 := by kernel_rfl
  i46 := by kernel_rfl
  i51 := by kernel_rfl
  i53 := by kernel_rfl
  i171 := by kernel_rfl
  i173 := by kernel_rfl
  i212 := by kernel_rfl
  i232 := by kernel_rfl
  i233 := by kernel_rfl
  m17 := by kernel_rfl
  m18 := by kernel_rfl
  m19 := by kernel_rfl }

theorem laysB : Builder.Extra Tryd.prog lays156_ren := {
  sizeBuilder := by kernel_rfl
  liesBuilder := by kernel_rfl
  t5 := Tryd.underlying5
  a5 := Tryd.isAgg5
  z5 := Tryd.sizeOf5
  v5 := Tryd.zeroValue5
  infoByte := by kernel_rfl
  cellsByte := by kernel_rfl
  sizeByte := by kernel_rfl
  neB5 := by decide }
end Go.Proofs.YtepongfhnammkaaDoor

namespace Go.Proofs.YtepongfhnammkaaDoor
set_option linter.all false
open Go.RowKit
/-! numbers as digits; strconv.FormatInt -/
abbrev B8 := List (BitVec 8)
def dg (n : Nat) : BitVec 8 := BitVec.ofNat 8 (48 + n % 10)
def digN (n : Nat) : B8 := if n < 10 then [dg n] else digN (n / 10) ++ [dg n]
termination_by n
decreasing_by omega
theorem digN_lt {n : Nat} (h : n < 10) : digN n = [dg n] := by unfold digN; rw [if_pos h]
theorem digN_ge {n : Nat} (h : ¬ n < 10) : digN n = digN (n / 10) ++ [dg n] := by rw [digN]; rw [if_neg h]
theorem digN_len : ∀ (k n : Nat), n < 10 ^ (k + 1) → (digN n).length ≤ k + 1
  | 0, n, h => by rw [digN_lt (by omega)]; simp
  | k + 1, n, h => by
    by_cases h10 : n < 10
    · rw [digN_lt h10]; simp
    · rw [digN_ge h10]
      have := digN_len k (n / 10) (by rw [Nat.pow_succ] at h; omega)
      simp; omega
abbrev u8s (s : B8) : List UInt8 := s.map UInt8.ofBitVec
theorem digN_lib : ∀ (n : Nat), Lib.decDigits n = u8s (digN n) := by
  intro n
  induction n using Nat.strongRecOn with
  | ind n ih =>
    by_cases h : n < 10
    · rw [Lib.decDigits, dif_pos h, digN_lt h]
      simp only [u8s, List.map_cons, List.map_nil, List.cons.injEq, and_true]
      unfold dg; rw [Nat.mod_eq_of_lt h]; rfl
    · rw [Lib.decDigits, dif_neg h, digN_ge h, ih (n / 10) (by omega)]
      simp only [u8s, List.map_append, List.map_cons, List.map_nil]
      rfl
abbrev mayM (n : Int) : Prop := 0 ≤ n ∧ n ≤ 1000000000
abbrev decR (n : Int) : B8 := digN n.toNat
theorem decR_len {n : Int} (h : mayM n) : (decR n).length ≤ 10 := digN_len 9 n.toNat (by have := h.1; have := h.2; omega)
end Go.Proofs.YtepongfhnammkaaDoor

namespace Go.Proofs.YtepongfhnammkaaDoor
set_option linter.all false
open Go.RowKit
/-! strings.Builder -/
set_option maxRecDepth 100000 in
set_option maxHeartbeats 1000000 in
theorem cc_used (b : Nat) (w : World) (h0 : w.cell? ⟨b, 0, none⟩ = some (.pointer (some ⟨b, 0, none⟩))) :
    Calls Tryd.prog 59 #[.pointer (some ⟨b, 0, none⟩)] w fun e w' => e = .returned (.tuple #[]) ∧ w' = w := by
  go_enter Tryd.func59, Tryd.ntmps59
  go_wp2
  obtain ⟨j, d, hj, _⟩ := ty_spec (P := Tryd.prog) (t := 48) (i := ⟨.st [(0, 46), (1, 40)], 2, 32⟩) rfl
  rw [Go.Lib.run_neq_ptr_same w _ Tryd.underlying46 hj]
  go_wp2
  go_end0
  exact ⟨rfl, rfl⟩
set_option maxRecDepth 100000 in
set_option maxHeartbeats 1000000 in
theorem cc_fresh (b : Nat) (w : World) (h0 : w.cell? ⟨b, 0, none⟩ = some (.pointer none)) (hsh : w.shape? b = some (48, 2)) (hfz : w.frozen? ⟨b, 0, none⟩ = false) :
    Calls Tryd.prog 59 #[.pointer (some ⟨b, 0, none⟩)] w fun e w' => e = .returned (.tuple #[]) ∧ w' = w.setCell ⟨b, 0, none⟩ (.pointer (some ⟨b, 0, none⟩)) := by
  go_enter Tryd.func59, Tryd.ntmps59
  go_wp2
  obtain ⟨j, d, hj, _, hjs, _⟩ := ty_spec (P := Tryd.prog) (t := 48) (i := ⟨.st [(0, 46), (1, 40)], 2, 32⟩) rfl
  rw [Go.Lib.run_to_unsafe w ⟨b, 0, none⟩ Tryd.underlying46 Tryd.underlying178 hj (by rw [hjs]; decide) hsh (Nat.zero_lt_succ 1)]
  simp only [Result.andThen]
  rw [Oper.upon_value]
  go_wp2
  rw [run_callFunc_extern Tryd.func70 (by kernel_rfl) (by kernel_rfl) (by kernel_rfl) (e := Extern.AbiNoEscape.same) (by kernel_rfl)]
  rw [Go.Lib.run_noEscape]
  simp only [Result.andThen]
  rw [Oper.upon_value]
  go_wp2
  rw [Go.Lib.run_from_unsafe w ⟨b, 0, none⟩ Tryd.underlying178 Tryd.underlying46 hj hsh (by kernel_rfl)]
  simp only [Result.andThen]
  rw [Oper.upon_value]
  go_wp2
  go_end0
  exact ⟨rfl, rfl⟩
end Go.Proofs.YtepongfhnammkaaDoor

namespace Go.Proofs.YtepongfhnammkaaDoor
set_option linter.all false
open Go.RowKit
/-- a builder: nothing is in it yet -/
abbrev sb0 : SO := .box 48 [.nilp, .nils]
/-- a builder that is named k, its bytes lie in m -/
abbrev sb1 (k m : Nat) : SO := .box 48 [.ptr k 0, .own m]
abbrev sbR (l : B8) : SO := .row 5 1 eB l
def cc0_c : Ctr where
  D := Unit
  args := fun _ => [.ptr 0 0]
  objs := fun _ => [(0, sb0)]
  nn := 1
  res := fun _ _ => .tup []
  out := fun _ _ => [(0, .box 48 [.ptr 0 0, .nils])]
def cc1_c : Ctr where
  D := B8
  args := fun _ => [.ptr 0 0]
  objs := fun l => [(0, sb1 0 1), (1, sbR l)]
  nn := 2
  res := fun _ _ => .tup []
  out := fun l _ => [(0, sb1 0 1), (1, sbR l)]
  kp := true
theorem ptr0_hv {w : World} {A : Own} {σ : Sg} {k b : Nat} {v : Value} (h : SV.h1 w A σ (.ptr k 0) v) (hk : σ k = some (.pointer (some ⟨b, 0, none⟩))) : v = .pointer (some ⟨b, 0, none⟩) := by
  simp only [SV.h1, SV.hc, List.cons.injEq, and_true] at h
  obtain ⟨b', o', e1, e2⟩ := h
  rw [hk] at e1; cases e1
  simpa using e2
theorem cc0_ok : cc0_c.Ok Tryd.prog 59 := by
  rintro ⟨⟩ _ A0 w σ vs hA hobs hargs hdom hgl
  obtain ⟨p, m1, rfl, h1, h3⟩ := hargs
  simp only [hvs] at h3; subst h3
  obtain ⟨b, cs, hs, hh, hc⟩ := hobs.holds _ (List.mem_cons_self ..)
  obtain rfl := ptr0_hv (w := w) (A := Av A0 σ []) (σ := σ) h1 hs
  simp only [hL, SV.hc] at hc
  have hcs : cs = [.pointer none, .slice none 0 0] := by
    obtain ⟨c1, r1, rfl, rfl, c2, r2, rfl, rfl, rfl⟩ := hc
    rfl
  subst hcs
  have h0 : w.cell? ⟨b, 0, none⟩ = some (.pointer none) := by rw [cell_of_row w b 0 _ _ _ hh]; rfl
  refine (cc_fresh b w h0 (by simp [World.shape?, hh]) (frozen_of_row w b 0 _ _ hh)).mono ?_
  rintro e w' ⟨rfl, rfl⟩
  have hown : ∀ so : SO, (∃ ps, so = .box 48 ps) → ∀ c, so.own σ 0 c ↔ c = b := by
    rintro so ⟨ps, rfl⟩ c
    simp only [SO.own, hs, Option.some.injEq]
    constructor
    · rintro ⟨v, rfl, h⟩; simp only [blkO, Option.some.injEq] at h; exact h.symm
    · rintro rfl; exact ⟨_, rfl, rfl⟩
  have hm := Mod.setCell w ⟨b, 0, none⟩ (.pointer (some ⟨b, 0, none⟩))
  refine ⟨(), .tuple #[], σ, rfl, trivial, fun _ _ _ h => h, fun k hk => hdom k hk, ?_, hm.mono fun c hc => ⟨rfl, .inl ((hown _ ⟨_, rfl⟩ c).2 hc)⟩, ?_, fun c hc => .inl (hc.imp (fun h => (hown _ ⟨_, rfl⟩ c).2 ((hown _ ⟨_, rfl⟩ c).1 h)) id)⟩
  · simp [SV.hv, hvs, cc0_c]
  · refine hobs.set (p := (0, sb0)) (q := (0, .box 48 [.ptr 0 0, .nils])) (SetO.here) (hm.mono fun c hc => (hown _ ⟨_, rfl⟩ c).2 hc) ⟨b, [.pointer (some ⟨b, 0, none⟩), .slice none 0 0], hs, ?_, ?_⟩ (fun c hc => .inl ((hown _ ⟨_, rfl⟩ c).2 ((hown _ ⟨_, rfl⟩ c).1 hc))) hA
    · rw [heap_setCell_same w b 0 _ _ _ hh]; rfl
    · simp only [hL, SV.hc]
      exact ⟨[_], [_], rfl, ⟨b, 0, hs, rfl⟩, [_], [], rfl, rfl, rfl⟩
theorem cc1_ok : cc1_c.Ok Tryd.prog 59 := by
  rintro l _ A0 w σ vs hA hobs hargs hdom hgl
  obtain ⟨p, m1, rfl, h1, h3⟩ := hargs
  simp only [hvs] at h3; subst h3
  obtain ⟨b, cs, hs, hh, hc⟩ := hobs.holds _ (List.mem_cons_self ..)
  obtain rfl := ptr0_hv (w := w) (A := Av A0 σ []) (σ := σ) h1 hs
  simp only [hL] at hc
  have h0 : w.cell? ⟨b, 0, none⟩ = some (.pointer (some ⟨b, 0, none⟩)) := by
    obtain ⟨c1, r1, rfl, h1, _⟩ := hc
    simp only [SV.hc] at h1
    obtain ⟨b', o', e1, e2⟩ := h1
    rw [hs] at e1; cases e1
    subst e2
    rw [cell_of_row w b 0 _ _ _ hh]; simp
  refine (cc_used b w h0).mono ?_
  rintro e w' ⟨rfl, rfl⟩
  refine ⟨(), .tuple #[], σ, rfl, trivial, fun _ _ _ h => h, fun k hk => hdom k hk, ?_, Mod.refl _ _, hobs, fun c hc => .inl hc⟩
  simp [SV.hv, hvs, cc1_c]
end Go.Proofs.YtepongfhnammkaaDoor

namespace Go.Proofs.YtepongfhnammkaaDoor
set_option linter.all false
open Go.RowKit
def wb0_c : Ctr where
  D := BitVec 8
  args := fun b => [.ptr 0 0, .u8 b]
  objs := fun _ => [(0, sb0)]
  nn := 1
  res := fun _ _ => .val .nilIface
  out := fun b _ => [(0, sb1 0 1), (1, sbR [b])]
  mm := 1
def wb1_c : Ctr where
  D := B8 × BitVec 8
  pre := fun (l, _) => l.length < 140737488355328
  args := fun (_, b) => [.ptr 0 0, .u8 b]
  objs := fun (l, _) => [(0, sb1 0 1), (1, sbR l)]
  nn := 2
  res := fun _ _ => .val .nilIface
  out := fun (l, b) _ => [(0, sb1 0 2), (2, sbR (l ++ [b]))]
  mm := 1
def ws0_c : Ctr where
  D := B8
  pre := fun s => s.length ≤ 140737488355328
  args := fun s => [.ptr 0 0, .str s]
  objs := fun _ => [(0, sb0)]
  nn := 1
  res := fun s _ => .tup [.int .i64 s.length, .val .nilIface]
  out := fun s _ => [(0, sb1 0 1), (1, sbR s)]
  mm := 1
def ws1_c : Ctr where
  D := B8 × B8
  pre := fun (l, s) => l.length + s.length ≤ 140737488355328
  args := fun (_, s) => [.ptr 0 0, .str s]
  objs := fun (l, _) => [(0, sb1 0 1), (1, sbR l)]
  nn := 2
  res := fun (_, s) _ => .tup [.int .i64 s.length, .val .nilIface]
  out := fun (l, s) _ => [(0, sb1 0 2), (2, sbR (l ++ s))]
  mm := 1
def ws0_H : Cfg := ⟨[(59, cc0_c)], [], [], [], 19, 1, [], [], []⟩
theorem ws0_ok : ws0_c.Ok Tryd.prog 39 := by
  refine fn_ok ws0_H 1 rfl _ Tryd.func39 rfl rfl ⟨cc0_ok, trivial⟩ rfl rfl (by kernel_rfl) (fun _ => Nat.le_of_ble_eq_true rfl) ?_
  intro (s : B8) hp hr
  try dsimp only [ws0_c] at hp
  try simp only [ws0_c, Rng, RngL, inR, and_true, true_and] at hr
  repeat' (first | (with_reducible refine Unf.h ?_) | ((conv => whnf); first | (refine Side.mk ?_ ?_; focus (first | with_reducible rfl | exact True.intro | omega | (intros; (try simp only [lenS, inR, cutS, loI, hiI] at *); omega))) | refine RetE.mk () trivial ?_ | refine Got.mk (fun _ _ => ?_) | refine retK_r ?_ | exact rfl | refine CallS.mk (c := cc0_c) (()) ?_) | fail); all_goals try (conv => whnf)
def ws1_H : Cfg := ⟨[(59, cc1_c)], [], [], [], 19, 2, [], [], []⟩
theorem ws1_ok : ws1_c.Ok Tryd.prog 39 := by
  refine fn_ok ws1_H 2 rfl _ Tryd.func39 rfl rfl ⟨cc1_ok, trivial⟩ rfl rfl (by kernel_rfl) (fun _ => Nat.le_of_ble_eq_true rfl) ?_
  rintro ⟨l, s⟩ hp hr
  try dsimp only [ws1_c] at hp
  try simp only [ws1_c, Rng, RngL, inR, and_true, true_and] at hr
  repeat' (first | (with_reducible refine Unf.h ?_) | ((conv => whnf); first | (refine Side.mk ?_ ?_; focus (first | with_reducible rfl | exact True.intro | omega | (intros; (try simp only [lenS, inR, cutS, loI, hiI] at *); omega))) | refine RetE.mk () trivial ?_ | refine Got.mk (fun _ _ => ?_) | refine Ex.mk _ rfl ?_ | refine retK_r ?_ | exact rfl | refine CallS.mk (c := cc1_c) (l) ?_) | fail); all_goals try (conv => whnf)
def wb0_H : Cfg := ⟨[(59, cc0_c)], [], [], [], 17, 1, [], [], []⟩
theorem wb0_ok : wb0_c.Ok Tryd.prog 41 := by
  refine fn_ok wb0_H 1 rfl _ Tryd.func41 rfl rfl ⟨cc0_ok, trivial⟩ rfl rfl (by kernel_rfl) (fun _ => Nat.le_of_ble_eq_true rfl) ?_
  intro (b : BitVec 8) hp hr
  try dsimp only [wb0_c] at hp
  try simp only [wb0_c, Rng, RngL, inR, and_true, true_and] at hr
  repeat' (first | (with_reducible refine Unf.h ?_) | ((conv => whnf); first | (refine Side.mk ?_ ?_; focus (first | with_reducible rfl | exact True.intro | (intros; (try simp only [lenS, inR, cutS, loI, hiI] at *); omega) | (simp only [*, List.map_cons, List.map_nil, eB]; done) | (dsimp only [resS, wb0_c, cc0_c]; done))) | refine RetE.mk () trivial ?_ | refine Got.mk (fun _ _ => ?_) | refine retK_r ?_ | exact rfl | refine CallS.mk (c := cc0_c) (()) ?_) | fail); all_goals try (conv => whnf)
def wb1_H : Cfg := ⟨[(59, cc1_c)], [], [], [], 17, 2, [], [], []⟩
theorem wb1_ok : wb1_c.Ok Tryd.prog 41 := by
  refine fn_ok wb1_H 2 rfl _ Tryd.func41 rfl rfl ⟨cc1_ok, trivial⟩ rfl rfl (by kernel_rfl) (fun _ => Nat.le_of_ble_eq_true rfl) ?_
  rintro ⟨l, b⟩ hp hr
  try dsimp only [wb1_c] at hp
  try simp only [wb1_c, Rng, RngL, inR, and_true, true_and] at hr
  repeat' (first | (with_reducible refine Unf.h ?_) | ((conv => whnf); first | (refine Side.mk ?_ ?_; focus (first | with_reducible rfl | exact True.intro | (intros; (try simp only [lenS, inR, cutS, loI, hiI] at *); omega) | (dsimp only [resS, wb1_c, cc1_c]; done))) | refine RetE.mk () trivial ?_ | refine Got.mk (fun _ _ => ?_) | refine Ex.mk [_] rfl ?_ | refine retK_r ?_ | exact rfl | refine CallS.mk (c := cc1_c) (l) ?_) | fail); all_goals try (conv => whnf)
end Go.Proofs.YtepongfhnammkaaDoor

namespace Go.Proofs.YtepongfhnammkaaDoor
set_option linter.all false
open Go.RowKit
def st0_c : Ctr where
  D := Unit
  args := fun _ => [.ptr 0 0]
  objs := fun _ => [(0, sb0)]
  nn := 1
  res := fun _ _ => .str []
  out := fun _ _ => [(0, sb0)]
  kp := true
/-- the builder is spent -/
def st1_c : Ctr where
  D := B8
  pre := fun l => l ≠ []
  args := fun _ => [.ptr 0 0]
  objs := fun l => [(0, sb1 0 1), (1, sbR l)]
  nn := 2
  res := fun l _ => .str l
  out := fun _ _ => []
set_option maxRecDepth 100000 in
set_option maxHeartbeats 2000000 in
theorem bs_nil (b : Nat) (p : Value) (w : World) (hb : w.heap[b]? = some (.cells #[p, .slice none 0 0] 48 (0, 0))) :
    Calls Tryd.prog 17 #[.pointer (some ⟨b, 0, none⟩)] w fun e w' => e = .returned (.string .empty) ∧ w' = w.drew := by
  have c1 : w.drew.cell? ⟨b, 1, none⟩ = some (.slice none 0 0) := by
    rw [cell_of_row w.drew b 1 _ _ _ hb]; rfl
  have hSD := Go.Lib.run_unsafeSliceData_nil (P := Tryd.prog) w.drew #[40] 118 0 0
  have hUS := Go.Lib.run_unsafeString_none (P := Tryd.prog) w.drew 118 3 9 none
  have mixed : (Tryd.prog).follows Departure.mixedOrders = true := rfl
  go_enter Tryd.func17, Tryd.ntmps17
  go_wp2
  go_region_o
  all_goals (go_wp2; go_ret; exact ⟨rfl, rfl⟩)
set_option maxRecDepth 100000 in
set_option maxHeartbeats 2000000 in
theorem bs_row (b g n cap : Nat) (p : Value) (s : ByteArray) (w : World) (hb : w.heap[b]? = some (.cells #[p, .slice (some ⟨g, 0, none⟩) n cap] 48 (0, 0))) (hc : cap ≠ 0)
    (hUS : (Builtin.unsafeString_ #[118, 3] 9 #[.pointer (some ⟨g, 0, none⟩), .int .i64 n]).run Tryd.prog w.drew = .ok (.string s) (w.drew.freeze ⟨g, 0, none⟩ n)) :
    Calls Tryd.prog 17 #[.pointer (some ⟨b, 0, none⟩)] w fun e w' => e = .returned (.string s) ∧ w' = w.drew.freeze ⟨g, 0, none⟩ n := by
  have c1 : w.drew.cell? ⟨b, 1, none⟩ = some (.slice (some ⟨g, 0, none⟩) n cap) := by
    rw [cell_of_row w.drew b 1 _ _ _ hb]; rfl
  have hSD := Go.Lib.run_unsafeSliceData_row (P := Tryd.prog) w.drew #[40] 118 ⟨g, 0, none⟩ n cap hc
  clear hc hb
  have mixed : (Tryd.prog).follows Departure.mixedOrders = true := rfl
  go_enter Tryd.func17, Tryd.ntmps17
  go_wp2
  go_region_o
  all_goals (go_wp2; go_ret; exact ⟨rfl, rfl⟩)
end Go.Proofs.YtepongfhnammkaaDoor

namespace Go.Proofs.YtepongfhnammkaaDoor
set_option linter.all false
open Go.RowKit
theorem obs_kept {σ : Sg} {A0 : Own} {objs : List Ob} {w w' : World} (h : Obs σ A0 objs w) (hm : Kept w w') : Obs σ A0 objs w' :=
  have hl : Later w (fun b => A0 b ∨ owns σ objs b) w' (fun b => A0 b ∨ owns σ objs b) := hm.later _ fun _ _ hb => hb
  ⟨fun r hr => (h.holds r hr).later hl fun b hb => hm.block b (h.lt b (owns_mem hr hb)).1 id, h.disj, fun b hb => ⟨Nat.lt_of_lt_of_le (h.lt b hb).1 hm.size, (h.lt b hb).2⟩⟩
theorem kept_drew (w : World) : Kept w w.drew := ⟨rfl, rfl, rfl, Nat.le_refl _, fun _ _ _ => rfl⟩
theorem Mod.freezes (w : World) (g n : Nat) : Mod (fun x => x = g) w (w.freeze ⟨g, 0, none⟩ n) := by
  unfold World.freeze
  split
  · exact Mod.refl _ _
  · exact ⟨rfl, rfl, rfl, by simp, fun k hk hm => by rw [Array.getElem?_modify]; rw [if_neg (fun e => hm e.symm)]⟩
theorem st0_ok : st0_c.Ok Tryd.prog 17 := by
  rintro ⟨⟩ _ A0 w σ vs hA hobs hargs hdom hgl
  obtain ⟨p, m1, rfl, h1, h3⟩ := hargs
  simp only [hvs] at h3; subst h3
  obtain ⟨b, cs, hs, hh, hc⟩ := hobs.holds _ (List.mem_cons_self ..)
  obtain rfl := ptr0_hv (w := w) (A := Av A0 σ []) (σ := σ) h1 hs
  simp only [hL, SV.hc] at hc
  have hcs : cs = [.pointer none, .slice none 0 0] := by
    obtain ⟨c1, r1, rfl, rfl, c2, r2, rfl, rfl, rfl⟩ := hc
    rfl
  subst hcs
  refine (bs_nil b _ w hh).mono ?_
  rintro e w' ⟨rfl, rfl⟩
  refine ⟨(), .string .empty, σ, rfl, trivial, fun _ _ _ h => h, fun k hk => hdom k hk, ?_, (kept_drew w).mono fun _ x => x.elim, obs_kept hobs (kept_drew w), fun c hc => .inl hc⟩
  exact hvS.2 rfl
theorem st1_ok : st1_c.Ok Tryd.prog 17 := by
  intro (l : B8) hne A0 w σ vs hA hobs hargs hdom hgl
  obtain ⟨p, m1, rfl, h1, h3⟩ := hargs
  simp only [hvs] at h3; subst h3
  obtain ⟨b, cs, hs, hh, hc⟩ := hobs.holds _ (List.mem_cons_self ..)
  obtain ⟨v, ds, r1, r2, r3, r4, r5⟩ := hobs.holds (1, sbR l) (List.mem_cons_of_mem _ (List.mem_cons_self ..))
  obtain rfl := ptr0_hv (w := w) (A := Av A0 σ []) (σ := σ) h1 hs
  have hne' : l ≠ [] := hne
  have hl0 : l.length ≠ 0 := fun h => hne' (List.eq_nil_of_length_eq_zero h)
  rw [List.length_map] at r5 r3
  obtain rfl := hE_bytes r4
  rcases r5.2 with ⟨_, hz⟩ | ⟨g, cap, cur, rfl, hbg, hg, hnc, hcm, hcs, htake⟩
  · exact absurd hz hl0
  obtain ⟨q, rfl⟩ : ∃ q, cs = [q, .slice (some ⟨g, 0, none⟩) l.length cap] := by
    simp only [hL, SV.hc] at hc
    obtain ⟨c1, rr, rfl, ⟨b', o', e1, rfl⟩, c2, rr2, rfl, e2, rfl⟩ := hc
    rw [r1] at e2
    obtain ⟨v', e3, e4⟩ := e2
    cases e3
    exact ⟨_, by rw [e4.2]; rfl⟩
  have hcap : cap ≠ 0 := by omega
  have hUS := Go.Lib.run_unsafeString_row (P := Tryd.prog) w.drew 118 3 9 5 (by kernel_rfl) (by kernel_rfl) g cur.size (by have hg' : w.drew.heap[g]? = some (.cells cur 5 (0, 0)) := hg; simp [World.shape?, hg']) (l.map UInt8.ofBitVec) (by simpa using hne') (by rw [List.length_map]; omega) (by rw [List.length_map]; simp only [maxLen] at hcm; omega) (fun j x hx => by
    rw [List.getElem?_map] at hx
    obtain ⟨y, hy, rfl⟩ := Option.map_eq_some_iff.1 hx
    exact r5.cells (g := g) rfl j (.int .u8 y.toNat) (by simp [hy]))
  rw [List.length_map] at hUS
  refine (bs_row b g l.length cap q (baOf l) w hh hcap hUS).mono ?_
  rintro e w' ⟨rfl, rfl⟩
  have hm := (Mod.drew (fun x => x = g) w).trans (Mod.freezes w.drew g l.length)
  refine ⟨(), .string (baOf l), σ, rfl, trivial, fun _ _ _ h => h, fun k hk => hdom k hk, hvS.2 rfl, hm.mono fun c hc => ⟨rfl, .inr (.inl ⟨_, r1, by rw [hc]; rfl⟩)⟩, ⟨fun o ho => (by cases ho), trivial, fun b hb => hb.elim⟩, fun c hc => hc.elim⟩
end Go.Proofs.YtepongfhnammkaaDoor

namespace Go.Proofs.YtepongfhnammkaaDoor
set_option linter.all false
open Go.RowKit
abbrev hexD : B8 := [48#8, 49#8, 50#8, 51#8, 52#8, 53#8, 54#8, 55#8, 56#8, 57#8, 97#8, 98#8, 99#8, 100#8, 101#8, 102#8]
def hx (n : Nat) : BitVec 8 := hexD.getD n 0#8
def hexB (b : BitVec 8) : B8 := [hx (b.toNat / 16), hx (b.toNat % 16)]
def hexs (l : B8) : B8 := l.flatMap hexB
def bytesS (l : B8) : B8 := if l = [] then [45#8] else hexs l
theorem hexs_len (l : B8) : (hexs l).length = 2 * l.length := by
  induction l with
  | nil => rfl
  | cons b r ih => unfold hexs at ih ⊢; rw [List.flatMap_cons, List.length_append, ih, List.length_cons]; simp [hexB]; omega
theorem hexs_snoc (l : B8) (i : Nat) (h : i < l.length) : hexs (l.take (i + 1)) = hexs (l.take i) ++ [hx (l[i].toNat / 16)] ++ [hx (l[i].toNat % 16)] := by
  unfold hexs
  rw [List.take_succ_eq_append_getElem h, List.flatMap_append]
  simp [hexB]
abbrev hexC : B8 := List.map (fun x : UInt8 => x.toBitVec) (ByteArray.mk #[48, 49, 50, 51, 52, 53, 54, 55, 56, 57, 97, 98, 99, 100, 101, 102]).data.toList
theorem hexC_len : hexC.length = 16 := rfl
theorem hexC_get {k n : Nat} (h : k < hexC.length) (e : k = n) : hexC[k]'h = hx n := by
  subst e
  have : hexC = hexD := rfl
  unfold hx
  rw [List.getD_eq_getElem?_getD, ← this, List.getElem?_eq_getElem h]; rfl
theorem hi_ix (x : BitVec 8) : (((x >>> (4#64).toNat).toNat : Nat) : Int).toNat = x.toNat / 16 := by
  rw [Int.toNat_natCast, BitVec.toNat_ushiftRight, Nat.shiftRight_eq_div_pow]; rfl
theorem lo_ix (x : BitVec 8) : (((x &&& 15#8).toNat : Nat) : Int).toNat = x.toNat % 16 := by
  rw [Int.toNat_natCast, BitVec.toNat_and]
  exact Nat.and_two_pow_sub_one_eq_mod x.toNat 4
theorem hi_ok (x : BitVec 8) : 0 ≤ (((x >>> (4#64).toNat).toNat : Nat) : Int) ∧ (((x >>> (4#64).toNat).toNat : Nat) : Int).toNat < hexC.length := ⟨by omega, by rw [hi_ix, hexC_len]; have := x.isLt; omega⟩
theorem lo_ok (x : BitVec 8) : 0 ≤ (((x &&& 15#8).toNat : Nat) : Int) ∧ (((x &&& 15#8).toNat : Nat) : Int).toNat < hexC.length := ⟨by omega, by rw [lo_ix, hexC_len]; omega⟩
theorem hexs_ne {l : B8} (h : l ≠ []) : hexs l ≠ [] := by
  intro e
  have := congrArg List.length e
  rw [hexs_len] at this
  exact h (List.eq_nil_of_length_eq_zero (by simp at this; omega))
end Go.Proofs.YtepongfhnammkaaDoor

namespace Go.Proofs.YtepongfhnammkaaDoor
set_option linter.all false
open Go.RowKit
/-! strings.Join -/
def joinS (sep : B8) : List B8 → B8
  | [] => []
  | x :: r => x ++ (r.map (sep ++ ·)).flatten
abbrev eStr (s : B8) : List SV := [.str s]
theorem joinS_lib (sep : B8) (ls : List B8) : Lib.join (ls.map u8s) (u8s sep) = u8s (joinS sep ls) := by
  cases ls with
  | nil => rfl
  | cons x r =>
    rw [List.map_cons, Lib.join_cons]
    simp only [joinS, Lib.joinTail, u8s, List.map_append, List.map_flatten, List.map_map]
    congr 3
    funext a
    simp
theorem hE_strs {w : World} {A : Own} : ∀ {l : List B8} {cs : List Value}, hE w A sg0 (l.map eStr) cs → cs = l.map (fun s => .string (baOf s))
  | [], cs, h => by simp only [List.map_nil, hE] at h; subst h; rfl
  | b :: r, cs, h => by
    simp only [List.map_cons, hE] at h
    obtain ⟨c, rest, rfl, h1, h2⟩ := h
    rw [hL.single] at h1
    simp only [SV.hc] at h1
    subst h1
    rw [hE_strs h2]; rfl
theorem baOf_data (s : B8) : (baOf s).data.toList = u8s s := rfl
theorem kept_below {w w' : World} (h : Below w.heap.size w w') : Kept w w' := ⟨h.os, h.tape, h.output, h.size, fun k hk _ => h.block k hk⟩
def join_c : Ctr where
  D := List B8 × B8
  pre := fun (ls, sep) => ls.length ≤ 1000000 ∧ (joinS sep ls).length ≤ 140737488355328
  args := fun (ls, sep) => [.own 0, .str sep]
  objs := fun (ls, _) => [(0, .row 9 1 eStr ls)]
  nn := 1
  res := fun (ls, sep) _ => .str (joinS sep ls)
  out := fun (ls, _) _ => [(0, .row 9 1 eStr ls)]
  kp := true
theorem join_ok : join_c.Ok Tryd.prog 40 := by
  rintro ⟨ls, sep⟩ ⟨hp1, hp2⟩ A0 w σ vs hA hobs hargs hdom hgl
  obtain ⟨p, m1, rfl, h1, q, m2, rfl, h2, h3⟩ := hargs
  simp only [hvs] at h3; subst h3
  obtain ⟨v, cs, r1, r2, r3, r4, r5⟩ := hobs.holds _ (List.mem_cons_self ..)
  obtain rfl : p = v := by
    simp only [SV.h1, SV.hc, List.cons.injEq, and_true] at h1
    obtain ⟨u, e1, _, e2⟩ := h1
    dsimp only at r1
    rw [r1] at e1; cases e1
    exact e2
  obtain rfl : q = .string (baOf sep) := by simpa [SV.h1, SV.hc] using h2
  obtain rfl := hE_strs r4
  rw [List.length_map] at r5
  have key : Calls Tryd.prog 40 #[p, .string (baOf sep)] w fun e w' => e = .returned (.string (baOf (joinS sep ls))) ∧ Kept w w' := by
    rcases r5.2 with ⟨rfl, hz⟩ | ⟨g, cap, cur, rfl, hbg, hg, hnc, hcm, hcs, htake⟩
    · obtain rfl := List.eq_nil_of_length_eq_zero hz
      exact (Any.strings_Join_none lays156 laysB none 0 (baOf sep) w).mono fun e w' ⟨he, hw⟩ => ⟨he, hw ▸ Mod.refl _ _⟩
    · have hj := Any.strings_Join lays156 laysB g 0 cap (ls.map baOf) (baOf sep) w (fun j x hx => by
        rw [List.getElem?_map] at hx
        obtain ⟨y, hy, rfl⟩ := Option.map_eq_some_iff.1 hx
        have hc := r5.cells (g := g) rfl j (.string (baOf y)) (by simp [hy])
        rw [Nat.zero_add]
        rcases Nat.eq_zero_or_pos j with rfl | hj0
        · simpa [Addr.add] using hc
        · rw [show (⟨g, j, none⟩ : Addr) = (⟨g, 0, none⟩ : Addr).add j by unfold Addr.add; split <;> simp_all]; exact hc) (Array.getElem?_eq_some_iff.1 hg).1 (by rw [List.length_map]; exact Nat.le_trans hp1 (by decide)) (by rw [List.length_map]; exact hnc) (by
          have e := joinS_lib sep ls
          rw [List.map_map]
          show (Lib.join (ls.map u8s) (u8s sep)).length ≤ _
          rw [e, List.length_map]; exact hp2)
      rw [List.length_map, List.map_map] at hj
      refine hj.mono fun e w' ⟨he, hw⟩ => ⟨?_, kept_below hw⟩
      rw [he]
      show Ending.returned (Value.string ⟨(Lib.join (ls.map u8s) (u8s sep)).toArray⟩) = _
      rw [joinS_lib]; rfl
  refine key.mono ?_
  rintro e w' ⟨rfl, hk⟩
  refine ⟨(), .string (baOf (joinS sep ls)), σ, rfl, trivial, fun _ _ _ h => h, fun k hk => hdom k hk, hvS.2 rfl, hk.mono fun _ x => x.elim, obs_kept hobs hk, fun c hc => .inl hc⟩
end Go.Proofs.YtepongfhnammkaaDoor

namespace Go.Proofs.YtepongfhnammkaaDoor
set_option linter.all false
open Go.RowKit
/-! the builder that a printer holds -/
set_option maxRecDepth 100000 in
set_option maxHeartbeats 1000000 in
theorem pcc_fresh (b : Nat) (w : World) (h0 : w.cell? ⟨b, 0, none⟩ = some (.pointer none)) (hsh : w.shape? b = some (50, 3)) (hfz : w.frozen? ⟨b, 0, none⟩ = false) :
    Calls Tryd.prog 59 #[.pointer (some ⟨b, 0, none⟩)] w fun e w' => e = .returned (.tuple #[]) ∧ w' = w.setCell ⟨b, 0, none⟩ (.pointer (some ⟨b, 0, none⟩)) := by
  go_enter Tryd.func59, Tryd.ntmps59
  go_wp2
  obtain ⟨j, d, hj, _, hjs, _⟩ := ty_spec (P := Tryd.prog) (t := 48) (i := ⟨.st [(0, 46), (1, 40)], 2, 32⟩) rfl
  rw [Go.Lib.run_to_unsafe w ⟨b, 0, none⟩ Tryd.underlying46 Tryd.underlying178 hj (by rw [hjs]; decide) hsh (show (0 : Nat) < 3 by omega)]
  simp only [Result.andThen]
  rw [Oper.upon_value]
  go_wp2
  rw [run_callFunc_extern Tryd.func70 (by kernel_rfl) (by kernel_rfl) (by kernel_rfl) (e := Extern.AbiNoEscape.same) (by kernel_rfl)]
  rw [Go.Lib.run_noEscape]
  simp only [Result.andThen]
  rw [Oper.upon_value]
  go_wp2
  rw [Go.Lib.run_from_unsafe w ⟨b, 0, none⟩ Tryd.underlying178 Tryd.underlying46 hj hsh (by kernel_rfl)]
  simp only [Result.andThen]
  rw [Oper.upon_value]
  go_wp2
  go_end0
  exact ⟨rfl, rfl⟩
/-- a printer whose builder holds nothing yet -/
abbrev pb0 (g : SV) : SO := .box 50 [.nilp, .nils, g]
/-- a printer that is named k, its builder's bytes lie in m -/
abbrev pb1 (k m : Nat) (g : SV) : SO := .box 50 [.ptr k 0, .own m, g]
def pcc0_c : Ctr where
  D := Bool
  args := fun _ => [.ptr 0 0]
  objs := fun g => [(0, pb0 (.bool g))]
  nn := 1
  res := fun _ _ => .tup []
  out := fun g _ => [(0, .box 50 [.ptr 0 0, .nils, .bool g])]
def pcc1_c : Ctr where
  D := B8 × Bool
  args := fun _ => [.ptr 0 0]
  objs := fun (l, g) => [(0, pb1 0 1 (.bool g)), (1, sbR l)]
  nn := 2
  res := fun _ _ => .tup []
  out := fun (l, g) _ => [(0, pb1 0 1 (.bool g)), (1, sbR l)]
  kp := true
theorem pcc0_ok : pcc0_c.Ok Tryd.prog 59 := by
  intro (g : Bool) _ A0 w σ vs hA hobs hargs hdom hgl
  obtain ⟨p, m1, rfl, h1, h3⟩ := hargs
  simp only [hvs] at h3; subst h3
  obtain ⟨b, cs, hs, hh, hc⟩ := hobs.holds _ (List.mem_cons_self ..)
  obtain rfl := ptr0_hv (w := w) (A := Av A0 σ []) (σ := σ) h1 hs
  simp only [hL, SV.hc] at hc
  have hcs : cs = [.pointer none, .slice none 0 0, .bool g] := by
    obtain ⟨c1, r1, rfl, rfl, c2, r2, rfl, rfl, c3, r3, rfl, rfl, rfl⟩ := hc
    rfl
  subst hcs
  have h0 : w.cell? ⟨b, 0, none⟩ = some (.pointer none) := by rw [cell_of_row w b 0 _ _ _ hh]; rfl
  refine (pcc_fresh b w h0 (by simp [World.shape?, hh]) (frozen_of_row w b 0 _ _ hh)).mono ?_
  rintro e w' ⟨rfl, rfl⟩
  have hown : ∀ so : SO, (∃ ps, so = .box 50 ps) → ∀ c, so.own σ 0 c ↔ c = b := by
    rintro so ⟨ps, rfl⟩ c
    simp only [SO.own, hs, Option.some.injEq]
    constructor
    · rintro ⟨v, rfl, h⟩; simp only [blkO, Option.some.injEq] at h; exact h.symm
    · rintro rfl; exact ⟨_, rfl, rfl⟩
  have hm := Mod.setCell w ⟨b, 0, none⟩ (.pointer (some ⟨b, 0, none⟩))
  refine ⟨(), .tuple #[], σ, rfl, trivial, fun _ _ _ h => h, fun k hk => hdom k hk, ?_, hm.mono fun c hc => ⟨rfl, .inl ((hown _ ⟨_, rfl⟩ c).2 hc)⟩, ?_, fun c hc => .inl (hc.imp (fun h => (hown _ ⟨_, rfl⟩ c).2 ((hown _ ⟨_, rfl⟩ c).1 h)) id)⟩
  · simp [SV.hv, hvs, pcc0_c]
  · refine hobs.set (p := (0, pb0 (.bool g))) (q := (0, .box 50 [.ptr 0 0, .nils, .bool g])) (SetO.here) (hm.mono fun c hc => (hown _ ⟨_, rfl⟩ c).2 hc) ⟨b, [.pointer (some ⟨b, 0, none⟩), .slice none 0 0, .bool g], hs, ?_, ?_⟩ (fun c hc => .inl ((hown _ ⟨_, rfl⟩ c).2 ((hown _ ⟨_, rfl⟩ c).1 hc))) hA
    · rw [heap_setCell_same w b 0 _ _ _ hh]; rfl
    · simp only [hL, SV.hc]
      exact ⟨[_], [_, _], rfl, ⟨b, 0, hs, rfl⟩, [_], [_], rfl, rfl, [_], [], rfl, rfl, rfl⟩
theorem pcc1_ok : pcc1_c.Ok Tryd.prog 59 := by
  rintro ⟨l, g⟩ _ A0 w σ vs hA hobs hargs hdom hgl
  obtain ⟨p, m1, rfl, h1, h3⟩ := hargs
  simp only [hvs] at h3; subst h3
  obtain ⟨b, cs, hs, hh, hc⟩ := hobs.holds _ (List.mem_cons_self ..)
  obtain rfl := ptr0_hv (w := w) (A := Av A0 σ []) (σ := σ) h1 hs
  simp only [hL] at hc
  have h0 : w.cell? ⟨b, 0, none⟩ = some (.pointer (some ⟨b, 0, none⟩)) := by
    obtain ⟨c1, r1, rfl, h1, _⟩ := hc
    simp only [SV.hc] at h1
    obtain ⟨b', o', e1, e2⟩ := h1
    rw [hs] at e1; cases e1
    subst e2
    rw [cell_of_row w b 0 _ _ _ hh]; simp
  refine (cc_used b w h0).mono ?_
  rintro e w' ⟨rfl, rfl⟩
  refine ⟨(), .tuple #[], σ, rfl, trivial, fun _ _ _ h => h, fun k hk => hdom k hk, ?_, Mod.refl _ _, hobs, fun c hc => .inl hc⟩
  simp [SV.hv, hvs, pcc1_c]
end Go.Proofs.YtepongfhnammkaaDoor

namespace Go.Proofs.YtepongfhnammkaaDoor
set_option linter.all false
open Go.RowKit
def pws0_c : Ctr where
  D := B8 × Bool
  pre := fun (s, _) => s.length ≤ 140737488355328
  args := fun (s, _) => [.ptr 0 0, .str s]
  objs := fun (_, g) => [(0, pb0 (.bool g))]
  nn := 1
  res := fun (s, _) _ => .tup [.int .i64 s.length, .val .nilIface]
  out := fun (s, g) _ => [(0, pb1 0 1 (.bool g)), (1, sbR s)]
  mm := 1
def pws1_c : Ctr where
  D := B8 × B8 × Bool
  pre := fun (l, s, _) => l.length + s.length ≤ 140737488355328
  args := fun (_, s, _) => [.ptr 0 0, .str s]
  objs := fun (l, _, g) => [(0, pb1 0 1 (.bool g)), (1, sbR l)]
  nn := 2
  res := fun (_, s, _) _ => .tup [.int .i64 s.length, .val .nilIface]
  out := fun (l, s, g) _ => [(0, pb1 0 2 (.bool g)), (2, sbR (l ++ s))]
  mm := 1
def pwb1_c : Ctr where
  D := B8 × BitVec 8 × Bool
  pre := fun (l, _, _) => l.length < 140737488355328
  args := fun (_, b, _) => [.ptr 0 0, .u8 b]
  objs := fun (l, _, g) => [(0, pb1 0 1 (.bool g)), (1, sbR l)]
  nn := 2
  res := fun _ _ => .val .nilIface
  out := fun (l, b, g) _ => [(0, pb1 0 2 (.bool g)), (2, sbR (l ++ [b]))]
  mm := 1
def pws0_H : Cfg := ⟨[(59, pcc0_c)], [], [], [], 19, 1, [], [], []⟩
theorem pws0_ok : pws0_c.Ok Tryd.prog 39 := by
  refine fn_ok pws0_H 1 rfl _ Tryd.func39 rfl rfl ⟨pcc0_ok, trivial⟩ rfl rfl (by kernel_rfl) (fun _ => Nat.le_of_ble_eq_true rfl) ?_
  rintro ⟨s, g⟩ hp hr
  try dsimp only [pws0_c] at hp
  try simp only [pws0_c, Rng, RngL, inR, and_true, true_and] at hr
  repeat' (first | (with_reducible refine Unf.h ?_) | ((conv => whnf); first | (refine Side.mk ?_ ?_; focus (first | with_reducible rfl | exact True.intro | omega | (intros; (try simp only [lenS, inR, cutS, loI, hiI] at *); omega))) | refine RetE.mk () trivial ?_ | refine Got.mk (fun _ _ => ?_) | refine retK_r ?_ | exact rfl | refine CallS.mk (c := pcc0_c) (g) ?_) | fail); all_goals try (conv => whnf)
def pws1_H : Cfg := ⟨[(59, pcc1_c)], [], [], [], 19, 2, [], [], []⟩
theorem pws1_ok : pws1_c.Ok Tryd.prog 39 := by
  refine fn_ok pws1_H 2 rfl _ Tryd.func39 rfl rfl ⟨pcc1_ok, trivial⟩ rfl rfl (by kernel_rfl) (fun _ => Nat.le_of_ble_eq_true rfl) ?_
  rintro ⟨l, s, g⟩ hp hr
  try dsimp only [pws1_c] at hp
  try simp only [pws1_c, Rng, RngL, inR, and_true, true_and] at hr
  repeat' (first | (with_reducible refine Unf.h ?_) | ((conv => whnf); first | (refine Side.mk ?_ ?_; focus (first | with_reducible rfl | exact True.intro | omega | (intros; (try simp only [lenS, inR, cutS, loI, hiI] at *); omega))) | refine RetE.mk () trivial ?_ | refine Got.mk (fun _ _ => ?_) | refine Ex.mk _ rfl ?_ | refine retK_r ?_ | exact rfl | refine CallS.mk (c := pcc1_c) ((l, g)) ?_) | fail); all_goals try (conv => whnf)
def pwb1_H : Cfg := ⟨[(59, pcc1_c)], [], [], [], 17, 2, [], [], []⟩
theorem pwb1_ok : pwb1_c.Ok Tryd.prog 41 := by
  refine fn_ok pwb1_H 2 rfl _ Tryd.func41 rfl rfl ⟨pcc1_ok, trivial⟩ rfl rfl (by kernel_rfl) (fun _ => Nat.le_of_ble_eq_true rfl) ?_
  rintro ⟨l, b, g⟩ hp hr
  try dsimp only [pwb1_c] at hp
  try simp only [pwb1_c, Rng, RngL, inR, and_true, true_and] at hr
  repeat' (first | (with_reducible refine Unf.h ?_) | ((conv => whnf); first | (refine Side.mk ?_ ?_; focus (first | with_reducible rfl | exact True.intro | (intros; (try simp only [lenS, inR, cutS, loI, hiI] at *); omega) | (dsimp only [resS, pwb1_c, pcc1_c]; done))) | refine RetE.mk () trivial ?_ | refine Got.mk (fun _ _ => ?_) | refine Ex.mk [_] rfl ?_ | refine retK_r ?_ | exact rfl | refine CallS.mk (c := pcc1_c) ((l, g)) ?_) | fail); all_goals try (conv => whnf)
end Go.Proofs.YtepongfhnammkaaDoor

namespace Go.Proofs.YtepongfhnammkaaDoor
set_option linter.all false
open Go.RowKit
/-- the printer is spent -/
def pst1_c : Ctr where
  D := B8 × Bool
  pre := fun (l, _) => l ≠ []
  args := fun _ => [.ptr 0 0]
  objs := fun (l, g) => [(0, pb1 0 1 (.bool g)), (1, sbR l)]
  nn := 2
  res := fun (l, _) _ => .str l
  out := fun _ _ => []
set_option maxRecDepth 100000 in
set_option maxHeartbeats 2000000 in
theorem pbs_row (b g n cap : Nat) (p r : Value) (s : ByteArray) (w : World) (hb : w.heap[b]? = some (.cells #[p, .slice (some ⟨g, 0, none⟩) n cap, r] 50 (0, 0))) (hc : cap ≠ 0)
    (hUS : (Builtin.unsafeString_ #[118, 3] 9 #[.pointer (some ⟨g, 0, none⟩), .int .i64 n]).run Tryd.prog w.drew = .ok (.string s) (w.drew.freeze ⟨g, 0, none⟩ n)) :
    Calls Tryd.prog 17 #[.pointer (some ⟨b, 0, none⟩)] w fun e w' => e = .returned (.string s) ∧ w' = w.drew.freeze ⟨g, 0, none⟩ n := by
  have c1 : w.drew.cell? ⟨b, 1, none⟩ = some (.slice (some ⟨g, 0, none⟩) n cap) := by
    rw [cell_of_row w.drew b 1 _ _ _ hb]; rfl
  have hSD := Go.Lib.run_unsafeSliceData_row (P := Tryd.prog) w.drew #[40] 118 ⟨g, 0, none⟩ n cap hc
  clear hc hb
  have mixed : (Tryd.prog).follows Departure.mixedOrders = true := rfl
  go_enter Tryd.func17, Tryd.ntmps17
  go_wp2
  go_region_o
  all_goals (go_wp2; go_ret; exact ⟨rfl, rfl⟩)
theorem pst1_ok : pst1_c.Ok Tryd.prog 17 := by
  rintro ⟨l, gd⟩ hne A0 w σ vs hA hobs hargs hdom hgl
  obtain ⟨p, m1, rfl, h1, h3⟩ := hargs
  simp only [hvs] at h3; subst h3
  obtain ⟨b, cs, hs, hh, hc⟩ := hobs.holds _ (List.mem_cons_self ..)
  obtain ⟨v, ds, r1, r2, r3, r4, r5⟩ := hobs.holds (1, sbR l) (List.mem_cons_of_mem _ (List.mem_cons_self ..))
  obtain rfl := ptr0_hv (w := w) (A := Av A0 σ []) (σ := σ) h1 hs
  have hne' : l ≠ [] := hne
  have hl0 : l.length ≠ 0 := fun h => hne' (List.eq_nil_of_length_eq_zero h)
  rw [List.length_map] at r5 r3
  obtain rfl := hE_bytes r4
  rcases r5.2 with ⟨_, hz⟩ | ⟨g, cap, cur, rfl, hbg, hg, hnc, hcm, hcs, htake⟩
  · exact absurd hz hl0
  obtain ⟨q, rfl⟩ : ∃ q, cs = [q, .slice (some ⟨g, 0, none⟩) l.length cap, .bool gd] := by
    simp only [hL, SV.hc] at hc
    obtain ⟨c1, rr, rfl, ⟨b', o', e1, rfl⟩, c2, rr2, rfl, e2, c3, rr3, rfl, rfl, rfl⟩ := hc
    rw [r1] at e2
    obtain ⟨v', e3, e4⟩ := e2
    cases e3
    exact ⟨_, by rw [e4.2]; rfl⟩
  have hcap : cap ≠ 0 := by omega
  have hUS := Go.Lib.run_unsafeString_row (P := Tryd.prog) w.drew 118 3 9 5 (by kernel_rfl) (by kernel_rfl) g cur.size (by have hg' : w.drew.heap[g]? = some (.cells cur 5 (0, 0)) := hg; simp [World.shape?, hg']) (l.map UInt8.ofBitVec) (by simpa using hne') (by rw [List.length_map]; omega) (by rw [List.length_map]; simp only [maxLen] at hcm; omega) (fun j x hx => by
    rw [List.getElem?_map] at hx
    obtain ⟨y, hy, rfl⟩ := Option.map_eq_some_iff.1 hx
    exact r5.cells (g := g) rfl j (.int .u8 y.toNat) (by simp [hy]))
  rw [List.length_map] at hUS
  refine (pbs_row b g l.length cap q _ (baOf l) w hh hcap hUS).mono ?_
  rintro e w' ⟨rfl, rfl⟩
  have hm := (Mod.drew (fun x => x = g) w).trans (Mod.freezes w.drew g l.length)
  refine ⟨(), .string (baOf l), σ, rfl, trivial, fun _ _ _ h => h, fun k hk => hdom k hk, hvS.2 rfl, hm.mono fun c hc => ⟨rfl, .inr (.inl ⟨_, r1, by rw [hc]; rfl⟩)⟩, ⟨fun o ho => (by cases ho), trivial, fun b hb => hb.elim⟩, fun c hc => hc.elim⟩
end Go.Proofs.YtepongfhnammkaaDoor

namespace Go.Proofs.YtepongfhnammkaaDoor
set_option linter.all false
open Go.RowKit
/-! strconv.FormatInt -/
def fi_c : Ctr where
  D := Int
  pre := fun n => mayM n
  args := fun n => [.int .i64 n, .int .i64 10]
  res := fun n _ => .str (decR n)
theorem pow_tab {w : World} {A : Own} (h : Glob Tryd.prog w A) : Lib.TabIs Tryd.prog w "internal/strconv.uint64pow10" .u64 Lib.pow10Tab := by
  have hm : ((1 : Nat), Lib.pow10Tab.map (fun z => SV.int .u64 z)) ∈ TabC.gl Tryd.prog := by
    first
      | exact List.mem_cons_self ..
      | exact List.mem_cons_of_mem _ (List.mem_cons_self ..)
  obtain ⟨h1, C, T, fr, h2, h3⟩ := h _ _ hm
  simp only [SV.hc] at h1
  obtain ⟨b, off, e, _, C', T', fr', h4, h5⟩ := h1
  simp only [List.cons.injEq, Value.pointer.injEq, Option.some.injEq, Addr.mk.injEq, and_true] at e
  obtain ⟨rfl, rfl⟩ := e
  rw [h2] at h4; cases h4
  have hg : (Tryd.prog).globalNamed "internal/strconv.uint64pow10" = some 1 := by kernel_rfl
  unfold Lib.TabIs World.var?
  rw [hg]
  simp only [Option.bind_some, h2, Option.some.injEq]
  have key : ∀ (l : List Int) (cs : List Value), hL w A (l.map fun z => SV.int .u64 z) sg0 cs → cs = l.map fun z => Value.int .u64 z := by
    intro l
    induction l with
    | nil => intro cs h; simpa [hL] using h
    | cons x r ih =>
      intro cs h
      simp only [List.map_cons, hL, SV.hc] at h
      obtain ⟨a, b, rfl, ⟨rfl, _⟩, h⟩ := h
      rw [ih b h]; rfl
  have h6 := key _ _ h5
  rw [List.drop_zero, List.take_of_length_le (by rw [Array.length_toList, h3]; exact Nat.le_refl _)] at h6
  apply Array.toList_inj.1
  rw [h6]
theorem itoa_lib {n : Int} (h : 0 ≤ n) : Lib.itoa n = u8s (decR n) := by
  unfold Lib.itoa
  rw [if_neg (by omega), digN_lib]
theorem fi_ok : fi_c.Ok Tryd.prog 38 := by
  intro (n : Int) (hp : mayM n) A0 w σ vs hA hobs hargs hdom hgl
  obtain ⟨p, m1, rfl, h1, q, m2, rfl, h2, h3⟩ := hargs
  simp only [hvs] at h3; subst h3
  obtain ⟨rfl, _⟩ : p = .int .i64 n ∧ inR n := by simpa [SV.h1, SV.hc] using h1
  obtain ⟨rfl, _⟩ : q = .int .i64 10 ∧ inR 10 := by simpa [SV.h1, SV.hc] using h2
  have hpp := hp
  obtain ⟨hp1, hp2⟩ := hpp
  refine (Any.strconv_FormatInt_10 lays173 n (by omega) (by omega) w (pow_tab hgl)).mono ?_
  rintro e w' ⟨rfl, k, os, rfl⟩
  have hk : Kept w (Sort.grow (w.drewN k) os) := ⟨rfl, rfl, rfl, by simp [Sort.grow], fun b hb _ => by
    show (w.heap ++ os)[b]? = _
    rw [Array.getElem?_append_left hb]⟩
  refine ⟨(), .string (baOf (decR n)), σ, by rw [itoa_lib hp1]; rfl, trivial, fun _ _ _ h => h, fun k hk => hdom k hk, hvS.2 rfl, hk.mono fun _ x => x.elim, obs_kept hobs hk, fun c hc => .inl hc⟩
end Go.Proofs.YtepongfhnammkaaDoor

namespace Go.Proofs.YtepongfhnammkaaDoor
set_option linter.all false
open Go.RowKit
/-! (*report.printer).line -/
abbrev cS (x : Array UInt8) : B8 := List.map (fun x : UInt8 => x.toBitVec) (ByteArray.mk x).data.toList
theorem joinT_len {sep : B8} {k : Nat} : ∀ {r : List B8}, (∀ s ∈ r, s.length ≤ k) → ((r.map (sep ++ ·)).flatten).length ≤ r.length * (k + sep.length)
  | [], _ => by simp
  | x :: r, h => by
    have h1 := h x (List.mem_cons_self ..)
    have h2 := joinT_len (sep := sep) (k := k) (r := r) (fun s hs => h s (List.mem_cons_of_mem _ hs))
    rw [List.map_cons, List.flatten_cons, List.length_append, List.length_append, List.length_cons, Nat.add_mul, Nat.one_mul]
    omega
theorem joinS_len {sep : B8} {k : Nat} {ls : List B8} (h : ∀ s ∈ ls, s.length ≤ k) : (joinS sep ls).length ≤ ls.length * (k + sep.length) := by
  cases ls with
  | nil => simp [joinS]
  | cons x r =>
    have h1 := h x (List.mem_cons_self ..)
    have h2 := joinT_len (sep := sep) (k := k) (r := r) (fun s hs => h s (List.mem_cons_of_mem _ hs))
    simp only [joinS]
    rw [List.length_append, List.length_cons, Nat.add_mul, Nat.one_mul]
    omega
theorem mapT_succ {α β : Type} (f : α → β) {l : List α} {i : Nat} (h : i < l.length) : (l.take i).map f ++ [f l[i]] = (l.take (i + 1)).map f := by
  rw [List.take_succ_eq_append_getElem h, List.map_append]; rfl
abbrev allM (l : List Int) : Prop := ∀ n ∈ l, mayM n
theorem allM_nil : allM [] := fun n h => absurd h List.not_mem_nil
theorem allM_succ {l : List Int} {i : Nat} (h : i < l.length) (h1 : allM (l.take i)) (h2 : mayM l[i]) : allM (l.take (i + 1)) := by
  intro n hn
  rw [List.take_succ_eq_append_getElem h] at hn
  rcases List.mem_append.1 hn with hn | hn
  · exact h1 n hn
  · rw [List.mem_singleton.1 hn]; exact h2
theorem allM_not {l : List Int} {i : Nat} (h : i < l.length) (h2 : ¬ mayM l[i]) : ¬ allM l := fun hm => h2 (hm _ (List.getElem_mem h))
def lineW (nm : B8) (nums : List Int) (bh : List B8) : B8 := joinS [32#8] (nm :: nums.map decR ++ bh) ++ [10#8]
structure LnP (nm : B8) (nums : List Int) (bh : List B8) : Prop where
  a : nm.length ≤ 10
  b : nums.length ≤ 5
  c : bh.length ≤ 2
  d : ∀ s ∈ bh, s.length ≤ 1000
theorem lineJ_len {nm : B8} {nums : List Int} {bh : List B8} (h : LnP nm nums bh) (hm : allM nums) : (nm :: nums.map decR ++ bh).length ≤ 8 ∧ (joinS [32#8] (nm :: nums.map decR ++ bh)).length ≤ 8008 := by
  have h1 := h.b
  have h2 := h.c
  have hl : (nm :: nums.map decR ++ bh).length ≤ 8 := by simp only [List.length_append, List.length_cons, List.length_map]; omega
  have h3 := joinS_len (sep := [32#8]) (k := 1000) (ls := nm :: nums.map decR ++ bh) (fun s hs => by
    rcases List.mem_append.1 hs with hs | hs
    · rcases List.mem_cons.1 hs with rfl | hs
      · have := h.a; omega
      · obtain ⟨n, hn, rfl⟩ := List.mem_map.1 hs
        have := decR_len (hm n hn); omega
    · exact h.d s hs)
  have h4 : (nm :: nums.map decR ++ bh).length * (1000 + [32#8].length) ≤ 8 * 1001 := Nat.mul_le_mul hl (Nat.le_refl _)
  exact ⟨hl, by omega⟩
def pl0_c : Ctr where
  D := B8 × List Int × List B8 × Bool
  pre := fun (nm, nums, bh, _) => LnP nm nums bh
  args := fun (nm, nums, bh, _) => [.ptr 0 0, .str nm, .fs 1 eI nums, .fs 1 eStr bh]
  objs := fun (_, _, _, g) => [(0, pb0 (.bool g))]
  nn := 1
  E := Bool
  post := fun (_, nums, _, _) r => r = true ↔ allM nums
  res := fun _ _ => .tup []
  out := fun (nm, nums, bh, g) r => match r with
    | true => [(0, pb1 0 1 (.bool g)), (1, sbR (lineW nm nums bh))]
    | false => [(0, pb0 (.bool false))]
  mm := 1
def pl0_H : Cfg := ⟨[(38, fi_c), (40, join_c), (39, pws0_c), (41, pwb1_c)], [(8, [], [5, 6, 7], (.one 0 0 false (.one 1 0 false (.one 2 0 false (.one 3 0 false (.one 4 0 false (.one 5 2 false (.one 6 2 false (.one 7 2 false .nil)))))))), [])], [], [], 46, 1, [], [], []⟩
theorem pl0_ok : pl0_c.Ok Tryd.prog 15 := by
  refine fn_ok pl0_H 1 rfl _ Tryd.func15 rfl rfl ⟨fi_ok, join_ok, pws0_ok, pwb1_ok, trivial⟩ rfl rfl (by kernel_rfl) (fun _ => Nat.le_of_ble_eq_true rfl) ?_
  rintro ⟨nm, nums, bh, g⟩ hp hr
  try dsimp only [pl0_c] at hp
  try simp only [pl0_c, Rng, RngL, inR, and_true, true_and] at hr
  have hb := hp.b
  have hc := hp.c
  repeat' (first | (with_reducible refine Unf.h ?_) | fail); all_goals try (conv => whnf)
  refine LoopS.autoN (I := Nat) (fun i => i ≤ nums.length ∧ allM (nums.take i)) (fun i => [(15, .int .i64 i), (8, .own 1)]) (fun i => [(0, pb0 (.bool g)), (1, .row 9 1 eStr (nm :: (nums.take i).map decR))]) 2 (fun i => nums.length - i) 0 ⟨Nat.zero_le _, allM_nil⟩ ?_ ?_
  · repeat' (first | (with_reducible refine Unf.h ?_) | ((conv => whnf); first | (refine Side.mk ?_ ?_; focus (first | with_reducible rfl | (refine congrArg (SV.int _) ?_; omega) | (simp [*]; done))) | (with_reducible refine Unf.h ?_) | exact True.intro) | fail); all_goals try (conv => whnf)
  · rintro i ⟨hi, hm⟩
    repeat' (first | (with_reducible refine Unf.h ?_) | ((conv => whnf); first | refine Fork.mk (fun h => ?_) (fun h => ?_) | (refine Side.mk ?_ ?_; focus ((intros; (try simp only [lenS, inR, cutS, loI, hiI] at *); omega))) | (refine Idx.mk ?_ ?_; focus (omega)) | refine Ex.mk _ rfl ?_ | refine retK_r ?_) | fail); all_goals try (conv => whnf)
    · have h0 : i < nums.length := by omega
      exact RetE.mk false ⟨fun e => (by cases e), fun hm => absurd h (Int.not_lt.2 (hm _ (List.getElem_mem h0)).1)⟩ (by repeat' (first | (with_reducible refine Unf.h ?_) | ((conv => whnf); first | (refine Side.mk ?_ ?_; focus (with_reducible rfl)) | (with_reducible refine Unf.h ?_) | exact rfl) | fail); all_goals try (conv => whnf))
    · have h0 : i < nums.length := by omega
      exact RetE.mk false ⟨fun e => (by cases e), fun hm => absurd h (Int.not_lt.2 (hm _ (List.getElem_mem h0)).2)⟩ (by repeat' (first | (with_reducible refine Unf.h ?_) | ((conv => whnf); first | (refine Side.mk ?_ ?_; focus (with_reducible rfl)) | (with_reducible refine Unf.h ?_) | exact rfl) | fail); all_goals try (conv => whnf))
    · have h0 : i < nums.length := by omega
      rename_i c1 c2
      have hpf : fi_c.pre (nums[((i : Nat) : Int).toNat]'h0) := ⟨Int.not_lt.1 c2, Int.not_lt.1 h⟩
      clear c2 h
      refine CallS.mk (c := fi_c) ((nums[((i : Nat) : Int).toNat]'h0)) ?_
      repeat' (first | (with_reducible first | refine Unf.h ?_ | refine loopK_n ?_) | ((conv => whnf); first | (refine Side.mk ?_ ?_; focus (first | with_reducible rfl | assumption | (intros; (try simp only [lenS, inR, cutS, loI, hiI] at *); omega))) | refine Got.mk (fun _ _ => ?_) | refine Ex.mk [_] rfl ?_) | fail); all_goals try (conv => whnf)
      refine ⟨i + 1, ⟨by omega, by omega, allM_succ h0 hm hpf⟩, ?_⟩
      have e : (nm :: (nums.take i).map decR) ++ [decR (nums[((i : Nat) : Int).toNat]'h0)] = nm :: (nums.take (i + 1)).map decR := by
        rw [List.cons_append]; exact congrArg _ (mapT_succ decR h0)
      repeat' (first | (with_reducible refine Unf.h ?_) | ((conv => whnf); first | (refine Side.mk ?_ ?_; focus (first | with_reducible rfl | (refine congrArg (SV.int _) ?_; omega) | (simp only [*, e]; done))) | (with_reducible refine Unf.h ?_) | exact True.intro) | fail); all_goals try (conv => whnf)
    · have ht : nums.take i = nums := List.take_of_length_le (by omega)
      rw [ht] at hm ⊢
      obtain ⟨hj1, hj2⟩ := lineJ_len hp hm
      have hpj : join_c.pre (nm :: nums.map decR ++ bh, [32#8]) := ⟨by omega, by omega⟩
      refine CallS.mk (c := join_c) ((nm :: nums.map decR ++ bh, [32#8])) ?_
      repeat' (first | (with_reducible refine Unf.h ?_) | ((conv => whnf); first | (refine Side.mk ?_ ?_; focus (first | with_reducible rfl | assumption | (simp [*]; done))) | refine Got.mk (fun _ _ => ?_)) | fail); all_goals try (conv => whnf)
      have hpw : pws0_c.pre (joinS [32#8] (nm :: nums.map decR ++ bh), g) := show (joinS [32#8] (nm :: nums.map decR ++ bh)).length ≤ 140737488355328 by omega
      have hpb : pwb1_c.pre (joinS [32#8] (nm :: nums.map decR ++ bh), 10#8, g) := show (joinS [32#8] (nm :: nums.map decR ++ bh)).length < 140737488355328 by omega
      refine CallS.mk (c := pws0_c) ((joinS [32#8] (nm :: nums.map decR ++ bh), g)) ?_
      repeat' (first | (with_reducible refine Unf.h ?_) | ((conv => whnf); first | (refine Side.mk ?_ ?_; focus (first | with_reducible rfl | assumption)) | refine Got.mk (fun _ _ => ?_)) | fail); all_goals try (conv => whnf)
      refine CallS.mk (c := pwb1_c) ((joinS [32#8] (nm :: nums.map decR ++ bh), 10#8, g)) ?_
      repeat' (first | (with_reducible refine Unf.h ?_) | ((conv => whnf); first | (refine Side.mk ?_ ?_; focus (first | with_reducible rfl | assumption)) | refine Got.mk (fun _ _ => ?_) | refine retK_n ?_) | fail); all_goals try (conv => whnf)
      refine RetE.mk true ⟨fun _ => hm, fun _ => rfl⟩ ?_
      have e : joinS [32#8] (nm :: nums.map decR ++ bh) ++ [10#8] = lineW nm nums bh := rfl
      repeat' (first | (with_reducible refine Unf.h ?_) | ((conv => whnf); first | (refine Side.mk ?_ ?_; focus (first | with_reducible rfl | (simp only [*, e]; done))) | (with_reducible refine Unf.h ?_) | exact rfl) | fail); all_goals try (conv => whnf)
def pl1_c : Ctr where
  D := B8 × B8 × List Int × List B8 × Bool
  pre := fun (l, nm, nums, bh, _) => LnP nm nums bh ∧ l.length ≤ 1000000000
  args := fun (_, nm, nums, bh, _) => [.ptr 0 0, .str nm, .fs 1 eI nums, .fs 1 eStr bh]
  objs := fun (l, _, _, _, g) => [(0, pb1 0 1 (.bool g)), (1, sbR l)]
  nn := 2
  E := Bool
  post := fun (_, _, nums, _, _) r => r = true ↔ allM nums
  res := fun _ _ => .tup []
  out := fun (l, nm, nums, bh, g) r => match r with
    | true => [(0, pb1 0 2 (.bool g)), (2, sbR (l ++ lineW nm nums bh))]
    | false => [(0, pb1 0 1 (.bool false)), (1, sbR l)]
  mm := 1
def pl1_H : Cfg := ⟨[(38, fi_c), (40, join_c), (39, pws1_c), (41, pwb1_c)], [(8, [], [5, 6, 7], (.one 0 0 false (.one 1 0 false (.one 2 0 false (.one 3 0 false (.one 4 0 false (.one 5 2 false (.one 6 2 false (.one 7 2 false .nil)))))))), [])], [], [], 46, 2, [], [], []⟩
theorem pl1_ok : pl1_c.Ok Tryd.prog 15 := by
  refine fn_ok pl1_H 2 rfl _ Tryd.func15 rfl rfl ⟨fi_ok, join_ok, pws1_ok, pwb1_ok, trivial⟩ rfl rfl (by kernel_rfl) (fun _ => Nat.le_of_ble_eq_true rfl) ?_
  rintro ⟨l, nm, nums, bh, g⟩ ⟨hp, hpl⟩ hr
  try dsimp only [pl1_c] at hp
  try simp only [pl1_c, Rng, RngL, inR, and_true, true_and] at hr
  have hb := hp.b
  have hc := hp.c
  have hl9 : l.length ≤ 1000000000 := hpl
  repeat' (first | (with_reducible refine Unf.h ?_) | fail); all_goals try (conv => whnf)
  refine LoopS.autoN (I := Nat) (fun i => i ≤ nums.length ∧ allM (nums.take i)) (fun i => [(15, .int .i64 i), (8, .own 2)]) (fun i => [(0, pb1 0 1 (.bool g)), (1, sbR l), (2, .row 9 1 eStr (nm :: (nums.take i).map decR))]) 3 (fun i => nums.length - i) 0 ⟨Nat.zero_le _, allM_nil⟩ ?_ ?_
  · repeat' (first | (with_reducible refine Unf.h ?_) | ((conv => whnf); first | (refine Side.mk ?_ ?_; focus (first | with_reducible rfl | (refine congrArg (SV.int _) ?_; omega) | (simp [*]; done))) | (with_reducible refine Unf.h ?_) | exact True.intro) | fail); all_goals try (conv => whnf)
  · rintro i ⟨hi, hm⟩
    repeat' (first | (with_reducible refine Unf.h ?_) | ((conv => whnf); first | refine Fork.mk (fun h => ?_) (fun h => ?_) | (refine Side.mk ?_ ?_; focus ((intros; (try simp only [lenS, inR, cutS, loI, hiI] at *); omega))) | (refine Idx.mk ?_ ?_; focus (omega)) | refine Ex.mk _ rfl ?_ | refine retK_r ?_) | fail); all_goals try (conv => whnf)
    · have h0 : i < nums.length := by omega
      exact RetE.mk false ⟨fun e => (by cases e), fun hm => absurd h (Int.not_lt.2 (hm _ (List.getElem_mem h0)).1)⟩ (by repeat' (first | (with_reducible refine Unf.h ?_) | ((conv => whnf); first | (refine Side.mk ?_ ?_; focus (with_reducible rfl)) | (with_reducible refine Unf.h ?_) | exact rfl) | fail); all_goals try (conv => whnf))
    · have h0 : i < nums.length := by omega
      exact RetE.mk false ⟨fun e => (by cases e), fun hm => absurd h (Int.not_lt.2 (hm _ (List.getElem_mem h0)).2)⟩ (by repeat' (first | (with_reducible refine Unf.h ?_) | ((conv => whnf); first | (refine Side.mk ?_ ?_; focus (with_reducible rfl)) | (with_reducible refine Unf.h ?_) | exact rfl) | fail); all_goals try (conv => whnf))
    · have h0 : i < nums.length := by omega
      rename_i c1 c2
      have hpf : fi_c.pre (nums[((i : Nat) : Int).toNat]'h0) := ⟨Int.not_lt.1 c2, Int.not_lt.1 h⟩
      clear c2 h
      refine CallS.mk (c := fi_c) ((nums[((i : Nat) : Int).toNat]'h0)) ?_
      repeat' (first | (with_reducible first | refine Unf.h ?_ | refine loopK_n ?_) | ((conv => whnf); first | (refine Side.mk ?_ ?_; focus (first | with_reducible rfl | assumption | (intros; (try simp only [lenS, inR, cutS, loI, hiI] at *); omega))) | refine Got.mk (fun _ _ => ?_) | refine Ex.mk [_] rfl ?_) | fail); all_goals try (conv => whnf)
      refine ⟨i + 1, ⟨by omega, by omega, allM_succ h0 hm hpf⟩, ?_⟩
      have e : (nm :: (nums.take i).map decR) ++ [decR (nums[((i : Nat) : Int).toNat]'h0)] = nm :: (nums.take (i + 1)).map decR := by
        rw [List.cons_append]; exact congrArg _ (mapT_succ decR h0)
      repeat' (first | (with_reducible refine Unf.h ?_) | ((conv => whnf); first | (refine Side.mk ?_ ?_; focus (first | with_reducible rfl | (refine congrArg (SV.int _) ?_; omega) | (simp only [*, e]; done))) | (with_reducible refine Unf.h ?_) | exact True.intro) | fail); all_goals try (conv => whnf)
    · have ht : nums.take i = nums := List.take_of_length_le (by omega)
      rw [ht] at hm ⊢
      obtain ⟨hj1, hj2⟩ := lineJ_len hp hm
      have hpj : join_c.pre (nm :: nums.map decR ++ bh, [32#8]) := ⟨by omega, by omega⟩
      refine CallS.mk (c := join_c) ((nm :: nums.map decR ++ bh, [32#8])) ?_
      repeat' (first | (with_reducible refine Unf.h ?_) | ((conv => whnf); first | (refine Side.mk ?_ ?_; focus (first | with_reducible rfl | assumption | (simp [*]; done))) | refine Got.mk (fun _ _ => ?_)) | fail); all_goals try (conv => whnf)
      have hpw : pws1_c.pre (l, joinS [32#8] (nm :: nums.map decR ++ bh), g) := show l.length + (joinS [32#8] (nm :: nums.map decR ++ bh)).length ≤ 140737488355328 by omega
      have hpb : pwb1_c.pre (l ++ joinS [32#8] (nm :: nums.map decR ++ bh), 10#8, g) := show (l ++ joinS [32#8] (nm :: nums.map decR ++ bh)).length < 140737488355328 by rw [List.length_append]; omega
      refine CallS.mk (c := pws1_c) ((l, joinS [32#8] (nm :: nums.map decR ++ bh), g)) ?_
      repeat' (first | (with_reducible refine Unf.h ?_) | ((conv => whnf); first | (refine Side.mk ?_ ?_; focus (first | with_reducible rfl | assumption)) | refine Got.mk (fun _ _ => ?_)) | fail); all_goals try (conv => whnf)
      refine CallS.mk (c := pwb1_c) ((l ++ joinS [32#8] (nm :: nums.map decR ++ bh), 10#8, g)) ?_
      repeat' (first | (with_reducible refine Unf.h ?_) | ((conv => whnf); first | (refine Side.mk ?_ ?_; focus (first | with_reducible rfl | assumption)) | refine Got.mk (fun _ _ => ?_) | refine retK_n ?_) | fail); all_goals try (conv => whnf)
      refine RetE.mk true ⟨fun _ => hm, fun _ => rfl⟩ ?_
      have e : (l ++ joinS [32#8] (nm :: nums.map decR ++ bh)) ++ [10#8] = l ++ lineW nm nums bh := by rw [List.append_assoc]; rfl
      repeat' (first | (with_reducible refine Unf.h ?_) | ((conv => whnf); first | (refine Side.mk ?_ ?_; focus (first | with_reducible rfl | (simp only [*, e]; done))) | (with_reducible refine Unf.h ?_) | exact rfl) | fail); all_goals try (conv => whnf)
end Go.Proofs.YtepongfhnammkaaDoor

namespace Go.Proofs.YtepongfhnammkaaDoor
set_option linter.all false
open Go.RowKit
/-! (*report.printer).label -/
def plb0_c : Ctr where
  D := B8 × Bool
  pre := fun (l, _) => l.length ≤ 1000000
  args := fun (l, _) => [.ptr 0 0, .fs 1 eB l]
  objs := fun (_, g) => [(0, pb0 (.bool g))]
  nn := 1
  E := Bool
  post := fun (l, _) e => e = true ↔ l.length ≤ 100
  res := fun (l, _) _ => .str (bytesS l)
  out := fun (_, g) e => [(0, pb0 (.bool (e && g)))]
def plb0_H : Cfg := ⟨[(41, wb0_c), (41, wb1_c), (17, st0_c), (17, st1_c)], [], [], [], 33, 1, [], [], []⟩
theorem plb0_ok : plb0_c.Ok Tryd.prog 16 := by
  refine fn_ok plb0_H 1 rfl _ Tryd.func16 rfl rfl ⟨wb0_ok, wb1_ok, st0_ok, st1_ok, trivial⟩ rfl rfl (by kernel_rfl) (fun _ => Nat.le_of_ble_eq_true rfl) ?_
  rintro ⟨l, g⟩ hp hr
  try dsimp only [plb0_c] at hp
  try simp only [plb0_c, Rng, RngL, inR, and_true, true_and] at hr
  have hp' : l.length ≤ 1000000 := hp
  repeat' (first | (with_reducible refine Unf.h ?_) | ((conv => whnf); first | refine Fork.mk (fun h => ?_) (fun h => ?_) | refine retK_r ?_) | fail); all_goals try (conv => whnf)
  · exfalso; omega
  · refine LoopS.autoN (I := Nat) (fun i => i ≤ l.length) (fun i => [(19, .int .i64 i)]) (fun i => match i with | 0 => [(0, pb0 (.bool false)), (1, sb0)] | i + 1 => [(0, pb0 (.bool false)), (1, sb1 1 2), (2, sbR (hexs (l.take (i + 1))))]) 3 (fun i => l.length - i) 0 (Nat.zero_le _) ?_ ?_
    · repeat' (first | (with_reducible refine Unf.h ?_) | ((conv => whnf); first | (refine Side.mk ?_ ?_; focus (first | with_reducible rfl | (refine congrArg (SV.int _) ?_; omega))) | (with_reducible refine Unf.h ?_) | exact True.intro) | fail); all_goals try (conv => whnf)
    · rintro (_ | i) hi
      · repeat' (first | (with_reducible refine Unf.h ?_) | ((conv => whnf); first | refine Fork.mk (fun h => ?_) (fun h => ?_) | (refine Idx.mk ?_ ?_; focus (omega))) | fail); all_goals try (conv => whnf)
        · refine Idx.mk (hi_ok _) ?_
          repeat' (first | (with_reducible refine Unf.h ?_) | fail); all_goals try (conv => whnf)
          refine Or2.l (CallS.mk (c := wb0_c) (hx ((l[((0 : Nat) : Int).toNat]'(by omega)).toNat / 16)) ?_)
          repeat' (first | (with_reducible refine Unf.h ?_) | fail); all_goals try (conv => whnf)
          refine Side.mk (congrArg SV.u8 (hexC_get _ (hi_ix _))) ?_
          repeat' (first | (with_reducible refine Unf.h ?_) | ((conv => whnf); first | (refine Side.mk ?_ ?_; focus (first | with_reducible rfl | exact True.intro)) | refine Got.mk (fun _ _ => ?_)) | fail); all_goals try (conv => whnf)
          refine Idx.mk (lo_ok _) ?_
          repeat' (first | (with_reducible refine Unf.h ?_) | fail); all_goals try (conv => whnf)
          refine Or2.r (CallS.mk (c := wb1_c) (([hx ((l[((0 : Nat) : Int).toNat]'(by omega)).toNat / 16)], hx ((l[((0 : Nat) : Int).toNat]'(by omega)).toNat % 16))) ?_)
          repeat' (first | (with_reducible refine Unf.h ?_) | fail); all_goals try (conv => whnf)
          refine Side.mk (congrArg SV.u8 (hexC_get _ (lo_ix _))) ?_
          have e1 : [hx ((l[((0 : Nat) : Int).toNat]'(by omega)).toNat / 16)] ++ [hx ((l[((0 : Nat) : Int).toNat]'(by omega)).toNat % 16)] = hexs (l.take (0 + 1)) := (hexs_snoc l 0 (by omega)).symm
          repeat' (first | (with_reducible first | refine Unf.h ?_ | refine loopK_n ?_) | ((conv => whnf); first | (refine Side.mk ?_ ?_; focus (first | with_reducible rfl | (intros; (try simp only [lenS, inR, cutS, loI, hiI, e1] at *); omega) | (dsimp only [resS, plb0_c, wb1_c]; ((try simp only [lenS, inR, cutS, loI, hiI, e1]); omega)))) | refine Got.mk (fun _ _ => ?_)) | fail); all_goals try (conv => whnf)
          refine ⟨1, ⟨by show l.length - 1 < l.length - 0; omega, by show 1 ≤ l.length; omega⟩, ?_⟩
          repeat' (first | (with_reducible refine Unf.h ?_) | ((conv => whnf); first | (refine Side.mk ?_ ?_; focus (first | with_reducible rfl | (refine congrArg (SV.int _) ?_; omega) | (simp only [*]; done))) | (with_reducible refine Unf.h ?_) | exact True.intro) | fail); all_goals try (conv => whnf)
        · omega
      · have hn2 : (hexs (l.take (i + 1))).length ≤ 2000000 := by rw [hexs_len, List.length_take]; omega
        repeat' (first | (with_reducible refine Unf.h ?_) | ((conv => whnf); first | refine Fork.mk (fun h => ?_) (fun h => ?_) | (refine Idx.mk ?_ ?_; focus (omega))) | fail); all_goals try (conv => whnf)
        · refine Idx.mk (hi_ok _) ?_
          repeat' (first | (with_reducible refine Unf.h ?_) | fail); all_goals try (conv => whnf)
          refine Or2.r (CallS.mk (c := wb1_c) ((hexs (l.take (i + 1)), hx ((l[((i + 1 : Nat) : Int).toNat]'(by omega)).toNat / 16))) ?_)
          repeat' (first | (with_reducible refine Unf.h ?_) | fail); all_goals try (conv => whnf)
          refine Side.mk (congrArg SV.u8 (hexC_get _ (hi_ix _))) ?_
          repeat' (first | (with_reducible refine Unf.h ?_) | ((conv => whnf); first | (refine Side.mk ?_ ?_; focus (first | with_reducible rfl | (dsimp only [resS, plb0_c, wb1_c]; omega))) | refine Got.mk (fun _ _ => ?_)) | fail); all_goals try (conv => whnf)
          refine Idx.mk (lo_ok _) ?_
          repeat' (first | (with_reducible refine Unf.h ?_) | fail); all_goals try (conv => whnf)
          refine Or2.r (CallS.mk (c := wb1_c) ((hexs (l.take (i + 1)) ++ [hx ((l[((i + 1 : Nat) : Int).toNat]'(by omega)).toNat / 16)], hx ((l[((i + 1 : Nat) : Int).toNat]'(by omega)).toNat % 16))) ?_)
          repeat' (first | (with_reducible refine Unf.h ?_) | fail); all_goals try (conv => whnf)
          refine Side.mk (congrArg SV.u8 (hexC_get _ (lo_ix _))) ?_
          have hn3 : (hexs (l.take (i + 1)) ++ [hx ((l[((i + 1 : Nat) : Int).toNat]'(by omega)).toNat / 16)]).length < 140737488355328 := by rw [List.length_append, List.length_singleton]; omega
          have e1 : (hexs (l.take (i + 1)) ++ [hx ((l[((i + 1 : Nat) : Int).toNat]'(by omega)).toNat / 16)]) ++ [hx ((l[((i + 1 : Nat) : Int).toNat]'(by omega)).toNat % 16)] = hexs (l.take (i + 1 + 1)) := (hexs_snoc l (i + 1) (by omega)).symm
          repeat' (first | (with_reducible first | refine Unf.h ?_ | refine loopK_n ?_) | ((conv => whnf); first | (refine Side.mk ?_ ?_; focus (first | with_reducible rfl | assumption | (intros; (try simp only [lenS, inR, cutS, loI, hiI, e1] at *); omega))) | refine Got.mk (fun _ _ => ?_)) | fail); all_goals try (conv => whnf)
          refine ⟨i + 2, ⟨by show l.length - (i + 2) < l.length - (i + 1); omega, by show i + 2 ≤ l.length; omega⟩, ?_⟩
          repeat' (first | (with_reducible refine Unf.h ?_) | ((conv => whnf); first | (refine Side.mk ?_ ?_; focus (first | with_reducible rfl | (refine congrArg (SV.int _) ?_; omega) | (simp only [*]; done))) | (with_reducible refine Unf.h ?_) | exact True.intro) | fail); all_goals try (conv => whnf)
        · have h2 : (l.take (i + 1)).length = i + 1 := by rw [List.length_take]; omega
          refine Or2.r (CallS.mk (c := st1_c) (hexs (l.take (i + 1))) ?_)
          repeat' (first | (with_reducible refine Unf.h ?_) | ((conv => whnf); (refine Side.mk ?_ ?_; focus (with_reducible rfl))) | fail); all_goals try (conv => whnf)
          refine Side.mk (hexs_ne (show l.take (i + 1) ≠ [] from fun e => by rw [e] at h2; exact absurd h2 (by simp))) ?_
          repeat' (first | (with_reducible refine Unf.h ?_) | ((conv => whnf); first | refine Got.mk (fun _ _ => ?_) | refine retK_r ?_) | fail); all_goals try (conv => whnf)
          have e2 : hexs (l.take (i + 1)) = bytesS l := by
            rw [List.take_of_length_le (by omega)]; unfold bytesS; rw [if_neg (show ¬ (l = []) from fun e => by rw [e] at h2; simp at h2)]
          refine RetE.mk false ⟨fun e => (by cases e), fun e => (by omega)⟩ ?_
          repeat' (first | (with_reducible refine Unf.h ?_) | ((conv => whnf); first | (refine Side.mk ?_ ?_; focus (first | with_reducible rfl | (simp [*, e2]; done) | (dsimp only [resS, plb0_c]; (simp only [*, e2]; done)))) | exact rfl) | fail); all_goals try (conv => whnf)
  · have e1 : bytesS l = [45#8] := if_pos (List.eq_nil_of_length_eq_zero (by omega))
    refine RetE.mk true ⟨fun _ => by omega, fun _ => rfl⟩ ?_
    repeat' (first | (with_reducible refine Unf.h ?_) | ((conv => whnf); first | (refine Side.mk ?_ ?_; focus (first | with_reducible rfl | (simp [*, e1]; done) | (dsimp only [resS, plb0_c]; (simp [*, e1]; done)))) | exact rfl) | fail); all_goals try (conv => whnf)
  · refine LoopS.autoN (I := Nat) (fun i => i ≤ l.length) (fun i => [(19, .int .i64 i)]) (fun i => match i with | 0 => [(0, pb0 (.bool g)), (1, sb0)] | i + 1 => [(0, pb0 (.bool g)), (1, sb1 1 2), (2, sbR (hexs (l.take (i + 1))))]) 3 (fun i => l.length - i) 0 (Nat.zero_le _) ?_ ?_
    · repeat' (first | (with_reducible refine Unf.h ?_) | ((conv => whnf); first | (refine Side.mk ?_ ?_; focus (first | with_reducible rfl | (refine congrArg (SV.int _) ?_; omega))) | (with_reducible refine Unf.h ?_) | exact True.intro) | fail); all_goals try (conv => whnf)
    · rintro (_ | i) hi
      · repeat' (first | (with_reducible refine Unf.h ?_) | ((conv => whnf); first | refine Fork.mk (fun h => ?_) (fun h => ?_) | (refine Idx.mk ?_ ?_; focus (omega))) | fail); all_goals try (conv => whnf)
        · refine Idx.mk (hi_ok _) ?_
          repeat' (first | (with_reducible refine Unf.h ?_) | fail); all_goals try (conv => whnf)
          refine Or2.l (CallS.mk (c := wb0_c) (hx ((l[((0 : Nat) : Int).toNat]'(by omega)).toNat / 16)) ?_)
          repeat' (first | (with_reducible refine Unf.h ?_) | fail); all_goals try (conv => whnf)
          refine Side.mk (congrArg SV.u8 (hexC_get _ (hi_ix _))) ?_
          repeat' (first | (with_reducible refine Unf.h ?_) | ((conv => whnf); first | (refine Side.mk ?_ ?_; focus (first | with_reducible rfl | exact True.intro)) | refine Got.mk (fun _ _ => ?_)) | fail); all_goals try (conv => whnf)
          refine Idx.mk (lo_ok _) ?_
          repeat' (first | (with_reducible refine Unf.h ?_) | fail); all_goals try (conv => whnf)
          refine Or2.r (CallS.mk (c := wb1_c) (([hx ((l[((0 : Nat) : Int).toNat]'(by omega)).toNat / 16)], hx ((l[((0 : Nat) : Int).toNat]'(by omega)).toNat % 16))) ?_)
          repeat' (first | (with_reducible refine Unf.h ?_) | fail); all_goals try (conv => whnf)
          refine Side.mk (congrArg SV.u8 (hexC_get _ (lo_ix _))) ?_
          have e1 : [hx ((l[((0 : Nat) : Int).toNat]'(by omega)).toNat / 16)] ++ [hx ((l[((0 : Nat) : Int).toNat]'(by omega)).toNat % 16)] = hexs (l.take (0 + 1)) := (hexs_snoc l 0 (by omega)).symm
          repeat' (first | (with_reducible first | refine Unf.h ?_ | refine loopK_n ?_) | ((conv => whnf); first | (refine Side.mk ?_ ?_; focus (first | with_reducible rfl | (intros; (try simp only [lenS, inR, cutS, loI, hiI, e1] at *); omega) | (dsimp only [resS, plb0_c, wb1_c]; ((try simp only [lenS, inR, cutS, loI, hiI, e1]); omega)))) | refine Got.mk (fun _ _ => ?_)) | fail); all_goals try (conv => whnf)
          refine ⟨1, ⟨by show l.length - 1 < l.length - 0; omega, by show 1 ≤ l.length; omega⟩, ?_⟩
          repeat' (first | (with_reducible refine Unf.h ?_) | ((conv => whnf); first | (refine Side.mk ?_ ?_; focus (first | with_reducible rfl | (refine congrArg (SV.int _) ?_; omega) | (simp only [*]; done))) | (with_reducible refine Unf.h ?_) | exact True.intro) | fail); all_goals try (conv => whnf)
        · omega
      · have hn2 : (hexs (l.take (i + 1))).length ≤ 2000000 := by rw [hexs_len, List.length_take]; omega
        repeat' (first | (with_reducible refine Unf.h ?_) | ((conv => whnf); first | refine Fork.mk (fun h => ?_) (fun h => ?_) | (refine Idx.mk ?_ ?_; focus (omega))) | fail); all_goals try (conv => whnf)
        · refine Idx.mk (hi_ok _) ?_
          repeat' (first | (with_reducible refine Unf.h ?_) | fail); all_goals try (conv => whnf)
          refine Or2.r (CallS.mk (c := wb1_c) ((hexs (l.take (i + 1)), hx ((l[((i + 1 : Nat) : Int).toNat]'(by omega)).toNat / 16))) ?_)
          repeat' (first | (with_reducible refine Unf.h ?_) | fail); all_goals try (conv => whnf)
          refine Side.mk (congrArg SV.u8 (hexC_get _ (hi_ix _))) ?_
          repeat' (first | (with_reducible refine Unf.h ?_) | ((conv => whnf); first | (refine Side.mk ?_ ?_; focus (first | with_reducible rfl | (dsimp only [resS, plb0_c, wb1_c]; omega))) | refine Got.mk (fun _ _ => ?_)) | fail); all_goals try (conv => whnf)
          refine Idx.mk (lo_ok _) ?_
          repeat' (first | (with_reducible refine Unf.h ?_) | fail); all_goals try (conv => whnf)
          refine Or2.r (CallS.mk (c := wb1_c) ((hexs (l.take (i + 1)) ++ [hx ((l[((i + 1 : Nat) : Int).toNat]'(by omega)).toNat / 16)], hx ((l[((i + 1 : Nat) : Int).toNat]'(by omega)).toNat % 16))) ?_)
          repeat' (first | (with_reducible refine Unf.h ?_) | fail); all_goals try (conv => whnf)
          refine Side.mk (congrArg SV.u8 (hexC_get _ (lo_ix _))) ?_
          have hn3 : (hexs (l.take (i + 1)) ++ [hx ((l[((i + 1 : Nat) : Int).toNat]'(by omega)).toNat / 16)]).length < 140737488355328 := by rw [List.length_append, List.length_singleton]; omega
          have e1 : (hexs (l.take (i + 1)) ++ [hx ((l[((i + 1 : Nat) : Int).toNat]'(by omega)).toNat / 16)]) ++ [hx ((l[((i + 1 : Nat) : Int).toNat]'(by omega)).toNat % 16)] = hexs (l.take (i + 1 + 1)) := (hexs_snoc l (i + 1) (by omega)).symm
          repeat' (first | (with_reducible first | refine Unf.h ?_ | refine loopK_n ?_) | ((conv => whnf); first | (refine Side.mk ?_ ?_; focus (first | with_reducible rfl | assumption | (intros; (try simp only [lenS, inR, cutS, loI, hiI, e1] at *); omega))) | refine Got.mk (fun _ _ => ?_)) | fail); all_goals try (conv => whnf)
          refine ⟨i + 2, ⟨by show l.length - (i + 2) < l.length - (i + 1); omega, by show i + 2 ≤ l.length; omega⟩, ?_⟩
          repeat' (first | (with_reducible refine Unf.h ?_) | ((conv => whnf); first | (refine Side.mk ?_ ?_; focus (first | with_reducible rfl | (refine congrArg (SV.int _) ?_; omega) | (simp only [*]; done))) | (with_reducible refine Unf.h ?_) | exact True.intro) | fail); all_goals try (conv => whnf)
        · have h2 : (l.take (i + 1)).length = i + 1 := by rw [List.length_take]; omega
          refine Or2.r (CallS.mk (c := st1_c) (hexs (l.take (i + 1))) ?_)
          repeat' (first | (with_reducible refine Unf.h ?_) | ((conv => whnf); (refine Side.mk ?_ ?_; focus (with_reducible rfl))) | fail); all_goals try (conv => whnf)
          refine Side.mk (hexs_ne (show l.take (i + 1) ≠ [] from fun e => by rw [e] at h2; exact absurd h2 (by simp))) ?_
          repeat' (first | (with_reducible refine Unf.h ?_) | ((conv => whnf); first | refine Got.mk (fun _ _ => ?_) | refine retK_r ?_) | fail); all_goals try (conv => whnf)
          have e2 : hexs (l.take (i + 1)) = bytesS l := by
            rw [List.take_of_length_le (by omega)]; unfold bytesS; rw [if_neg (show ¬ (l = []) from fun e => by rw [e] at h2; simp at h2)]
          refine RetE.mk true ⟨fun _ => by omega, fun _ => rfl⟩ ?_
          repeat' (first | (with_reducible refine Unf.h ?_) | ((conv => whnf); first | (refine Side.mk ?_ ?_; focus (first | with_reducible rfl | (simp [*, e2]; done) | (dsimp only [resS, plb0_c]; (simp only [*, e2]; done)))) | exact rfl) | fail); all_goals try (conv => whnf)
def plb1_c : Ctr where
  D := B8 × B8 × Bool
  pre := fun (_, l, _) => l.length ≤ 1000000
  args := fun (_, l, _) => [.ptr 0 0, .fs 1 eB l]
  objs := fun (t, _, g) => [(0, pb1 0 1 (.bool g)), (1, sbR t)]
  nn := 2
  E := Bool
  post := fun (_, l, _) e => e = true ↔ l.length ≤ 100
  res := fun (_, l, _) _ => .str (bytesS l)
  out := fun (t, _, g) e => [(0, pb1 0 1 (.bool (e && g))), (1, sbR t)]
def plb1_H : Cfg := ⟨[(41, wb0_c), (41, wb1_c), (17, st0_c), (17, st1_c)], [], [], [], 33, 2, [], [], []⟩
theorem plb1_ok : plb1_c.Ok Tryd.prog 16 := by
  refine fn_ok plb1_H 2 rfl _ Tryd.func16 rfl rfl ⟨wb0_ok, wb1_ok, st0_ok, st1_ok, trivial⟩ rfl rfl (by kernel_rfl) (fun _ => Nat.le_of_ble_eq_true rfl) ?_
  rintro ⟨t, l, g⟩ hp hr
  try dsimp only [plb1_c] at hp
  try simp only [plb1_c, Rng, RngL, inR, and_true, true_and] at hr
  have hp' : l.length ≤ 1000000 := hp
  repeat' (first | (with_reducible refine Unf.h ?_) | ((conv => whnf); first | refine Fork.mk (fun h => ?_) (fun h => ?_) | refine retK_r ?_) | fail); all_goals try (conv => whnf)
  · exfalso; omega
  · refine LoopS.autoN (I := Nat) (fun i => i ≤ l.length) (fun i => [(19, .int .i64 i)]) (fun i => match i with | 0 => [(0, pb1 0 1 (.bool false)), (1, sbR t), (2, sb0)] | i + 1 => [(0, pb1 0 1 (.bool false)), (1, sbR t), (2, sb1 2 3), (3, sbR (hexs (l.take (i + 1))))]) 4 (fun i => l.length - i) 0 (Nat.zero_le _) ?_ ?_
    · repeat' (first | (with_reducible refine Unf.h ?_) | ((conv => whnf); first | (refine Side.mk ?_ ?_; focus (first | with_reducible rfl | (refine congrArg (SV.int _) ?_; omega))) | (with_reducible refine Unf.h ?_) | exact True.intro) | fail); all_goals try (conv => whnf)
    · rintro (_ | i) hi
      · repeat' (first | (with_reducible refine Unf.h ?_) | ((conv => whnf); first | refine Fork.mk (fun h => ?_) (fun h => ?_) | (refine Idx.mk ?_ ?_; focus (omega))) | fail); all_goals try (conv => whnf)
        · refine Idx.mk (hi_ok _) ?_
          repeat' (first | (with_reducible refine Unf.h ?_) | fail); all_goals try (conv => whnf)
          refine Or2.l (CallS.mk (c := wb0_c) (hx ((l[((0 : Nat) : Int).toNat]'(by omega)).toNat / 16)) ?_)
          repeat' (first | (with_reducible refine Unf.h ?_) | fail); all_goals try (conv => whnf)
          refine Side.mk (congrArg SV.u8 (hexC_get _ (hi_ix _))) ?_
          repeat' (first | (with_reducible refine Unf.h ?_) | ((conv => whnf); first | (refine Side.mk ?_ ?_; focus (first | with_reducible rfl | exact True.intro)) | refine Got.mk (fun _ _ => ?_)) | fail); all_goals try (conv => whnf)
          refine Idx.mk (lo_ok _) ?_
          repeat' (first | (with_reducible refine Unf.h ?_) | fail); all_goals try (conv => whnf)
          refine Or2.r (CallS.mk (c := wb1_c) (([hx ((l[((0 : Nat) : Int).toNat]'(by omega)).toNat / 16)], hx ((l[((0 : Nat) : Int).toNat]'(by omega)).toNat % 16))) ?_)
          repeat' (first | (with_reducible refine Unf.h ?_) | fail); all_goals try (conv => whnf)
          refine Side.mk (congrArg SV.u8 (hexC_get _ (lo_ix _))) ?_
          have e1 : [hx ((l[((0 : Nat) : Int).toNat]'(by omega)).toNat / 16)] ++ [hx ((l[((0 : Nat) : Int).toNat]'(by omega)).toNat % 16)] = hexs (l.take (0 + 1)) := (hexs_snoc l 0 (by omega)).symm
          repeat' (first | (with_reducible first | refine Unf.h ?_ | refine loopK_n ?_) | ((conv => whnf); first | (refine Side.mk ?_ ?_; focus (first | with_reducible rfl | (intros; (try simp only [lenS, inR, cutS, loI, hiI, e1] at *); omega) | (dsimp only [resS, plb1_c, wb1_c]; ((try simp only [lenS, inR, cutS, loI, hiI, e1]); omega)))) | refine Got.mk (fun _ _ => ?_)) | fail); all_goals try (conv => whnf)
          refine ⟨1, ⟨by show l.length - 1 < l.length - 0; omega, by show 1 ≤ l.length; omega⟩, ?_⟩
          repeat' (first | (with_reducible refine Unf.h ?_) | ((conv => whnf); first | (refine Side.mk ?_ ?_; focus (first | with_reducible rfl | (refine congrArg (SV.int _) ?_; omega) | (simp only [*]; done))) | (with_reducible refine Unf.h ?_) | exact True.intro) | fail); all_goals try (conv => whnf)
        · omega
      · have hn2 : (hexs (l.take (i + 1))).length ≤ 2000000 := by rw [hexs_len, List.length_take]; omega
        repeat' (first | (with_reducible refine Unf.h ?_) | ((conv => whnf); first | refine Fork.mk (fun h => ?_) (fun h => ?_) | (refine Idx.mk ?_ ?_; focus (omega))) | fail); all_goals try (conv => whnf)
        · refine Idx.mk (hi_ok _) ?_
          repeat' (first | (with_reducible refine Unf.h ?_) | fail); all_goals try (conv => whnf)
          refine Or2.r (CallS.mk (c := wb1_c) ((hexs (l.take (i + 1)), hx ((l[((i + 1 : Nat) : Int).toNat]'(by omega)).toNat / 16))) ?_)
          repeat' (first | (with_reducible refine Unf.h ?_) | fail); all_goals try (conv => whnf)
          refine Side.mk (congrArg SV.u8 (hexC_get _ (hi_ix _))) ?_
          repeat' (first | (with_reducible refine Unf.h ?_) | ((conv => whnf); first | (refine Side.mk ?_ ?_; focus (first | with_reducible rfl | (dsimp only [resS, plb1_c, wb1_c]; omega))) | refine Got.mk (fun _ _ => ?_)) | fail); all_goals try (conv => whnf)
          refine Idx.mk (lo_ok _) ?_
          repeat' (first | (with_reducible refine Unf.h ?_) | fail); all_goals try (conv => whnf)
          refine Or2.r (CallS.mk (c := wb1_c) ((hexs (l.take (i + 1)) ++ [hx ((l[((i + 1 : Nat) : Int).toNat]'(by omega)).toNat / 16)], hx ((l[((i + 1 : Nat) : Int).toNat]'(by omega)).toNat % 16))) ?_)
          repeat' (first | (with_reducible refine Unf.h ?_) | fail); all_goals try (conv => whnf)
          refine Side.mk (congrArg SV.u8 (hexC_get _ (lo_ix _))) ?_
          have hn3 : (hexs (l.take (i + 1)) ++ [hx ((l[((i + 1 : Nat) : Int).toNat]'(by omega)).toNat / 16)]).length < 140737488355328 := by rw [List.length_append, List.length_singleton]; omega
          have e1 : (hexs (l.take (i + 1)) ++ [hx ((l[((i + 1 : Nat) : Int).toNat]'(by omega)).toNat / 16)]) ++ [hx ((l[((i + 1 : Nat) : Int).toNat]'(by omega)).toNat % 16)] = hexs (l.take (i + 1 + 1)) := (hexs_snoc l (i + 1) (by omega)).symm
          repeat' (first | (with_reducible first | refine Unf.h ?_ | refine loopK_n ?_) | ((conv => whnf); first | (refine Side.mk ?_ ?_; focus (first | with_reducible rfl | assumption | (intros; (try simp only [lenS, inR, cutS, loI, hiI, e1] at *); omega))) | refine Got.mk (fun _ _ => ?_)) | fail); all_goals try (conv => whnf)
          refine ⟨i + 2, ⟨by show l.length - (i + 2) < l.length - (i + 1); omega, by show i + 2 ≤ l.length; omega⟩, ?_⟩
          repeat' (first | (with_reducible refine Unf.h ?_) | ((conv => whnf); first | (refine Side.mk ?_ ?_; focus (first | with_reducible rfl | (refine congrArg (SV.int _) ?_; omega) | (simp only [*]; done))) | (with_reducible refine Unf.h ?_) | exact True.intro) | fail); all_goals try (conv => whnf)
        · have h2 : (l.take (i + 1)).length = i + 1 := by rw [List.length_take]; omega
          refine Or2.r (CallS.mk (c := st1_c) (hexs (l.take (i + 1))) ?_)
          repeat' (first | (with_reducible refine Unf.h ?_) | ((conv => whnf); (refine Side.mk ?_ ?_; focus (with_reducible rfl))) | fail); all_goals try (conv => whnf)
          refine Side.mk (hexs_ne (show l.take (i + 1) ≠ [] from fun e => by rw [e] at h2; exact absurd h2 (by simp))) ?_
          repeat' (first | (with_reducible refine Unf.h ?_) | ((conv => whnf); first | refine Got.mk (fun _ _ => ?_) | refine retK_r ?_) | fail); all_goals try (conv => whnf)
          have e2 : hexs (l.take (i + 1)) = bytesS l := by
            rw [List.take_of_length_le (by omega)]; unfold bytesS; rw [if_neg (show ¬ (l = []) from fun e => by rw [e] at h2; simp at h2)]
          refine RetE.mk false ⟨fun e => (by cases e), fun e => (by omega)⟩ ?_
          repeat' (first | (with_reducible refine Unf.h ?_) | ((conv => whnf); first | (refine Side.mk ?_ ?_; focus (first | with_reducible rfl | (simp [*, e2]; done) | (dsimp only [resS, plb1_c]; (simp only [*, e2]; done)))) | exact rfl) | fail); all_goals try (conv => whnf)
  · have e1 : bytesS l = [45#8] := if_pos (List.eq_nil_of_length_eq_zero (by omega))
    refine RetE.mk true ⟨fun _ => by omega, fun _ => rfl⟩ ?_
    repeat' (first | (with_reducible refine Unf.h ?_) | ((conv => whnf); first | (refine Side.mk ?_ ?_; focus (first | with_reducible rfl | (simp [*, e1]; done) | (dsimp only [resS, plb1_c]; (simp [*, e1]; done)))) | exact rfl) | fail); all_goals try (conv => whnf)
  · refine LoopS.autoN (I := Nat) (fun i => i ≤ l.length) (fun i => [(19, .int .i64 i)]) (fun i => match i with | 0 => [(0, pb1 0 1 (.bool g)), (1, sbR t), (2, sb0)] | i + 1 => [(0, pb1 0 1 (.bool g)), (1, sbR t), (2, sb1 2 3), (3, sbR (hexs (l.take (i + 1))))]) 4 (fun i => l.length - i) 0 (Nat.zero_le _) ?_ ?_
    · repeat' (first | (with_reducible refine Unf.h ?_) | ((conv => whnf); first | (refine Side.mk ?_ ?_; focus (first | with_reducible rfl | (refine congrArg (SV.int _) ?_; omega))) | (with_reducible refine Unf.h ?_) | exact True.intro) | fail); all_goals try (conv => whnf)
    · rintro (_ | i) hi
      · repeat' (first | (with_reducible refine Unf.h ?_) | ((conv => whnf); first | refine Fork.mk (fun h => ?_) (fun h => ?_) | (refine Idx.mk ?_ ?_; focus (omega))) | fail); all_goals try (conv => whnf)
        · refine Idx.mk (hi_ok _) ?_
          repeat' (first | (with_reducible refine Unf.h ?_) | fail); all_goals try (conv => whnf)
          refine Or2.l (CallS.mk (c := wb0_c) (hx ((l[((0 : Nat) : Int).toNat]'(by omega)).toNat / 16)) ?_)
          repeat' (first | (with_reducible refine Unf.h ?_) | fail); all_goals try (conv => whnf)
          refine Side.mk (congrArg SV.u8 (hexC_get _ (hi_ix _))) ?_
          repeat' (first | (with_reducible refine Unf.h ?_) | ((conv => whnf); first | (refine Side.mk ?_ ?_; focus (first | with_reducible rfl | exact True.intro)) | refine Got.mk (fun _ _ => ?_)) | fail); all_goals try (conv => whnf)
          refine Idx.mk (lo_ok _) ?_
          repeat' (first | (with_reducible refine Unf.h ?_) | fail); all_goals try (conv => whnf)
          refine Or2.r (CallS.mk (c := wb1_c) (([hx ((l[((0 : Nat) : Int).toNat]'(by omega)).toNat / 16)], hx ((l[((0 : Nat) : Int).toNat]'(by omega)).toNat % 16))) ?_)
          repeat' (first | (with_reducible refine Unf.h ?_) | fail); all_goals try (conv => whnf)
          refine Side.mk (congrArg SV.u8 (hexC_get _ (lo_ix _))) ?_
          have e1 : [hx ((l[((0 : Nat) : Int).toNat]'(by omega)).toNat / 16)] ++ [hx ((l[((0 : Nat) : Int).toNat]'(by omega)).toNat % 16)] = hexs (l.take (0 + 1)) := (hexs_snoc l 0 (by omega)).symm
          repeat' (first | (with_reducible first | refine Unf.h ?_ | refine loopK_n ?_) | ((conv => whnf); first | (refine Side.mk ?_ ?_; focus (first | with_reducible rfl | (intros; (try simp only [lenS, inR, cutS, loI, hiI, e1] at *); omega) | (dsimp only [resS, plb1_c, wb1_c]; ((try simp only [lenS, inR, cutS, loI, hiI, e1]); omega)))) | refine Got.mk (fun _ _ => ?_)) | fail); all_goals try (conv => whnf)
          refine ⟨1, ⟨by show l.length - 1 < l.length - 0; omega, by show 1 ≤ l.length; omega⟩, ?_⟩
          repeat' (first | (with_reducible refine Unf.h ?_) | ((conv => whnf); first | (refine Side.mk ?_ ?_; focus (first | with_reducible rfl | (refine congrArg (SV.int _) ?_; omega) | (simp only [*]; done))) | (with_reducible refine Unf.h ?_) | exact True.intro) | fail); all_goals try (conv => whnf)
        · omega
      · have hn2 : (hexs (l.take (i + 1))).length ≤ 2000000 := by rw [hexs_len, List.length_take]; omega
        repeat' (first | (with_reducible refine Unf.h ?_) | ((conv => whnf); first | refine Fork.mk (fun h => ?_) (fun h => ?_) | (refine Idx.mk ?_ ?_; focus (omega))) | fail); all_goals try (conv => whnf)
        · refine Idx.mk (hi_ok _) ?_
          repeat' (first | (with_reducible refine Unf.h ?_) | fail); all_goals try (conv => whnf)
          refine Or2.r (CallS.mk (c := wb1_c) ((hexs (l.take (i + 1)), hx ((l[((i + 1 : Nat) : Int).toNat]'(by omega)).toNat / 16))) ?_)
          repeat' (first | (with_reducible refine Unf.h ?_) | fail); all_goals try (conv => whnf)
          refine Side.mk (congrArg SV.u8 (hexC_get _ (hi_ix _))) ?_
          repeat' (first | (with_reducible refine Unf.h ?_) | ((conv => whnf); first | (refine Side.mk ?_ ?_; focus (first | with_reducible rfl | (dsimp only [resS, plb1_c, wb1_c]; omega))) | refine Got.mk (fun _ _ => ?_)) | fail); all_goals try (conv => whnf)
          refine Idx.mk (lo_ok _) ?_
          repeat' (first | (with_reducible refine Unf.h ?_) | fail); all_goals try (conv => whnf)
          refine Or2.r (CallS.mk (c := wb1_c) ((hexs (l.take (i + 1)) ++ [hx ((l[((i + 1 : Nat) : Int).toNat]'(by omega)).toNat / 16)], hx ((l[((i + 1 : Nat) : Int).toNat]'(by omega)).toNat % 16))) ?_)
          repeat' (first | (with_reducible refine Unf.h ?_) | fail); all_goals try (conv => whnf)
          refine Side.mk (congrArg SV.u8 (hexC_get _ (lo_ix _))) ?_
          have hn3 : (hexs (l.take (i + 1)) ++ [hx ((l[((i + 1 : Nat) : Int).toNat]'(by omega)).toNat / 16)]).length < 140737488355328 := by rw [List.length_append, List.length_singleton]; omega
          have e1 : (hexs (l.take (i + 1)) ++ [hx ((l[((i + 1 : Nat) : Int).toNat]'(by omega)).toNat / 16)]) ++ [hx ((l[((i + 1 : Nat) : Int).toNat]'(by omega)).toNat % 16)] = hexs (l.take (i + 1 + 1)) := (hexs_snoc l (i + 1) (by omega)).symm
          repeat' (first | (with_reducible first | refine Unf.h ?_ | refine loopK_n ?_) | ((conv => whnf); first | (refine Side.mk ?_ ?_; focus (first | with_reducible rfl | assumption | (intros; (try simp only [lenS, inR, cutS, loI, hiI, e1] at *); omega))) | refine Got.mk (fun _ _ => ?_)) | fail); all_goals try (conv => whnf)
          refine ⟨i + 2, ⟨by show l.length - (i + 2) < l.length - (i + 1); omega, by show i + 2 ≤ l.length; omega⟩, ?_⟩
          repeat' (first | (with_reducible refine Unf.h ?_) | ((conv => whnf); first | (refine Side.mk ?_ ?_; focus (first | with_reducible rfl | (refine congrArg (SV.int _) ?_; omega) | (simp only [*]; done))) | (with_reducible refine Unf.h ?_) | exact True.intro) | fail); all_goals try (conv => whnf)
        · have h2 : (l.take (i + 1)).length = i + 1 := by rw [List.length_take]; omega
          refine Or2.r (CallS.mk (c := st1_c) (hexs (l.take (i + 1))) ?_)
          repeat' (first | (with_reducible refine Unf.h ?_) | ((conv => whnf); (refine Side.mk ?_ ?_; focus (with_reducible rfl))) | fail); all_goals try (conv => whnf)
          refine Side.mk (hexs_ne (show l.take (i + 1) ≠ [] from fun e => by rw [e] at h2; exact absurd h2 (by simp))) ?_
          repeat' (first | (with_reducible refine Unf.h ?_) | ((conv => whnf); first | refine Got.mk (fun _ _ => ?_) | refine retK_r ?_) | fail); all_goals try (conv => whnf)
          have e2 : hexs (l.take (i + 1)) = bytesS l := by
            rw [List.take_of_length_le (by omega)]; unfold bytesS; rw [if_neg (show ¬ (l = []) from fun e => by rw [e] at h2; simp at h2)]
          refine RetE.mk true ⟨fun _ => by omega, fun _ => rfl⟩ ?_
          repeat' (first | (with_reducible refine Unf.h ?_) | ((conv => whnf); first | (refine Side.mk ?_ ?_; focus (first | with_reducible rfl | (simp [*, e2]; done) | (dsimp only [resS, plb1_c]; (simp only [*, e2]; done)))) | exact rfl) | fail); all_goals try (conv => whnf)
end Go.Proofs.YtepongfhnammkaaDoor

namespace Go.Proofs.YtepongfhnammkaaDoor
set_option linter.all false
open Go.RowKit
/-! reports; long -/
structure Upd where
  client : Int
  seq : Int
  epoch : Int
  label : B8
structure Rep where
  tick : Int
  frames : Int
  eps : List (Int × Int)
  reps : List (Bool × Int)
  upds : List Upd
  looks : List Upd
abbrev eEp (e : Int × Int) : List SV := [.int .i64 e.1, .int .i64 e.2]
abbrev eRp (e : Bool × Int) : List SV := [.bool e.1, .int .i64 e.2]
abbrev eUp (u : Upd) : List SV := [.int .i64 u.client, .int .i64 u.seq, .int .i64 u.epoch, .fs 1 eB u.label]
abbrev eRep (r : Rep) : List SV := [.int .i64 r.tick, .int .i64 r.frames, .fs 2 eEp r.eps, .fs 2 eRp r.reps, .fs 4 eUp r.upds, .fs 4 eUp r.looks]
abbrev longR (r : Rep) : Prop := 1000 < r.eps.length ∨ 1000 < r.reps.length ∨ 1000 < r.upds.length ∨ 1000 < r.looks.length
def long_c : Ctr where
  D := Rep
  args := fun r => [.agg (eRep r)]
  res := fun r _ => .dec (longR r) inferInstance
def long_H : Cfg := ⟨[], [], [], [], 17, 0, [], [], []⟩
theorem long_ok : long_c.Ok Tryd.prog 14 := by
  refine fn_ok long_H 0 rfl _ Tryd.func14 rfl rfl trivial rfl rfl (by kernel_rfl) (fun _ => Nat.le_of_ble_eq_true rfl) ?_
  intro (r : Rep) hp hr
  try dsimp only [long_c] at hp
  try simp only [long_c, Rng, RngL, inR, and_true, true_and] at hr
  clear hr
  repeat' (first | (with_reducible refine Unf.h ?_) | ((conv => whnf); first | (refine Side.mk ?_ ?_; focus (omega)) | refine RetE.mk () trivial ?_ | refine retK_r ?_ | exact rfl) | fail); all_goals try (conv => whnf)
end Go.Proofs.YtepongfhnammkaaDoor

namespace Go.Proofs.YtepongfhnammkaaDoor
set_option linter.all false
open Go.RowKit
/-! report.Write -/
def catN {α : Type} (f : Nat → α → B8) (l : List α) : Nat → B8
  | 0 => []
  | n + 1 => catN f l n ++ (match l[n]? with | some a => f n a | none => [])
theorem catN_succ {α : Type} (f : Nat → α → B8) {l : List α} {n : Nat} (h : n < l.length) : catN f l n ++ f n l[n] = catN f l (n + 1) := by
  simp only [catN, List.getElem?_eq_getElem h]
abbrev tickW : B8 := cS #[116, 105, 99, 107]
abbrev framesW : B8 := cS #[102, 114, 97, 109, 101, 115]
abbrev epochW : B8 := cS #[101, 112, 111, 99, 104]
abbrev replicaW : B8 := cS #[114, 101, 112, 108, 105, 99, 97]
abbrev goneW : B8 := cS #[103, 111, 110, 101]
abbrev updateW : B8 := cS #[117, 112, 100, 97, 116, 101]
abbrev lookW : B8 := cS #[108, 111, 111, 107]
def epF (i : Nat) (e : Int × Int) : B8 := lineW epochW [(i : Int) + 1, e.1, e.2] []
def rpF (i : Nat) (e : Bool × Int) : B8 := match e.1 with | true => lineW replicaW [(i : Int)] [goneW] | false => lineW replicaW [(i : Int), e.2] []
def upF (nm : B8) (_ : Nat) (u : Upd) : B8 := lineW nm [u.client, u.seq, u.epoch] [bytesS u.label]
abbrev epOk (e : Int × Int) : Prop := mayM e.1 ∧ mayM e.2
abbrev rpOk (e : Bool × Int) : Prop := mayM e.2 ∧ (e.1 = true → e.2 = 0)
abbrev upOk (u : Upd) : Prop := mayM u.client ∧ mayM u.seq ∧ mayM u.epoch ∧ u.label.length ≤ 100
def allN {α : Type} (p : α → Prop) (l : List α) (n : Nat) : Prop := ∀ a ∈ l.take n, p a
theorem allN_zero {α : Type} {p : α → Prop} {l : List α} : allN p l 0 := fun a h => absurd h List.not_mem_nil
theorem allN_succ {α : Type} {p : α → Prop} {l : List α} {n : Nat} (h : n < l.length) : allN p l (n + 1) ↔ allN p l n ∧ p l[n] := by
  unfold allN
  rw [List.take_succ_eq_append_getElem h]
  constructor
  · intro q; exact ⟨fun a ha => q a (List.mem_append_left _ ha), q _ (List.mem_append_right _ (List.mem_singleton.2 rfl))⟩
  · rintro ⟨q, q2⟩ a ha
    rcases List.mem_append.1 ha with ha | ha
    · exact q a ha
    · rw [List.mem_singleton.1 ha]; exact q2
theorem allN_all {α : Type} {p : α → Prop} {l : List α} {n : Nat} (h : l.length ≤ n) : allN p l n ↔ ∀ a ∈ l, p a := by
  unfold allN; rw [List.take_of_length_le h]
abbrev okH (r : Rep) : Prop := mayM r.tick ∧ mayM r.frames
abbrev repOk (r : Rep) : Prop := (((okH r ∧ ∀ e ∈ r.eps, epOk e) ∧ ∀ e ∈ r.reps, rpOk e) ∧ ∀ u ∈ r.upds, upOk u) ∧ ∀ u ∈ r.looks, upOk u
def tH (r : Rep) : B8 := lineW tickW [r.tick] [] ++ lineW framesW [r.frames] []
def t1 (r : Rep) (n : Nat) : B8 := tH r ++ catN epF r.eps n
def t2 (r : Rep) (n : Nat) : B8 := t1 r r.eps.length ++ catN rpF r.reps n
def t3 (r : Rep) (n : Nat) : B8 := t2 r r.reps.length ++ catN (upF updateW) r.upds n
def t4 (r : Rep) (n : Nat) : B8 := t3 r r.upds.length ++ catN (upF lookW) r.looks n
def repT (r : Rep) : B8 := t4 r r.looks.length
def writeP (r : Rep) : B8 × Int := if longR r then ([], 3) else if repOk r then (repT r, 0) else ([], 1)
/-- what a printer holds -/
structure PrI (ok : Prop) (txt : B8) (K : Nat) (s : B8 × Bool) : Prop where
  yes : s.2 = true → ok ∧ s.1 = txt
  no : s.2 = false → ¬ ok
  len : s.1.length ≤ K
theorem lineW_len {nm : B8} {nums : List Int} {bh : List B8} (h : LnP nm nums bh) (hm : allM nums) : (lineW nm nums bh).length ≤ 8009 := by
  have := (lineJ_len h hm).2
  unfold lineW
  rw [List.length_append, List.length_singleton]; omega
theorem PrI.good {ok p : Prop} {txt ln : B8} {K : Nat} {t : B8} {g : Bool} (h : PrI ok txt K (t, g)) (hp : p) (hl : ln.length ≤ 8009) : PrI (ok ∧ p) (txt ++ ln) (K + 8009) (t ++ ln, g) :=
  ⟨fun e => ⟨⟨(h.yes e).1, hp⟩, by show t ++ ln = _; rw [show t = txt from (h.yes e).2]⟩, fun e hx => h.no e hx.1, by
    have : t.length ≤ K := h.len
    show (t ++ ln).length ≤ _
    rw [List.length_append]; omega⟩
theorem PrI.bad {ok p : Prop} {txt txt' : B8} {K : Nat} {t : B8} {g : Bool} (h : PrI ok txt K (t, g)) (hp : ¬ p) : PrI (ok ∧ p) txt' (K + 8009) (t, false) :=
  ⟨fun e => (by cases e), fun _ hx => hp hx.2, Nat.le_trans h.len (Nat.le_add_right _ _)⟩
theorem PrI.cast {ok ok' : Prop} {txt txt' : B8} {K K' : Nat} {s : B8 × Bool} (h : PrI ok txt K s) (h1 : ok ↔ ok') (h2 : txt = txt') (h3 : K ≤ K') : PrI ok' txt' K' s :=
  ⟨fun e => ⟨h1.1 (h.yes e).1, (h.yes e).2.trans h2⟩, fun e hx => h.no e (h1.2 hx), Nat.le_trans h.len h3⟩
def prT : B8 × Bool → List Ob
  | ([], g) => [(1, pb0 (.bool g))]
  | (b :: q, g) => [(1, pb1 1 2 (.bool g)), (2, sbR (b :: q))]
abbrev prO (r : Rep) (s : B8 × Bool) : List Ob := (0, .box 27 (eRep r)) :: prT s
theorem PrI.step {α : Type} {okp : Prop} {p : α → Prop} {f : Nat → α → B8} {l : List α} {i : Nat} (hi : i < l.length) {base : B8} {t : B8} {g : Bool} {n : Nat} (h : PrI (okp ∧ allN p l i) (base ++ catN f l i) (8009 * n) (t, g)) (e1 e2 : Bool) (hp : p l[i] ↔ (e1 = true ∧ e2 = true)) (hl : e2 = true → (f i l[i]).length ≤ 8009) :
    PrI (okp ∧ allN p l (i + 1)) (base ++ catN f l (i + 1)) (8009 * (n + 1)) (match e2 with | true => (t ++ f i l[i], e1 && g) | false => (t, false)) := by
  have ht : t.length ≤ 8009 * n := h.len
  have e : base ++ catN f l (i + 1) = (base ++ catN f l i) ++ f i l[i] := by rw [← catN_succ f hi, List.append_assoc]
  cases e2 with
  | true =>
    refine ⟨fun hy => ?_, fun hn hx => ?_, ?_⟩
    · have hy : (e1 && g) = true := hy
      simp only [Bool.and_eq_true] at hy
      obtain ⟨h1, h2⟩ := h.yes hy.2
      refine ⟨⟨h1.1, (allN_succ hi).2 ⟨h1.2, hp.2 ⟨hy.1, rfl⟩⟩⟩, ?_⟩
      show t ++ f i l[i] = _
      rw [e, show t = base ++ catN f l i from h2]
    · have hn : (e1 && g) = false := hn
      have hq := (allN_succ hi).1 hx.2
      have := (hp.1 hq.2).1
      rw [this, Bool.true_and] at hn
      exact h.no hn ⟨hx.1, hq.1⟩
    · have := hl rfl
      show (t ++ f i l[i]).length ≤ _
      rw [List.length_append]; omega
  | false =>
    refine ⟨fun hy => (by cases hy), fun _ hx => ?_, ?_⟩
    · have := (hp.1 ((allN_succ hi).1 hx.2).2).2
      cases this
    · show t.length ≤ _; omega
theorem PrI.zero {α : Type} {okp : Prop} {p : α → Prop} {f : Nat → α → B8} {l : List α} {base : B8} {n : Nat} {s : B8 × Bool} (h : PrI okp base (8009 * n) s) : PrI (okp ∧ allN p l 0) (base ++ catN f l 0) (8009 * (n + 0)) s :=
  h.cast ⟨fun x => ⟨x, allN_zero⟩, fun x => x.1⟩ (List.append_nil _).symm (Nat.le_refl _)
theorem PrI.all {α : Type} {okp : Prop} {p : α → Prop} {f : Nat → α → B8} {l : List α} {base : B8} {n i : Nat} {s : B8 × Bool} (hi : i = l.length) (h : PrI (okp ∧ allN p l i) (base ++ catN f l i) (8009 * (n + i)) s) : PrI (okp ∧ ∀ a ∈ l, p a) (base ++ catN f l l.length) (8009 * (n + l.length)) s := by
  subst hi
  exact h.cast ⟨fun x => ⟨x.1, (allN_all (Nat.le_refl _)).1 x.2⟩, fun x => ⟨x.1, (allN_all (Nat.le_refl _)).2 x.2⟩⟩ rfl (Nat.le_refl _)
theorem allM1 {a : Int} : allM [a] ↔ mayM a := by simp [allM]
theorem allM2 {a b : Int} : allM [a, b] ↔ mayM a ∧ mayM b := by simp [allM]
theorem allM3 {a b c : Int} : allM [a, b, c] ↔ mayM a ∧ mayM b ∧ mayM c := by simp [allM]
theorem bytesS_len (l : B8) : (bytesS l).length ≤ 2 * l.length + 1 := by
  unfold bytesS; split
  · simp
  · rw [hexs_len]; omega
theorem upLnP {nm : B8} {u : Upd} (h1 : nm.length ≤ 10) (h2 : u.label.length ≤ 150) : LnP nm [u.client, u.seq, u.epoch] [bytesS u.label] :=
  ⟨h1, show 3 ≤ 5 by decide, show 1 ≤ 2 by decide, fun s h => by rw [List.mem_singleton.1 h]; have := bytesS_len u.label; omega⟩
theorem repT_ne (r : Rep) : repT r ≠ [] := fun h => by
  have h2 := congrArg List.length h
  unfold repT t4 t3 t2 t1 tH lineW at h2
  simp only [List.length_append, List.length_singleton, List.length_nil] at h2
  omega
def wrp_c : Ctr where
  D := Rep
  pre := fun r => (∀ u ∈ r.upds, u.label.length ≤ 150) ∧ (∀ u ∈ r.looks, u.label.length ≤ 150)
  args := fun r => [.agg (eRep r)]
  res := fun r _ => .tup [.str (writeP r).1, .int .i64 (writeP r).2]
def wrp_H : Cfg := ⟨[(14, long_c), (15, pl0_c), (15, pl1_c), (16, plb0_c), (16, plb1_c), (17, pst1_c)], [(23, [2, 4, 6], [7, 10, 11, 12, 13], (.one 0 0 false (.one 1 0 false (.one 2 1 false (.one 3 0 false (.one 4 1 false (.one 5 0 false (.one 6 1 false (.one 8 0 false (.one 9 0 false (.alt 7 true (.one 10 2 true (.one 11 2 true (.one 12 2 true (.one 13 2 false .nil)))) (.one 10 2 true (.alt 7 true (.one 11 2 true (.one 12 2 true (.one 13 2 false .nil))) (.one 11 2 true (.alt 7 true (.one 12 2 true (.one 13 2 false .nil)) (.one 12 2 true (.one 7 2 false (.one 13 2 false .nil))))))))))))))))), [1000004]), (28, [2, 4, 6], [7, 10, 11, 12, 13], (.one 0 0 false (.one 1 0 false (.one 2 1 false (.one 3 0 false (.one 4 1 false (.one 5 0 false (.one 6 1 false (.one 8 0 false (.one 9 0 false (.alt 7 true (.one 10 2 true (.one 11 2 true (.one 12 2 true (.one 13 2 false .nil)))) (.one 10 2 true (.alt 7 true (.one 11 2 true (.one 12 2 true (.one 13 2 false .nil))) (.one 11 2 true (.alt 7 true (.one 12 2 true (.one 13 2 false .nil)) (.one 12 2 true (.one 7 2 false (.one 13 2 false .nil))))))))))))))))), [1000004])], [], [], 132, 0, [], [4, 5], []⟩
set_option maxHeartbeats 20000000 in
theorem wrp_ok : wrp_c.Ok Tryd.prog 9 := by
  refine fn_ok wrp_H 0 rfl _ Tryd.func9 rfl rfl ⟨long_ok, pl0_ok, pl1_ok, plb0_ok, plb1_ok, pst1_ok, trivial⟩ rfl rfl (by kernel_rfl) (fun _ => Nat.le_of_ble_eq_true rfl) ?_
  intro (r : Rep) hp hr
  try dsimp only [wrp_c] at hp
  try simp only [wrp_c, Rng, RngL, inR, and_true, true_and] at hr
  obtain ⟨hu, hk⟩ := hp
  repeat' (first | (with_reducible refine Unf.h ?_) | ((conv => whnf); first | refine Fork.mk (fun h => ?_) (fun h => ?_) | (refine Side.mk ?_ ?_; focus (first | with_reducible rfl | exact True.intro)) | refine RetE.mk () trivial ?_ | refine Got.mk (fun _ _ => ?_) | refine retK_r ?_ | refine CallS.mk (c := long_c) (r) ?_) | fail); all_goals try (conv => whnf)
  · have e : writeP r = ([], 3) := if_pos h
    repeat' (first | (with_reducible refine Unf.h ?_) | ((conv => whnf); first | (refine Side.mk ?_ ?_; focus (first | (simp only [*, e]; done) | (simp only [*, e, List.map_cons, List.map_nil, eB]; done))) | exact rfl) | fail); all_goals try (conv => whnf)
  · refine CutS.auto (I := B8 × Bool) (fun s => PrI (mayM r.tick) (lineW tickW [r.tick] []) 8009 s) (fun _ => []) (fun s => prO r s) 3 ?_ ?_
    · have hpl : LnP tickW [r.tick] [] := ⟨show 4 ≤ 10 by decide, show 1 ≤ 5 by decide, show 0 ≤ 2 by decide, fun s h => absurd h List.not_mem_nil⟩
      have hp0 : PrI True [] 0 ([], true) := ⟨fun _ => ⟨trivial, rfl⟩, fun e => (by cases e), Nat.le_refl _⟩
      repeat' (first | (with_reducible refine Unf.h ?_) | fail); all_goals try (conv => whnf)
      first | refine CallS.mk (c := pl0_c) ((tickW, [r.tick], [], true)) ?_ | refine Or2.l (CallS.mk (c := pl0_c) ((tickW, [r.tick], [], true)) ?_) | refine Or2.r (CallS.mk (c := pl0_c) ((tickW, [r.tick], [], true)) ?_)
      repeat (first | (with_reducible refine Unf.h ?_) | ((conv => whnf); first | (refine Side.mk ?_ ?_; focus (first | with_reducible rfl | assumption | exact True.intro | rfl)) | (with_reducible refine Unf.h ?_)))
      conv => whnf
      refine Got.mk (fun e he => ?_)
      have ha : (e : Bool) = true ↔ allM [r.tick] := he
      clear he
      cases e with
      | true =>
        have hm : mayM r.tick := ha.1 rfl _ (List.mem_singleton.2 rfl)
        have hI : PrI (mayM r.tick) (lineW tickW [r.tick] []) 8009 (lineW tickW [r.tick] [], true) := (hp0.good hm (lineW_len hpl (ha.1 rfl))).cast (by simp) rfl (by omega)
        repeat' (first | (with_reducible refine cutK_n ?_) | ((conv => whnf); (with_reducible refine Unf.h ?_)) | fail); all_goals try (conv => whnf)
        refine ⟨(lineW tickW [r.tick] [], true), hI, ?_⟩
        skip
        repeat' (first | (with_reducible refine Unf.h ?_) | ((conv => whnf); first | (refine Side.mk ?_ ?_; focus (with_reducible rfl)) | (with_reducible refine Unf.h ?_)) | fail); all_goals try (conv => whnf)
        refine Side.mk rfl ?_
        repeat' (first | (with_reducible refine Unf.h ?_) | ((conv => whnf); exact True.intro) | fail); all_goals try (conv => whnf)
      | false =>
        have hno : ¬ mayM r.tick := fun h => by have := ha.2 (fun n hn => by rw [List.mem_singleton.1 hn]; exact h); cases this
        have hI : PrI (mayM r.tick) (lineW tickW [r.tick] []) 8009 ([], false) := (hp0.bad hno).cast (by simp) rfl (by omega)
        repeat' (first | (with_reducible refine cutK_n ?_) | ((conv => whnf); (with_reducible refine Unf.h ?_)) | fail); all_goals try (conv => whnf)
        refine ⟨([], false), hI, ?_⟩
        skip
        repeat' (first | (with_reducible refine Unf.h ?_) | ((conv => whnf); first | (refine Side.mk ?_ ?_; focus (with_reducible rfl)) | (with_reducible refine Unf.h ?_) | exact True.intro) | fail); all_goals try (conv => whnf)
    · rintro s0 hI0
      repeat' (first | (with_reducible refine Unf.h ?_) | fail); all_goals try (conv => whnf)
      refine CutS.auto (I := B8 × Bool) (fun s => PrI (okH r) (tH r) 16018 s) (fun _ => []) (fun s => prO r s) 3 ?_ ?_
      · have hpl : LnP framesW [r.frames] [] := ⟨show 6 ≤ 10 by decide, show 1 ≤ 5 by decide, show 0 ≤ 2 by decide, fun s h => absurd h List.not_mem_nil⟩
        obtain ⟨_ | ⟨b, q⟩, g⟩ := s0
        · repeat' (first | (with_reducible refine Unf.h ?_) | fail); all_goals try (conv => whnf)
          first | refine CallS.mk (c := pl0_c) ((framesW, [r.frames], [], g)) ?_ | refine Or2.l (CallS.mk (c := pl0_c) ((framesW, [r.frames], [], g)) ?_) | refine Or2.r (CallS.mk (c := pl0_c) ((framesW, [r.frames], [], g)) ?_)
          repeat (first | (with_reducible refine Unf.h ?_) | ((conv => whnf); first | (refine Side.mk ?_ ?_; focus (first | with_reducible rfl | assumption | exact True.intro | rfl)) | (with_reducible refine Unf.h ?_)))
          conv => whnf
          refine Got.mk (fun e he => ?_)
          have ha : (e : Bool) = true ↔ allM [r.frames] := he
          clear he
          cases e with
          | true =>
            have hm : mayM r.frames := ha.1 rfl _ (List.mem_singleton.2 rfl)
            have hI : PrI (okH r) (tH r) 16018 (lineW framesW [r.frames] [], g) := (hI0.good hm (lineW_len hpl (ha.1 rfl))).cast Iff.rfl rfl (by omega)
            repeat' (first | (with_reducible refine cutK_n ?_) | ((conv => whnf); (with_reducible refine Unf.h ?_)) | fail); all_goals try (conv => whnf)
            refine ⟨(lineW framesW [r.frames] [], g), hI, ?_⟩
            skip
            repeat' (first | (with_reducible refine Unf.h ?_) | ((conv => whnf); first | (refine Side.mk ?_ ?_; focus (with_reducible rfl)) | (with_reducible refine Unf.h ?_)) | fail); all_goals try (conv => whnf)
            refine Side.mk rfl ?_
            repeat' (first | (with_reducible refine Unf.h ?_) | ((conv => whnf); exact True.intro) | fail); all_goals try (conv => whnf)
          | false =>
            have hno : ¬ mayM r.frames := fun h => by have := ha.2 (fun n hn => by rw [List.mem_singleton.1 hn]; exact h); cases this
            have hI : PrI (okH r) (tH r) 16018 ([], false) := (hI0.bad hno).cast Iff.rfl rfl (by omega)
            repeat' (first | (with_reducible refine cutK_n ?_) | ((conv => whnf); (with_reducible refine Unf.h ?_)) | fail); all_goals try (conv => whnf)
            refine ⟨([], false), hI, ?_⟩
            skip
            repeat' (first | (with_reducible refine Unf.h ?_) | ((conv => whnf); first | (refine Side.mk ?_ ?_; focus (with_reducible rfl)) | (with_reducible refine Unf.h ?_) | exact True.intro) | fail); all_goals try (conv => whnf)
        · have hl := hI0.len
          dsimp only at hl
          have hpp : pl1_c.pre (b :: q, framesW, [r.frames], [], g) := ⟨hpl, show (b :: q).length ≤ 1000000000 by omega⟩
          repeat' (first | (with_reducible refine Unf.h ?_) | fail); all_goals try (conv => whnf)
          first | refine CallS.mk (c := pl1_c) ((b :: q, framesW, [r.frames], [], g)) ?_ | refine Or2.l (CallS.mk (c := pl1_c) ((b :: q, framesW, [r.frames], [], g)) ?_) | refine Or2.r (CallS.mk (c := pl1_c) ((b :: q, framesW, [r.frames], [], g)) ?_)
          repeat (first | (with_reducible refine Unf.h ?_) | ((conv => whnf); first | (refine Side.mk ?_ ?_; focus (first | with_reducible rfl | assumption | exact True.intro | rfl)) | (with_reducible refine Unf.h ?_)))
          conv => whnf
          refine Got.mk (fun e he => ?_)
          have ha : (e : Bool) = true ↔ allM [r.frames] := he
          clear he
          cases e with
          | true =>
            have hm : mayM r.frames := ha.1 rfl _ (List.mem_singleton.2 rfl)
            have hI : PrI (okH r) (tH r) 16018 ((b :: q) ++ lineW framesW [r.frames] [], g) := (hI0.good hm (lineW_len hpl (ha.1 rfl))).cast Iff.rfl rfl (by omega)
            repeat' (first | (with_reducible refine cutK_n ?_) | ((conv => whnf); (with_reducible refine Unf.h ?_)) | fail); all_goals try (conv => whnf)
            refine ⟨((b :: q) ++ lineW framesW [r.frames] [], g), hI, ?_⟩
            skip
            repeat' (first | (with_reducible refine Unf.h ?_) | ((conv => whnf); first | (refine Side.mk ?_ ?_; focus (first | with_reducible rfl | (simp [*]; done))) | (with_reducible refine Unf.h ?_) | exact True.intro) | fail); all_goals try (conv => whnf)
          | false =>
            have hno : ¬ mayM r.frames := fun h => by have := ha.2 (fun n hn => by rw [List.mem_singleton.1 hn]; exact h); cases this
            have hI : PrI (okH r) (tH r) 16018 (b :: q, false) := (hI0.bad hno).cast Iff.rfl rfl (by omega)
            repeat' (first | (with_reducible refine cutK_n ?_) | ((conv => whnf); (with_reducible refine Unf.h ?_)) | fail); all_goals try (conv => whnf)
            refine ⟨(b :: q, false), hI, ?_⟩
            skip
            repeat' (first | (with_reducible refine Unf.h ?_) | ((conv => whnf); first | (refine Side.mk ?_ ?_; focus (with_reducible rfl)) | (with_reducible refine Unf.h ?_) | exact True.intro) | fail); all_goals try (conv => whnf)
      · rintro s1 hI1
        repeat' (first | (with_reducible refine Unf.h ?_) | fail); all_goals try (conv => whnf)
        have hI1' : PrI (okH r) (tH r) (8009 * 2) s1 := hI1
        refine LoopS.autoN (I := Nat × B8 × Bool) (fun s => s.1 ≤ r.eps.length ∧ PrI (okH r ∧ allN epOk r.eps s.1) (tH r ++ catN epF r.eps s.1) (8009 * (2 + s.1)) s.2) (fun s => [(30, .int .i64 s.1)]) (fun s => prO r s.2) 3 (fun s => r.eps.length - s.1) (0, s1) ⟨Nat.zero_le _, hI1'.zero⟩ ?_ ?_
        · obtain ⟨_ | ⟨b, q⟩, g⟩ := s1
          all_goals (repeat' (first | (with_reducible refine Unf.h ?_) | ((conv => whnf); first | (refine Side.mk ?_ ?_; focus (first | with_reducible rfl | (refine congrArg (SV.int _) ?_; omega))) | (with_reducible refine Unf.h ?_) | exact True.intro) | fail); all_goals try (conv => whnf))
        · rintro ⟨i, s⟩ ⟨hi, hI⟩
          dsimp only at hi hI
          repeat' (first | (with_reducible refine Unf.h ?_) | ((conv => whnf); first | refine Fork.mk (fun h => ?_) (fun h => ?_) | (refine Side.mk ?_ ?_; focus ((intros; (try simp only [lenS, inR, cutS, loI, hiI] at *); omega))) | (refine Idx.mk ?_ ?_; focus (omega))) | fail); all_goals try (conv => whnf)
          · have h0 : i < r.eps.length := by omega
            have hi9 : mayM ((i : Int) + 1) := ⟨by omega, by have : ¬ 1000 < r.eps.length := fun x => ‹¬ longR r› (.inl x); omega⟩
            have hpl : LnP epochW [(i : Int) + 1, (r.eps[((i : Nat) : Int).toNat]'h0).1, (r.eps[((i : Nat) : Int).toNat]'h0).2] [] := ⟨show 5 ≤ 10 by decide, show 3 ≤ 5 by decide, show 0 ≤ 2 by decide, fun s h => absurd h List.not_mem_nil⟩
            have hen : allM [(i : Int) + 1, (r.eps[((i : Nat) : Int).toNat]'h0).1, (r.eps[((i : Nat) : Int).toNat]'h0).2] ↔ epOk (r.eps[i]'h0) := allM3.trans ⟨fun x => x.2, fun x => ⟨hi9, x⟩⟩
            have hln : r.eps.length ≤ 1000 := by have : ¬ 1000 < r.eps.length := fun x => ‹¬ longR r› (.inl x); omega
            obtain ⟨_ | ⟨b, q⟩, g⟩ := s
            · all_goals try (conv => whnf)
              first | refine CallS.mk (c := pl0_c) ((epochW, [(i : Int) + 1, (r.eps[((i : Nat) : Int).toNat]'h0).1, (r.eps[((i : Nat) : Int).toNat]'h0).2], [], g)) ?_ | refine Or2.l (CallS.mk (c := pl0_c) ((epochW, [(i : Int) + 1, (r.eps[((i : Nat) : Int).toNat]'h0).1, (r.eps[((i : Nat) : Int).toNat]'h0).2], [], g)) ?_) | refine Or2.r (CallS.mk (c := pl0_c) ((epochW, [(i : Int) + 1, (r.eps[((i : Nat) : Int).toNat]'h0).1, (r.eps[((i : Nat) : Int).toNat]'h0).2], [], g)) ?_)
              repeat (first | (with_reducible refine Unf.h ?_) | ((conv => whnf); first | (refine Side.mk ?_ ?_; focus (first | with_reducible rfl | assumption | exact True.intro | rfl)) | (with_reducible refine Unf.h ?_)))
              conv => whnf
              refine Got.mk (fun e he => ?_)
              have ha : (e : Bool) = true ↔ allM [(i : Int) + 1, (r.eps[((i : Nat) : Int).toNat]'h0).1, (r.eps[((i : Nat) : Int).toNat]'h0).2] := he
              clear he
              have hS := hI.step h0 true e (⟨fun x => ⟨rfl, ha.2 (hen.2 x)⟩, fun x => hen.1 (ha.1 x.2)⟩) (fun x => lineW_len hpl (ha.1 x))
              cases e with
              | true =>
                repeat' (first | (with_reducible first | refine Unf.h ?_ | refine loopK_n ?_) | ((conv => whnf); first | (refine Side.mk ?_ ?_; focus ((intros; (try simp only [lenS, inR, cutS, loI, hiI] at *); omega))) | (with_reducible refine Unf.h ?_)) | fail); all_goals try (conv => whnf)
                refine ⟨(i + 1, ([] : B8) ++ epF i (r.eps[i]'h0), true && g), ⟨by show r.eps.length - (i + 1) < r.eps.length - i; omega, by show i + 1 ≤ r.eps.length; omega, hS⟩, ?_⟩
                skip
                repeat' (first | (with_reducible refine Unf.h ?_) | ((conv => whnf); first | (refine Side.mk ?_ ?_; focus (first | with_reducible rfl | (refine congrArg (SV.int _) ?_; omega) | (simp [*]; done))) | (with_reducible refine Unf.h ?_)) | fail); all_goals try (conv => whnf)
                all_goals (refine Side.mk rfl ?_)
                all_goals (repeat' (first | (with_reducible refine Unf.h ?_) | ((conv => whnf); exact True.intro) | fail); all_goals try (conv => whnf))
              | false =>
                repeat' (first | (with_reducible first | refine Unf.h ?_ | refine loopK_n ?_) | ((conv => whnf); first | (refine Side.mk ?_ ?_; focus ((intros; (try simp only [lenS, inR, cutS, loI, hiI] at *); omega))) | (with_reducible refine Unf.h ?_)) | fail); all_goals try (conv => whnf)
                refine ⟨(i + 1, [], false), ⟨by show r.eps.length - (i + 1) < r.eps.length - i; omega, by show i + 1 ≤ r.eps.length; omega, hS⟩, ?_⟩
                skip
                repeat' (first | (with_reducible refine Unf.h ?_) | ((conv => whnf); first | (refine Side.mk ?_ ?_; focus (first | with_reducible rfl | (refine congrArg (SV.int _) ?_; omega))) | (with_reducible refine Unf.h ?_) | exact True.intro) | fail); all_goals try (conv => whnf)
            · have hl := hI.len
              dsimp only at hl
              have hpp : pl1_c.pre (b :: q, epochW, [(i : Int) + 1, (r.eps[((i : Nat) : Int).toNat]'h0).1, (r.eps[((i : Nat) : Int).toNat]'h0).2], [], g) := ⟨hpl, show (b :: q).length ≤ 1000000000 by omega⟩
              all_goals try (conv => whnf)
              first | refine CallS.mk (c := pl1_c) ((b :: q, epochW, [(i : Int) + 1, (r.eps[((i : Nat) : Int).toNat]'h0).1, (r.eps[((i : Nat) : Int).toNat]'h0).2], [], g)) ?_ | refine Or2.l (CallS.mk (c := pl1_c) ((b :: q, epochW, [(i : Int) + 1, (r.eps[((i : Nat) : Int).toNat]'h0).1, (r.eps[((i : Nat) : Int).toNat]'h0).2], [], g)) ?_) | refine Or2.r (CallS.mk (c := pl1_c) ((b :: q, epochW, [(i : Int) + 1, (r.eps[((i : Nat) : Int).toNat]'h0).1, (r.eps[((i : Nat) : Int).toNat]'h0).2], [], g)) ?_)
              repeat (first | (with_reducible refine Unf.h ?_) | ((conv => whnf); first | (refine Side.mk ?_ ?_; focus (first | with_reducible rfl | assumption | exact True.intro | rfl)) | (with_reducible refine Unf.h ?_)))
              conv => whnf
              refine Got.mk (fun e he => ?_)
              have ha : (e : Bool) = true ↔ allM [(i : Int) + 1, (r.eps[((i : Nat) : Int).toNat]'h0).1, (r.eps[((i : Nat) : Int).toNat]'h0).2] := he
              clear he
              have hS := hI.step h0 true e (⟨fun x => ⟨rfl, ha.2 (hen.2 x)⟩, fun x => hen.1 (ha.1 x.2)⟩) (fun x => lineW_len hpl (ha.1 x))
              cases e with
              | true =>
                repeat' (first | (with_reducible first | refine Unf.h ?_ | refine loopK_n ?_) | ((conv => whnf); first | (refine Side.mk ?_ ?_; focus ((intros; (try simp only [lenS, inR, cutS, loI, hiI] at *); omega))) | (with_reducible refine Unf.h ?_)) | fail); all_goals try (conv => whnf)
                refine ⟨(i + 1, (b :: q) ++ epF i (r.eps[i]'h0), true && g), ⟨by show r.eps.length - (i + 1) < r.eps.length - i; omega, by show i + 1 ≤ r.eps.length; omega, hS⟩, ?_⟩
                skip
                repeat' (first | (with_reducible refine Unf.h ?_) | ((conv => whnf); first | (refine Side.mk ?_ ?_; focus (first | with_reducible rfl | (refine congrArg (SV.int _) ?_; omega) | (simp [*]; done))) | (with_reducible refine Unf.h ?_)) | fail); all_goals try (conv => whnf)
                all_goals (refine Side.mk rfl ?_)
                all_goals (repeat' (first | (with_reducible refine Unf.h ?_) | ((conv => whnf); exact True.intro) | fail); all_goals try (conv => whnf))
              | false =>
                repeat' (first | (with_reducible first | refine Unf.h ?_ | refine loopK_n ?_) | ((conv => whnf); first | (refine Side.mk ?_ ?_; focus ((intros; (try simp only [lenS, inR, cutS, loI, hiI] at *); omega))) | (with_reducible refine Unf.h ?_)) | fail); all_goals try (conv => whnf)
                refine ⟨(i + 1, b :: q, false), ⟨by show r.eps.length - (i + 1) < r.eps.length - i; omega, by show i + 1 ≤ r.eps.length; omega, hS⟩, ?_⟩
                skip
                repeat' (first | (with_reducible refine Unf.h ?_) | ((conv => whnf); first | (refine Side.mk ?_ ?_; focus (first | with_reducible rfl | (refine congrArg (SV.int _) ?_; omega))) | (with_reducible refine Unf.h ?_) | exact True.intro) | fail); all_goals try (conv => whnf)
          · have hI2 := hI.all (by omega)
            refine LoopS.autoN (I := Nat × B8 × Bool) (fun s => s.1 ≤ r.reps.length ∧ PrI ((okH r ∧ ∀ a ∈ r.eps, epOk a) ∧ allN rpOk r.reps s.1) (t1 r r.eps.length ++ catN rpF r.reps s.1) (8009 * ((2 + r.eps.length) + s.1)) s.2) (fun s => [(48, .int .i64 s.1)]) (fun s => prO r s.2) 3 (fun s => r.reps.length - s.1) (0, s) ⟨Nat.zero_le _, hI2.zero⟩ ?_ ?_
            · obtain ⟨_ | ⟨b, q⟩, g⟩ := s
              all_goals (repeat' (first | (with_reducible refine Unf.h ?_) | ((conv => whnf); first | (refine Side.mk ?_ ?_; focus (first | with_reducible rfl | (refine congrArg (SV.int _) ?_; omega))) | (with_reducible refine Unf.h ?_) | exact True.intro) | fail); all_goals try (conv => whnf))
            · clear hI hI2 hi h
              rintro ⟨i, s⟩ ⟨hi, hI⟩
              dsimp only at hi hI
              repeat' (first | (with_reducible refine Unf.h ?_) | ((conv => whnf); first | refine Fork.mk (fun h => ?_) (fun h => ?_) | (refine Idx.mk ?_ ?_; focus (omega))) | fail); all_goals try (conv => whnf)
              · have h0 : i < r.reps.length := by omega
                have hrn : r.reps.length ≤ 1000 := by have : ¬ 1000 < r.reps.length := fun x => ‹¬ longR r› (.inr (.inl x)); omega
                have hi9 : mayM (i : Int) := ⟨by omega, by omega⟩
                obtain ⟨gn, ep, hx⟩ : ∃ gn ep, r.reps[((i : Nat) : Int).toNat]'h0 = (gn, ep) := ⟨_, _, rfl⟩
                have hxi : r.reps[i]'h0 = (gn, ep) := hx
                obtain ⟨_ | ⟨b, q⟩, g⟩ := s
                · cases gn with
                  | true =>
                    simp only [hx]
                    repeat' (first | (with_reducible first | refine Unf.h ?_ | refine loopK_n ?_) | ((conv => whnf); first | refine Fork.mkn (fun h => ?_) (fun h => ?_) | (refine Side.mk ?_ ?_; focus ((intros; (try simp only [lenS, inR, cutS, loI, hiI] at *); omega))) | (with_reducible refine Unf.h ?_)) | fail); all_goals try (conv => whnf)
                    · have hS := hI.step h0 true false (by rw [hxi]; exact ⟨fun x => absurd (x.2 rfl) h, fun x => (by cases x.2)⟩) (fun x => (by cases x))
                      refine ⟨(i + 1, [], false), ⟨by show r.reps.length - (i + 1) < r.reps.length - i; omega, by show i + 1 ≤ r.reps.length; omega, hS⟩, ?_⟩
                      skip
                      repeat' (first | (with_reducible refine Unf.h ?_) | ((conv => whnf); first | (refine Side.mk ?_ ?_; focus (first | with_reducible rfl | (refine congrArg (SV.int _) ?_; omega))) | (with_reducible refine Unf.h ?_) | exact True.intro) | fail); all_goals try (conv => whnf)
                    · have hpl : LnP replicaW [(i : Int)] [goneW] := ⟨show 7 ≤ 10 by decide, show 1 ≤ 5 by decide, show 1 ≤ 2 by decide, fun s h => by rw [List.mem_singleton.1 h]; show 4 ≤ 1000; decide⟩
                      first | refine CallS.mk (c := pl0_c) ((replicaW, [(i : Int)], [goneW], g)) ?_ | refine Or2.l (CallS.mk (c := pl0_c) ((replicaW, [(i : Int)], [goneW], g)) ?_) | refine Or2.r (CallS.mk (c := pl0_c) ((replicaW, [(i : Int)], [goneW], g)) ?_)
                      repeat (first | (with_reducible refine Unf.h ?_) | ((conv => whnf); first | (refine Side.mk ?_ ?_; focus (first | with_reducible rfl | assumption | exact True.intro | rfl)) | (with_reducible refine Unf.h ?_)))
                      conv => whnf
                      refine Got.mk (fun e he => ?_)
                      have ha : (e : Bool) = true ↔ allM [(i : Int)] := he
                      clear he
                      have hS := hI.step h0 true e (by rw [hxi]; exact ⟨fun _ => ⟨rfl, ha.2 (allM1.2 hi9)⟩, fun x => ⟨by show mayM ep; rw [h]; exact ⟨by decide, by decide⟩, fun _ => h⟩⟩) (fun x => by rw [hxi]; exact lineW_len hpl (ha.1 x))
                      rw [show rpF i (r.reps[i]'h0) = lineW replicaW [(i : Int)] [goneW] by rw [hxi]; rfl] at hS
                      cases e with
                      | true =>
                        repeat' (first | (with_reducible first | refine Unf.h ?_ | refine loopK_n ?_) | ((conv => whnf); first | (refine Side.mk ?_ ?_; focus ((intros; (try simp only [lenS, inR, cutS, loI, hiI] at *); omega))) | (with_reducible refine Unf.h ?_)) | fail); all_goals try (conv => whnf)
                        refine ⟨(i + 1, ([] : B8) ++ lineW replicaW [(i : Int)] [goneW], true && g), ⟨by show r.reps.length - (i + 1) < r.reps.length - i; omega, by show i + 1 ≤ r.reps.length; omega, hS⟩, ?_⟩
                        skip
                        repeat' (first | (with_reducible refine Unf.h ?_) | ((conv => whnf); first | (refine Side.mk ?_ ?_; focus (first | with_reducible rfl | (refine congrArg (SV.int _) ?_; omega) | (simp [*]; done))) | (with_reducible refine Unf.h ?_)) | fail); all_goals try (conv => whnf)
                        all_goals (refine Side.mk rfl ?_)
                        all_goals (repeat' (first | (with_reducible refine Unf.h ?_) | ((conv => whnf); exact True.intro) | fail); all_goals try (conv => whnf))
                      | false =>
                        repeat' (first | (with_reducible first | refine Unf.h ?_ | refine loopK_n ?_) | ((conv => whnf); first | (refine Side.mk ?_ ?_; focus ((intros; (try simp only [lenS, inR, cutS, loI, hiI] at *); omega))) | (with_reducible refine Unf.h ?_)) | fail); all_goals try (conv => whnf)
                        refine ⟨(i + 1, [], false), ⟨by show r.reps.length - (i + 1) < r.reps.length - i; omega, by show i + 1 ≤ r.reps.length; omega, hS⟩, ?_⟩
                        skip
                        repeat' (first | (with_reducible refine Unf.h ?_) | ((conv => whnf); first | (refine Side.mk ?_ ?_; focus (first | with_reducible rfl | (refine congrArg (SV.int _) ?_; omega))) | (with_reducible refine Unf.h ?_) | exact True.intro) | fail); all_goals try (conv => whnf)
                  | false =>
                    simp only [hx]
                    repeat' (first | (with_reducible refine Unf.h ?_) | ((conv => whnf); (with_reducible refine Unf.h ?_)) | fail); all_goals try (conv => whnf)
                    have hpl : LnP replicaW [(i : Int), ep] [] := ⟨show 7 ≤ 10 by decide, show 2 ≤ 5 by decide, show 0 ≤ 2 by decide, fun s h => absurd h List.not_mem_nil⟩
                    first | refine CallS.mk (c := pl0_c) ((replicaW, [(i : Int), ep], [], g)) ?_ | refine Or2.l (CallS.mk (c := pl0_c) ((replicaW, [(i : Int), ep], [], g)) ?_) | refine Or2.r (CallS.mk (c := pl0_c) ((replicaW, [(i : Int), ep], [], g)) ?_)
                    repeat (first | (with_reducible refine Unf.h ?_) | ((conv => whnf); first | (refine Side.mk ?_ ?_; focus (first | with_reducible rfl | assumption | exact True.intro | rfl)) | (with_reducible refine Unf.h ?_)))
                    conv => whnf
                    refine Got.mk (fun e he => ?_)
                    have ha : (e : Bool) = true ↔ allM [(i : Int), ep] := he
                    clear he
                    have hS := hI.step h0 true e (by rw [hxi]; exact ⟨fun x => ⟨rfl, ha.2 (allM2.2 ⟨hi9, x.1⟩)⟩, fun x => ⟨(allM2.1 (ha.1 x.2)).2, fun y => (by cases y)⟩⟩) (fun x => by rw [hxi]; exact lineW_len hpl (ha.1 x))
                    rw [show rpF i (r.reps[i]'h0) = lineW replicaW [(i : Int), ep] [] by rw [hxi]; rfl] at hS
                    cases e with
                    | true =>
                      repeat' (first | (with_reducible first | refine Unf.h ?_ | refine loopK_n ?_) | ((conv => whnf); first | (refine Side.mk ?_ ?_; focus ((intros; (try simp only [lenS, inR, cutS, loI, hiI] at *); omega))) | (with_reducible refine Unf.h ?_)) | fail); all_goals try (conv => whnf)
                      refine ⟨(i + 1, ([] : B8) ++ lineW replicaW [(i : Int), ep] [], true && g), ⟨by show r.reps.length - (i + 1) < r.reps.length - i; omega, by show i + 1 ≤ r.reps.length; omega, hS⟩, ?_⟩
                      skip
                      repeat' (first | (with_reducible refine Unf.h ?_) | ((conv => whnf); first | (refine Side.mk ?_ ?_; focus (first | with_reducible rfl | (refine congrArg (SV.int _) ?_; omega) | (simp [*]; done))) | (with_reducible refine Unf.h ?_)) | fail); all_goals try (conv => whnf)
                      all_goals (refine Side.mk rfl ?_)
                      all_goals (repeat' (first | (with_reducible refine Unf.h ?_) | ((conv => whnf); exact True.intro) | fail); all_goals try (conv => whnf))
                    | false =>
                      repeat' (first | (with_reducible first | refine Unf.h ?_ | refine loopK_n ?_) | ((conv => whnf); first | (refine Side.mk ?_ ?_; focus ((intros; (try simp only [lenS, inR, cutS, loI, hiI] at *); omega))) | (with_reducible refine Unf.h ?_)) | fail); all_goals try (conv => whnf)
                      refine ⟨(i + 1, [], false), ⟨by show r.reps.length - (i + 1) < r.reps.length - i; omega, by show i + 1 ≤ r.reps.length; omega, hS⟩, ?_⟩
                      skip
                      repeat' (first | (with_reducible refine Unf.h ?_) | ((conv => whnf); first | (refine Side.mk ?_ ?_; focus (first | with_reducible rfl | (refine congrArg (SV.int _) ?_; omega))) | (with_reducible refine Unf.h ?_) | exact True.intro) | fail); all_goals try (conv => whnf)
                · have hl := hI.len
                  dsimp only at hl
                  cases gn with
                  | true =>
                    simp only [hx]
                    repeat' (first | (with_reducible first | refine Unf.h ?_ | refine loopK_n ?_) | ((conv => whnf); first | refine Fork.mkn (fun h => ?_) (fun h => ?_) | (refine Side.mk ?_ ?_; focus ((intros; (try simp only [lenS, inR, cutS, loI, hiI] at *); omega))) | (with_reducible refine Unf.h ?_)) | fail); all_goals try (conv => whnf)
                    · have hS := hI.step h0 true false (by rw [hxi]; exact ⟨fun x => absurd (x.2 rfl) h, fun x => (by cases x.2)⟩) (fun x => (by cases x))
                      refine ⟨(i + 1, b :: q, false), ⟨by show r.reps.length - (i + 1) < r.reps.length - i; omega, by show i + 1 ≤ r.reps.length; omega, hS⟩, ?_⟩
                      skip
                      repeat' (first | (with_reducible refine Unf.h ?_) | ((conv => whnf); first | (refine Side.mk ?_ ?_; focus (first | with_reducible rfl | (refine congrArg (SV.int _) ?_; omega))) | (with_reducible refine Unf.h ?_) | exact True.intro) | fail); all_goals try (conv => whnf)
                    · have hpl : LnP replicaW [(i : Int)] [goneW] := ⟨show 7 ≤ 10 by decide, show 1 ≤ 5 by decide, show 1 ≤ 2 by decide, fun s h => by rw [List.mem_singleton.1 h]; show 4 ≤ 1000; decide⟩
                      have hpp : pl1_c.pre (b :: q, replicaW, [(i : Int)], [goneW], g) := ⟨hpl, show (b :: q).length ≤ 1000000000 by omega⟩
                      first | refine CallS.mk (c := pl1_c) ((b :: q, replicaW, [(i : Int)], [goneW], g)) ?_ | refine Or2.l (CallS.mk (c := pl1_c) ((b :: q, replicaW, [(i : Int)], [goneW], g)) ?_) | refine Or2.r (CallS.mk (c := pl1_c) ((b :: q, replicaW, [(i : Int)], [goneW], g)) ?_)
                      repeat (first | (with_reducible refine Unf.h ?_) | ((conv => whnf); first | (refine Side.mk ?_ ?_; focus (first | with_reducible rfl | assumption | exact True.intro | rfl)) | (with_reducible refine Unf.h ?_)))
                      conv => whnf
                      refine Got.mk (fun e he => ?_)
                      have ha : (e : Bool) = true ↔ allM [(i : Int)] := he
                      clear he
                      have hS := hI.step h0 true e (by rw [hxi]; exact ⟨fun _ => ⟨rfl, ha.2 (allM1.2 hi9)⟩, fun x => ⟨by show mayM ep; rw [h]; exact ⟨by decide, by decide⟩, fun _ => h⟩⟩) (fun x => by rw [hxi]; exact lineW_len hpl (ha.1 x))
                      rw [show rpF i (r.reps[i]'h0) = lineW replicaW [(i : Int)] [goneW] by rw [hxi]; rfl] at hS
                      cases e with
                      | true =>
                        repeat' (first | (with_reducible first | refine Unf.h ?_ | refine loopK_n ?_) | ((conv => whnf); first | (refine Side.mk ?_ ?_; focus ((intros; (try simp only [lenS, inR, cutS, loI, hiI] at *); omega))) | (with_reducible refine Unf.h ?_)) | fail); all_goals try (conv => whnf)
                        refine ⟨(i + 1, (b :: q) ++ lineW replicaW [(i : Int)] [goneW], true && g), ⟨by show r.reps.length - (i + 1) < r.reps.length - i; omega, by show i + 1 ≤ r.reps.length; omega, hS⟩, ?_⟩
                        skip
                        repeat' (first | (with_reducible refine Unf.h ?_) | ((conv => whnf); first | (refine Side.mk ?_ ?_; focus (first | with_reducible rfl | (refine congrArg (SV.int _) ?_; omega) | (simp [*]; done))) | (with_reducible refine Unf.h ?_) | exact True.intro) | fail); all_goals try (conv => whnf)
                        all_goals (refine Side.mk rfl ?_)
                        all_goals (all_goals try (conv => whnf))
                      | false =>
                        repeat' (first | (with_reducible first | refine Unf.h ?_ | refine loopK_n ?_) | ((conv => whnf); first | (refine Side.mk ?_ ?_; focus ((intros; (try simp only [lenS, inR, cutS, loI, hiI] at *); omega))) | (with_reducible refine Unf.h ?_)) | fail); all_goals try (conv => whnf)
                        refine ⟨(i + 1, b :: q, false), ⟨by show r.reps.length - (i + 1) < r.reps.length - i; omega, by show i + 1 ≤ r.reps.length; omega, hS⟩, ?_⟩
                        skip
                        repeat' (first | (with_reducible refine Unf.h ?_) | ((conv => whnf); first | (refine Side.mk ?_ ?_; focus (first | with_reducible rfl | (refine congrArg (SV.int _) ?_; omega))) | (with_reducible refine Unf.h ?_) | exact True.intro) | fail); all_goals try (conv => whnf)
                  | false =>
                    simp only [hx]
                    repeat' (first | (with_reducible refine Unf.h ?_) | ((conv => whnf); (with_reducible refine Unf.h ?_)) | fail); all_goals try (conv => whnf)
                    have hpl : LnP replicaW [(i : Int), ep] [] := ⟨show 7 ≤ 10 by decide, show 2 ≤ 5 by decide, show 0 ≤ 2 by decide, fun s h => absurd h List.not_mem_nil⟩
                    have hpp : pl1_c.pre (b :: q, replicaW, [(i : Int), ep], [], g) := ⟨hpl, show (b :: q).length ≤ 1000000000 by omega⟩
                    first | refine CallS.mk (c := pl1_c) ((b :: q, replicaW, [(i : Int), ep], [], g)) ?_ | refine Or2.l (CallS.mk (c := pl1_c) ((b :: q, replicaW, [(i : Int), ep], [], g)) ?_) | refine Or2.r (CallS.mk (c := pl1_c) ((b :: q, replicaW, [(i : Int), ep], [], g)) ?_)
                    repeat (first | (with_reducible refine Unf.h ?_) | ((conv => whnf); first | (refine Side.mk ?_ ?_; focus (first | with_reducible rfl | assumption | exact True.intro | rfl)) | (with_reducible refine Unf.h ?_)))
                    conv => whnf
                    refine Got.mk (fun e he => ?_)
                    have ha : (e : Bool) = true ↔ allM [(i : Int), ep] := he
                    clear he
                    have hS := hI.step h0 true e (by rw [hxi]; exact ⟨fun x => ⟨rfl, ha.2 (allM2.2 ⟨hi9, x.1⟩)⟩, fun x => ⟨(allM2.1 (ha.1 x.2)).2, fun y => (by cases y)⟩⟩) (fun x => by rw [hxi]; exact lineW_len hpl (ha.1 x))
                    rw [show rpF i (r.reps[i]'h0) = lineW replicaW [(i : Int), ep] [] by rw [hxi]; rfl] at hS
                    cases e with
                    | true =>
                      repeat' (first | (with_reducible first | refine Unf.h ?_ | refine loopK_n ?_) | ((conv => whnf); first | (refine Side.mk ?_ ?_; focus ((intros; (try simp only [lenS, inR, cutS, loI, hiI] at *); omega))) | (with_reducible refine Unf.h ?_)) | fail); all_goals try (conv => whnf)
                      refine ⟨(i + 1, (b :: q) ++ lineW replicaW [(i : Int), ep] [], true && g), ⟨by show r.reps.length - (i + 1) < r.reps.length - i; omega, by show i + 1 ≤ r.reps.length; omega, hS⟩, ?_⟩
                      skip
                      repeat' (first | (with_reducible refine Unf.h ?_) | ((conv => whnf); first | (refine Side.mk ?_ ?_; focus (first | with_reducible rfl | (refine congrArg (SV.int _) ?_; omega) | (simp [*]; done))) | (with_reducible refine Unf.h ?_) | exact True.intro) | fail); all_goals try (conv => whnf)
                      all_goals (refine Side.mk rfl ?_)
                      all_goals (all_goals try (conv => whnf))
                    | false =>
                      repeat' (first | (with_reducible first | refine Unf.h ?_ | refine loopK_n ?_) | ((conv => whnf); first | (refine Side.mk ?_ ?_; focus ((intros; (try simp only [lenS, inR, cutS, loI, hiI] at *); omega))) | (with_reducible refine Unf.h ?_)) | fail); all_goals try (conv => whnf)
                      refine ⟨(i + 1, b :: q, false), ⟨by show r.reps.length - (i + 1) < r.reps.length - i; omega, by show i + 1 ≤ r.reps.length; omega, hS⟩, ?_⟩
                      skip
                      repeat' (first | (with_reducible refine Unf.h ?_) | ((conv => whnf); first | (refine Side.mk ?_ ?_; focus (first | with_reducible rfl | (refine congrArg (SV.int _) ?_; omega))) | (with_reducible refine Unf.h ?_) | exact True.intro) | fail); all_goals try (conv => whnf)
              · have hI3 := hI.all (by omega)
                refine LoopS.autoN (I := Nat × B8 × Bool) (fun s => s.1 ≤ r.upds.length ∧ PrI (((okH r ∧ ∀ a ∈ r.eps, epOk a) ∧ ∀ a ∈ r.reps, rpOk a) ∧ allN upOk r.upds s.1) (t2 r r.reps.length ++ catN (upF updateW) r.upds s.1) (8009 * ((2 + r.eps.length + r.reps.length) + s.1)) s.2) (fun s => [(82, .int .i64 s.1)]) (fun s => prO r s.2) 3 (fun s => r.upds.length - s.1) (0, s) ⟨Nat.zero_le _, hI3.zero⟩ ?_ ?_
                · obtain ⟨_ | ⟨b, q⟩, g⟩ := s
                  all_goals (repeat' (first | (with_reducible refine Unf.h ?_) | ((conv => whnf); first | (refine Side.mk ?_ ?_; focus (first | with_reducible rfl | (refine congrArg (SV.int _) ?_; omega))) | (with_reducible refine Unf.h ?_) | exact True.intro) | fail); all_goals try (conv => whnf))
                · clear hI hI3 hi h
                  rintro ⟨i, s⟩ ⟨hi, hI⟩
                  dsimp only at hi hI
                  repeat' (first | (with_reducible refine Unf.h ?_) | ((conv => whnf); first | refine Fork.mk (fun h => ?_) (fun h => ?_) | (refine Idx.mk ?_ ?_; focus (omega))) | fail); all_goals try (conv => whnf)
                  · have h0 : i < r.upds.length := by omega
                    obtain ⟨q1, q2, q3, q4⟩ : r.eps.length ≤ 1000 ∧ r.reps.length ≤ 1000 ∧ r.upds.length ≤ 1000 ∧ r.looks.length ≤ 1000 := by
                      have hno : ¬ longR r := by assumption
                      unfold longR at hno
                      omega
                    have hlb : (r.upds[((i : Nat) : Int).toNat]'h0).label.length ≤ 150 := hu _ (List.getElem_mem _)
                    have hpl : LnP updateW [(r.upds[((i : Nat) : Int).toNat]'h0).client, (r.upds[((i : Nat) : Int).toNat]'h0).seq, (r.upds[((i : Nat) : Int).toNat]'h0).epoch] [bytesS (r.upds[((i : Nat) : Int).toNat]'h0).label] := upLnP (show 6 ≤ 10 by decide) hlb
                    obtain ⟨_ | ⟨b, q⟩, g⟩ := s
                    · have hpb : plb0_c.pre ((r.upds[((i : Nat) : Int).toNat]'h0).label, g) := show (r.upds[((i : Nat) : Int).toNat]'h0).label.length ≤ 1000000 by omega
                      repeat' (first | (with_reducible refine Unf.h ?_) | ((conv => whnf); first | refine Both.mk ?_ ?_ | refine Both.mk ?_ ?_ | (with_reducible refine Unf.h ?_)) | fail); all_goals try (conv => whnf)
                      all_goals (
                        skip
                        first | refine CallS.mk (c := plb0_c) (((r.upds[((i : Nat) : Int).toNat]'h0).label, g)) ?_ | refine Or2.l (CallS.mk (c := plb0_c) (((r.upds[((i : Nat) : Int).toNat]'h0).label, g)) ?_) | refine Or2.r (CallS.mk (c := plb0_c) (((r.upds[((i : Nat) : Int).toNat]'h0).label, g)) ?_)
                        repeat (first | (with_reducible refine Unf.h ?_) | ((conv => whnf); first | (refine Side.mk ?_ ?_; focus (first | with_reducible rfl | assumption | exact True.intro | rfl)) | (with_reducible refine Unf.h ?_)))
                        conv => whnf
                        refine Got.mk (fun e he => ?_)
                        have ha1 : (e : Bool) = true ↔ (r.upds[((i : Nat) : Int).toNat]'h0).label.length ≤ 100 := he
                        clear he
                        cases e with
                        | true =>
                          repeat' (first | (with_reducible refine Unf.h ?_) | ((conv => whnf); first | refine Both.mk ?_ ?_ | refine Both.mk ?_ ?_ | (with_reducible refine Unf.h ?_)) | fail); all_goals try (conv => whnf)
                          all_goals (
                            skip
                            first | refine CallS.mk (c := pl0_c) ((updateW, [(r.upds[((i : Nat) : Int).toNat]'h0).client, (r.upds[((i : Nat) : Int).toNat]'h0).seq, (r.upds[((i : Nat) : Int).toNat]'h0).epoch], [bytesS (r.upds[((i : Nat) : Int).toNat]'h0).label], g)) ?_ | refine Or2.l (CallS.mk (c := pl0_c) ((updateW, [(r.upds[((i : Nat) : Int).toNat]'h0).client, (r.upds[((i : Nat) : Int).toNat]'h0).seq, (r.upds[((i : Nat) : Int).toNat]'h0).epoch], [bytesS (r.upds[((i : Nat) : Int).toNat]'h0).label], g)) ?_) | refine Or2.r (CallS.mk (c := pl0_c) ((updateW, [(r.upds[((i : Nat) : Int).toNat]'h0).client, (r.upds[((i : Nat) : Int).toNat]'h0).seq, (r.upds[((i : Nat) : Int).toNat]'h0).epoch], [bytesS (r.upds[((i : Nat) : Int).toNat]'h0).label], g)) ?_)
                            repeat (first | (with_reducible refine Unf.h ?_) | ((conv => whnf); first | (refine Side.mk ?_ ?_; focus (first | with_reducible rfl | assumption | exact True.intro | rfl)) | (with_reducible refine Unf.h ?_)))
                            conv => whnf
                            refine Got.mk (fun e he => ?_)
                            have ha : (e : Bool) = true ↔ allM [(r.upds[((i : Nat) : Int).toNat]'h0).client, (r.upds[((i : Nat) : Int).toNat]'h0).seq, (r.upds[((i : Nat) : Int).toNat]'h0).epoch] := he
                            clear he
                            have hS := hI.step h0 true e (⟨fun x => ⟨rfl, ha.2 (allM3.2 ⟨x.1, x.2.1, x.2.2.1⟩)⟩, fun x => by obtain ⟨a, b, c⟩ := allM3.1 (ha.1 x.2); exact ⟨a, b, c, ha1.1 rfl⟩⟩) (fun x => lineW_len hpl (ha.1 x))
                            cases e with
                            | true =>
                              repeat' (first | (with_reducible first | refine Unf.h ?_ | refine loopK_n ?_) | ((conv => whnf); first | (refine Side.mk ?_ ?_; focus ((intros; (try simp only [lenS, inR, cutS, loI, hiI] at *); omega))) | (with_reducible refine Unf.h ?_)) | fail); all_goals try (conv => whnf)
                              refine ⟨(i + 1, ([] : B8) ++ lineW updateW [(r.upds[((i : Nat) : Int).toNat]'h0).client, (r.upds[((i : Nat) : Int).toNat]'h0).seq, (r.upds[((i : Nat) : Int).toNat]'h0).epoch] [bytesS (r.upds[((i : Nat) : Int).toNat]'h0).label], true && g), ⟨by show r.upds.length - (i + 1) < r.upds.length - i; omega, by show i + 1 ≤ r.upds.length; omega, hS⟩, ?_⟩
                              skip
                              repeat' (first | (with_reducible refine Unf.h ?_) | ((conv => whnf); first | (refine Side.mk ?_ ?_; focus (first | with_reducible rfl | (refine congrArg (SV.int _) ?_; omega) | (simp [*]; done))) | (with_reducible refine Unf.h ?_)) | fail); all_goals try (conv => whnf)
                              all_goals (refine Side.mk rfl ?_)
                              all_goals (repeat' (first | (with_reducible refine Unf.h ?_) | ((conv => whnf); exact True.intro) | fail); all_goals try (conv => whnf))
                            | false =>
                              repeat' (first | (with_reducible first | refine Unf.h ?_ | refine loopK_n ?_) | ((conv => whnf); first | (refine Side.mk ?_ ?_; focus ((intros; (try simp only [lenS, inR, cutS, loI, hiI] at *); omega))) | (with_reducible refine Unf.h ?_)) | fail); all_goals try (conv => whnf)
                              refine ⟨(i + 1, [], false), ⟨by show r.upds.length - (i + 1) < r.upds.length - i; omega, by show i + 1 ≤ r.upds.length; omega, hS⟩, ?_⟩
                              skip
                              repeat' (first | (with_reducible refine Unf.h ?_) | ((conv => whnf); first | (refine Side.mk ?_ ?_; focus (first | with_reducible rfl | (refine congrArg (SV.int _) ?_; omega))) | (with_reducible refine Unf.h ?_) | exact True.intro) | fail); all_goals try (conv => whnf))
                        | false =>
                          repeat' (first | (with_reducible refine Unf.h ?_) | ((conv => whnf); first | refine Both.mk ?_ ?_ | refine Both.mk ?_ ?_ | (with_reducible refine Unf.h ?_)) | fail); all_goals try (conv => whnf)
                          all_goals (
                            skip
                            first | refine CallS.mk (c := pl0_c) ((updateW, [(r.upds[((i : Nat) : Int).toNat]'h0).client, (r.upds[((i : Nat) : Int).toNat]'h0).seq, (r.upds[((i : Nat) : Int).toNat]'h0).epoch], [bytesS (r.upds[((i : Nat) : Int).toNat]'h0).label], false)) ?_ | refine Or2.l (CallS.mk (c := pl0_c) ((updateW, [(r.upds[((i : Nat) : Int).toNat]'h0).client, (r.upds[((i : Nat) : Int).toNat]'h0).seq, (r.upds[((i : Nat) : Int).toNat]'h0).epoch], [bytesS (r.upds[((i : Nat) : Int).toNat]'h0).label], false)) ?_) | refine Or2.r (CallS.mk (c := pl0_c) ((updateW, [(r.upds[((i : Nat) : Int).toNat]'h0).client, (r.upds[((i : Nat) : Int).toNat]'h0).seq, (r.upds[((i : Nat) : Int).toNat]'h0).epoch], [bytesS (r.upds[((i : Nat) : Int).toNat]'h0).label], false)) ?_)
                            repeat (first | (with_reducible refine Unf.h ?_) | ((conv => whnf); first | (refine Side.mk ?_ ?_; focus (first | with_reducible rfl | assumption | exact True.intro | rfl)) | (with_reducible refine Unf.h ?_)))
                            conv => whnf
                            refine Got.mk (fun e he => ?_)
                            have ha : (e : Bool) = true ↔ allM [(r.upds[((i : Nat) : Int).toNat]'h0).client, (r.upds[((i : Nat) : Int).toNat]'h0).seq, (r.upds[((i : Nat) : Int).toNat]'h0).epoch] := he
                            clear he
                            have hS := hI.step h0 false e (⟨fun x => (by have := ha1.2 x.2.2.2; cases this), fun x => (by cases x.1)⟩) (fun x => lineW_len hpl (ha.1 x))
                            cases e with
                            | true =>
                              repeat' (first | (with_reducible first | refine Unf.h ?_ | refine loopK_n ?_) | ((conv => whnf); first | (refine Side.mk ?_ ?_; focus ((intros; (try simp only [lenS, inR, cutS, loI, hiI] at *); omega))) | (with_reducible refine Unf.h ?_)) | fail); all_goals try (conv => whnf)
                              refine ⟨(i + 1, ([] : B8) ++ lineW updateW [(r.upds[((i : Nat) : Int).toNat]'h0).client, (r.upds[((i : Nat) : Int).toNat]'h0).seq, (r.upds[((i : Nat) : Int).toNat]'h0).epoch] [bytesS (r.upds[((i : Nat) : Int).toNat]'h0).label], false && g), ⟨by show r.upds.length - (i + 1) < r.upds.length - i; omega, by show i + 1 ≤ r.upds.length; omega, hS⟩, ?_⟩
                              skip
                              repeat' (first | (with_reducible refine Unf.h ?_) | ((conv => whnf); first | (refine Side.mk ?_ ?_; focus (first | with_reducible rfl | (refine congrArg (SV.int _) ?_; omega) | (simp [*]; done))) | (with_reducible refine Unf.h ?_)) | fail); all_goals try (conv => whnf)
                              all_goals (refine Side.mk rfl ?_)
                              all_goals (repeat' (first | (with_reducible refine Unf.h ?_) | ((conv => whnf); exact True.intro) | fail); all_goals try (conv => whnf))
                            | false =>
                              repeat' (first | (with_reducible first | refine Unf.h ?_ | refine loopK_n ?_) | ((conv => whnf); first | (refine Side.mk ?_ ?_; focus ((intros; (try simp only [lenS, inR, cutS, loI, hiI] at *); omega))) | (with_reducible refine Unf.h ?_)) | fail); all_goals try (conv => whnf)
                              refine ⟨(i + 1, [], false), ⟨by show r.upds.length - (i + 1) < r.upds.length - i; omega, by show i + 1 ≤ r.upds.length; omega, hS⟩, ?_⟩
                              skip
                              repeat' (first | (with_reducible refine Unf.h ?_) | ((conv => whnf); first | (refine Side.mk ?_ ?_; focus (first | with_reducible rfl | (refine congrArg (SV.int _) ?_; omega))) | (with_reducible refine Unf.h ?_) | exact True.intro) | fail); all_goals try (conv => whnf)))
                    · have hl := hI.len
                      dsimp only at hl
                      have hpb : plb1_c.pre (b :: q, (r.upds[((i : Nat) : Int).toNat]'h0).label, g) := show (r.upds[((i : Nat) : Int).toNat]'h0).label.length ≤ 1000000 by omega
                      repeat' (first | (with_reducible refine Unf.h ?_) | ((conv => whnf); first | refine Both.mk ?_ ?_ | refine Both.mk ?_ ?_ | (with_reducible refine Unf.h ?_)) | fail); all_goals try (conv => whnf)
                      all_goals (
                        skip
                        first | refine CallS.mk (c := plb1_c) ((b :: q, (r.upds[((i : Nat) : Int).toNat]'h0).label, g)) ?_ | refine Or2.l (CallS.mk (c := plb1_c) ((b :: q, (r.upds[((i : Nat) : Int).toNat]'h0).label, g)) ?_) | refine Or2.r (CallS.mk (c := plb1_c) ((b :: q, (r.upds[((i : Nat) : Int).toNat]'h0).label, g)) ?_)
                        repeat (first | (with_reducible refine Unf.h ?_) | ((conv => whnf); first | (refine Side.mk ?_ ?_; focus (first | with_reducible rfl | assumption | exact True.intro | rfl)) | (with_reducible refine Unf.h ?_)))
                        conv => whnf
                        refine Got.mk (fun e he => ?_)
                        have ha1 : (e : Bool) = true ↔ (r.upds[((i : Nat) : Int).toNat]'h0).label.length ≤ 100 := he
                        clear he
                        cases e with
                        | true =>
                          have hpp : pl1_c.pre (b :: q, updateW, [(r.upds[((i : Nat) : Int).toNat]'h0).client, (r.upds[((i : Nat) : Int).toNat]'h0).seq, (r.upds[((i : Nat) : Int).toNat]'h0).epoch], [bytesS (r.upds[((i : Nat) : Int).toNat]'h0).label], g) := ⟨hpl, show (b :: q).length ≤ 1000000000 by omega⟩
                          repeat' (first | (with_reducible refine Unf.h ?_) | ((conv => whnf); first | refine Both.mk ?_ ?_ | refine Both.mk ?_ ?_ | (with_reducible refine Unf.h ?_)) | fail); all_goals try (conv => whnf)
                          all_goals (
                            skip
                            first | refine CallS.mk (c := pl1_c) ((b :: q, updateW, [(r.upds[((i : Nat) : Int).toNat]'h0).client, (r.upds[((i : Nat) : Int).toNat]'h0).seq, (r.upds[((i : Nat) : Int).toNat]'h0).epoch], [bytesS (r.upds[((i : Nat) : Int).toNat]'h0).label], g)) ?_ | refine Or2.l (CallS.mk (c := pl1_c) ((b :: q, updateW, [(r.upds[((i : Nat) : Int).toNat]'h0).client, (r.upds[((i : Nat) : Int).toNat]'h0).seq, (r.upds[((i : Nat) : Int).toNat]'h0).epoch], [bytesS (r.upds[((i : Nat) : Int).toNat]'h0).label], g)) ?_) | refine Or2.r (CallS.mk (c := pl1_c) ((b :: q, updateW, [(r.upds[((i : Nat) : Int).toNat]'h0).client, (r.upds[((i : Nat) : Int).toNat]'h0).seq, (r.upds[((i : Nat) : Int).toNat]'h0).epoch], [bytesS (r.upds[((i : Nat) : Int).toNat]'h0).label], g)) ?_)
                            repeat (first | (with_reducible refine Unf.h ?_) | ((conv => whnf); first | (refine Side.mk ?_ ?_; focus (first | with_reducible rfl | assumption | exact True.intro | rfl)) | (with_reducible refine Unf.h ?_)))
                            conv => whnf
                            refine Got.mk (fun e he => ?_)
                            have ha : (e : Bool) = true ↔ allM [(r.upds[((i : Nat) : Int).toNat]'h0).client, (r.upds[((i : Nat) : Int).toNat]'h0).seq, (r.upds[((i : Nat) : Int).toNat]'h0).epoch] := he
                            clear he
                            have hS := hI.step h0 true e (⟨fun x => ⟨rfl, ha.2 (allM3.2 ⟨x.1, x.2.1, x.2.2.1⟩)⟩, fun x => by obtain ⟨a, b, c⟩ := allM3.1 (ha.1 x.2); exact ⟨a, b, c, ha1.1 rfl⟩⟩) (fun x => lineW_len hpl (ha.1 x))
                            cases e with
                            | true =>
                              repeat' (first | (with_reducible first | refine Unf.h ?_ | refine loopK_n ?_) | ((conv => whnf); first | (refine Side.mk ?_ ?_; focus ((intros; (try simp only [lenS, inR, cutS, loI, hiI] at *); omega))) | (with_reducible refine Unf.h ?_)) | fail); all_goals try (conv => whnf)
                              refine ⟨(i + 1, (b :: q) ++ lineW updateW [(r.upds[((i : Nat) : Int).toNat]'h0).client, (r.upds[((i : Nat) : Int).toNat]'h0).seq, (r.upds[((i : Nat) : Int).toNat]'h0).epoch] [bytesS (r.upds[((i : Nat) : Int).toNat]'h0).label], true && g), ⟨by show r.upds.length - (i + 1) < r.upds.length - i; omega, by show i + 1 ≤ r.upds.length; omega, hS⟩, ?_⟩
                              skip
                              repeat' (first | (with_reducible refine Unf.h ?_) | ((conv => whnf); first | (refine Side.mk ?_ ?_; focus (first | with_reducible rfl | (refine congrArg (SV.int _) ?_; omega) | (simp [*]; done))) | (with_reducible refine Unf.h ?_) | exact True.intro) | fail); all_goals try (conv => whnf)
                              all_goals (refine Side.mk rfl ?_)
                              all_goals (all_goals try (conv => whnf))
                            | false =>
                              repeat' (first | (with_reducible first | refine Unf.h ?_ | refine loopK_n ?_) | ((conv => whnf); first | (refine Side.mk ?_ ?_; focus ((intros; (try simp only [lenS, inR, cutS, loI, hiI] at *); omega))) | (with_reducible refine Unf.h ?_)) | fail); all_goals try (conv => whnf)
                              refine ⟨(i + 1, b :: q, false), ⟨by show r.upds.length - (i + 1) < r.upds.length - i; omega, by show i + 1 ≤ r.upds.length; omega, hS⟩, ?_⟩
                              skip
                              repeat' (first | (with_reducible refine Unf.h ?_) | ((conv => whnf); first | (refine Side.mk ?_ ?_; focus (first | with_reducible rfl | (refine congrArg (SV.int _) ?_; omega))) | (with_reducible refine Unf.h ?_) | exact True.intro) | fail); all_goals try (conv => whnf))
                        | false =>
                          have hpp : pl1_c.pre (b :: q, updateW, [(r.upds[((i : Nat) : Int).toNat]'h0).client, (r.upds[((i : Nat) : Int).toNat]'h0).seq, (r.upds[((i : Nat) : Int).toNat]'h0).epoch], [bytesS (r.upds[((i : Nat) : Int).toNat]'h0).label], false) := ⟨hpl, show (b :: q).length ≤ 1000000000 by omega⟩
                          repeat' (first | (with_reducible refine Unf.h ?_) | ((conv => whnf); first | refine Both.mk ?_ ?_ | refine Both.mk ?_ ?_ | (with_reducible refine Unf.h ?_)) | fail); all_goals try (conv => whnf)
                          all_goals (
                            skip
                            first | refine CallS.mk (c := pl1_c) ((b :: q, updateW, [(r.upds[((i : Nat) : Int).toNat]'h0).client, (r.upds[((i : Nat) : Int).toNat]'h0).seq, (r.upds[((i : Nat) : Int).toNat]'h0).epoch], [bytesS (r.upds[((i : Nat) : Int).toNat]'h0).label], false)) ?_ | refine Or2.l (CallS.mk (c := pl1_c) ((b :: q, updateW, [(r.upds[((i : Nat) : Int).toNat]'h0).client, (r.upds[((i : Nat) : Int).toNat]'h0).seq, (r.upds[((i : Nat) : Int).toNat]'h0).epoch], [bytesS (r.upds[((i : Nat) : Int).toNat]'h0).label], false)) ?_) | refine Or2.r (CallS.mk (c := pl1_c) ((b :: q, updateW, [(r.upds[((i : Nat) : Int).toNat]'h0).client, (r.upds[((i : Nat) : Int).toNat]'h0).seq, (r.upds[((i : Nat) : Int).toNat]'h0).epoch], [bytesS (r.upds[((i : Nat) : Int).toNat]'h0).label], false)) ?_)
                            repeat (first | (with_reducible refine Unf.h ?_) | ((conv => whnf); first | (refine Side.mk ?_ ?_; focus (first | with_reducible rfl | assumption | exact True.intro | rfl)) | (with_reducible refine Unf.h ?_)))
                            conv => whnf
                            refine Got.mk (fun e he => ?_)
                            have ha : (e : Bool) = true ↔ allM [(r.upds[((i : Nat) : Int).toNat]'h0).client, (r.upds[((i : Nat) : Int).toNat]'h0).seq, (r.upds[((i : Nat) : Int).toNat]'h0).epoch] := he
                            clear he
                            have hS := hI.step h0 false e (⟨fun x => (by have := ha1.2 x.2.2.2; cases this), fun x => (by cases x.1)⟩) (fun x => lineW_len hpl (ha.1 x))
                            cases e with
                            | true =>
                              repeat' (first | (with_reducible first | refine Unf.h ?_ | refine loopK_n ?_) | ((conv => whnf); first | (refine Side.mk ?_ ?_; focus ((intros; (try simp only [lenS, inR, cutS, loI, hiI] at *); omega))) | (with_reducible refine Unf.h ?_)) | fail); all_goals try (conv => whnf)
                              refine ⟨(i + 1, (b :: q) ++ lineW updateW [(r.upds[((i : Nat) : Int).toNat]'h0).client, (r.upds[((i : Nat) : Int).toNat]'h0).seq, (r.upds[((i : Nat) : Int).toNat]'h0).epoch] [bytesS (r.upds[((i : Nat) : Int).toNat]'h0).label], false && g), ⟨by show r.upds.length - (i + 1) < r.upds.length - i; omega, by show i + 1 ≤ r.upds.length; omega, hS⟩, ?_⟩
                              skip
                              repeat' (first | (with_reducible refine Unf.h ?_) | ((conv => whnf); first | (refine Side.mk ?_ ?_; focus (first | with_reducible rfl | (refine congrArg (SV.int _) ?_; omega) | (simp [*]; done))) | (with_reducible refine Unf.h ?_) | exact True.intro) | fail); all_goals try (conv => whnf)
                              all_goals (refine Side.mk rfl ?_)
                              all_goals (all_goals try (conv => whnf))
                            | false =>
                              repeat' (first | (with_reducible first | refine Unf.h ?_ | refine loopK_n ?_) | ((conv => whnf); first | (refine Side.mk ?_ ?_; focus ((intros; (try simp only [lenS, inR, cutS, loI, hiI] at *); omega))) | (with_reducible refine Unf.h ?_)) | fail); all_goals try (conv => whnf)
                              refine ⟨(i + 1, b :: q, false), ⟨by show r.upds.length - (i + 1) < r.upds.length - i; omega, by show i + 1 ≤ r.upds.length; omega, hS⟩, ?_⟩
                              skip
                              repeat' (first | (with_reducible refine Unf.h ?_) | ((conv => whnf); first | (refine Side.mk ?_ ?_; focus (first | with_reducible rfl | (refine congrArg (SV.int _) ?_; omega))) | (with_reducible refine Unf.h ?_) | exact True.intro) | fail); all_goals try (conv => whnf)))
                  · have hI4 := hI.all (by omega)
                    refine LoopS.autoN (I := Nat × B8 × Bool) (fun s => s.1 ≤ r.looks.length ∧ PrI ((((okH r ∧ ∀ a ∈ r.eps, epOk a) ∧ ∀ a ∈ r.reps, rpOk a) ∧ ∀ a ∈ r.upds, upOk a) ∧ allN upOk r.looks s.1) (t3 r r.upds.length ++ catN (upF lookW) r.looks s.1) (8009 * ((2 + r.eps.length + r.reps.length + r.upds.length) + s.1)) s.2) (fun s => [(104, .int .i64 s.1)]) (fun s => prO r s.2) 3 (fun s => r.looks.length - s.1) (0, s) ⟨Nat.zero_le _, hI4.zero⟩ ?_ ?_
                    · obtain ⟨_ | ⟨b, q⟩, g⟩ := s
                      all_goals (repeat' (first | (with_reducible refine Unf.h ?_) | ((conv => whnf); first | (refine Side.mk ?_ ?_; focus (first | with_reducible rfl | (refine congrArg (SV.int _) ?_; omega))) | (with_reducible refine Unf.h ?_) | exact True.intro) | fail); all_goals try (conv => whnf))
                    · clear hI hI4 hi h
                      rintro ⟨i, s⟩ ⟨hi, hI⟩
                      dsimp only at hi hI
                      repeat' (first | (with_reducible refine Unf.h ?_) | ((conv => whnf); first | refine Fork.mk (fun h => ?_) (fun h => ?_) | (refine Idx.mk ?_ ?_; focus (omega))) | fail); all_goals try (conv => whnf)
                      · have h0 : i < r.looks.length := by omega
                        obtain ⟨q1, q2, q3, q4⟩ : r.eps.length ≤ 1000 ∧ r.reps.length ≤ 1000 ∧ r.upds.length ≤ 1000 ∧ r.looks.length ≤ 1000 := by
                          have hno : ¬ longR r := by assumption
                          unfold longR at hno
                          omega
                        have hlb : (r.looks[((i : Nat) : Int).toNat]'h0).label.length ≤ 150 := hk _ (List.getElem_mem _)
                        have hpl : LnP lookW [(r.looks[((i : Nat) : Int).toNat]'h0).client, (r.looks[((i : Nat) : Int).toNat]'h0).seq, (r.looks[((i : Nat) : Int).toNat]'h0).epoch] [bytesS (r.looks[((i : Nat) : Int).toNat]'h0).label] := upLnP (show 4 ≤ 10 by decide) hlb
                        obtain ⟨_ | ⟨b, q⟩, g⟩ := s
                        · have hpb : plb0_c.pre ((r.looks[((i : Nat) : Int).toNat]'h0).label, g) := show (r.looks[((i : Nat) : Int).toNat]'h0).label.length ≤ 1000000 by omega
                          repeat' (first | (with_reducible refine Unf.h ?_) | ((conv => whnf); first | refine Both.mk ?_ ?_ | refine Both.mk ?_ ?_ | (with_reducible refine Unf.h ?_)) | fail); all_goals try (conv => whnf)
                          all_goals (
                            skip
                            first | refine CallS.mk (c := plb0_c) (((r.looks[((i : Nat) : Int).toNat]'h0).label, g)) ?_ | refine Or2.l (CallS.mk (c := plb0_c) (((r.looks[((i : Nat) : Int).toNat]'h0).label, g)) ?_) | refine Or2.r (CallS.mk (c := plb0_c) (((r.looks[((i : Nat) : Int).toNat]'h0).label, g)) ?_)
                            repeat (first | (with_reducible refine Unf.h ?_) | ((conv => whnf); first | (refine Side.mk ?_ ?_; focus (first | with_reducible rfl | assumption | exact True.intro | rfl)) | (with_reducible refine Unf.h ?_)))
                            conv => whnf
                            refine Got.mk (fun e he => ?_)
                            have ha1 : (e : Bool) = true ↔ (r.looks[((i : Nat) : Int).toNat]'h0).label.length ≤ 100 := he
                            clear he
                            cases e with
                            | true =>
                              repeat' (first | (with_reducible refine Unf.h ?_) | ((conv => whnf); first | refine Both.mk ?_ ?_ | refine Both.mk ?_ ?_ | (with_reducible refine Unf.h ?_)) | fail); all_goals try (conv => whnf)
                              all_goals (
                                skip
                                first | refine CallS.mk (c := pl0_c) ((lookW, [(r.looks[((i : Nat) : Int).toNat]'h0).client, (r.looks[((i : Nat) : Int).toNat]'h0).seq, (r.looks[((i : Nat) : Int).toNat]'h0).epoch], [bytesS (r.looks[((i : Nat) : Int).toNat]'h0).label], g)) ?_ | refine Or2.l (CallS.mk (c := pl0_c) ((lookW, [(r.looks[((i : Nat) : Int).toNat]'h0).client, (r.looks[((i : Nat) : Int).toNat]'h0).seq, (r.looks[((i : Nat) : Int).toNat]'h0).epoch], [bytesS (r.looks[((i : Nat) : Int).toNat]'h0).label], g)) ?_) | refine Or2.r (CallS.mk (c := pl0_c) ((lookW, [(r.looks[((i : Nat) : Int).toNat]'h0).client, (r.looks[((i : Nat) : Int).toNat]'h0).seq, (r.looks[((i : Nat) : Int).toNat]'h0).epoch], [bytesS (r.looks[((i : Nat) : Int).toNat]'h0).label], g)) ?_)
                                repeat (first | (with_reducible refine Unf.h ?_) | ((conv => whnf); first | (refine Side.mk ?_ ?_; focus (first | with_reducible rfl | assumption | exact True.intro | rfl)) | (with_reducible refine Unf.h ?_)))
                                conv => whnf
                                refine Got.mk (fun e he => ?_)
                                have ha : (e : Bool) = true ↔ allM [(r.looks[((i : Nat) : Int).toNat]'h0).client, (r.looks[((i : Nat) : Int).toNat]'h0).seq, (r.looks[((i : Nat) : Int).toNat]'h0).epoch] := he
                                clear he
                                have hS := hI.step h0 true e (⟨fun x => ⟨rfl, ha.2 (allM3.2 ⟨x.1, x.2.1, x.2.2.1⟩)⟩, fun x => by obtain ⟨a, b, c⟩ := allM3.1 (ha.1 x.2); exact ⟨a, b, c, ha1.1 rfl⟩⟩) (fun x => lineW_len hpl (ha.1 x))
                                cases e with
                                | true =>
                                  repeat' (first | (with_reducible first | refine Unf.h ?_ | refine loopK_n ?_) | ((conv => whnf); first | (refine Side.mk ?_ ?_; focus ((intros; (try simp only [lenS, inR, cutS, loI, hiI] at *); omega))) | (with_reducible refine Unf.h ?_)) | fail); all_goals try (conv => whnf)
                                  refine ⟨(i + 1, ([] : B8) ++ lineW lookW [(r.looks[((i : Nat) : Int).toNat]'h0).client, (r.looks[((i : Nat) : Int).toNat]'h0).seq, (r.looks[((i : Nat) : Int).toNat]'h0).epoch] [bytesS (r.looks[((i : Nat) : Int).toNat]'h0).label], true && g), ⟨by show r.looks.length - (i + 1) < r.looks.length - i; omega, by show i + 1 ≤ r.looks.length; omega, hS⟩, ?_⟩
                                  skip
                                  repeat' (first | (with_reducible refine Unf.h ?_) | ((conv => whnf); first | (refine Side.mk ?_ ?_; focus (first | with_reducible rfl | (refine congrArg (SV.int _) ?_; omega) | (simp [*]; done))) | (with_reducible refine Unf.h ?_)) | fail); all_goals try (conv => whnf)
                                  all_goals (refine Side.mk rfl ?_)
                                  all_goals (repeat' (first | (with_reducible refine Unf.h ?_) | ((conv => whnf); exact True.intro) | fail); all_goals try (conv => whnf))
                                | false =>
                                  repeat' (first | (with_reducible first | refine Unf.h ?_ | refine loopK_n ?_) | ((conv => whnf); first | (refine Side.mk ?_ ?_; focus ((intros; (try simp only [lenS, inR, cutS, loI, hiI] at *); omega))) | (with_reducible refine Unf.h ?_)) | fail); all_goals try (conv => whnf)
                                  refine ⟨(i + 1, [], false), ⟨by show r.looks.length - (i + 1) < r.looks.length - i; omega, by show i + 1 ≤ r.looks.length; omega, hS⟩, ?_⟩
                                  skip
                                  repeat' (first | (with_reducible refine Unf.h ?_) | ((conv => whnf); first | (refine Side.mk ?_ ?_; focus (first | with_reducible rfl | (refine congrArg (SV.int _) ?_; omega))) | (with_reducible refine Unf.h ?_) | exact True.intro) | fail); all_goals try (conv => whnf))
                            | false =>
                              repeat' (first | (with_reducible refine Unf.h ?_) | ((conv => whnf); first | refine Both.mk ?_ ?_ | refine Both.mk ?_ ?_ | (with_reducible refine Unf.h ?_)) | fail); all_goals try (conv => whnf)
                              all_goals (
                                skip
                                first | refine CallS.mk (c := pl0_c) ((lookW, [(r.looks[((i : Nat) : Int).toNat]'h0).client, (r.looks[((i : Nat) : Int).toNat]'h0).seq, (r.looks[((i : Nat) : Int).toNat]'h0).epoch], [bytesS (r.looks[((i : Nat) : Int).toNat]'h0).label], false)) ?_ | refine Or2.l (CallS.mk (c := pl0_c) ((lookW, [(r.looks[((i : Nat) : Int).toNat]'h0).client, (r.looks[((i : Nat) : Int).toNat]'h0).seq, (r.looks[((i : Nat) : Int).toNat]'h0).epoch], [bytesS (r.looks[((i : Nat) : Int).toNat]'h0).label], false)) ?_) | refine Or2.r (CallS.mk (c := pl0_c) ((lookW, [(r.looks[((i : Nat) : Int).toNat]'h0).client, (r.looks[((i : Nat) : Int).toNat]'h0).seq, (r.looks[((i : Nat) : Int).toNat]'h0).epoch], [bytesS (r.looks[((i : Nat) : Int).toNat]'h0).label], false)) ?_)
                                repeat (first | (with_reducible refine Unf.h ?_) | ((conv => whnf); first | (refine Side.mk ?_ ?_; focus (first | with_reducible rfl | assumption | exact True.intro | rfl)) | (with_reducible refine Unf.h ?_)))
                                conv => whnf
                                refine Got.mk (fun e he => ?_)
                                have ha : (e : Bool) = true ↔ allM [(r.looks[((i : Nat) : Int).toNat]'h0).client, (r.looks[((i : Nat) : Int).toNat]'h0).seq, (r.looks[((i : Nat) : Int).toNat]'h0).epoch] := he
                                clear he
                                have hS := hI.step h0 false e (⟨fun x => (by have := ha1.2 x.2.2.2; cases this), fun x => (by cases x.1)⟩) (fun x => lineW_len hpl (ha.1 x))
                                cases e with
                                | true =>
                                  repeat' (first | (with_reducible first | refine Unf.h ?_ | refine loopK_n ?_) | ((conv => whnf); first | (refine Side.mk ?_ ?_; focus ((intros; (try simp only [lenS, inR, cutS, loI, hiI] at *); omega))) | (with_reducible refine Unf.h ?_)) | fail); all_goals try (conv => whnf)
                                  refine ⟨(i + 1, ([] : B8) ++ lineW lookW [(r.looks[((i : Nat) : Int).toNat]'h0).client, (r.looks[((i : Nat) : Int).toNat]'h0).seq, (r.looks[((i : Nat) : Int).toNat]'h0).epoch] [bytesS (r.looks[((i : Nat) : Int).toNat]'h0).label], false && g), ⟨by show r.looks.length - (i + 1) < r.looks.length - i; omega, by show i + 1 ≤ r.looks.length; omega, hS⟩, ?_⟩
                                  skip
                                  repeat' (first | (with_reducible refine Unf.h ?_) | ((conv => whnf); first | (refine Side.mk ?_ ?_; focus (first | with_reducible rfl | (refine congrArg (SV.int _) ?_; omega) | (simp [*]; done))) | (with_reducible refine Unf.h ?_)) | fail); all_goals try (conv => whnf)
                                  all_goals (refine Side.mk rfl ?_)
                                  all_goals (repeat' (first | (with_reducible refine Unf.h ?_) | ((conv => whnf); exact True.intro) | fail); all_goals try (conv => whnf))
                                | false =>
                                  repeat' (first | (with_reducible first | refine Unf.h ?_ | refine loopK_n ?_) | ((conv => whnf); first | (refine Side.mk ?_ ?_; focus ((intros; (try simp only [lenS, inR, cutS, loI, hiI] at *); omega))) | (with_reducible refine Unf.h ?_)) | fail); all_goals try (conv => whnf)
                                  refine ⟨(i + 1, [], false), ⟨by show r.looks.length - (i + 1) < r.looks.length - i; omega, by show i + 1 ≤ r.looks.length; omega, hS⟩, ?_⟩
                                  skip
                                  repeat' (first | (with_reducible refine Unf.h ?_) | ((conv => whnf); first | (refine Side.mk ?_ ?_; focus (first | with_reducible rfl | (refine congrArg (SV.int _) ?_; omega))) | (with_reducible refine Unf.h ?_) | exact True.intro) | fail); all_goals try (conv => whnf)))
                        · have hl := hI.len
                          dsimp only at hl
                          have hpb : plb1_c.pre (b :: q, (r.looks[((i : Nat) : Int).toNat]'h0).label, g) := show (r.looks[((i : Nat) : Int).toNat]'h0).label.length ≤ 1000000 by omega
                          repeat' (first | (with_reducible refine Unf.h ?_) | ((conv => whnf); first | refine Both.mk ?_ ?_ | refine Both.mk ?_ ?_ | (with_reducible refine Unf.h ?_)) | fail); all_goals try (conv => whnf)
                          all_goals (
                            skip
                            first | refine CallS.mk (c := plb1_c) ((b :: q, (r.looks[((i : Nat) : Int).toNat]'h0).label, g)) ?_ | refine Or2.l (CallS.mk (c := plb1_c) ((b :: q, (r.looks[((i : Nat) : Int).toNat]'h0).label, g)) ?_) | refine Or2.r (CallS.mk (c := plb1_c) ((b :: q, (r.looks[((i : Nat) : Int).toNat]'h0).label, g)) ?_)
                            repeat (first | (with_reducible refine Unf.h ?_) | ((conv => whnf); first | (refine Side.mk ?_ ?_; focus (first | with_reducible rfl | assumption | exact True.intro | rfl)) | (with_reducible refine Unf.h ?_)))
                            conv => whnf
                            refine Got.mk (fun e he => ?_)
                            have ha1 : (e : Bool) = true ↔ (r.looks[((i : Nat) : Int).toNat]'h0).label.length ≤ 100 := he
                            clear he
                            cases e with
                            | true =>
                              have hpp : pl1_c.pre (b :: q, lookW, [(r.looks[((i : Nat) : Int).toNat]'h0).client, (r.looks[((i : Nat) : Int).toNat]'h0).seq, (r.looks[((i : Nat) : Int).toNat]'h0).epoch], [bytesS (r.looks[((i : Nat) : Int).toNat]'h0).label], g) := ⟨hpl, show (b :: q).length ≤ 1000000000 by omega⟩
                              repeat' (first | (with_reducible refine Unf.h ?_) | ((conv => whnf); first | refine Both.mk ?_ ?_ | refine Both.mk ?_ ?_ | (with_reducible refine Unf.h ?_)) | fail); all_goals try (conv => whnf)
                              all_goals (
                                skip
                                first | refine CallS.mk (c := pl1_c) ((b :: q, lookW, [(r.looks[((i : Nat) : Int).toNat]'h0).client, (r.looks[((i : Nat) : Int).toNat]'h0).seq, (r.looks[((i : Nat) : Int).toNat]'h0).epoch], [bytesS (r.looks[((i : Nat) : Int).toNat]'h0).label], g)) ?_ | refine Or2.l (CallS.mk (c := pl1_c) ((b :: q, lookW, [(r.looks[((i : Nat) : Int).toNat]'h0).client, (r.looks[((i : Nat) : Int).toNat]'h0).seq, (r.looks[((i : Nat) : Int).toNat]'h0).epoch], [bytesS (r.looks[((i : Nat) : Int).toNat]'h0).label], g)) ?_) | refine Or2.r (CallS.mk (c := pl1_c) ((b :: q, lookW, [(r.looks[((i : Nat) : Int).toNat]'h0).client, (r.looks[((i : Nat) : Int).toNat]'h0).seq, (r.looks[((i : Nat) : Int).toNat]'h0).epoch], [bytesS (r.looks[((i : Nat) : Int).toNat]'h0).label], g)) ?_)
                                repeat (first | (with_reducible refine Unf.h ?_) | ((conv => whnf); first | (refine Side.mk ?_ ?_; focus (first | with_reducible rfl | assumption | exact True.intro | rfl)) | (with_reducible refine Unf.h ?_)))
                                conv => whnf
                                refine Got.mk (fun e he => ?_)
                                have ha : (e : Bool) = true ↔ allM [(r.looks[((i : Nat) : Int).toNat]'h0).client, (r.looks[((i : Nat) : Int).toNat]'h0).seq, (r.looks[((i : Nat) : Int).toNat]'h0).epoch] := he
                                clear he
                                have hS := hI.step h0 true e (⟨fun x => ⟨rfl, ha.2 (allM3.2 ⟨x.1, x.2.1, x.2.2.1⟩)⟩, fun x => by obtain ⟨a, b, c⟩ := allM3.1 (ha.1 x.2); exact ⟨a, b, c, ha1.1 rfl⟩⟩) (fun x => lineW_len hpl (ha.1 x))
                                cases e with
                                | true =>
                                  repeat' (first | (with_reducible first | refine Unf.h ?_ | refine loopK_n ?_) | ((conv => whnf); first | (refine Side.mk ?_ ?_; focus ((intros; (try simp only [lenS, inR, cutS, loI, hiI] at *); omega))) | (with_reducible refine Unf.h ?_)) | fail); all_goals try (conv => whnf)
                                  refine ⟨(i + 1, (b :: q) ++ lineW lookW [(r.looks[((i : Nat) : Int).toNat]'h0).client, (r.looks[((i : Nat) : Int).toNat]'h0).seq, (r.looks[((i : Nat) : Int).toNat]'h0).epoch] [bytesS (r.looks[((i : Nat) : Int).toNat]'h0).label], true && g), ⟨by show r.looks.length - (i + 1) < r.looks.length - i; omega, by show i + 1 ≤ r.looks.length; omega, hS⟩, ?_⟩
                                  skip
                                  repeat' (first | (with_reducible refine Unf.h ?_) | ((conv => whnf); first | (refine Side.mk ?_ ?_; focus (first | with_reducible rfl | (refine congrArg (SV.int _) ?_; omega) | (simp [*]; done))) | (with_reducible refine Unf.h ?_) | exact True.intro) | fail); all_goals try (conv => whnf)
                                  all_goals (refine Side.mk rfl ?_)
                                  all_goals (all_goals try (conv => whnf))
                                | false =>
                                  repeat' (first | (with_reducible first | refine Unf.h ?_ | refine loopK_n ?_) | ((conv => whnf); first | (refine Side.mk ?_ ?_; focus ((intros; (try simp only [lenS, inR, cutS, loI, hiI] at *); omega))) | (with_reducible refine Unf.h ?_)) | fail); all_goals try (conv => whnf)
                                  refine ⟨(i + 1, b :: q, false), ⟨by show r.looks.length - (i + 1) < r.looks.length - i; omega, by show i + 1 ≤ r.looks.length; omega, hS⟩, ?_⟩
                                  skip
                                  repeat' (first | (with_reducible refine Unf.h ?_) | ((conv => whnf); first | (refine Side.mk ?_ ?_; focus (first | with_reducible rfl | (refine congrArg (SV.int _) ?_; omega))) | (with_reducible refine Unf.h ?_) | exact True.intro) | fail); all_goals try (conv => whnf))
                            | false =>
                              have hpp : pl1_c.pre (b :: q, lookW, [(r.looks[((i : Nat) : Int).toNat]'h0).client, (r.looks[((i : Nat) : Int).toNat]'h0).seq, (r.looks[((i : Nat) : Int).toNat]'h0).epoch], [bytesS (r.looks[((i : Nat) : Int).toNat]'h0).label], false) := ⟨hpl, show (b :: q).length ≤ 1000000000 by omega⟩
                              repeat' (first | (with_reducible refine Unf.h ?_) | ((conv => whnf); first | refine Both.mk ?_ ?_ | refine Both.mk ?_ ?_ | (with_reducible refine Unf.h ?_)) | fail); all_goals try (conv => whnf)
                              all_goals (
                                skip
                                first | refine CallS.mk (c := pl1_c) ((b :: q, lookW, [(r.looks[((i : Nat) : Int).toNat]'h0).client, (r.looks[((i : Nat) : Int).toNat]'h0).seq, (r.looks[((i : Nat) : Int).toNat]'h0).epoch], [bytesS (r.looks[((i : Nat) : Int).toNat]'h0).label], false)) ?_ | refine Or2.l (CallS.mk (c := pl1_c) ((b :: q, lookW, [(r.looks[((i : Nat) : Int).toNat]'h0).client, (r.looks[((i : Nat) : Int).toNat]'h0).seq, (r.looks[((i : Nat) : Int).toNat]'h0).epoch], [bytesS (r.looks[((i : Nat) : Int).toNat]'h0).label], false)) ?_) | refine Or2.r (CallS.mk (c := pl1_c) ((b :: q, lookW, [(r.looks[((i : Nat) : Int).toNat]'h0).client, (r.looks[((i : Nat) : Int).toNat]'h0).seq, (r.looks[((i : Nat) : Int).toNat]'h0).epoch], [bytesS (r.looks[((i : Nat) : Int).toNat]'h0).label], false)) ?_)
                                repeat (first | (with_reducible refine Unf.h ?_) | ((conv => whnf); first | (refine Side.mk ?_ ?_; focus (first | with_reducible rfl | assumption | exact True.intro | rfl)) | (with_reducible refine Unf.h ?_)))
                                conv => whnf
                                refine Got.mk (fun e he => ?_)
                                have ha : (e : Bool) = true ↔ allM [(r.looks[((i : Nat) : Int).toNat]'h0).client, (r.looks[((i : Nat) : Int).toNat]'h0).seq, (r.looks[((i : Nat) : Int).toNat]'h0).epoch] := he
                                clear he
                                have hS := hI.step h0 false e (⟨fun x => (by have := ha1.2 x.2.2.2; cases this), fun x => (by cases x.1)⟩) (fun x => lineW_len hpl (ha.1 x))
                                cases e with
                                | true =>
                                  repeat' (first | (with_reducible first | refine Unf.h ?_ | refine loopK_n ?_) | ((conv => whnf); first | (refine Side.mk ?_ ?_; focus ((intros; (try simp only [lenS, inR, cutS, loI, hiI] at *); omega))) | (with_reducible refine Unf.h ?_)) | fail); all_goals try (conv => whnf)
                                  refine ⟨(i + 1, (b :: q) ++ lineW lookW [(r.looks[((i : Nat) : Int).toNat]'h0).client, (r.looks[((i : Nat) : Int).toNat]'h0).seq, (r.looks[((i : Nat) : Int).toNat]'h0).epoch] [bytesS (r.looks[((i : Nat) : Int).toNat]'h0).label], false && g), ⟨by show r.looks.length - (i + 1) < r.looks.length - i; omega, by show i + 1 ≤ r.looks.length; omega, hS⟩, ?_⟩
                                  skip
                                  repeat' (first | (with_reducible refine Unf.h ?_) | ((conv => whnf); first | (refine Side.mk ?_ ?_; focus (first | with_reducible rfl | (refine congrArg (SV.int _) ?_; omega) | (simp [*]; done))) | (with_reducible refine Unf.h ?_) | exact True.intro) | fail); all_goals try (conv => whnf)
                                  all_goals (refine Side.mk rfl ?_)
                                  all_goals (all_goals try (conv => whnf))
                                | false =>
                                  repeat' (first | (with_reducible first | refine Unf.h ?_ | refine loopK_n ?_) | ((conv => whnf); first | (refine Side.mk ?_ ?_; focus ((intros; (try simp only [lenS, inR, cutS, loI, hiI] at *); omega))) | (with_reducible refine Unf.h ?_)) | fail); all_goals try (conv => whnf)
                                  refine ⟨(i + 1, b :: q, false), ⟨by show r.looks.length - (i + 1) < r.looks.length - i; omega, by show i + 1 ≤ r.looks.length; omega, hS⟩, ?_⟩
                                  skip
                                  repeat' (first | (with_reducible refine Unf.h ?_) | ((conv => whnf); first | (refine Side.mk ?_ ?_; focus (first | with_reducible rfl | (refine congrArg (SV.int _) ?_; omega))) | (with_reducible refine Unf.h ?_) | exact True.intro) | fail); all_goals try (conv => whnf)))
                      · have hI5 := hI.all (by omega)
                        have hno : ¬ longR r := by assumption
                        have hw : writeP r = if repOk r then (repT r, 0) else ([], 1) := if_neg hno
                        obtain ⟨_ | ⟨b, q⟩, _ | _⟩ := s
                        · have e : writeP r = ([], 1) := by rw [hw, if_neg (hI5.no rfl)]
                          repeat' (first | (with_reducible refine Unf.h ?_) | ((conv => whnf); first | (refine Side.mk ?_ ?_; focus (first | (simp only [*, e]; done) | (simp only [*, e, List.map_cons, List.map_nil, eB]; done))) | refine RetE.mk () trivial ?_ | (with_reducible refine Unf.h ?_) | refine retK_r ?_ | exact rfl) | fail); all_goals try (conv => whnf)
                        · exact absurd (hI5.yes rfl).2.symm (repT_ne r)
                        · have e : writeP r = ([], 1) := by rw [hw, if_neg (hI5.no rfl)]
                          repeat' (first | (with_reducible refine Unf.h ?_) | ((conv => whnf); first | (refine Side.mk ?_ ?_; focus (first | (simp only [*, e]; done) | (simp only [*, e, List.map_cons, List.map_nil, eB]; done))) | refine RetE.mk () trivial ?_ | (with_reducible refine Unf.h ?_) | refine retK_r ?_ | exact rfl) | fail); all_goals try (conv => whnf)
                        · have hy := hI5.yes rfl
                          have e : writeP r = (b :: q, 0) := by
                            rw [hw, if_pos hy.1]
                            exact congrArg (fun t => (t, (0 : Int))) hy.2.symm
                          have hps : pst1_c.pre (b :: q, true) := fun h => by cases h
                          clear hy hw
                          repeat' (first | (with_reducible refine Unf.h ?_) | ((conv => whnf); (with_reducible refine Unf.h ?_)) | fail); all_goals try (conv => whnf)
                          refine CallS.mk (c := pst1_c) ((b :: q, true)) ?_
                          repeat' (first | (with_reducible refine Unf.h ?_) | ((conv => whnf); first | (refine Side.mk ?_ ?_; focus (first | with_reducible rfl | assumption | (simp only [*, e]; done))) | refine RetE.mk () trivial ?_ | refine Got.mk (fun _ _ => ?_) | refine retK_r ?_ | exact rfl) | fail); all_goals try (conv => whnf)
end Go.Proofs.YtepongfhnammkaaDoor

namespace Go.Proofs.YtepongfhnammkaaDoor
set_option linter.all false
open Go.RowKit
/-! the document's report: decimal, hex, may, three -/
def rdecN_c : Ctr where
  D := Nat
  pre := fun m => m ≤ 1000000000
  args := fun m => [.int .i64 m]
  res := fun m _ => .str (digN m)
abbrev decI (m : Nat) (s : Nat × Nat × B8) : Prop := s.2.2.length = s.1 + 1 ∧ s.2.1 ≤ m ∧ (0 < s.2.1 → digN s.2.1 ++ s.2.2 = digN m) ∧ (s.2.1 = 0 → s.2.2 = digN m)
abbrev decC : B8 := List.map (fun x : UInt8 => x.toBitVec) (ByteArray.mk #[48, 49, 50, 51, 52, 53, 54, 55, 56, 57]).data.toList
theorem cut_one {α : Type} (l : List α) (n : Nat) (h : n < l.length) : cutL l (some (n : Int)) (some ((n : Int) + 1)) = [l[n]] := by
  have e : ((n : Int) + 1).toNat = n + 1 := by omega
  simp only [cutL, Int.toNat_natCast, e]
  rw [List.take_succ_eq_append_getElem h, List.drop_append, List.drop_eq_nil_of_le (by rw [List.length_take]; omega), List.length_take, List.nil_append, show n - min n l.length = 0 by omega]
  rfl
theorem cut_dec (m : Nat) : cutL decC (some ((m : Int) % 10)) (some ((m : Int) % 10 + 1)) = [dg m] := by
  have e : (m : Int) % 10 = ((m % 10 : Nat) : Int) := by omega
  have h : m % 10 < decC.length := show m % 10 < 10 by omega
  rw [e, cut_one decC (m % 10) h]
  have key : ∀ k (h : k < decC.length), decC[k] = BitVec.ofNat 8 (48 + k) := by decide
  rw [key _ h]; rfl
def rdecN_H : Cfg := ⟨[], [], [], [], 32, 0, [], [], []⟩
theorem rdecN_ok : rdecN_c.Ok Tryd.prog 19 := by
  refine fn_ok rdecN_H 0 rfl _ Tryd.func19 rfl rfl trivial rfl rfl (by kernel_rfl) (fun _ => Nat.le_of_ble_eq_true rfl) ?_
  intro (m : Nat) hp hr
  try dsimp only [rdecN_c] at hp
  try simp only [rdecN_c, Rng, RngL, inR, and_true, true_and] at hr
  have hml : (digN m).length ≤ 10 := digN_len 9 m (by have hp2 : m ≤ 1000000000 := hp; omega)
  repeat' (first | (with_reducible refine Unf.h ?_) | ((conv => whnf); (refine Side.mk ?_ ?_; focus (first | omega | (intros; (try simp only [lenS, inR, cutS, loI, hiI] at *); omega)))) | fail); all_goals try (conv => whnf)
  refine LoopS.autoN (I := Nat × Nat × B8) (decI m) (fun s => [(0, .int .i64 s.2.1), (4, .int .i64 s.1), (3, .str s.2.2)]) (fun _ => []) 0 (fun s => 10 - s.1) (0, m / 10, [dg m]) ?_ ?_ ?_
  · refine ⟨rfl, by show m / 10 ≤ m; omega, fun h => ?_, fun h => ?_⟩
    · have h' : 0 < m / 10 := h
      rw [digN_ge (n := m) (by omega)]
    · have h' : m / 10 = 0 := h
      rw [digN_lt (n := m) (by omega)]
  · have e1 := cut_dec m
    have e2 : (m : Int) / 10 = ((m / 10 : Nat) : Int) := by omega
    repeat' (first | (with_reducible refine Unf.h ?_) | ((conv => whnf); first | (refine Side.mk ?_ ?_; focus (first | with_reducible rfl | (refine congrArg (SV.int _) ?_; omega) | (simp only [*, e1, e2]; done))) | (with_reducible refine Unf.h ?_) | exact True.intro) | fail); all_goals try (conv => whnf)
  · rintro ⟨k, n, s⟩ ⟨h1, h2, h3, h4⟩
    dsimp only at h1 h2 h3 h4 ⊢
    have e1 := cut_dec n
    have e2 : (n : Int) / 10 = ((n / 10 : Nat) : Int) := by omega
    repeat' (first | (with_reducible refine Unf.h ?_) | ((conv => whnf); first | refine Fork.mk (fun h => ?_) (fun h => ?_) | (refine Side.mk ?_ ?_; focus (first | omega | (intros; (try simp only [lenS, inR, cutS, loI, hiI] at *); omega))) | refine RetE.mk () trivial ?_ | refine retK_r ?_) | fail); all_goals try (conv => whnf)
    · have hn : 0 < n := by omega
      have h5 := h3 hn
      have h6 : (digN n).length + s.length ≤ 10 := by rw [← List.length_append, h5]; exact hml
      have h7 : 0 < (digN n).length := by
        by_cases h10 : n < 10
        · rw [digN_lt h10]; simp
        · rw [digN_ge h10]; simp
      refine Side.mk (by rw [e1, List.length_singleton]; omega) ?_
      repeat' (first | (with_reducible first | refine Unf.h ?_ | refine loopK_n ?_) | ((conv => whnf); (refine Side.mk ?_ ?_; focus (first | omega | (intros; (try simp only [lenS, inR, cutS, loI, hiI] at *); omega)))) | fail); all_goals try (conv => whnf)
      refine ⟨(k + 1, n / 10, [dg n] ++ s), ⟨by dsimp only; omega, by dsimp only; rw [List.length_append, List.length_singleton]; omega, by dsimp only; omega, fun h => ?_, fun h => ?_⟩, ?_⟩
      · have h' : 0 < n / 10 := h
        rw [← h5, digN_ge (n := n) (by omega), List.append_assoc]
      · have h' : n / 10 = 0 := h
        rw [← h5, digN_lt (n := n) (by omega)]
      repeat' (first | (with_reducible refine Unf.h ?_) | ((conv => whnf); first | (refine Side.mk ?_ ?_; focus (first | with_reducible rfl | (refine congrArg (SV.int _) ?_; omega) | (simp only [*, e1, e2]; done))) | (with_reducible refine Unf.h ?_) | exact True.intro) | fail); all_goals try (conv => whnf)
    · have e : s = digN m := h4 (by omega)
      refine Side.mk (by rw [e]; rfl) ?_
      repeat' (first | (with_reducible refine Unf.h ?_) | ((conv => whnf); exact rfl) | fail); all_goals try (conv => whnf)
    · have hn : n = 0 := by
        rcases Nat.eq_zero_or_pos n with h | h
        · exact h
        · have h5 := h3 h
          have h6 : (digN n).length + s.length ≤ 10 := by rw [← List.length_append, h5]; exact hml
          omega
      have e : s = digN m := h4 hn
      refine Side.mk (by rw [e]; rfl) ?_
      repeat' (first | (with_reducible refine Unf.h ?_) | ((conv => whnf); exact rfl) | fail); all_goals try (conv => whnf)
def rdec_c : Ctr where
  D := Int
  pre := fun n => mayM n
  args := fun n => [.int .i64 n]
  res := fun n _ => .str (decR n)
theorem rdec_ok : rdec_c.Ok Tryd.prog 19 := by
  intro (n : Int) (hp : mayM n) A0 w σ vs hA hobs hargs hdom hgl
  obtain ⟨m, rfl⟩ := Int.eq_ofNat_of_zero_le hp.1
  exact rdecN_ok m (show m ≤ 1000000000 by have := hp.2; omega) A0 w σ vs hA hobs hargs hdom hgl
def rhex_c : Ctr where
  D := B8
  pre := fun l => l.length ≤ 1000000
  args := fun l => [.fs 1 eB l]
  res := fun l _ => .str (bytesS l)
theorem cut_hex (n : Nat) (h : n < 16) : cutL hexC (some (n : Int)) (some ((n : Int) + 1)) = [hx n] := by
  rw [cut_one hexC n (by rw [hexC_len]; exact h), hexC_get _ rfl]
def rhex_H : Cfg := ⟨[], [(7, [3, 9], [], (.one 0 0 false (.one 1 0 false (.one 2 0 false (.one 3 1 false (.one 4 0 false (.one 5 0 false (.one 6 0 false (.one 7 0 false (.one 8 0 false (.one 9 1 false (.one 10 0 false (.one 11 0 false (.one 12 0 false (.one 13 0 false .nil)))))))))))))), []), (8, [], [], (.one 0 0 false (.one 1 0 false (.one 2 0 false (.one 3 0 false (.one 4 0 false (.one 5 0 false (.one 6 0 false (.one 7 0 false (.one 8 0 false (.one 9 0 false (.one 10 0 false (.one 11 0 false .nil)))))))))))), [])], [], [], 40, 0, [], [], []⟩
theorem rhex_ok : rhex_c.Ok Tryd.prog 21 := by
  refine fn_ok rhex_H 0 rfl _ Tryd.func21 rfl rfl trivial rfl rfl (by kernel_rfl) (fun _ => Nat.le_of_ble_eq_true rfl) ?_
  intro (l : B8) hp hr
  try dsimp only [rhex_c] at hp
  try simp only [rhex_c, Rng, RngL, inR, and_true, true_and] at hr
  repeat' (first | (with_reducible refine Unf.h ?_) | ((conv => whnf); first | refine Fork.mk (fun h => ?_) (fun h => ?_) | refine RetE.mk () trivial ?_ | refine retK_r ?_) | fail); all_goals try (conv => whnf)
  · have e : bytesS l = [45#8] := if_pos (List.eq_nil_of_length_eq_zero (by omega))
    repeat' (first | (with_reducible refine Unf.h ?_) | ((conv => whnf); first | (refine Side.mk ?_ ?_; focus ((dsimp only [resS, rhex_c]; (simp [*, e]; done)))) | exact rfl) | fail); all_goals try (conv => whnf)
  · have hne0 : l ≠ [] := fun e => by subst e; exact absurd rfl (by assumption)
    have e0 : hexs (l.take 0) = [] := rfl
    refine LoopS.autoN (I := Nat) (fun i => i ≤ l.length) (fun i => [(4, .int .i64 i), (3, .str (hexs (l.take i)))]) (fun _ => []) 0 (fun i => l.length - i) 0 (Nat.zero_le _) ?_ ?_
    · repeat' (first | (with_reducible refine Unf.h ?_) | ((conv => whnf); first | (refine Side.mk ?_ ?_; focus (first | with_reducible rfl | (refine congrArg (SV.int _) ?_; omega) | (simp only [*, e0, List.map_cons, List.map_nil, eB]; done))) | (with_reducible refine Unf.h ?_) | exact True.intro) | fail); all_goals try (conv => whnf)
    · intro i hi
      have hln : (hexs (l.take i)).length ≤ 2000000 := by rw [hexs_len, List.length_take]; omega
      repeat' (first | (with_reducible refine Unf.h ?_) | ((conv => whnf); first | refine Fork.mk (fun h => ?_) (fun h => ?_) | (refine Side.mk ?_ ?_; focus (first | (intros; (try simp only [lenS, inR, cutS, loI, hiI] at *); omega) | (simp [*]; done))) | (refine Idx.mk ?_ ?_; focus (omega)) | refine RetE.mk () trivial ?_ | refine retK_r ?_) | fail); all_goals try (conv => whnf)
      · have hil : i < l.length := by omega
        have q1 : ((l[((i : Nat) : Int).toNat]'hil) / 16#8).toNat = (l[i]'hil).toNat / 16 := by rw [BitVec.toNat_udiv]; rfl
        have q2 : ((l[((i : Nat) : Int).toNat]'hil) % 16#8).toNat = (l[i]'hil).toNat % 16 := by rw [BitVec.toNat_umod]; rfl
        have hlt : (l[i]'hil).toNat / 16 < 16 := by have := (l[i]'hil).isLt; omega
        have hlt2 : (l[i]'hil).toNat % 16 < 16 := by omega
        rw [q1]
        refine Side.mk (show 0 ≤ (((l[i]'hil).toNat / 16 : Nat) : Int) ∧ (((l[i]'hil).toNat / 16 : Nat) : Int) ≤ (((l[i]'hil).toNat / 16 : Nat) : Int) + 1 ∧ (((l[i]'hil).toNat / 16 : Nat) : Int) + 1 ≤ ((hexC.length : Nat) : Int) from ⟨by omega, by omega, by rw [hexC_len]; omega⟩) ?_
        have c1 : cutL hexC (some (((l[i]'hil).toNat / 16 : Nat) : Int)) (some ((((l[i]'hil).toNat / 16 : Nat) : Int) + 1)) = [hx ((l[i]'hil).toNat / 16)] := cut_hex _ hlt
        have c2 : cutL hexC (some (((l[i]'hil).toNat % 16 : Nat) : Int)) (some ((((l[i]'hil).toNat % 16 : Nat) : Int) + 1)) = [hx ((l[i]'hil).toNat % 16)] := cut_hex _ hlt2
        have c3 : hexs (l.take i) ++ ([hx ((l[i]'hil).toNat / 16)] ++ [hx ((l[i]'hil).toNat % 16)]) = hexs (l.take (i + 1)) := by rw [hexs_snoc l i hil, List.append_assoc]
        repeat' (first | (with_reducible refine Unf.h ?_) | ((conv => whnf); (refine Side.mk ?_ ?_; focus ((intros; (try simp only [lenS, inR, cutS, loI, hiI] at *); omega)))) | fail); all_goals try (conv => whnf)
        rw [q2]
        refine Side.mk (by show (cutL hexC _ _).length + (cutL hexC _ _).length < 9223372036854775808; rw [c1, c2]; show 1 + 1 < 9223372036854775808; omega) ?_
        repeat' (first | (with_reducible refine Unf.h ?_) | fail); all_goals try (conv => whnf)
        refine Side.mk (by show (hexs (l.take i)).length + (cutL hexC _ _ ++ cutL hexC _ _).length < 9223372036854775808; rw [c1, c2]; show _ + 2 < 9223372036854775808; omega) ?_
        repeat' (first | (with_reducible first | refine Unf.h ?_ | refine loopK_n ?_) | ((conv => whnf); (refine Side.mk ?_ ?_; focus ((intros; (try simp only [lenS, inR, cutS, loI, hiI] at *); omega)))) | fail); all_goals try (conv => whnf)
        refine ⟨i + 1, ⟨by omega, by omega⟩, ?_⟩
        have c4 : hexs (l.take i) ++ (cutL hexC (some (((l[i]'hil).toNat / 16 : Nat) : Int)) (some ((((l[i]'hil).toNat / 16 : Nat) : Int) + 1)) ++ cutL hexC (some (((l[i]'hil).toNat % 16 : Nat) : Int)) (some ((((l[i]'hil).toNat % 16 : Nat) : Int) + 1))) = hexs (l.take (i + 1)) := by rw [c1, c2, c3]
        clear c1 c2 c3 q1 q2
        repeat' (first | (with_reducible refine Unf.h ?_) | ((conv => whnf); first | (refine Side.mk ?_ ?_; focus (first | with_reducible rfl | (refine congrArg (SV.int _) ?_; omega) | (simp only [*, c4]; done))) | (with_reducible refine Unf.h ?_) | exact True.intro) | fail); all_goals try (conv => whnf)
      · have ht : l.take i = l := List.take_of_length_le (by omega)
        rw [ht]
        have hb : bytesS l = hexs l := if_neg (fun e => by subst e; exact hne0 rfl)
        refine Side.mk (by show SV.str (hexs l) = .str (bytesS l); rw [hb]) ?_
        repeat' (first | (with_reducible refine Unf.h ?_) | ((conv => whnf); exact rfl) | fail); all_goals try (conv => whnf)
abbrev mayF (a b c : Int) (l : B8) : Prop := mayM a ∧ mayM b ∧ mayM c ∧ l.length ≤ 100
def rmay_c : Ctr where
  D := Int × Int × Int × B8
  args := fun (a, b, c, l) => [.int .i64 a, .int .i64 b, .int .i64 c, .fs 1 eB l]
  res := fun (a, b, c, l) _ => .dec (mayF a b c l) inferInstance
def rmay_H : Cfg := ⟨[], [], [], [], 36, 0, [], [], []⟩
theorem rmay_ok : rmay_c.Ok Tryd.prog 42 := by
  refine fn_ok rmay_H 0 rfl _ Tryd.func42 rfl rfl trivial rfl rfl (by kernel_rfl) (fun _ => Nat.le_of_ble_eq_true rfl) ?_
  rintro ⟨a, b, c, l⟩ hp hr
  try dsimp only [rmay_c] at hp
  try simp only [rmay_c, Rng, RngL, inR, and_true, true_and] at hr
  clear hr
  repeat' (first | (with_reducible refine Unf.h ?_) | ((conv => whnf); first | refine Fork.mk (fun h => ?_) (fun h => ?_) | (refine Side.mk ?_ ?_; focus (first | omega | (refine ⟨fun h => ?_, fun h => ?_⟩ <;> first | rfl | (cases h; done) | omega | (exfalso; omega) | (simp only [Bool.false_eq_true] at h; done)))) | refine RetE.mk () trivial ?_ | refine retK_r ?_ | exact rfl) | fail); all_goals try (conv => whnf)
def threeS (a b c : Int) : B8 := [32#8] ++ decR a ++ [32#8] ++ decR b ++ [32#8] ++ decR c
theorem threeS_len {a b c : Int} (h1 : mayM a) (h2 : mayM b) (h3 : mayM c) : (threeS a b c).length ≤ 33 := by
  have := decR_len h1; have := decR_len h2; have := decR_len h3
  unfold threeS
  simp only [List.length_append, List.length_singleton]; omega
def rthree_c : Ctr where
  D := Int × Int × Int
  pre := fun (a, b, c) => mayM a ∧ mayM b ∧ mayM c
  args := fun (a, b, c) => [.int .i64 a, .int .i64 b, .int .i64 c]
  res := fun (a, b, c) _ => .str (threeS a b c)
def rthree_H : Cfg := ⟨[(19, rdec_c)], [], [], [], 18, 0, [], [], []⟩
theorem rthree_ok : rthree_c.Ok Tryd.prog 20 := by
  refine fn_ok rthree_H 0 rfl _ Tryd.func20 rfl rfl ⟨rdec_ok, trivial⟩ rfl rfl (by kernel_rfl) (fun _ => Nat.le_of_ble_eq_true rfl) ?_
  rintro ⟨a, b, c⟩ ⟨h1, h2, h3⟩ hr
  try dsimp only [rthree_c] at hp
  try simp only [rthree_c, Rng, RngL, inR, and_true, true_and] at hr
  have l1 := decR_len h1
  have l2 := decR_len h2
  have l3 := decR_len h3
  have p1 : rdec_c.pre a := h1
  have p2 : rdec_c.pre b := h2
  have p3 : rdec_c.pre c := h3
  have hs : ∀ x : B8, (cS #[32] ++ x).length = x.length + 1 := fun x => by rw [List.length_append]; show 1 + _ = _; omega
  repeat' (first | (with_reducible refine Unf.h ?_) | fail); all_goals try (conv => whnf)
  refine CallS.mk (c := rdec_c) (a) ?_
  repeat' (first | (with_reducible refine Unf.h ?_) | ((conv => whnf); first | (refine Side.mk ?_ ?_; focus (first | with_reducible rfl | assumption | (intros; (try simp only [lenS, inR, cutS, loI, hiI] at *); omega))) | refine Got.mk (fun _ _ => ?_)) | fail); all_goals try (conv => whnf)
  refine CallS.mk (c := rdec_c) (b) ?_
  repeat' (first | (with_reducible refine Unf.h ?_) | ((conv => whnf); first | (refine Side.mk ?_ ?_; focus (first | with_reducible rfl | assumption | (intros; (try simp only [lenS, inR, cutS, loI, hiI] at *); omega))) | refine Got.mk (fun _ _ => ?_)) | fail); all_goals try (conv => whnf)
  refine CallS.mk (c := rdec_c) (c) ?_
  repeat' (first | (with_reducible refine Unf.h ?_) | ((conv => whnf); first | (refine Side.mk ?_ ?_; focus (first | with_reducible rfl | assumption | (intros; (try simp only [lenS, inR, cutS, loI, hiI] at *); omega))) | refine RetE.mk () trivial ?_ | refine Got.mk (fun _ _ => ?_) | refine retK_r ?_) | fail); all_goals try (conv => whnf)
  refine Side.mk rfl ?_
  repeat' (first | (with_reducible refine Unf.h ?_) | ((conv => whnf); exact rfl) | fail); all_goals try (conv => whnf)
end Go.Proofs.YtepongfhnammkaaDoor

namespace Go.Proofs.YtepongfhnammkaaDoor
set_option linter.all false
open Go.RowKit
/-! the document's report: Good -/
instance allNd {α : Type} {p : α → Prop} [DecidablePred p] {l : List α} {n : Nat} : Decidable (allN p l n) := by unfold allN; infer_instance
theorem mayF2 {a b : Int} : mayF a b 0 [] ↔ mayM a ∧ mayM b := ⟨fun h => ⟨h.1, h.2.1⟩, fun h => ⟨h.1, h.2, ⟨by decide, by decide⟩, by decide⟩⟩
theorem mayF1 {a : Int} : mayF a 0 0 [] ↔ mayM a := ⟨fun h => h.1, fun h => ⟨h, ⟨by decide, by decide⟩, ⟨by decide, by decide⟩, by decide⟩⟩
theorem and_succ {α : Type} {q : Prop} {p : α → Prop} {l : List α} {n : Nat} (h : n < l.length) : (q ∧ allN p l (n + 1)) ↔ ((q ∧ allN p l n) ∧ p l[n]) := by
  rw [allN_succ h, and_assoc]
def rgood_c : Ctr where
  D := Rep
  args := fun r => [.agg (eRep r)]
  res := fun r _ => .dec (repOk r) inferInstance
def rgood_H : Cfg := ⟨[(42, rmay_c)], [(5, [3, 7, 9, 13], [14], (.one 0 0 false (.one 1 0 false (.one 2 0 false (.one 3 1 false (.one 4 0 false (.one 5 0 false (.one 6 0 false (.one 7 1 false (.one 8 0 false (.one 9 1 false (.one 10 0 false (.one 11 0 false (.one 12 0 false (.one 13 1 false (.one 14 2 false (.one 15 0 false (.one 16 0 false .nil))))))))))))))))), []), (13, [3, 7, 9, 13, 15, 19, 21, 25], [26], (.one 0 0 false (.one 1 0 false (.one 2 0 false (.one 3 1 false (.one 4 0 false (.one 5 0 false (.one 6 0 false (.one 7 1 false (.one 8 0 false (.one 9 1 false (.one 10 0 false (.one 11 0 false (.one 12 0 false (.one 13 1 false (.one 14 0 false (.one 15 1 false (.one 16 0 false (.one 17 0 false (.one 18 0 false (.one 19 1 false (.one 20 0 false (.one 21 1 false (.one 22 0 false (.one 23 0 false (.one 24 0 false (.one 25 1 false (.one 26 2 false (.one 27 0 false (.one 28 0 false .nil))))))))))))))))))))))))))))), []), (17, [3, 7, 9, 13, 15, 19, 21, 25], [26], (.one 0 0 false (.one 1 0 false (.one 2 0 false (.one 3 1 false (.one 4 0 false (.one 5 0 false (.one 6 0 false (.one 7 1 false (.one 8 0 false (.one 9 1 false (.one 10 0 false (.one 11 0 false (.one 12 0 false (.one 13 1 false (.one 14 0 false (.one 15 1 false (.one 16 0 false (.one 17 0 false (.one 18 0 false (.one 19 1 false (.one 20 0 false (.one 21 1 false (.one 22 0 false (.one 23 0 false (.one 24 0 false (.one 25 1 false (.one 26 2 false (.one 27 0 false (.one 28 0 false .nil))))))))))))))))))))))))))))), [])], [], [], 142, 0, [], [], []⟩
theorem rgood_ok : rgood_c.Ok Tryd.prog 18 := by
  refine fn_ok rgood_H 0 rfl _ Tryd.func18 rfl rfl ⟨rmay_ok, trivial⟩ rfl rfl (by kernel_rfl) (fun _ => Nat.le_of_ble_eq_true rfl) ?_
  intro (r : Rep) hp hr
  try dsimp only [rgood_c] at hp
  try simp only [rgood_c, Rng, RngL, inR, and_true, true_and] at hr
  repeat' (first | (with_reducible refine Unf.h ?_) | fail); all_goals try (conv => whnf)
  refine CallS.mk (c := rmay_c) ((r.tick, r.frames, 0, [])) ?_
  repeat' (first | (with_reducible refine Unf.h ?_) | ((conv => whnf); first | (refine Side.mk ?_ ?_; focus (first | with_reducible rfl | exact True.intro)) | refine Got.mk (fun _ _ => ?_)) | fail); all_goals try (conv => whnf)
  refine LoopS.autoN (I := Nat) (fun i => i ≤ r.eps.length) (fun i => [(4, .int .i64 i), (3, .dec (okH r ∧ allN epOk r.eps i) inferInstance)]) (fun _ => [(0, .box 27 (eRep r))]) 1 (fun i => r.eps.length - i) 0 (Nat.zero_le _) ?_ ?_
  · repeat' (first | (with_reducible refine Unf.h ?_) | ((conv => whnf); first | (refine Side.mk ?_ ?_; focus ((refine congrArg (SV.int _) ?_; omega))) | (with_reducible refine Unf.h ?_)) | fail); all_goals try (conv => whnf)
    refine Side.mk (mayF2.trans ⟨fun x => ⟨x, allN_zero⟩, fun x => x.1⟩) ?_
    repeat' (first | (with_reducible refine Unf.h ?_) | ((conv => whnf); first | (refine Side.mk ?_ ?_; focus (with_reducible rfl)) | exact True.intro) | fail); all_goals try (conv => whnf)
  · intro i hi
    repeat' (first | (with_reducible first | refine Unf.h ?_ | refine loopK_n ?_) | ((conv => whnf); first | refine Fork.mk (fun h => ?_) (fun h => ?_) | (refine Side.mk ?_ ?_; focus ((intros; (try simp only [lenS, inR, cutS, loI, hiI] at *); omega))) | (refine Idx.mk ?_ ?_; focus (omega))) | fail); all_goals try (conv => whnf)
    · have h0 : i < r.eps.length := by omega
      refine CallS.mk (c := rmay_c) (((r.eps[((i : Nat) : Int).toNat]'h0).1, (r.eps[((i : Nat) : Int).toNat]'h0).2, 0, [])) ?_
      repeat' (first | (with_reducible first | refine Unf.h ?_ | refine loopK_n ?_) | ((conv => whnf); first | (refine Side.mk ?_ ?_; focus (first | with_reducible rfl | exact True.intro | (intros; (try simp only [lenS, inR, cutS, loI, hiI] at *); omega))) | refine Got.mk (fun _ _ => ?_)) | fail); all_goals try (conv => whnf)
      refine ⟨i + 1, ⟨by omega, by omega⟩, ?_⟩
      skip
      repeat' (first | (with_reducible refine Unf.h ?_) | ((conv => whnf); first | (refine Side.mk ?_ ?_; focus ((refine congrArg (SV.int _) ?_; omega))) | (with_reducible refine Unf.h ?_)) | fail); all_goals try (conv => whnf)
      refine Side.mk ((and_succ h0).trans ⟨fun x => mayF2.2 x.2, fun x => ⟨h, mayF2.1 x⟩⟩).symm ?_
      repeat' (first | (with_reducible refine Unf.h ?_) | ((conv => whnf); first | (refine Side.mk ?_ ?_; focus (with_reducible rfl)) | exact True.intro) | fail); all_goals try (conv => whnf)
    · have h0 : i < r.eps.length := by omega
      refine ⟨i + 1, ⟨by omega, by omega⟩, ?_⟩
      skip
      repeat' (first | (with_reducible refine Unf.h ?_) | ((conv => whnf); first | (refine Side.mk ?_ ?_; focus ((refine congrArg (SV.int _) ?_; omega))) | (with_reducible refine Unf.h ?_)) | fail); all_goals try (conv => whnf)
      refine Side.mk ⟨fun x => (by cases x), fun x => absurd ((and_succ h0).1 x).1 h⟩ ?_
      repeat' (first | (with_reducible refine Unf.h ?_) | ((conv => whnf); first | (refine Side.mk ?_ ?_; focus (with_reducible rfl)) | exact True.intro) | fail); all_goals try (conv => whnf)
    · refine LoopS.autoN (I := Nat) (fun i => i ≤ r.reps.length) (fun i => [(5, .int .i64 i), (3, .dec ((okH r ∧ ∀ a ∈ r.eps, epOk a) ∧ allN rpOk r.reps i) inferInstance)]) (fun _ => [(0, .box 27 (eRep r))]) 1 (fun i => r.reps.length - i) 0 (Nat.zero_le _) ?_ ?_
      · repeat' (first | (with_reducible refine Unf.h ?_) | ((conv => whnf); first | (refine Side.mk ?_ ?_; focus ((refine congrArg (SV.int _) ?_; omega))) | (with_reducible refine Unf.h ?_)) | fail); all_goals try (conv => whnf)
        refine Side.mk (⟨fun x => ⟨⟨x.1, (allN_all (show r.eps.length ≤ i by omega)).1 x.2⟩, allN_zero⟩, fun x => ⟨x.1.1, (allN_all (show r.eps.length ≤ i by omega)).2 x.1.2⟩⟩) ?_
        repeat' (first | (with_reducible refine Unf.h ?_) | ((conv => whnf); first | (refine Side.mk ?_ ?_; focus (with_reducible rfl)) | exact True.intro) | fail); all_goals try (conv => whnf)
      · intro i hi
        repeat' (first | (with_reducible first | refine Unf.h ?_ | refine loopK_n ?_) | ((conv => whnf); first | refine Fork.mk (fun h => ?_) (fun h => ?_) | (refine Side.mk ?_ ?_; focus ((intros; (try simp only [lenS, inR, cutS, loI, hiI] at *); omega))) | (refine Idx.mk ?_ ?_; focus (omega))) | fail); all_goals try (conv => whnf)
        · have h0 : i < r.reps.length := by omega
          obtain ⟨gn, ep, hx⟩ : ∃ gn ep, r.reps[((i : Nat) : Int).toNat]'h0 = (gn, ep) := ⟨_, _, rfl⟩
          have hxi : r.reps[i]'h0 = (gn, ep) := hx
          have hz : ((okH r ∧ ∀ a ∈ r.eps, epOk a) ∧ allN rpOk r.reps (i + 1)) ↔ (((okH r ∧ ∀ a ∈ r.eps, epOk a) ∧ allN rpOk r.reps i) ∧ rpOk (gn, ep)) := by rw [and_succ h0, hxi]
          refine CallS.mk (c := rmay_c) (((r.reps[((i : Nat) : Int).toNat]'h0).2, 0, 0, [])) ?_
          repeat' (first | (with_reducible first | refine Unf.h ?_ | refine loopK_n ?_) | ((conv => whnf); first | refine Fork.mk (fun h => ?_) (fun h => ?_) | (refine Side.mk ?_ ?_; focus (first | with_reducible rfl | exact True.intro | (intros; (try simp only [lenS, inR, cutS, loI, hiI] at *); omega))) | (refine Idx.mk ?_ ?_; focus (omega)) | refine Got.mk (fun _ _ => ?_)) | fail); all_goals try (conv => whnf)
          · have hm : mayM ep := by
              have := mayF1.1 h
              rw [hx] at this; exact this
            have hq : (okH r ∧ ∀ a ∈ r.eps, epOk a) ∧ allN rpOk r.reps i := by assumption
            clear h
            cases gn with
            | true =>
              simp only [hx]
              repeat' (first | (with_reducible first | refine Unf.h ?_ | refine loopK_n ?_) | ((conv => whnf); first | (refine Side.mk ?_ ?_; focus ((intros; (try simp only [lenS, inR, cutS, loI, hiI] at *); omega))) | (refine Idx.mk ?_ ?_; focus (omega)) | (with_reducible refine Unf.h ?_)) | fail); all_goals try (conv => whnf)
              refine ⟨i + 1, ⟨by omega, by omega⟩, ?_⟩
              skip
              repeat' (first | (with_reducible refine Unf.h ?_) | ((conv => whnf); first | (refine Side.mk ?_ ?_; focus ((refine congrArg (SV.int _) ?_; omega))) | (with_reducible refine Unf.h ?_)) | fail); all_goals try (conv => whnf)
              refine Side.mk ⟨fun x => hz.2 ⟨hq, hm, fun _ => (congrArg Prod.snd hx).symm.trans x⟩, fun x => (congrArg Prod.snd hx).trans ((hz.1 x).2.2 rfl)⟩ ?_
              repeat' (first | (with_reducible refine Unf.h ?_) | ((conv => whnf); first | (refine Side.mk ?_ ?_; focus (with_reducible rfl)) | exact True.intro) | fail); all_goals try (conv => whnf)
            | false =>
              simp only [hx]
              repeat' (first | (with_reducible first | refine Unf.h ?_ | refine loopK_n ?_) | ((conv => whnf); first | (refine Side.mk ?_ ?_; focus ((intros; (try simp only [lenS, inR, cutS, loI, hiI] at *); omega))) | (with_reducible refine Unf.h ?_)) | fail); all_goals try (conv => whnf)
              refine ⟨i + 1, ⟨by omega, by omega⟩, ?_⟩
              skip
              repeat' (first | (with_reducible refine Unf.h ?_) | ((conv => whnf); first | (refine Side.mk ?_ ?_; focus ((refine congrArg (SV.int _) ?_; omega))) | (with_reducible refine Unf.h ?_)) | fail); all_goals try (conv => whnf)
              refine Side.mk ⟨fun _ => hz.2 ⟨hq, hm, fun x => (by cases x)⟩, fun _ => rfl⟩ ?_
              repeat' (first | (with_reducible refine Unf.h ?_) | ((conv => whnf); first | (refine Side.mk ?_ ?_; focus (with_reducible rfl)) | exact True.intro) | fail); all_goals try (conv => whnf)
          · have hm : ¬ mayM ep := fun x => h (mayF1.2 (by rw [hx]; exact x))
            refine ⟨i + 1, ⟨by omega, by omega⟩, ?_⟩
            skip
            repeat' (first | (with_reducible refine Unf.h ?_) | ((conv => whnf); first | (refine Side.mk ?_ ?_; focus ((refine congrArg (SV.int _) ?_; omega))) | (with_reducible refine Unf.h ?_)) | fail); all_goals try (conv => whnf)
            refine Side.mk ⟨fun x => (by cases x), fun x => absurd (hz.1 x).2.1 hm⟩ ?_
            repeat' (first | (with_reducible refine Unf.h ?_) | ((conv => whnf); first | (refine Side.mk ?_ ?_; focus (with_reducible rfl)) | exact True.intro) | fail); all_goals try (conv => whnf)
        · have h0 : i < r.reps.length := by omega
          refine ⟨i + 1, ⟨by omega, by omega⟩, ?_⟩
          skip
          repeat' (first | (with_reducible refine Unf.h ?_) | ((conv => whnf); first | (refine Side.mk ?_ ?_; focus ((refine congrArg (SV.int _) ?_; omega))) | (with_reducible refine Unf.h ?_)) | fail); all_goals try (conv => whnf)
          refine Side.mk ⟨fun x => (by cases x), fun x => absurd ((and_succ h0).1 x).1 h⟩ ?_
          repeat' (first | (with_reducible refine Unf.h ?_) | ((conv => whnf); first | (refine Side.mk ?_ ?_; focus (with_reducible rfl)) | exact True.intro) | fail); all_goals try (conv => whnf)
        · refine LoopS.autoN (I := Nat) (fun i => i ≤ r.upds.length) (fun i => [(6, .int .i64 i), (3, .dec (((okH r ∧ ∀ a ∈ r.eps, epOk a) ∧ ∀ a ∈ r.reps, rpOk a) ∧ allN upOk r.upds i) inferInstance)]) (fun _ => [(0, .box 27 (eRep r))]) 1 (fun i => r.upds.length - i) 0 (Nat.zero_le _) ?_ ?_
          · repeat' (first | (with_reducible refine Unf.h ?_) | ((conv => whnf); first | (refine Side.mk ?_ ?_; focus ((refine congrArg (SV.int _) ?_; omega))) | (with_reducible refine Unf.h ?_)) | fail); all_goals try (conv => whnf)
            refine Side.mk (⟨fun x => ⟨⟨x.1, (allN_all (show r.reps.length ≤ i by omega)).1 x.2⟩, allN_zero⟩, fun x => ⟨x.1.1, (allN_all (show r.reps.length ≤ i by omega)).2 x.1.2⟩⟩) ?_
            repeat' (first | (with_reducible refine Unf.h ?_) | ((conv => whnf); first | (refine Side.mk ?_ ?_; focus (with_reducible rfl)) | exact True.intro) | fail); all_goals try (conv => whnf)
          · intro i hi
            repeat' (first | (with_reducible first | refine Unf.h ?_ | refine loopK_n ?_) | ((conv => whnf); first | refine Fork.mk (fun h => ?_) (fun h => ?_) | (refine Side.mk ?_ ?_; focus ((intros; (try simp only [lenS, inR, cutS, loI, hiI] at *); omega))) | (refine Idx.mk ?_ ?_; focus (omega))) | fail); all_goals try (conv => whnf)
            · have h0 : i < r.upds.length := by omega
              refine CallS.mk (c := rmay_c) (((r.upds[((i : Nat) : Int).toNat]'h0).client, (r.upds[((i : Nat) : Int).toNat]'h0).seq, (r.upds[((i : Nat) : Int).toNat]'h0).epoch, (r.upds[((i : Nat) : Int).toNat]'h0).label)) ?_
              repeat' (first | (with_reducible first | refine Unf.h ?_ | refine loopK_n ?_) | ((conv => whnf); first | (refine Side.mk ?_ ?_; focus (first | with_reducible rfl | exact True.intro | (intros; (try simp only [lenS, inR, cutS, loI, hiI] at *); omega))) | refine Got.mk (fun _ _ => ?_)) | fail); all_goals try (conv => whnf)
              refine ⟨i + 1, ⟨by omega, by omega⟩, ?_⟩
              skip
              repeat' (first | (with_reducible refine Unf.h ?_) | ((conv => whnf); first | (refine Side.mk ?_ ?_; focus ((refine congrArg (SV.int _) ?_; omega))) | (with_reducible refine Unf.h ?_)) | fail); all_goals try (conv => whnf)
              refine Side.mk ((and_succ h0).trans ⟨fun x => x.2, fun x => ⟨h, x⟩⟩).symm ?_
              repeat' (first | (with_reducible refine Unf.h ?_) | ((conv => whnf); first | (refine Side.mk ?_ ?_; focus (with_reducible rfl)) | exact True.intro) | fail); all_goals try (conv => whnf)
            · have h0 : i < r.upds.length := by omega
              refine ⟨i + 1, ⟨by omega, by omega⟩, ?_⟩
              skip
              repeat' (first | (with_reducible refine Unf.h ?_) | ((conv => whnf); first | (refine Side.mk ?_ ?_; focus ((refine congrArg (SV.int _) ?_; omega))) | (with_reducible refine Unf.h ?_)) | fail); all_goals try (conv => whnf)
              refine Side.mk ⟨fun x => (by cases x), fun x => absurd ((and_succ h0).1 x).1 h⟩ ?_
              repeat' (first | (with_reducible refine Unf.h ?_) | ((conv => whnf); first | (refine Side.mk ?_ ?_; focus (with_reducible rfl)) | exact True.intro) | fail); all_goals try (conv => whnf)
            · refine LoopS.autoN (I := Nat) (fun i => i ≤ r.looks.length) (fun i => [(7, .int .i64 i), (3, .dec ((((okH r ∧ ∀ a ∈ r.eps, epOk a) ∧ ∀ a ∈ r.reps, rpOk a) ∧ ∀ a ∈ r.upds, upOk a) ∧ allN upOk r.looks i) inferInstance)]) (fun _ => [(0, .box 27 (eRep r))]) 1 (fun i => r.looks.length - i) 0 (Nat.zero_le _) ?_ ?_
              · repeat' (first | (with_reducible refine Unf.h ?_) | ((conv => whnf); first | (refine Side.mk ?_ ?_; focus ((refine congrArg (SV.int _) ?_; omega))) | (with_reducible refine Unf.h ?_)) | fail); all_goals try (conv => whnf)
                refine Side.mk (⟨fun x => ⟨⟨x.1, (allN_all (show r.upds.length ≤ i by omega)).1 x.2⟩, allN_zero⟩, fun x => ⟨x.1.1, (allN_all (show r.upds.length ≤ i by omega)).2 x.1.2⟩⟩) ?_
                repeat' (first | (with_reducible refine Unf.h ?_) | ((conv => whnf); first | (refine Side.mk ?_ ?_; focus (with_reducible rfl)) | exact True.intro) | fail); all_goals try (conv => whnf)
              · intro i hi
                repeat' (first | (with_reducible first | refine Unf.h ?_ | refine loopK_n ?_) | ((conv => whnf); first | refine Fork.mk (fun h => ?_) (fun h => ?_) | (refine Side.mk ?_ ?_; focus ((intros; (try simp only [lenS, inR, cutS, loI, hiI] at *); omega))) | (refine Idx.mk ?_ ?_; focus (omega)) | refine RetE.mk () trivial ?_ | refine retK_r ?_) | fail); all_goals try (conv => whnf)
                · have h0 : i < r.looks.length := by omega
                  refine CallS.mk (c := rmay_c) (((r.looks[((i : Nat) : Int).toNat]'h0).client, (r.looks[((i : Nat) : Int).toNat]'h0).seq, (r.looks[((i : Nat) : Int).toNat]'h0).epoch, (r.looks[((i : Nat) : Int).toNat]'h0).label)) ?_
                  repeat' (first | (with_reducible first | refine Unf.h ?_ | refine loopK_n ?_) | ((conv => whnf); first | (refine Side.mk ?_ ?_; focus (first | with_reducible rfl | exact True.intro | (intros; (try simp only [lenS, inR, cutS, loI, hiI] at *); omega))) | refine Got.mk (fun _ _ => ?_)) | fail); all_goals try (conv => whnf)
                  refine ⟨i + 1, ⟨by omega, by omega⟩, ?_⟩
                  skip
                  repeat' (first | (with_reducible refine Unf.h ?_) | ((conv => whnf); first | (refine Side.mk ?_ ?_; focus ((refine congrArg (SV.int _) ?_; omega))) | (with_reducible refine Unf.h ?_)) | fail); all_goals try (conv => whnf)
                  refine Side.mk ((and_succ h0).trans ⟨fun x => x.2, fun x => ⟨h, x⟩⟩).symm ?_
                  repeat' (first | (with_reducible refine Unf.h ?_) | ((conv => whnf); first | (refine Side.mk ?_ ?_; focus (with_reducible rfl)) | exact True.intro) | fail); all_goals try (conv => whnf)
                · have h0 : i < r.looks.length := by omega
                  refine ⟨i + 1, ⟨by omega, by omega⟩, ?_⟩
                  skip
                  repeat' (first | (with_reducible refine Unf.h ?_) | ((conv => whnf); first | (refine Side.mk ?_ ?_; focus ((refine congrArg (SV.int _) ?_; omega))) | (with_reducible refine Unf.h ?_)) | fail); all_goals try (conv => whnf)
                  refine Side.mk ⟨fun x => (by cases x), fun x => absurd ((and_succ h0).1 x).1 h⟩ ?_
                  repeat' (first | (with_reducible refine Unf.h ?_) | ((conv => whnf); first | (refine Side.mk ?_ ?_; focus (with_reducible rfl)) | exact True.intro) | fail); all_goals try (conv => whnf)
                · refine Side.mk ⟨fun x => ⟨x.1, (allN_all (show r.looks.length ≤ i by omega)).1 x.2⟩, fun x => ⟨x.1, (allN_all (show r.looks.length ≤ i by omega)).2 x.2⟩⟩ ?_
                  repeat' (first | (with_reducible refine Unf.h ?_) | ((conv => whnf); exact rfl) | fail); all_goals try (conv => whnf)
end Go.Proofs.YtepongfhnammkaaDoor

namespace Go.Proofs.YtepongfhnammkaaDoor
set_option linter.all false
open Go.RowKit
/-! the document's report: Write -/
theorem headE (a b : Int) : ((((cS #[116, 105, 99, 107, 32] ++ decR a) ++ cS #[10, 102, 114, 97, 109, 101, 115, 32]) ++ decR b) ++ cS #[10]) = lineW tickW [a] [] ++ lineW framesW [b] [] := by
  rw [show cS #[116, 105, 99, 107, 32] = tickW ++ [32#8] from rfl, show cS #[10, 102, 114, 97, 109, 101, 115, 32] = [10#8] ++ (framesW ++ [32#8]) from rfl, show cS #[10] = [10#8] from rfl]
  simp only [lineW, joinS, List.map_cons, List.map_nil, List.flatten_cons, List.flatten_nil, List.append_assoc, List.append_nil, List.cons_append, List.nil_append]
theorem threeE (nm : B8) (a b c : Int) : (nm ++ threeS a b c) ++ cS #[10] = lineW nm [a, b, c] [] := by
  rw [show cS #[10] = [10#8] from rfl]
  simp only [threeS, lineW, joinS, List.map_cons, List.map_nil, List.flatten_cons, List.flatten_nil, List.append_assoc, List.append_nil, List.cons_append, List.nil_append]
theorem upE (nm : B8) (a b c : Int) (x : B8) : (((nm ++ threeS a b c) ++ cS #[32]) ++ x) ++ cS #[10] = lineW nm [a, b, c] [x] := by
  rw [show cS #[10] = [10#8] from rfl, show cS #[32] = [32#8] from rfl]
  simp only [threeS, lineW, joinS, List.map_cons, List.map_nil, List.flatten_cons, List.flatten_nil, List.append_assoc, List.append_nil, List.cons_append, List.nil_append]
theorem rpE (i : Int) (x : B8) : (((cS #[114, 101, 112, 108, 105, 99, 97, 32] ++ decR i) ++ cS #[32]) ++ x) ++ cS #[10] = joinS [32#8] [replicaW, decR i, x] ++ [10#8] := by
  rw [show cS #[114, 101, 112, 108, 105, 99, 97, 32] = replicaW ++ [32#8] from rfl, show cS #[10] = [10#8] from rfl, show cS #[32] = [32#8] from rfl]
  simp only [joinS, List.map_cons, List.map_nil, List.flatten_cons, List.flatten_nil, List.append_assoc, List.append_nil, List.cons_append, List.nil_append]
theorem catN_len {α : Type} {f : Nat → α → B8} {l : List α} : ∀ {n : Nat}, (∀ i (h : i < l.length), (f i l[i]).length ≤ 8009) → (catN f l n).length ≤ 8009 * n
  | 0, _ => by simp [catN]
  | n + 1, h => by
    have := catN_len (n := n) h
    rcases Nat.lt_or_ge n l.length with hn | hn
    · have h2 := h n hn
      rw [← catN_succ f hn, List.length_append]; omega
    · simp only [catN, List.getElem?_eq_none hn, List.append_nil]; omega
theorem ep_len {i : Nat} {e : Int × Int} (h : epOk e) (hi : i ≤ 999999) : (epF i e).length ≤ 8009 :=
  lineW_len ⟨show 5 ≤ 10 by decide, show 3 ≤ 5 by decide, show 0 ≤ 2 by decide, fun s h => absurd h List.not_mem_nil⟩ (allM3.2 ⟨⟨by omega, by omega⟩, h⟩)
theorem rp_len {i : Nat} {e : Bool × Int} (h : rpOk e) (hi : i ≤ 999999) : (rpF i e).length ≤ 8009 := by
  obtain ⟨_ | _, ep⟩ := e
  · exact lineW_len ⟨show 7 ≤ 10 by decide, show 2 ≤ 5 by decide, show 0 ≤ 2 by decide, fun s h => absurd h List.not_mem_nil⟩ (allM2.2 ⟨⟨by omega, by omega⟩, h.1⟩)
  · exact lineW_len ⟨show 7 ≤ 10 by decide, show 1 ≤ 5 by decide, show 1 ≤ 2 by decide, fun s h => by rw [List.mem_singleton.1 h]; show 4 ≤ 1000; decide⟩ (allM1.2 ⟨by omega, by omega⟩)
theorem up_len {nm : B8} {i : Nat} {u : Upd} (hn : nm.length ≤ 10) (h : upOk u) : (upF nm i u).length ≤ 8009 :=
  lineW_len (upLnP hn (by have := h.2.2.2; omega)) (allM3.2 ⟨h.1, h.2.1, h.2.2.1⟩)
theorem tH_len {r : Rep} (h : okH r) : (tH r).length ≤ 16018 := by
  have h1 := lineW_len (nm := tickW) (nums := [r.tick]) (bh := []) ⟨show 4 ≤ 10 by decide, show 1 ≤ 5 by decide, show 0 ≤ 2 by decide, fun s h => absurd h List.not_mem_nil⟩ (allM1.2 h.1)
  have h2 := lineW_len (nm := framesW) (nums := [r.frames]) (bh := []) ⟨show 6 ≤ 10 by decide, show 1 ≤ 5 by decide, show 0 ≤ 2 by decide, fun s h => absurd h List.not_mem_nil⟩ (allM1.2 h.2)
  unfold tH; rw [List.length_append]; omega
def rwp_c : Ctr where
  D := Rep
  pre := fun r => (∀ u ∈ r.upds, u.label.length ≤ 150) ∧ (∀ u ∈ r.looks, u.label.length ≤ 150)
  args := fun r => [.agg (eRep r)]
  res := fun r _ => .tup [.str (writeP r).1, .int .i64 (writeP r).2]
def rwp_H : Cfg := ⟨[(18, rgood_c), (19, rdec_c), (20, rthree_c), (21, rhex_c)], [(5, [1, 6], [2, 7], (.one 0 0 false (.one 1 1 false (.one 5 0 false (.one 6 1 false (.one 2 2 true (.one 3 0 false (.one 4 0 false (.one 7 2 false (.one 8 0 false (.one 9 0 false (.one 10 0 false .nil))))))))))), []), (9, [4, 8, 10, 14], [15], (.one 0 0 false (.one 1 0 false (.one 2 0 false (.one 3 0 false (.one 4 1 false (.one 5 0 false (.one 6 0 false (.one 7 0 false (.one 8 1 false (.one 9 0 false (.one 10 1 false (.one 11 0 false (.one 12 0 false (.one 13 0 false (.one 14 1 false (.one 15 2 false (.one 16 0 false (.one 17 0 false (.one 18 0 false (.one 19 0 false .nil)))))))))))))))))))), []), (21, [2, 4, 6], [7, 11, 12], (.one 0 0 false (.one 1 0 false (.one 2 1 false (.one 3 0 false (.one 4 1 false (.one 5 0 false (.one 6 1 false (.one 10 0 false (.alt 7 true (.one 8 0 false (.one 9 0 false (.one 11 2 true (.one 12 2 false (.one 13 0 false (.one 14 0 false (.one 15 0 false (.one 16 0 false .nil)))))))) (.one 11 2 true (.one 7 2 false (.one 8 0 false (.one 9 0 false (.one 12 2 false (.one 13 0 false (.one 14 0 false (.one 15 0 false (.one 16 0 false .nil)))))))))))))))))), []), (26, [2, 4, 6], [7, 11, 12], (.one 0 0 false (.one 1 0 false (.one 2 1 false (.one 3 0 false (.one 4 1 false (.one 5 0 false (.one 6 1 false (.one 10 0 false (.alt 7 true (.one 8 0 false (.one 9 0 false (.one 11 2 true (.one 12 2 false (.one 13 0 false (.one 14 0 false (.one 15 0 false (.one 16 0 false .nil)))))))) (.one 11 2 true (.one 7 2 false (.one 8 0 false (.one 9 0 false (.one 12 2 false (.one 13 0 false (.one 14 0 false (.one 15 0 false (.one 16 0 false .nil)))))))))))))))))), [])], [], [], 160, 0, [], [], []⟩
set_option maxHeartbeats 20000000 in
theorem rwp_ok : rwp_c.Ok Tryd.prog 10 := by
  refine fn_ok rwp_H 0 rfl _ Tryd.func10 rfl rfl ⟨rgood_ok, rdec_ok, rthree_ok, rhex_ok, trivial⟩ rfl rfl (by kernel_rfl) (fun _ => Nat.le_of_ble_eq_true rfl) ?_
  intro (r : Rep) hp hr
  try dsimp only [rwp_c] at hp
  try simp only [rwp_c, Rng, RngL, inR, and_true, true_and] at hr
  have hlong : longR r → writeP r = ([], 3) := fun h => if_pos h
  repeat' (first | (with_reducible refine Unf.h ?_) | ((conv => whnf); first | refine Fork.mk (fun h => ?_) (fun h => ?_) | refine RetE.mk () trivial ?_ | refine retK_r ?_) | fail); all_goals try (conv => whnf)
  · have e := hlong (by unfold longR; omega)
    repeat' (first | (with_reducible refine Unf.h ?_) | ((conv => whnf); first | (refine Side.mk ?_ ?_; focus (first | (simp only [*, e]; done) | (simp only [*, e, List.map_cons, List.map_nil, eB]; done))) | exact rfl) | fail); all_goals try (conv => whnf)
  · have e := hlong (by unfold longR; omega)
    repeat' (first | (with_reducible refine Unf.h ?_) | ((conv => whnf); first | (refine Side.mk ?_ ?_; focus (first | (simp only [*, e]; done) | (simp only [*, e, List.map_cons, List.map_nil, eB]; done))) | exact rfl) | fail); all_goals try (conv => whnf)
  · have e := hlong (by unfold longR; omega)
    repeat' (first | (with_reducible refine Unf.h ?_) | ((conv => whnf); first | (refine Side.mk ?_ ?_; focus (first | (simp only [*, e]; done) | (simp only [*, e, List.map_cons, List.map_nil, eB]; done))) | exact rfl) | fail); all_goals try (conv => whnf)
  · have e := hlong (by unfold longR; omega)
    repeat' (first | (with_reducible refine Unf.h ?_) | ((conv => whnf); first | (refine Side.mk ?_ ?_; focus (first | (simp only [*, e]; done) | (simp only [*, e, List.map_cons, List.map_nil, eB]; done))) | exact rfl) | fail); all_goals try (conv => whnf)
  have hno : ¬ longR r := by unfold longR; omega
  obtain ⟨q1, q2, q3, q4⟩ : r.eps.length ≤ 1000 ∧ r.reps.length ≤ 1000 ∧ r.upds.length ≤ 1000 ∧ r.looks.length ≤ 1000 := by omega
  have hw : writeP r = if repOk r then (repT r, 0) else ([], 1) := if_neg hno
  refine CallS.mk (c := rgood_c) (r) ?_
  repeat' (first | (with_reducible refine Unf.h ?_) | ((conv => whnf); first | refine Fork.mkn (fun h => ?_) (fun h => ?_) | (refine Side.mk ?_ ?_; focus (first | with_reducible rfl | exact True.intro | (simp [*]; done))) | refine RetE.mk () trivial ?_ | refine Got.mk (fun _ _ => ?_) | refine retK_r ?_ | exact rfl) | fail); all_goals try (conv => whnf)
  have hok : repOk r := by assumption
  have ew : writeP r = (repT r, 0) := by rw [hw, if_pos hok]
  clear hw hno hlong h
  obtain ⟨⟨⟨⟨⟨k1, k2⟩, k3⟩, k4⟩, k5⟩, k6⟩ := hok
  have hth := tH_len ⟨k1, k2⟩
  have l1 := decR_len k1
  have l2 := decR_len k2
  have p1 : rdec_c.pre r.tick := k1
  have p2 : rdec_c.pre r.frames := k2
  have hE := headE r.tick r.frames
  refine CallS.mk (c := rdec_c) (r.tick) ?_
  repeat' (first | (with_reducible refine Unf.h ?_) | ((conv => whnf); first | (refine Side.mk ?_ ?_; focus (first | with_reducible rfl | assumption | (intros; (try simp only [lenS, inR, cutS, loI, hiI] at *); omega))) | refine Got.mk (fun _ _ => ?_)) | fail); all_goals try (conv => whnf)
  refine CallS.mk (c := rdec_c) (r.frames) ?_
  repeat' (first | (with_reducible refine Unf.h ?_) | ((conv => whnf); first | (refine Side.mk ?_ ?_; focus (first | with_reducible rfl | assumption | (intros; (try simp only [lenS, inR, cutS, loI, hiI] at *); omega))) | refine Got.mk (fun _ _ => ?_)) | fail); all_goals try (conv => whnf)
  have hb1 : (t1 r r.eps.length).length ≤ 20000000 := by
    have := catN_len (f := epF) (l := r.eps) (n := r.eps.length) fun i h => ep_len (k3 _ (List.getElem_mem h)) (by omega)
    unfold t1; rw [List.length_append]; omega
  have hb2 : (t2 r r.reps.length).length ≤ 30000000 := by
    have := catN_len (f := rpF) (l := r.reps) (n := r.reps.length) fun i h => rp_len (k4 _ (List.getElem_mem h)) (by omega)
    unfold t2; rw [List.length_append]; omega
  have hb3 : (t3 r r.upds.length).length ≤ 40000000 := by
    have := catN_len (f := upF updateW) (l := r.upds) (n := r.upds.length) fun i h => up_len (show 6 ≤ 10 by decide) (k5 _ (List.getElem_mem h))
    unfold t3; rw [List.length_append]; omega
  refine LoopS.autoN (I := Nat) (fun i => i ≤ r.eps.length) (fun i => [(5, .int .i64 i), (4, .str (tH r ++ catN epF r.eps i))]) (fun _ => [(0, .box 27 (eRep r))]) 1 (fun i => r.eps.length - i) 0 (Nat.zero_le _) ?_ ?_
  · have e : tH r ++ catN epF r.eps 0 = lineW tickW [r.tick] [] ++ lineW framesW [r.frames] [] := List.append_nil _
    repeat' (first | (with_reducible refine Unf.h ?_) | ((conv => whnf); first | (refine Side.mk ?_ ?_; focus (first | with_reducible rfl | (refine congrArg (SV.int _) ?_; omega) | (simp only [*, hE, e]; done))) | (with_reducible refine Unf.h ?_) | exact True.intro) | fail); all_goals try (conv => whnf)
  · intro i hi
    have hcl : (catN epF r.eps i).length ≤ 8009 * i := catN_len fun i h => ep_len (k3 _ (List.getElem_mem h)) (by omega)
    repeat' (first | (with_reducible refine Unf.h ?_) | ((conv => whnf); first | refine Fork.mk (fun h => ?_) (fun h => ?_) | (refine Side.mk ?_ ?_; focus ((intros; (try simp only [lenS, inR, cutS, loI, hiI] at *); omega))) | (refine Idx.mk ?_ ?_; focus (omega))) | fail); all_goals try (conv => whnf)
    · have h0 : i < r.eps.length := by omega
      have ko := k3 _ (List.getElem_mem h0)
      have p3 : rthree_c.pre ((i : Int) + 1, (r.eps[((i : Nat) : Int).toNat]'h0).1, (r.eps[((i : Nat) : Int).toNat]'h0).2) := ⟨⟨by omega, by omega⟩, ko.1, ko.2⟩
      have l3 := threeS_len p3.1 p3.2.1 p3.2.2
      have e : (tH r ++ catN epF r.eps i) ++ ((epochW ++ threeS ((i : Int) + 1) (r.eps[((i : Nat) : Int).toNat]'h0).1 (r.eps[((i : Nat) : Int).toNat]'h0).2) ++ cS #[10]) = tH r ++ catN epF r.eps (i + 1) := by
        rw [threeE, ← catN_succ epF h0, List.append_assoc]; rfl
      refine CallS.mk (c := rthree_c) (((i : Int) + 1, (r.eps[((i : Nat) : Int).toNat]'h0).1, (r.eps[((i : Nat) : Int).toNat]'h0).2)) ?_
      repeat' (first | (with_reducible first | refine Unf.h ?_ | refine loopK_n ?_) | ((conv => whnf); first | (refine Side.mk ?_ ?_; focus (first | with_reducible rfl | assumption | (intros; (try simp only [lenS, inR, cutS, loI, hiI] at *); omega))) | refine Got.mk (fun _ _ => ?_)) | fail); all_goals try (conv => whnf)
      refine ⟨i + 1, ⟨by omega, by omega⟩, ?_⟩
      skip
      repeat' (first | (with_reducible refine Unf.h ?_) | ((conv => whnf); first | (refine Side.mk ?_ ?_; focus (first | with_reducible rfl | (refine congrArg (SV.int _) ?_; omega) | (simp only [*, e]; done))) | (with_reducible refine Unf.h ?_) | exact True.intro) | fail); all_goals try (conv => whnf)
    · refine LoopS.autoN (I := Nat) (fun i => i ≤ r.reps.length) (fun i => [(6, .int .i64 i), (4, .str (t1 r r.eps.length ++ catN rpF r.reps i))]) (fun _ => [(0, .box 27 (eRep r))]) 1 (fun i => r.reps.length - i) 0 (Nat.zero_le _) ?_ ?_
      · have e : tH r ++ catN epF r.eps i = t1 r r.eps.length ++ catN rpF r.reps 0 := by
          rw [show i = r.eps.length by omega]; exact (List.append_nil _).symm
        repeat' (first | (with_reducible refine Unf.h ?_) | ((conv => whnf); first | (refine Side.mk ?_ ?_; focus (first | with_reducible rfl | (refine congrArg (SV.int _) ?_; omega) | (simp only [*, e]; done))) | (with_reducible refine Unf.h ?_) | exact True.intro) | fail); all_goals try (conv => whnf)
      · intro i hi
        have hcl : (catN rpF r.reps i).length ≤ 8009 * i := catN_len fun i h => rp_len (k4 _ (List.getElem_mem h)) (by omega)
        repeat' (first | (with_reducible refine Unf.h ?_) | ((conv => whnf); first | refine Fork.mk (fun h => ?_) (fun h => ?_) | (refine Idx.mk ?_ ?_; focus (omega))) | fail); all_goals try (conv => whnf)
        · have h0 : i < r.reps.length := by omega
          have ko := k4 _ (List.getElem_mem h0)
          have pi : rdec_c.pre (i : Int) := ⟨by omega, by omega⟩
          have li := decR_len pi
          obtain ⟨gn, ep, hx⟩ : ∃ gn ep, r.reps[((i : Nat) : Int).toNat]'h0 = (gn, ep) := ⟨_, _, rfl⟩
          have hxi : r.reps[i]'h0 = (gn, ep) := hx
          rw [hxi] at ko
          cases gn with
          | true =>
            have e : (t1 r r.eps.length ++ catN rpF r.reps i) ++ ((((cS #[114, 101, 112, 108, 105, 99, 97, 32] ++ decR (i : Int)) ++ cS #[32]) ++ goneW) ++ cS #[10]) = t1 r r.eps.length ++ catN rpF r.reps (i + 1) := by
              rw [rpE, ← catN_succ rpF h0, hxi, List.append_assoc]; rfl
            simp only [hx]
            repeat' (first | (with_reducible refine Unf.h ?_) | ((conv => whnf); (with_reducible refine Unf.h ?_)) | fail); all_goals try (conv => whnf)
            refine CallS.mk (c := rdec_c) ((i : Int)) ?_
            repeat' (first | (with_reducible first | refine Unf.h ?_ | refine loopK_n ?_) | ((conv => whnf); first | (refine Side.mk ?_ ?_; focus (first | with_reducible rfl | assumption | (intros; (try simp only [lenS, inR, cutS, loI, hiI] at *); omega))) | refine Got.mk (fun _ _ => ?_)) | fail); all_goals try (conv => whnf)
            refine ⟨i + 1, ⟨by omega, by omega⟩, ?_⟩
            skip
            repeat' (first | (with_reducible refine Unf.h ?_) | ((conv => whnf); first | (refine Side.mk ?_ ?_; focus (first | with_reducible rfl | (refine congrArg (SV.int _) ?_; omega) | (simp only [*, e]; done))) | (with_reducible refine Unf.h ?_) | exact True.intro) | fail); all_goals try (conv => whnf)
          | false =>
            have pe : rdec_c.pre ep := ko.1
            have le := decR_len pe
            have e : (t1 r r.eps.length ++ catN rpF r.reps i) ++ ((((cS #[114, 101, 112, 108, 105, 99, 97, 32] ++ decR (i : Int)) ++ cS #[32]) ++ decR ep) ++ cS #[10]) = t1 r r.eps.length ++ catN rpF r.reps (i + 1) := by
              rw [rpE, ← catN_succ rpF h0, hxi, List.append_assoc]; rfl
            simp only [hx]
            repeat' (first | (with_reducible refine Unf.h ?_) | ((conv => whnf); first | (refine Idx.mk ?_ ?_; focus (omega)) | (with_reducible refine Unf.h ?_)) | fail); all_goals try (conv => whnf)
            refine CallS.mk (c := rdec_c) (ep) ?_
            repeat' (first | (with_reducible refine Unf.h ?_) | ((conv => whnf); first | (refine Side.mk ?_ ?_; focus (first | assumption | (simp only [*]; done))) | refine Got.mk (fun _ _ => ?_)) | fail); all_goals try (conv => whnf)
            refine CallS.mk (c := rdec_c) ((i : Int)) ?_
            repeat' (first | (with_reducible first | refine Unf.h ?_ | refine loopK_n ?_) | ((conv => whnf); first | (refine Side.mk ?_ ?_; focus (first | with_reducible rfl | assumption | (intros; (try simp only [lenS, inR, cutS, loI, hiI] at *); omega))) | refine Got.mk (fun _ _ => ?_)) | fail); all_goals try (conv => whnf)
            refine ⟨i + 1, ⟨by omega, by omega⟩, ?_⟩
            skip
            repeat' (first | (with_reducible refine Unf.h ?_) | ((conv => whnf); first | (refine Side.mk ?_ ?_; focus (first | with_reducible rfl | (refine congrArg (SV.int _) ?_; omega) | (simp only [*, e]; done))) | (with_reducible refine Unf.h ?_) | exact True.intro) | fail); all_goals try (conv => whnf)
        · refine LoopS.autoN (I := Nat) (fun i => i ≤ r.upds.length) (fun i => [(8, .int .i64 i), (4, .str (t2 r r.reps.length ++ catN (upF updateW) r.upds i))]) (fun _ => [(0, .box 27 (eRep r))]) 1 (fun i => r.upds.length - i) 0 (Nat.zero_le _) ?_ ?_
          · have e : t1 r r.eps.length ++ catN rpF r.reps i = t2 r r.reps.length ++ catN (upF updateW) r.upds 0 := by
              rw [show i = r.reps.length by omega]; exact (List.append_nil _).symm
            repeat' (first | (with_reducible refine Unf.h ?_) | ((conv => whnf); first | (refine Side.mk ?_ ?_; focus (first | with_reducible rfl | (refine congrArg (SV.int _) ?_; omega) | (simp only [*, e]; done))) | (with_reducible refine Unf.h ?_) | exact True.intro) | fail); all_goals try (conv => whnf)
          · intro i hi
            have hcl : (catN (upF updateW) r.upds i).length ≤ 8009 * i := catN_len fun i h => up_len (show 6 ≤ 10 by decide) (k5 _ (List.getElem_mem h))
            repeat' (first | (with_reducible refine Unf.h ?_) | ((conv => whnf); first | refine Both.mk ?_ ?_ | refine Both.mk ?_ ?_ | refine Fork.mk (fun h => ?_) (fun h => ?_) | (refine Idx.mk ?_ ?_; focus (omega))) | fail); all_goals try (conv => whnf)
            · have h0 : i < r.upds.length := by omega
              have ko := k5 _ (List.getElem_mem h0)
              have p3 : rthree_c.pre ((r.upds[((i : Nat) : Int).toNat]'h0).client, (r.upds[((i : Nat) : Int).toNat]'h0).seq, (r.upds[((i : Nat) : Int).toNat]'h0).epoch) := ⟨ko.1, ko.2.1, ko.2.2.1⟩
              have l3 := threeS_len p3.1 p3.2.1 p3.2.2
              have hlb : (r.upds[((i : Nat) : Int).toNat]'h0).label.length ≤ 100 := ko.2.2.2
              have ph : rhex_c.pre (r.upds[((i : Nat) : Int).toNat]'h0).label := show (r.upds[((i : Nat) : Int).toNat]'h0).label.length ≤ 1000000 by omega
              have lh := bytesS_len (r.upds[((i : Nat) : Int).toNat]'h0).label
              have e : (t2 r r.reps.length ++ catN (upF updateW) r.upds i) ++ ((((updateW ++ threeS (r.upds[((i : Nat) : Int).toNat]'h0).client (r.upds[((i : Nat) : Int).toNat]'h0).seq (r.upds[((i : Nat) : Int).toNat]'h0).epoch) ++ cS #[32]) ++ bytesS (r.upds[((i : Nat) : Int).toNat]'h0).label) ++ cS #[10]) = t2 r r.reps.length ++ catN (upF updateW) r.upds (i + 1) := by
                rw [upE, ← catN_succ (upF updateW) h0, List.append_assoc]; rfl
              all_goals try (conv => whnf)
              all_goals (
                skip
                refine CallS.mk (c := rthree_c) (((r.upds[((i : Nat) : Int).toNat]'h0).client, (r.upds[((i : Nat) : Int).toNat]'h0).seq, (r.upds[((i : Nat) : Int).toNat]'h0).epoch)) ?_
                repeat' (first | (with_reducible refine Unf.h ?_) | ((conv => whnf); first | (refine Side.mk ?_ ?_; focus (first | with_reducible rfl | assumption | (intros; (try simp only [lenS, inR, cutS, loI, hiI] at *); omega))) | refine Got.mk (fun _ _ => ?_)) | fail); all_goals try (conv => whnf)
                all_goals (
                  skip
                  refine CallS.mk (c := rhex_c) ((r.upds[((i : Nat) : Int).toNat]'h0).label) ?_
                  repeat' (first | (with_reducible first | refine Unf.h ?_ | refine loopK_n ?_) | ((conv => whnf); first | (refine Side.mk ?_ ?_; focus (first | with_reducible rfl | assumption | (intros; (try simp only [lenS, inR, cutS, loI, hiI] at *); omega))) | refine Got.mk (fun _ _ => ?_)) | fail); all_goals try (conv => whnf)
                  refine ⟨i + 1, ⟨by omega, by omega⟩, ?_⟩
                  skip
                  repeat' (first | (with_reducible refine Unf.h ?_) | ((conv => whnf); first | (refine Side.mk ?_ ?_; focus (first | with_reducible rfl | (refine congrArg (SV.int _) ?_; omega) | (simp only [*, e]; done))) | (with_reducible refine Unf.h ?_) | exact True.intro) | fail); all_goals try (conv => whnf)))
            · have h0 : i < r.upds.length := by omega
              have ko := k5 _ (List.getElem_mem h0)
              have p3 : rthree_c.pre ((r.upds[((i : Nat) : Int).toNat]'h0).client, (r.upds[((i : Nat) : Int).toNat]'h0).seq, (r.upds[((i : Nat) : Int).toNat]'h0).epoch) := ⟨ko.1, ko.2.1, ko.2.2.1⟩
              have l3 := threeS_len p3.1 p3.2.1 p3.2.2
              have hlb : (r.upds[((i : Nat) : Int).toNat]'h0).label.length ≤ 100 := ko.2.2.2
              have ph : rhex_c.pre (r.upds[((i : Nat) : Int).toNat]'h0).label := show (r.upds[((i : Nat) : Int).toNat]'h0).label.length ≤ 1000000 by omega
              have lh := bytesS_len (r.upds[((i : Nat) : Int).toNat]'h0).label
              have e : (t2 r r.reps.length ++ catN (upF updateW) r.upds i) ++ ((((updateW ++ threeS (r.upds[((i : Nat) : Int).toNat]'h0).client (r.upds[((i : Nat) : Int).toNat]'h0).seq (r.upds[((i : Nat) : Int).toNat]'h0).epoch) ++ cS #[32]) ++ bytesS (r.upds[((i : Nat) : Int).toNat]'h0).label) ++ cS #[10]) = t2 r r.reps.length ++ catN (upF updateW) r.upds (i + 1) := by
                rw [upE, ← catN_succ (upF updateW) h0, List.append_assoc]; rfl
              all_goals try (conv => whnf)
              all_goals (
                skip
                refine CallS.mk (c := rthree_c) (((r.upds[((i : Nat) : Int).toNat]'h0).client, (r.upds[((i : Nat) : Int).toNat]'h0).seq, (r.upds[((i : Nat) : Int).toNat]'h0).epoch)) ?_
                repeat' (first | (with_reducible refine Unf.h ?_) | ((conv => whnf); first | (refine Side.mk ?_ ?_; focus (first | with_reducible rfl | assumption | (intros; (try simp only [lenS, inR, cutS, loI, hiI] at *); omega))) | refine Got.mk (fun _ _ => ?_)) | fail); all_goals try (conv => whnf)
                all_goals (
                  skip
                  refine CallS.mk (c := rhex_c) ((r.upds[((i : Nat) : Int).toNat]'h0).label) ?_
                  repeat' (first | (with_reducible first | refine Unf.h ?_ | refine loopK_n ?_) | ((conv => whnf); first | (refine Side.mk ?_ ?_; focus (first | with_reducible rfl | assumption | (intros; (try simp only [lenS, inR, cutS, loI, hiI] at *); omega))) | refine Got.mk (fun _ _ => ?_)) | fail); all_goals try (conv => whnf)
                  refine ⟨i + 1, ⟨by omega, by omega⟩, ?_⟩
                  skip
                  repeat' (first | (with_reducible refine Unf.h ?_) | ((conv => whnf); first | (refine Side.mk ?_ ?_; focus (first | with_reducible rfl | (refine congrArg (SV.int _) ?_; omega) | (simp only [*, e]; done))) | (with_reducible refine Unf.h ?_) | exact True.intro) | fail); all_goals try (conv => whnf)))
            · refine LoopS.autoN (I := Nat) (fun i => i ≤ r.looks.length) (fun i => [(10, .int .i64 i), (4, .str (t3 r r.upds.length ++ catN (upF lookW) r.looks i))]) (fun _ => [(0, .box 27 (eRep r))]) 1 (fun i => r.looks.length - i) 0 (Nat.zero_le _) ?_ ?_
              · have e : t2 r r.reps.length ++ catN (upF updateW) r.upds i = t3 r r.upds.length ++ catN (upF lookW) r.looks 0 := by
                  rw [show i = r.upds.length by omega]; exact (List.append_nil _).symm
                repeat' (first | (with_reducible refine Unf.h ?_) | ((conv => whnf); first | (refine Side.mk ?_ ?_; focus (first | with_reducible rfl | (refine congrArg (SV.int _) ?_; omega) | (simp only [*, e]; done))) | (with_reducible refine Unf.h ?_) | exact True.intro) | fail); all_goals try (conv => whnf)
              · intro i hi
                have hcl : (catN (upF lookW) r.looks i).length ≤ 8009 * i := catN_len fun i h => up_len (show 4 ≤ 10 by decide) (k6 _ (List.getElem_mem h))
                repeat' (first | (with_reducible refine Unf.h ?_) | ((conv => whnf); first | refine Both.mk ?_ ?_ | refine Both.mk ?_ ?_ | refine Fork.mk (fun h => ?_) (fun h => ?_) | (refine Idx.mk ?_ ?_; focus (omega)) | refine RetE.mk () trivial ?_ | refine retK_r ?_) | fail); all_goals try (conv => whnf)
                · have h0 : i < r.looks.length := by omega
                  have hb4 := hb3
                  have ko := k6 _ (List.getElem_mem h0)
                  have p3 : rthree_c.pre ((r.looks[((i : Nat) : Int).toNat]'h0).client, (r.looks[((i : Nat) : Int).toNat]'h0).seq, (r.looks[((i : Nat) : Int).toNat]'h0).epoch) := ⟨ko.1, ko.2.1, ko.2.2.1⟩
                  have l3 := threeS_len p3.1 p3.2.1 p3.2.2
                  have hlb : (r.looks[((i : Nat) : Int).toNat]'h0).label.length ≤ 100 := ko.2.2.2
                  have ph : rhex_c.pre (r.looks[((i : Nat) : Int).toNat]'h0).label := show (r.looks[((i : Nat) : Int).toNat]'h0).label.length ≤ 1000000 by omega
                  have lh := bytesS_len (r.looks[((i : Nat) : Int).toNat]'h0).label
                  have e : (t3 r r.upds.length ++ catN (upF lookW) r.looks i) ++ ((((lookW ++ threeS (r.looks[((i : Nat) : Int).toNat]'h0).client (r.looks[((i : Nat) : Int).toNat]'h0).seq (r.looks[((i : Nat) : Int).toNat]'h0).epoch) ++ cS #[32]) ++ bytesS (r.looks[((i : Nat) : Int).toNat]'h0).label) ++ cS #[10]) = t3 r r.upds.length ++ catN (upF lookW) r.looks (i + 1) := by
                    rw [upE, ← catN_succ (upF lookW) h0, List.append_assoc]; rfl
                  all_goals try (conv => whnf)
                  all_goals (
                    skip
                    refine CallS.mk (c := rthree_c) (((r.looks[((i : Nat) : Int).toNat]'h0).client, (r.looks[((i : Nat) : Int).toNat]'h0).seq, (r.looks[((i : Nat) : Int).toNat]'h0).epoch)) ?_
                    repeat' (first | (with_reducible refine Unf.h ?_) | ((conv => whnf); first | (refine Side.mk ?_ ?_; focus (first | with_reducible rfl | assumption | (intros; (try simp only [lenS, inR, cutS, loI, hiI] at *); omega))) | refine Got.mk (fun _ _ => ?_)) | fail); all_goals try (conv => whnf)
                    all_goals (
                      skip
                      refine CallS.mk (c := rhex_c) ((r.looks[((i : Nat) : Int).toNat]'h0).label) ?_
                      repeat' (first | (with_reducible first | refine Unf.h ?_ | refine loopK_n ?_) | ((conv => whnf); first | (refine Side.mk ?_ ?_; focus (first | with_reducible rfl | assumption | (intros; (try simp only [lenS, inR, cutS, loI, hiI] at *); omega))) | refine Got.mk (fun _ _ => ?_)) | fail); all_goals try (conv => whnf)
                      refine ⟨i + 1, ⟨by omega, by omega⟩, ?_⟩
                      skip
                      repeat' (first | (with_reducible refine Unf.h ?_) | ((conv => whnf); first | (refine Side.mk ?_ ?_; focus (first | with_reducible rfl | (refine congrArg (SV.int _) ?_; omega) | (simp only [*, e]; done))) | (with_reducible refine Unf.h ?_) | exact True.intro) | fail); all_goals try (conv => whnf)))
                · have h0 : i < r.looks.length := by omega
                  have hb4 := hb3
                  have ko := k6 _ (List.getElem_mem h0)
                  have p3 : rthree_c.pre ((r.looks[((i : Nat) : Int).toNat]'h0).client, (r.looks[((i : Nat) : Int).toNat]'h0).seq, (r.looks[((i : Nat) : Int).toNat]'h0).epoch) := ⟨ko.1, ko.2.1, ko.2.2.1⟩
                  have l3 := threeS_len p3.1 p3.2.1 p3.2.2
                  have hlb : (r.looks[((i : Nat) : Int).toNat]'h0).label.length ≤ 100 := ko.2.2.2
                  have ph : rhex_c.pre (r.looks[((i : Nat) : Int).toNat]'h0).label := show (r.looks[((i : Nat) : Int).toNat]'h0).label.length ≤ 1000000 by omega
                  have lh := bytesS_len (r.looks[((i : Nat) : Int).toNat]'h0).label
                  have e : (t3 r r.upds.length ++ catN (upF lookW) r.looks i) ++ ((((lookW ++ threeS (r.looks[((i : Nat) : Int).toNat]'h0).client (r.looks[((i : Nat) : Int).toNat]'h0).seq (r.looks[((i : Nat) : Int).toNat]'h0).epoch) ++ cS #[32]) ++ bytesS (r.looks[((i : Nat) : Int).toNat]'h0).label) ++ cS #[10]) = t3 r r.upds.length ++ catN (upF lookW) r.looks (i + 1) := by
                    rw [upE, ← catN_succ (upF lookW) h0, List.append_assoc]; rfl
                  all_goals try (conv => whnf)
                  all_goals (
                    skip
                    refine CallS.mk (c := rthree_c) (((r.looks[((i : Nat) : Int).toNat]'h0).client, (r.looks[((i : Nat) : Int).toNat]'h0).seq, (r.looks[((i : Nat) : Int).toNat]'h0).epoch)) ?_
                    repeat' (first | (with_reducible refine Unf.h ?_) | ((conv => whnf); first | (refine Side.mk ?_ ?_; focus (first | with_reducible rfl | assumption | (intros; (try simp only [lenS, inR, cutS, loI, hiI] at *); omega))) | refine Got.mk (fun _ _ => ?_)) | fail); all_goals try (conv => whnf)
                    all_goals (
                      skip
                      refine CallS.mk (c := rhex_c) ((r.looks[((i : Nat) : Int).toNat]'h0).label) ?_
                      repeat' (first | (with_reducible first | refine Unf.h ?_ | refine loopK_n ?_) | ((conv => whnf); first | (refine Side.mk ?_ ?_; focus (first | with_reducible rfl | assumption | (intros; (try simp only [lenS, inR, cutS, loI, hiI] at *); omega))) | refine Got.mk (fun _ _ => ?_)) | fail); all_goals try (conv => whnf)
                      refine ⟨i + 1, ⟨by omega, by omega⟩, ?_⟩
                      skip
                      repeat' (first | (with_reducible refine Unf.h ?_) | ((conv => whnf); first | (refine Side.mk ?_ ?_; focus (first | with_reducible rfl | (refine congrArg (SV.int _) ?_; omega) | (simp only [*, e]; done))) | (with_reducible refine Unf.h ?_) | exact True.intro) | fail); all_goals try (conv => whnf)))
                · have e : t4 r r.looks.length = t3 r r.upds.length ++ catN (upF lookW) r.looks i := by
                    rw [show i = r.looks.length by omega]; rfl
                  have ew2 : writeP r = (t3 r r.upds.length ++ catN (upF lookW) r.looks i, 0) := by rw [ew]; exact congrArg (fun t => (t, (0 : Int))) e
                  clear ew e
                  repeat' (first | (with_reducible refine Unf.h ?_) | ((conv => whnf); first | (refine Side.mk ?_ ?_; focus ((simp only [*, ew2]; done))) | exact rfl) | fail); all_goals try (conv => whnf)
end Go.Proofs.YtepongfhnammkaaDoor

namespace Go.Proofs.YtepongfhnammkaaDoor
set_option linter.all false
open Go.RowKit
/-! Few, awake, ReportWrites -/
abbrev smallU (l : List Upd) : Prop := ∀ u ∈ l, u.label.length ≤ 150
theorem small_succ {l : List Upd} {i : Nat} (h : i < l.length) (h1 : smallU (l.take i)) (h2 : l[i].label.length ≤ 150) : smallU (l.take (i + 1)) := by
  intro u hu
  rw [List.take_succ_eq_append_getElem h] at hu
  rcases List.mem_append.1 hu with hu | hu
  · exact h1 u hu
  · rw [List.mem_singleton.1 hu]; exact h2
theorem small_all {l : List Upd} {i : Nat} (h : l.length ≤ i ∨ 2000 ≤ i) (h1 : smallU (l.take i)) (h2 : l.length ≤ 1999) : smallU l := by
  rw [List.take_of_length_le (by omega)] at h1; exact h1
def rfew_c : Ctr where
  D := Rep × Int
  pre := fun (_, n) => n ≤ 1999
  args := fun (r, n) => [.agg (eRep r), .int .i64 n]
  E := Bool
  post := fun (r, n) e => e = true → smallU r.upds ∧ smallU r.looks ∧ (r.eps.length : Int) ≤ n ∧ (r.reps.length : Int) ≤ n ∧ (r.upds.length : Int) ≤ n ∧ (r.looks.length : Int) ≤ n
  res := fun _ e => .bool e
def rfew_H : Cfg := ⟨[], [], [], [], 71, 0, [], [], []⟩
theorem rfew_ok : rfew_c.Ok Tryd.prog 8 := by
  refine fn_ok rfew_H 0 rfl _ Tryd.func8 rfl rfl trivial rfl rfl (by kernel_rfl) (fun _ => Nat.le_of_ble_eq_true rfl) ?_
  rintro ⟨r, n⟩ hp hr
  try dsimp only [rfew_c] at hp
  try simp only [rfew_c, Rng, RngL, inR, and_true, true_and] at hr
  have hn : n ≤ 1999 := hp
  repeat' (first | (with_reducible refine Unf.h ?_) | fail); all_goals try (conv => whnf)
  refine LoopS.autoN (I := Nat) (fun i => i ≤ r.upds.length ∧ i ≤ 2000 ∧ smallU (r.upds.take i)) (fun i => [(5, .int .i64 i)]) (fun _ => [(0, .box 27 (eRep r))]) 1 (fun i => r.upds.length - i) 0 ⟨Nat.zero_le _, Nat.zero_le _, fun u h => absurd h List.not_mem_nil⟩ ?_ ?_
  · repeat' (first | (with_reducible refine Unf.h ?_) | ((conv => whnf); first | (refine Side.mk ?_ ?_; focus (first | with_reducible rfl | (refine congrArg (SV.int _) ?_; omega))) | (with_reducible refine Unf.h ?_) | exact True.intro) | fail); all_goals try (conv => whnf)
  · rintro i ⟨hi, hi2, hm⟩
    repeat' (first | (with_reducible first | refine Unf.h ?_ | refine loopK_n ?_) | ((conv => whnf); first | refine Fork.mk (fun h => ?_) (fun h => ?_) | (refine Side.mk ?_ ?_; focus ((intros; (try simp only [lenS, inR, cutS, loI, hiI] at *); omega))) | (refine Idx.mk ?_ ?_; focus (omega)) | refine retK_r ?_) | fail); all_goals try (conv => whnf)
    · exact RetE.mk false (fun h => (by cases h)) (by repeat' (first | (with_reducible refine Unf.h ?_) | ((conv => whnf); first | (refine Side.mk ?_ ?_; focus (with_reducible rfl)) | exact rfl) | fail); all_goals try (conv => whnf))
    · have h0 : i < r.upds.length := by omega
      have hle : (r.upds[i]'h0).label.length ≤ 150 := by
        have h' : ¬ (150 : Int) < (((r.upds[i]'h0).label.length : Nat) : Int) := h
        omega
      refine ⟨i + 1, ⟨by omega, by omega, by omega, small_succ h0 hm hle⟩, ?_⟩
      skip
      repeat' (first | (with_reducible refine Unf.h ?_) | ((conv => whnf); first | (refine Side.mk ?_ ?_; focus (first | with_reducible rfl | (refine congrArg (SV.int _) ?_; omega))) | (with_reducible refine Unf.h ?_) | exact True.intro) | fail); all_goals try (conv => whnf)
    · have hx1 : r.upds.length ≤ i ∨ 2000 ≤ i := .inr (by omega)
      refine LoopS.autoN (I := Nat) (fun j => j ≤ r.looks.length ∧ j ≤ 2000 ∧ smallU (r.looks.take j)) (fun j => [(6, .int .i64 j)]) (fun _ => [(0, .box 27 (eRep r))]) 1 (fun j => r.looks.length - j) 0 ⟨Nat.zero_le _, Nat.zero_le _, fun u h => absurd h List.not_mem_nil⟩ ?_ ?_
      · repeat' (first | (with_reducible refine Unf.h ?_) | ((conv => whnf); first | (refine Side.mk ?_ ?_; focus (first | with_reducible rfl | (refine congrArg (SV.int _) ?_; omega))) | (with_reducible refine Unf.h ?_) | exact True.intro) | fail); all_goals try (conv => whnf)
      · rintro j ⟨hj, hj2, hm2⟩
        repeat' (first | (with_reducible first | refine Unf.h ?_ | refine loopK_n ?_) | ((conv => whnf); first | refine Fork.mk (fun h => ?_) (fun h => ?_) | (refine Side.mk ?_ ?_; focus ((intros; (try simp only [lenS, inR, cutS, loI, hiI] at *); omega))) | (refine Idx.mk ?_ ?_; focus (omega)) | refine retK_r ?_) | fail); all_goals try (conv => whnf)
        · exact RetE.mk false (fun h => (by cases h)) (by repeat' (first | (with_reducible refine Unf.h ?_) | ((conv => whnf); first | (refine Side.mk ?_ ?_; focus (with_reducible rfl)) | exact rfl) | fail); all_goals try (conv => whnf))
        · have h0 : j < r.looks.length := by omega
          have hle : (r.looks[j]'h0).label.length ≤ 150 := by
            have h' : ¬ (150 : Int) < (((r.looks[j]'h0).label.length : Nat) : Int) := h
            omega
          refine ⟨j + 1, ⟨by omega, by omega, by omega, small_succ h0 hm2 hle⟩, ?_⟩
          skip
          repeat' (first | (with_reducible refine Unf.h ?_) | ((conv => whnf); first | (refine Side.mk ?_ ?_; focus (first | with_reducible rfl | (refine congrArg (SV.int _) ?_; omega))) | (with_reducible refine Unf.h ?_) | exact True.intro) | fail); all_goals try (conv => whnf)
        · have hx2 : r.looks.length ≤ j ∨ 2000 ≤ j := by omega
          refine RetE.mk (decide ((r.looks.length : Int) ≤ n)) (fun h => ?_) ?_
          · have h9 : (r.looks.length : Int) ≤ n := of_decide_eq_true h
            exact ⟨small_all hx1 hm (by omega), small_all hx2 hm2 (by omega), by omega, by omega, by omega, h9⟩
          · repeat' (first | (with_reducible refine Unf.h ?_) | ((conv => whnf); first | (refine Side.mk ?_ ?_; focus (with_reducible rfl)) | exact rfl) | fail); all_goals try (conv => whnf)
        · exact RetE.mk false (fun h => (by cases h)) (by repeat' (first | (with_reducible refine Unf.h ?_) | ((conv => whnf); first | (refine Side.mk ?_ ?_; focus (with_reducible rfl)) | exact rfl) | fail); all_goals try (conv => whnf))
        · exact RetE.mk false (fun h => (by cases h)) (by repeat' (first | (with_reducible refine Unf.h ?_) | ((conv => whnf); first | (refine Side.mk ?_ ?_; focus (with_reducible rfl)) | exact rfl) | fail); all_goals try (conv => whnf))
        · exact RetE.mk false (fun h => (by cases h)) (by repeat' (first | (with_reducible refine Unf.h ?_) | ((conv => whnf); first | (refine Side.mk ?_ ?_; focus (with_reducible rfl)) | exact rfl) | fail); all_goals try (conv => whnf))
        · have hx2 : r.looks.length ≤ j ∨ 2000 ≤ j := by omega
          refine RetE.mk (decide ((r.looks.length : Int) ≤ n)) (fun h => ?_) ?_
          · have h9 : (r.looks.length : Int) ≤ n := of_decide_eq_true h
            exact ⟨small_all hx1 hm (by omega), small_all hx2 hm2 (by omega), by omega, by omega, by omega, h9⟩
          · repeat' (first | (with_reducible refine Unf.h ?_) | ((conv => whnf); first | (refine Side.mk ?_ ?_; focus (with_reducible rfl)) | exact rfl) | fail); all_goals try (conv => whnf)
        · exact RetE.mk false (fun h => (by cases h)) (by repeat' (first | (with_reducible refine Unf.h ?_) | ((conv => whnf); first | (refine Side.mk ?_ ?_; focus (with_reducible rfl)) | exact rfl) | fail); all_goals try (conv => whnf))
        · exact RetE.mk false (fun h => (by cases h)) (by repeat' (first | (with_reducible refine Unf.h ?_) | ((conv => whnf); first | (refine Side.mk ?_ ?_; focus (with_reducible rfl)) | exact rfl) | fail); all_goals try (conv => whnf))
        · exact RetE.mk false (fun h => (by cases h)) (by repeat' (first | (with_reducible refine Unf.h ?_) | ((conv => whnf); first | (refine Side.mk ?_ ?_; focus (with_reducible rfl)) | exact rfl) | fail); all_goals try (conv => whnf))
    · have hx1 : r.upds.length ≤ i ∨ 2000 ≤ i := .inl (by omega)
      refine LoopS.autoN (I := Nat) (fun j => j ≤ r.looks.length ∧ j ≤ 2000 ∧ smallU (r.looks.take j)) (fun j => [(6, .int .i64 j)]) (fun _ => [(0, .box 27 (eRep r))]) 1 (fun j => r.looks.length - j) 0 ⟨Nat.zero_le _, Nat.zero_le _, fun u h => absurd h List.not_mem_nil⟩ ?_ ?_
      · repeat' (first | (with_reducible refine Unf.h ?_) | ((conv => whnf); first | (refine Side.mk ?_ ?_; focus (first | with_reducible rfl | (refine congrArg (SV.int _) ?_; omega))) | (with_reducible refine Unf.h ?_) | exact True.intro) | fail); all_goals try (conv => whnf)
      · rintro j ⟨hj, hj2, hm2⟩
        repeat' (first | (with_reducible first | refine Unf.h ?_ | refine loopK_n ?_) | ((conv => whnf); first | refine Fork.mk (fun h => ?_) (fun h => ?_) | (refine Side.mk ?_ ?_; focus ((intros; (try simp only [lenS, inR, cutS, loI, hiI] at *); omega))) | (refine Idx.mk ?_ ?_; focus (omega)) | refine retK_r ?_) | fail); all_goals try (conv => whnf)
        · exact RetE.mk false (fun h => (by cases h)) (by repeat' (first | (with_reducible refine Unf.h ?_) | ((conv => whnf); first | (refine Side.mk ?_ ?_; focus (with_reducible rfl)) | exact rfl) | fail); all_goals try (conv => whnf))
        · have h0 : j < r.looks.length := by omega
          have hle : (r.looks[j]'h0).label.length ≤ 150 := by
            have h' : ¬ (150 : Int) < (((r.looks[j]'h0).label.length : Nat) : Int) := h
            omega
          refine ⟨j + 1, ⟨by omega, by omega, by omega, small_succ h0 hm2 hle⟩, ?_⟩
          skip
          repeat' (first | (with_reducible refine Unf.h ?_) | ((conv => whnf); first | (refine Side.mk ?_ ?_; focus (first | with_reducible rfl | (refine congrArg (SV.int _) ?_; omega))) | (with_reducible refine Unf.h ?_) | exact True.intro) | fail); all_goals try (conv => whnf)
        · have hx2 : r.looks.length ≤ j ∨ 2000 ≤ j := by omega
          refine RetE.mk (decide ((r.looks.length : Int) ≤ n)) (fun h => ?_) ?_
          · have h9 : (r.looks.length : Int) ≤ n := of_decide_eq_true h
            exact ⟨small_all hx1 hm (by omega), small_all hx2 hm2 (by omega), by omega, by omega, by omega, h9⟩
          · repeat' (first | (with_reducible refine Unf.h ?_) | ((conv => whnf); first | (refine Side.mk ?_ ?_; focus (with_reducible rfl)) | exact rfl) | fail); all_goals try (conv => whnf)
        · exact RetE.mk false (fun h => (by cases h)) (by repeat' (first | (with_reducible refine Unf.h ?_) | ((conv => whnf); first | (refine Side.mk ?_ ?_; focus (with_reducible rfl)) | exact rfl) | fail); all_goals try (conv => whnf))
        · exact RetE.mk false (fun h => (by cases h)) (by repeat' (first | (with_reducible refine Unf.h ?_) | ((conv => whnf); first | (refine Side.mk ?_ ?_; focus (with_reducible rfl)) | exact rfl) | fail); all_goals try (conv => whnf))
        · exact RetE.mk false (fun h => (by cases h)) (by repeat' (first | (with_reducible refine Unf.h ?_) | ((conv => whnf); first | (refine Side.mk ?_ ?_; focus (with_reducible rfl)) | exact rfl) | fail); all_goals try (conv => whnf))
        · have hx2 : r.looks.length ≤ j ∨ 2000 ≤ j := by omega
          refine RetE.mk (decide ((r.looks.length : Int) ≤ n)) (fun h => ?_) ?_
          · have h9 : (r.looks.length : Int) ≤ n := of_decide_eq_true h
            exact ⟨small_all hx1 hm (by omega), small_all hx2 hm2 (by omega), by omega, by omega, by omega, h9⟩
          · repeat' (first | (with_reducible refine Unf.h ?_) | ((conv => whnf); first | (refine Side.mk ?_ ?_; focus (with_reducible rfl)) | exact rfl) | fail); all_goals try (conv => whnf)
        · exact RetE.mk false (fun h => (by cases h)) (by repeat' (first | (with_reducible refine Unf.h ?_) | ((conv => whnf); first | (refine Side.mk ?_ ?_; focus (with_reducible rfl)) | exact rfl) | fail); all_goals try (conv => whnf))
        · exact RetE.mk false (fun h => (by cases h)) (by repeat' (first | (with_reducible refine Unf.h ?_) | ((conv => whnf); first | (refine Side.mk ?_ ?_; focus (with_reducible rfl)) | exact rfl) | fail); all_goals try (conv => whnf))
        · exact RetE.mk false (fun h => (by cases h)) (by repeat' (first | (with_reducible refine Unf.h ?_) | ((conv => whnf); first | (refine Side.mk ?_ ?_; focus (with_reducible rfl)) | exact rfl) | fail); all_goals try (conv => whnf))
abbrev rep0 : Rep := ⟨3, 0, [], [], [], []⟩
abbrev awS : B8 := cS #[116, 105, 99, 107, 32, 51, 10, 102, 114, 97, 109, 101, 115, 32, 48, 10]
theorem rep0T : repT rep0 = awS := by
  have e : repT rep0 = lineW tickW [3] [] ++ lineW framesW [0] [] := by
    simp only [repT, t4, t3, t2, t1, tH, rep0, catN, List.length_nil, List.append_nil]
  have d3 : decR 3 = [51#8] := digN_lt (by decide)
  have d0 : decR 0 = [48#8] := digN_lt (by decide)
  rw [e, ← headE, d3, d0]; rfl
theorem rep0W : writeP rep0 = (awS, 0) := by
  have h1 : ¬ longR rep0 := by decide
  have h2 : repOk rep0 := by decide
  unfold writeP
  rw [if_neg h1, if_pos h2, rep0T]
def raw_c : Ctr where
  D := Unit
  args := fun _ => []
  res := fun _ _ => .bool true
def raw_H : Cfg := ⟨[(9, wrp_c)], [], [], [], 14, 0, [], [], []⟩
theorem raw_ok : raw_c.Ok Tryd.prog 7 := by
  refine fn_ok raw_H 0 rfl _ Tryd.func7 rfl rfl ⟨wrp_ok, trivial⟩ rfl rfl (by kernel_rfl) (fun _ => Nat.le_of_ble_eq_true rfl) ?_
  rintro ⟨⟩ hp hr
  try dsimp only [raw_c] at hp
  try simp only [raw_c, Rng, RngL, inR, and_true, true_and] at hr
  have hpw : wrp_c.pre rep0 := ⟨fun u h => absurd h List.not_mem_nil, fun u h => absurd h List.not_mem_nil⟩
  repeat' (first | (with_reducible refine Unf.h ?_) | fail); all_goals try (conv => whnf)
  refine CallS.mk (c := wrp_c) rep0 ?_
  repeat' (first | (with_reducible refine Unf.h ?_) | ((conv => whnf); first | refine Fork.mk (fun h => ?_) (fun h => ?_) | (refine Side.mk ?_ ?_; focus (first | with_reducible rfl | assumption | exact dF (by omega))) | refine RetE.mk () trivial ?_ | refine Got.mk (fun _ _ => ?_) | refine retK_r ?_ | exact rfl) | fail); all_goals try (conv => whnf)
  all_goals (refine Side.mk (by rw [rep0W]; exact decide_eq_true rfl) ?_)
  repeat' (first | (with_reducible refine Unf.h ?_) | ((conv => whnf); exact rfl) | fail); all_goals try (conv => whnf)
def rlw_c : Ctr where
  D := Rep
  args := fun r => [.agg (eRep r)]
  res := fun _ _ => .bool true
def rlw_H : Cfg := ⟨[(7, raw_c), (8, rfew_c), (9, wrp_c), (10, rwp_c)], [], [], [], 33, 0, [], [], []⟩
theorem rlw_ok : rlw_c.Ok Tryd.prog 3 := by
  refine fn_ok rlw_H 0 rfl _ Tryd.func3 rfl rfl ⟨raw_ok, rfew_ok, wrp_ok, rwp_ok, trivial⟩ rfl rfl (by kernel_rfl) (fun _ => Nat.le_of_ble_eq_true rfl) ?_
  intro (r : Rep) hp hr
  try dsimp only [rlw_c] at hp
  try simp only [rlw_c, Rng, RngL, inR, and_true, true_and] at hr
  have hpf : rfew_c.pre (r, 1010) := show (1010 : Int) ≤ 1999 by decide
  repeat' (first | (with_reducible refine Unf.h ?_) | ((conv => whnf); first | (refine Side.mk ?_ ?_; focus (first | with_reducible rfl | exact True.intro | assumption)) | refine Got.mk (fun _ _ => ?_) | refine CallS.mk (c := raw_c) (()) ?_ | refine CallS.mk (c := rfew_c) ((r, 1010)) ?_) | fail); all_goals try (conv => whnf)
  rename_i e he
  cases e with
  | false =>
    repeat' (first | (with_reducible refine Unf.h ?_) | ((conv => whnf); first | (refine Side.mk ?_ ?_; focus (first | with_reducible rfl | exact True.intro)) | refine RetE.mk () trivial ?_ | refine Got.mk (fun _ _ => ?_) | (with_reducible refine Unf.h ?_) | refine retK_r ?_ | exact rfl | refine CallS.mk (c := raw_c) (()) ?_) | fail); all_goals try (conv => whnf)
  | true =>
    obtain ⟨h1, h2, -⟩ := he rfl
    have hpw : wrp_c.pre r := ⟨h1, h2⟩
    have hpd : rwp_c.pre r := ⟨h1, h2⟩
    repeat' (first | (with_reducible refine Unf.h ?_) | ((conv => whnf); first | refine Fork.mk (fun h => ?_) (fun h => ?_) | (refine Side.mk ?_ ?_; focus (first | with_reducible rfl | assumption | (simp [*]; done))) | refine RetE.mk () trivial ?_ | refine Got.mk (fun _ _ => ?_) | (with_reducible refine Unf.h ?_) | refine retK_r ?_ | exact rfl | refine CallS.mk (c := wrp_c) (r) ?_) | fail); all_goals try (conv => whnf)
    exact absurd rfl h
end Go.Proofs.YtepongfhnammkaaDoor

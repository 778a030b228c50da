import Derived.Test.YtepongfhnammkaaDoorLaw
import Derived.Test.YtepongfhnammkaaDoorZLRWrites1
import Derived.Stop.LaidErr
import Derived.Lay
/- MY OWN ENGINE: the variables that ReportWrites' row lists; what a report is. -/
namespace Go.Proofs.YtepongfhnammkaaDoor
set_option linter.all false
open Go.RowKit Go.ChangeShapes Go.WideShapes Go.ChangeAt
theorem Tryd.own : ownKnob Tryd.prog.godebug = none := by kernel_rfl
theorem Tryd.laidOut : laidOutB Tryd.prog = true := by kernel_rfl
section
variable {H : Type} {enc : TypeId × Value → H} {W : World} {spare : Nat → Bool} {held : Bool}
theorem o_int : Opens Tryd.prog enc W spare held 3 (fun n : Int => [.int .i64 n]) := o_i64 (i := ⟨.int .i64, 1, 8⟩) rfl rfl
theorem o_bl : Opens Tryd.prog enc W spare held 4 (fun b : Bool => [.bool b]) := o_bool (t := 4) (i := ⟨.bool, 1, 1⟩) rfl rfl
theorem o_byte : Opens Tryd.prog enc W spare held 5 eB := o_uns (i := ⟨.int .u8, 1, 1⟩) (k := .u8) (w := 8) (mk := .u8) rfl rfl rfl rfl (fun _ _ => hc8)
theorem o_bytes : Opens Tryd.prog enc W spare held 40 (fun l : List (BitVec 8) => [.fs 1 eB l]) :=
  o_slice (i := ⟨.sl 5, 1, 24⟩) (j := ⟨.int .u8, 1, 1⟩) (f := eB) rfl rfl rfl rfl rfl o_byte (fun _ => rfl)
theorem o_ep : Opens Tryd.prog enc W spare held 54 eEp :=
  (o_struct (i := ⟨.st [(0, 3), (1, 3)], 2, 16⟩) rfl rfl
    (o_field (off := 0) (off2 := 1) (j := ⟨.int .i64, 1, 8⟩) rfl o_int (fun _ => rfl) rfl
    (o_last (j := ⟨.int .i64, 1, 8⟩) rfl o_int (fun _ => rfl))) (fun _ => rfl) (by kernel_rfl)).map (fun p => ((p.1, p.2) : Int × Int)) (fun _ => rfl)
theorem o_eps : Opens Tryd.prog enc W spare held 22 (fun l : List (Int × Int) => [.fs 2 eEp l]) :=
  o_slice (i := ⟨.sl 54, 1, 24⟩) (j := ⟨.st [(0, 3), (1, 3)], 2, 16⟩) rfl rfl rfl rfl rfl o_ep (fun _ => rfl)
theorem o_rp : Opens Tryd.prog enc W spare held 56 eRp :=
  (o_struct (i := ⟨.st [(0, 4), (1, 3)], 2, 16⟩) rfl rfl
    (o_field (off := 0) (off2 := 1) (j := ⟨.bool, 1, 1⟩) rfl o_bl (fun _ => rfl) rfl
    (o_last (j := ⟨.int .i64, 1, 8⟩) rfl o_int (fun _ => rfl))) (fun _ => rfl) (by kernel_rfl)).map (fun p => ((p.1, p.2) : Bool × Int)) (fun _ => rfl)
theorem o_rps : Opens Tryd.prog enc W spare held 23 (fun l : List (Bool × Int) => [.fs 2 eRp l]) :=
  o_slice (i := ⟨.sl 56, 1, 24⟩) (j := ⟨.st [(0, 4), (1, 3)], 2, 16⟩) rfl rfl rfl rfl rfl o_rp (fun _ => rfl)
theorem o_up : Opens Tryd.prog enc W spare held 42 eUp :=
  (o_struct (i := ⟨.st [(0, 3), (1, 3), (2, 3), (3, 40)], 4, 48⟩) rfl rfl
    (o_field (off := 0) (off2 := 1) (j := ⟨.int .i64, 1, 8⟩) rfl o_int (fun _ => rfl) rfl
    (o_field (off := 1) (off2 := 2) (j := ⟨.int .i64, 1, 8⟩) rfl o_int (fun _ => rfl) rfl
    (o_field (off := 2) (off2 := 3) (j := ⟨.int .i64, 1, 8⟩) rfl o_int (fun _ => rfl) rfl
    (o_last (j := ⟨.sl 5, 1, 24⟩) rfl o_bytes (fun _ => rfl))))) (fun _ => rfl) (by kernel_rfl)).map (fun p => (⟨p.1, p.2.1, p.2.2.1, p.2.2.2⟩ : Upd)) (fun _ => rfl)
theorem o_ups : Opens Tryd.prog enc W spare held 24 (fun l : List Upd => [.fs 4 eUp l]) :=
  o_slice (i := ⟨.sl 42, 1, 24⟩) (j := ⟨.st [(0, 3), (1, 3), (2, 3), (3, 40)], 4, 48⟩) rfl rfl rfl rfl rfl o_up (fun _ => rfl)
theorem o_lk : Opens Tryd.prog enc W spare held 44 eUp :=
  (o_struct (i := ⟨.st [(0, 3), (1, 3), (2, 3), (3, 40)], 4, 48⟩) rfl rfl
    (o_field (off := 0) (off2 := 1) (j := ⟨.int .i64, 1, 8⟩) rfl o_int (fun _ => rfl) rfl
    (o_field (off := 1) (off2 := 2) (j := ⟨.int .i64, 1, 8⟩) rfl o_int (fun _ => rfl) rfl
    (o_field (off := 2) (off2 := 3) (j := ⟨.int .i64, 1, 8⟩) rfl o_int (fun _ => rfl) rfl
    (o_last (j := ⟨.sl 5, 1, 24⟩) rfl o_bytes (fun _ => rfl))))) (fun _ => rfl) (by kernel_rfl)).map (fun p => (⟨p.1, p.2.1, p.2.2.1, p.2.2.2⟩ : Upd)) (fun _ => rfl)
theorem o_lks : Opens Tryd.prog enc W spare held 25 (fun l : List Upd => [.fs 4 eUp l]) :=
  o_slice (i := ⟨.sl 44, 1, 24⟩) (j := ⟨.st [(0, 3), (1, 3), (2, 3), (3, 40)], 4, 48⟩) rfl rfl rfl rfl rfl o_lk (fun _ => rfl)
theorem o_rep : Opens Tryd.prog enc W spare held 27 eRep :=
  (o_struct (i := ⟨.st [(0, 3), (1, 3), (2, 22), (3, 23), (4, 24), (5, 25)], 6, 112⟩) rfl rfl
    (o_field (off := 0) (off2 := 1) (j := ⟨.int .i64, 1, 8⟩) rfl o_int (fun _ => rfl) rfl
    (o_field (off := 1) (off2 := 2) (j := ⟨.int .i64, 1, 8⟩) rfl o_int (fun _ => rfl) rfl
    (o_field (off := 2) (off2 := 3) (j := ⟨.sl 54, 1, 24⟩) rfl o_eps (fun _ => rfl) rfl
    (o_field (off := 3) (off2 := 4) (j := ⟨.sl 56, 1, 24⟩) rfl o_rps (fun _ => rfl) rfl
    (o_field (off := 4) (off2 := 5) (j := ⟨.sl 42, 1, 24⟩) rfl o_ups (fun _ => rfl) rfl
    (o_last (j := ⟨.sl 44, 1, 24⟩) rfl o_lks (fun _ => rfl))))))) (fun _ => rfl) (by kernel_rfl)).map (fun p => (⟨p.1, p.2.1, p.2.2.1, p.2.2.2.1, p.2.2.2.2.1, p.2.2.2.2.2⟩ : Rep)) (fun _ => rfl)
end
theorem pow_glob {W : World} (h : Lib.TabIs Tryd.prog W "internal/strconv.uint64pow10" .u64 Lib.pow10Tab) : Glob Tryd.prog W none0 := by
  have hg : (Tryd.prog).globalNamed "internal/strconv.uint64pow10" = some 1 := by kernel_rfl
  unfold Lib.TabIs World.var? at h
  rw [hg] at h
  simp only [Option.bind_some] at h
  intro g ps hm
  have hm' : (g, ps) = ((1 : Nat), Lib.pow10Tab.map (fun z => SV.int .u64 z)) := by
    have e : TabC.gl Tryd.prog = [((1 : Nat), Lib.pow10Tab.map (fun z => SV.int .u64 z))] := rfl
    rw [e] at hm
    simpa using hm
  cases hm'
  split at h
  · rename_i C T fr hh
    have e := Option.some.inj h
    have key : ∀ l : List Int, hL W none0 (l.map fun z => SV.int .u64 z) sg0 (l.map fun z => Value.int .u64 z) := by
      intro l
      induction l with
      | nil => rfl
      | cons x r ih => exact ⟨[Value.int .u64 x], _, rfl, by simp [SV.hc], ih⟩
    have hz : szL (Lib.pow10Tab.map fun z => SV.int .u64 z) = 20 := rfl
    have hlen : C.size = 20 := by rw [e]; simp [Lib.pow10Tab]
    refine ⟨⟨1, 0, rfl, fun h => h, C, T, fr, hh, ?_⟩, C, T, fr, hh, by rw [hlen, hz]⟩
    rw [List.drop_zero, List.take_of_length_le (by rw [hz, Array.length_toList, hlen]; exact Nat.le_refl _), e]
    exact key _
  · cases h
end Go.Proofs.YtepongfhnammkaaDoor

/- MY OWN ENGINE: the variables that ReportWrites' row lists. -/
namespace Go.Proofs.YtepongfhnammkaaDoor
set_option linter.all false
open Go.RowKit Go.ChangeShapes Go.WideShapes Go.ChangeAt
def laidL : List (String × DataW Unit) := [("math/bits.deBruijn32tab", Rows.laid_math_bits_deBruijn32tab), ("math/bits.deBruijn64tab", Rows.laid_math_bits_deBruijn64tab), ("internal/strconv.uint64pow10", Rows.laid_internal_strconv_uint64pow10)]
theorem glob_of_laid {W : World} (h : laidMetH Tryd.prog laidL W) : Glob Tryd.prog W none0 := by
  rw [MakeChecks.laidMetH_plain _ _ _ (by kernel_rfl)] at h
  have h2 : laidMet Tryd.prog [("internal/strconv.uint64pow10", Lib.tabData .u64 Lib.pow10Tab)] W := h.tail.tail
  exact pow_glob (Lib.tabIs_of_head (g := 1) (t := 185) (e := 173) (n := 20) (by kernel_rfl) (by kernel_rfl) (by kernel_rfl) (by kernel_rfl) (by kernel_rfl) (by kernel_rfl) h2)
theorem door_met (os : Os) (args : Array Value) : laidMetH Tryd.prog laidL ((World.laidAll Tryd.prog os laidL).forCall (fun _ _ => 0) ⟨#[], args, []⟩).memory := by
  rw [MakeChecks.laidMetH_plain _ _ _ (by kernel_rfl)]
  exact laidMet_laidAll _ (by kernel_rfl) (by kernel_rfl)
end Go.Proofs.YtepongfhnammkaaDoor

/- NetworkPlays: whatever is called, all answers and all frames are the chapter's: for every input; no condition is asked. -/
import Derived.Test.YtnjjhhnkanklfaaZPlaysLaw1
import Derived.Test.YtnjjhhnkanklfaaLaw
import Derived.Test.YtnjjhhnkanklfaaRows
namespace Go.Proofs.Ytnjjhhnkanklfaa
set_option linter.all false
open Go.ChangeShapes Go.WideShapes Go.ChangeAt Go.RowKit
theorem Try.own : ownKnob Try.prog.godebug = none := by kernel_rfl
theorem Try.laidOut : laidOutB Try.prog = true := by kernel_rfl
abbrev Op0 := Int × Int × Int × BitVec 8 × List (BitVec 8)
theorem o_op {H : Type} {enc : TypeId × Value → H} {W : World} {spare : Nat → Bool} {held : Bool} : Opens Try.prog enc W spare held 51 (fun o : Op0 => [.int .i64 o.1] ++ ([.int .i64 o.2.1] ++ ([.int .i64 o.2.2.1] ++ ([.u8 o.2.2.2.1] ++ [.fs 1 eB o.2.2.2.2])))) := by
  have h4 := o_last (off := 4) (t := 22) (j := ⟨.sl 5, 1, 24⟩) rfl (o_slice (P := Try.prog) (t := 22) (e := 5) (z := 1) (i := ⟨.sl 5, 1, 24⟩) (j := ⟨.int .u8, 1, 1⟩) (f := eB) rfl rfl rfl rfl rfl (o_uns (P := Try.prog) (enc := enc) (W := W) (spare := spare) (held := held) (t := 5) (i := ⟨.int .u8, 1, 1⟩) (k := .u8) (w := 8) (mk := .u8) rfl rfl rfl rfl (fun _ _ => hc8)) (fun _ => rfl)) (fun _ => rfl)
  have h3 := o_field (off := 3) (off2 := 4) (t := 5) (j := ⟨.int .u8, 1, 1⟩) (f := eB) rfl (o_uns (P := Try.prog) (enc := enc) (W := W) (spare := spare) (held := held) (t := 5) (i := ⟨.int .u8, 1, 1⟩) (k := .u8) (w := 8) (mk := .u8) rfl rfl rfl rfl (fun _ _ => hc8)) (fun _ => rfl) rfl h4
  have hi := o_i64 (P := Try.prog) (enc := enc) (W := W) (spare := spare) (held := held) (t := 3) (i := ⟨.int .i64, 1, 8⟩) rfl rfl
  have h2 := o_field (off := 2) (off2 := 3) (t := 3) (j := ⟨.int .i64, 1, 8⟩) rfl hi (fun _ => rfl) rfl h3
  have h1 := o_field (off := 1) (off2 := 2) (t := 3) (j := ⟨.int .i64, 1, 8⟩) rfl hi (fun _ => rfl) rfl h2
  have h0 := o_field (off := 0) (off2 := 1) (t := 3) (j := ⟨.int .i64, 1, 8⟩) rfl hi (fun _ => rfl) rfl h1
  exact o_struct (i := ⟨.st [(0, 3), (1, 3), (2, 3), (3, 5), (4, 22)], 5, 56⟩) rfl rfl h0 (fun _ => rfl) (by kernel_rfl)
theorem o_opR {H : Type} {enc : TypeId × Value → H} {W : World} {spare : Nat → Bool} {held : Bool} : Opens Try.prog enc W spare held 51 eOp := fun fuel cs x hx => by
  obtain ⟨a, ha⟩ := o_op fuel cs x hx
  exact ⟨⟨a.1, a.2.1, a.2.2.1, a.2.2.2.1, a.2.2.2.2⟩, ha⟩
set_option maxRecDepth 100000 in
theorem networkPlays_lifted (os : Os) (started : os.Started) (H : Type) (enc : TypeId × Value → H) :
    ReturnsInHanded {} Try.checked os 5 .any (Rows.networkPlaysSpec.pre6 enc Try.prog Try.f5 Rows.networkPlaysRow.domain false) (Rows.networkPlaysSpec.post enc Try.prog Try.f5 false true false false) := by
  refine returnsInHanded_of_change (C := Try.checked) Try.own started (by kernel_rfl) Try.func5
    (ChangeSpec.witness6 (enc := enc) (C := Try.checked) false ⟨#[], #[.slice none 0 0], []⟩ 8 (by kernel_rfl) (by kernel_rfl) (by kernel_rfl) (by kernel_rfl)) ?_
  intro W base args ds gs before hval0 hW hcnd _
  have hval : ∀ (j : Nat) t v, Try.f5.params[j]? = some t → args[j]? = some v → Value.okWide Try.prog W .any base t v := hval0
  have hW' := hW
  obtain ⟨p, q, hA0, hV, rfl, hfz, hnd⟩ := hW
  have hA : DataW.TrodAll enc Try.prog W 0 (fun _ => true) true Try.f5.params.toList args.toList ds p := hA0
  rw [Try.params5] at hA hval
  obtain ⟨v0, d0, rfl, rfl, h0⟩ := trodAll_one hA
  obtain ⟨rfl, rfl⟩ := trodVars_none hV
  have oo := o_slice (P := Try.prog) (enc := enc) (W := W) (spare := fun _ => true) (held := true) (t := 41) (e := 51) (z := 5) (i := ⟨.sl 51, 1, 24⟩) (j := ⟨.st [(0, 3), (1, 3), (2, 3), (3, 5), (4, 22)], 5, 56⟩) (f := eOp) rfl rfl rfl rfl rfl o_opR (fun _ => rfl)
  obtain ⟨a0, e0⟩ := arg_slice (i := ⟨.sl 51, 1, 24⟩) rfl rfl oo (hval 0 _ _ rfl rfl) h0
  clear hA0 hval0
  simp only [List.append_nil] at hW'
  have hlt : ∀ x ∈ p, x.block < W.heap.size := fun x hx => by simpa using hW'.lt x hx
  have hc := law_calls plays_ok a0 trivial rfl (fun _ _ => rfl) W (vs := [v0]) ⟨_, _, rfl, e0, rfl⟩ rfl
  refine hc.mono fun e W' ⟨he, bel⟩ => ?_
  subst he
  refine ⟨_, rfl, _, _, _, [], p, [], hW', trodAll_mk1 (shut_bool Try.underlying4 true), ?_, rfl, bel.frame _, fun h => by cases h⟩
  exact trodAll_mk1 (Below.trod Try.laidOut (by kernel_rfl) (of_decide_eq_true (by kernel_rfl)) h0 bel hlt)
theorem networkPlays_holds : Rows.NetworkPlaysSaid :=
  OpenClaim.holds_of_wide 5 Try.f5 rfl rfl rfl rfl rfl rfl rfl ⟨rfl, rfl, rfl, rfl, rfl⟩ rfl rfl rfl rfl rfl (by kernel_rfl) Try.func5 (by kernel_rfl)
    (of_decide_eq_true (by kernel_rfl)) (by unfold Func.isWrapper; first | (rw [if_pos (by decide +kernel)]; kernel_rfl) | (rw [if_neg (by decide +kernel)]; exact ⟨rfl, rfl⟩))
    (fun os started H enc _ => networkPlays_lifted os started H enc)
#print axioms networkPlays_holds
end Go.Proofs.Ytnjjhhnkanklfaa

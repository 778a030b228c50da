/- NetworkOrder: what is sent comes out in its order: for every input; no condition is asked. -/
import Derived.Test.YtnjjhhnkanklfaaZOrdLaw1
import Derived.Test.YtnjjhhnkanklfaaLaw
import Derived.Test.YtnjjhhnkanklfaaRows
namespace Go.Proofs.Ytnjjhhnkanklfaa
set_option linter.all false
open Go.ChangeShapes Go.WideShapes Go.ChangeAt Go.RowKit
theorem Try.own : ownKnob Try.prog.godebug = none := by kernel_rfl
theorem Try.laidOut : laidOutB Try.prog = true := by kernel_rfl
set_option maxRecDepth 100000 in
theorem networkOrder_lifted (os : Os) (started : os.Started) (H : Type) (enc : TypeId × Value → H) :
    ReturnsInHanded {} Try.checked os 4 .any (Rows.networkOrderSpec.pre6 enc Try.prog Try.f4 Rows.networkOrderRow.domain false) (Rows.networkOrderSpec.post enc Try.prog Try.f4 false true false false) := by
  refine returnsInHanded_of_change (C := Try.checked) Try.own started (by kernel_rfl) Try.func4
    (ChangeSpec.witness6 (enc := enc) (C := Try.checked) false ⟨#[], #[.slice none 0 0], []⟩ 8 (by kernel_rfl) (by kernel_rfl) (by kernel_rfl) (by kernel_rfl)) ?_
  intro W base args ds gs before hval0 hW hcnd _
  have hval : ∀ (j : Nat) t v, Try.f4.params[j]? = some t → args[j]? = some v → Value.okWide Try.prog W .any base t v := hval0
  have hW' := hW
  obtain ⟨p, q, hA0, hV, rfl, hfz, hnd⟩ := hW
  have hA : DataW.TrodAll enc Try.prog W 0 (fun _ => true) true Try.f4.params.toList args.toList ds p := hA0
  rw [Try.params4] at hA hval
  obtain ⟨v0, d0, rfl, rfl, h0⟩ := trodAll_one hA
  obtain ⟨rfl, rfl⟩ := trodVars_none hV
  have ob := o_slice (P := Try.prog) (enc := enc) (W := W) (spare := fun _ => true) (held := true) (t := 22) (e := 5) (z := 1) (i := ⟨.sl 5, 1, 24⟩) (j := ⟨.int .u8, 1, 1⟩) (f := eB) rfl rfl rfl rfl rfl (o_uns (P := Try.prog) (t := 5) (i := ⟨.int .u8, 1, 1⟩) (k := .u8) (w := 8) (mk := .u8) rfl rfl rfl rfl (fun _ _ => hc8)) (fun _ => rfl)
  have obb := o_slice (P := Try.prog) (enc := enc) (W := W) (spare := fun _ => true) (held := true) (t := 38) (e := 22) (z := 1) (i := ⟨.sl 22, 1, 24⟩) (j := ⟨.sl 5, 1, 24⟩) (f := eBs) rfl rfl rfl rfl rfl ob (fun _ => rfl)
  obtain ⟨a0, e0⟩ := arg_slice (i := ⟨.sl 22, 1, 24⟩) rfl rfl obb (hval 0 _ _ rfl rfl) h0
  clear hA0 hval0
  simp only [List.append_nil] at hW'
  have hlt : ∀ x ∈ p, x.block < W.heap.size := fun x hx => by simpa using hW'.lt x hx
  have hc := law_calls order_ok a0 trivial rfl (fun _ _ => rfl) W (vs := [v0]) ⟨_, _, rfl, e0, rfl⟩ rfl
  refine hc.mono fun e W' ⟨he, bel⟩ => ?_
  subst he
  refine ⟨_, rfl, _, _, _, [], p, [], hW', trodAll_mk1 (shut_bool Try.underlying4 true), ?_, rfl, bel.frame _, fun h => by cases h⟩
  exact trodAll_mk1 (Below.trod Try.laidOut (by kernel_rfl) (of_decide_eq_true (by kernel_rfl)) h0 bel hlt)
theorem networkOrder_holds : Rows.NetworkOrderSaid :=
  OpenClaim.holds_of_wide 4 Try.f4 rfl rfl rfl rfl rfl rfl rfl ⟨rfl, rfl, rfl, rfl, rfl⟩ rfl rfl rfl rfl rfl (by kernel_rfl) Try.func4 (by kernel_rfl)
    (of_decide_eq_true (by kernel_rfl)) (by unfold Func.isWrapper; first | (rw [if_pos (by decide +kernel)]; kernel_rfl) | (rw [if_neg (by decide +kernel)]; exact ⟨rfl, rfl⟩))
    (fun os started H enc _ => networkOrder_lifted os started H enc)
#print axioms networkOrder_holds
end Go.Proofs.Ytnjjhhnkanklfaa

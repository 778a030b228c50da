/- NetworkOwn: what is handed in, and told, is a copy: for every input; no condition is asked. -/
import Derived.Test.YtnjjhhnkanklfaaZOwnLaw1
import Derived.Test.YtnjjhhnkanklfaaLaw
import Derived.Test.YtnjjhhnkanklfaaRows
namespace Go.Proofs.Ytnjjhhnkanklfaa
set_option linter.all false
open Go.ChangeShapes Go.WideShapes Go.ChangeAt Go.RowKit
theorem arg_u16 {P : Program} [TabC P] {H : Type} {enc : TypeId × Value → H} {W : World} {spare : Nat → Bool} {held : Bool} {t base : Nat} {i : TI} (ht : ty P t = some i) (hk : i.k = .int .u16) {v : Value} {d : DataW H} {p : List MemPlace} (hv : Value.okWide P W .any base t v) (h : DataW.Trod enc P W 0 spare held t v d p) : ∃ x : BitVec 16, (SV.u16 x).h1 W none0 sg0 v := by
  obtain ⟨fuel, hT⟩ := h
  obtain ⟨n, hn⟩ := o_uns (w := 16) (mk := .u16) ht hk rfl rfl (fun _ _ => hc16) _ _ _ hT
  obtain ⟨m, rfl⟩ := okWide_int (ty_int ht hk) hv
  refine ⟨n, ?_⟩
  simp only [hL, List.append_nil] at hn
  obtain ⟨a, b, h1, h2, rfl⟩ := hn
  rw [List.append_nil] at h1
  have : a = [Value.int .u16 m] := by rw [← h1]; rfl
  rw [this] at h2; exact h2
theorem Try.own : ownKnob Try.prog.godebug = none := by kernel_rfl
theorem Try.laidOut : laidOutB Try.prog = true := by kernel_rfl
set_option maxRecDepth 100000 in
theorem networkOwn_lifted (os : Os) (started : os.Started) (H : Type) (enc : TypeId × Value → H) :
    ReturnsInHanded {} Try.checked os 3 .any (Rows.networkOwnSpec.pre6 enc Try.prog Try.f3 Rows.networkOwnRow.domain false) (Rows.networkOwnSpec.post enc Try.prog Try.f3 false true false false) := by
  refine returnsInHanded_of_change (C := Try.checked) Try.own started (by kernel_rfl) Try.func3
    (ChangeSpec.witness6 (enc := enc) (C := Try.checked) false ⟨#[], #[.slice none 0 0, .int .u16 0], []⟩ 8 (by kernel_rfl) (by kernel_rfl) (by kernel_rfl) (by kernel_rfl)) ?_
  intro W base args ds gs before hval0 hW hcnd _
  have hval : ∀ (j : Nat) t v, Try.f3.params[j]? = some t → args[j]? = some v → Value.okWide Try.prog W .any base t v := hval0
  have hW' := hW
  obtain ⟨p, q, hA0, hV, rfl, hfz, hnd⟩ := hW
  have hA : DataW.TrodAll enc Try.prog W 0 (fun _ => true) true Try.f3.params.toList args.toList ds p := hA0
  rw [Try.params3] at hA hval
  obtain ⟨v0, v1, d0, d1, p0, p1, rfl, rfl, rfl, h0, h1⟩ := trodAll_two hA
  obtain ⟨rfl, rfl⟩ := trodVars_none hV
  have ob := o_slice (P := Try.prog) (enc := enc) (W := W) (spare := fun _ => true) (held := true) (t := 22) (e := 5) (z := 1) (i := ⟨.sl 5, 1, 24⟩) (j := ⟨.int .u8, 1, 1⟩) (f := eB) rfl rfl rfl rfl rfl (o_uns (P := Try.prog) (t := 5) (i := ⟨.int .u8, 1, 1⟩) (k := .u8) (w := 8) (mk := .u8) rfl rfl rfl rfl (fun _ _ => hc8)) (fun _ => rfl)
  obtain ⟨a0, e0⟩ := arg_slice (i := ⟨.sl 5, 1, 24⟩) rfl rfl ob (hval 0 _ _ rfl rfl) h0
  obtain ⟨a1, e1⟩ := arg_u16 (i := ⟨.int .u16, 1, 2⟩) rfl rfl (hval 1 _ _ rfl rfl) h1
  clear hA0 hval0
  simp only [List.append_nil] at hW'
  have hlt : ∀ x ∈ p0 ++ p1, x.block < W.heap.size := fun x hx => by simpa using hW'.lt x hx
  have hc := law_calls own_ok (a0, a1) trivial rfl (fun _ _ => rfl) W (vs := [v0, v1]) ⟨_, _, rfl, e0, _, _, rfl, e1, rfl⟩ rfl
  refine hc.mono fun e W' ⟨he, bel⟩ => ?_
  subst he
  refine ⟨_, rfl, _, _, _, [], p0 ++ p1, [], hW', trodAll_mk1 (shut_bool Try.underlying4 true), ?_, rfl, bel.frame _, fun h => by cases h⟩
  exact trodAll_mk2 (Below.trod Try.laidOut (by kernel_rfl) (of_decide_eq_true (by kernel_rfl)) h0 bel (fun x hx => hlt x (by simp [hx]))) (Below.trod Try.laidOut (by kernel_rfl) (of_decide_eq_true (by kernel_rfl)) h1 bel (fun x hx => hlt x (by simp [hx])))
theorem networkOwn_holds : Rows.NetworkOwnSaid :=
  OpenClaim.holds_of_wide 3 Try.f3 rfl rfl rfl rfl rfl rfl rfl ⟨rfl, rfl, rfl, rfl, rfl⟩ rfl rfl rfl rfl rfl (by kernel_rfl) Try.func3 (by kernel_rfl)
    (of_decide_eq_true (by kernel_rfl)) (by unfold Func.isWrapper; first | (rw [if_pos (by decide +kernel)]; kernel_rfl) | (rw [if_neg (by decide +kernel)]; exact ⟨rfl, rfl⟩))
    (fun os started H enc _ => networkOwn_lifted os started H enc)
#print axioms networkOwn_holds
end Go.Proofs.Ytnjjhhnkanklfaa

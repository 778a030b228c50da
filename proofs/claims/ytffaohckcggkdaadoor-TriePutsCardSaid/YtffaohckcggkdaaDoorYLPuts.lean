/- TriePuts: whatever is put, keys, values and the root are the chapter's, at every step, and elder trees stay; asked is only that the listed variables hold what the program's text lays there. -/
import Derived.Test.YtffaohckcggkdaaDoorZLPuts2
import Derived.Test.YtffaohckcggkdaaDoorZLPuts3
import Derived.Test.YtffaohckcggkdaaDoorCards
import Derived.Test.YtffaohckcggkdaaDoorTie
import Derived.SevenTiedAt
namespace Go.Proofs.YtffaohckcggkdaaDoor
set_option linter.all false
open Go.ChangeShapes Go.WideShapes Go.ChangeAt Go.RowKit
set_option maxRecDepth 100000 in
theorem triePuts_lifted (os : Os) (started : os.Started) (H : Type) (enc : TypeId × Value → H) :
    ReturnsInHanded {} Tryd.checked os 9 .any (fun w args => (Rows.triePutsSpec.pre enc Tryd.prog Tryd.f9 [] false w args ∧ laidMetH Tryd.prog laidL w) ∧ sizedMet enc Tryd.prog Tryd.f9 (OpenSpec.ofChange Rows.triePutsSpec) false w args)
      (Rows.triePutsSpec.post enc Tryd.prog Tryd.f9 false true false false) := by
  refine returnsInHanded_of_change_and (C := Tryd.checked) (X := fun w _ => laidMetH Tryd.prog laidL w) (fun _ _ _ hh h => h.of_heap hh) Tryd.own started (by kernel_rfl) Tryd.func9
    (ChangeSpec.witness_shaped (enc := enc) (C := Tryd.checked) (os := os) (X := fun w _ => laidMetH Tryd.prog laidL w) false (World.doorLaid Tryd.prog 400 os) #[.slice none 0 0, .agg (Array.replicate 32 (.int .u8 0))] 8 rfl (World.shaped_of_RefB (by kernel_rfl) (by kernel_rfl)) (by kernel_rfl) (by kernel_rfl) (by kernel_rfl) (door_met os _)) ?_
  intro W base args ds gs before hval0 hW _ _ hL _
  have hval : ∀ (j : Nat) t v, Tryd.f9.params[j]? = some t → args[j]? = some v → Value.okWide Tryd.prog W .any base t v := hval0
  have hW' := hW
  obtain ⟨p, q, hA0, hV, rfl, hfz, hnd⟩ := hW
  have hA : DataW.TrodAll enc Tryd.prog W 0 (fun _ => true) true Tryd.f9.params.toList args.toList ds p := hA0
  rw [Tryd.params9] at hA hval
  obtain ⟨v0, v1, d0, d1, p0, p1, rfl, rfl, rfl, h0, h1⟩ := trodAll_two hA
  obtain ⟨rfl, rfl⟩ := trodVars_none hV
  obtain ⟨a0, e0⟩ := arg_slice (i := ⟨.sl 56, 1, 24⟩) rfl rfl o_pairs (hval 0 _ _ rfl rfl) h0
  obtain ⟨a1, e1⟩ := arg_agg (i := ⟨.ar 32 5, 32, 32⟩) rfl rfl o_hash (hval 1 _ _ rfl rfl) h1
  clear hA0 hval0
  simp only [List.append_nil] at hW'
  have hlt : ∀ x ∈ p0 ++ p1, x.block < W.heap.size := fun x hx => by simpa using hW'.lt x hx
  have hc := law_callsG puts_ok (a0, a1) trivial rfl (fun _ _ => rfl) W (vs := [v0, v1]) ⟨_, _, rfl, e0, _, _, rfl, e1, rfl⟩ (glob_of_laid hL)
  refine hc.mono fun e W' ⟨he, bel⟩ => ?_
  subst he
  refine ⟨_, rfl, _, _, _, [], p0 ++ p1, [], hW', trodAll_mk1 (shut_bool Tryd.underlying4 true), ?_, rfl, bel.frame _, fun h => by cases h⟩
  exact trodAll_mk2 (Below.trod Tryd.laidOut (by kernel_rfl) (of_decide_eq_true (by kernel_rfl)) h0 bel (fun x hx => hlt x (by simp [hx]))) (Below.trod Tryd.laidOut (by kernel_rfl) (of_decide_eq_true (by kernel_rfl)) h1 bel (fun x hx => hlt x (by simp [hx])))
theorem triePuts_holds : Rows.TriePutsSaid :=
  OpenClaim.holds_of_wide 9 Tryd.f9 rfl rfl rfl rfl rfl rfl rfl ⟨rfl, rfl, rfl, rfl, rfl⟩ rfl rfl rfl rfl rfl (by kernel_rfl) Tryd.func9 (by kernel_rfl)
    (of_decide_eq_true (by kernel_rfl)) (by unfold Func.isWrapper; first | (rw [if_pos (by decide +kernel)]; kernel_rfl) | (rw [if_neg (by decide +kernel)]; exact ⟨rfl, rfl⟩))
    (fun os started H enc _ => triePuts_lifted os started H enc)
theorem triePuts_card : Rows.TriePutsCardSaid :=
  Claim7.holds_tied_plain_at .later [] [.data, .data] true (true, "323377bf0f5b9a6e3384b58cc5ee91a83a3ae5683882c75b7f84bd9db7d5358d") false
    triePuts_holds (fun _ h => by cases h) (by kernel_rfl) (fun _ h => by cases h) triePuts_row_tie rfl ⟨rfl, rfl⟩ (by kernel_rfl) rfl
    (fun f fn hf hfn => by
      obtain rfl : f = 9 := Option.some.inj ((show Tryd.prog.funcNamed "rolodex/rolodexlaw11.TriePuts" = some 9 by kernel_rfl).symm.trans hf) |>.symm
      obtain rfl : fn = Tryd.f9 := (Option.some.inj (Tryd.func9.symm.trans hfn)).symm
      refine ⟨by kernel_rfl, fun j t ht => ?_⟩
      rw [Tryd.params9] at ht
      have h3 : t = 22 ∨ t = 25 := by
        rcases j with _ | _ | j <;> simp at ht <;> simp [ht]
      rcases h3 with rfl | rfl
      · exact (show Tryd.prog.wantsStandIn 22 = false by kernel_rfl)
      · exact (show Tryd.prog.wantsStandIn 25 = false by kernel_rfl))
    (by kernel_rfl)
#print axioms triePuts_card
end Go.Proofs.YtffaohckcggkdaaDoor

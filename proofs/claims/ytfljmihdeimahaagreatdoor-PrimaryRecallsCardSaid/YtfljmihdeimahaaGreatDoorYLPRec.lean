/- PrimaryRecalls: whatever records a vault has, a primary is opened just if they are epochs that could have been sealed so; asked is only that the listed variables hold what the program's text lays there. -/
import Derived.Test.YtfljmihdeimahaaGreatDoorZLPRec8
import Derived.Test.YtfljmihdeimahaaGreatDoorCards
import Derived.Test.YtfljmihdeimahaaGreatDoorTie
import Derived.SevenTiedAt
namespace Go.Proofs.YtfljmihdeimahaaGreatDoor
set_option linter.all false
open Go.ChangeShapes Go.WideShapes Go.ChangeAt Go.RowKit
set_option maxRecDepth 100000 in
theorem primaryRecalls_lifted (os : Os) (started : os.Started) (H : Type) (enc : TypeId × Value → H) :
    ReturnsInHanded {} Tryz.checked os 3 .any (fun w args => (Rows.primaryRecallsSpec.pre enc Tryz.prog Tryz.f3 [] false w args ∧ laidMetH Tryz.prog laidL w) ∧ sizedMet enc Tryz.prog Tryz.f3 (OpenSpec.ofChange Rows.primaryRecallsSpec) false w args)
      (Rows.primaryRecallsSpec.post enc Tryz.prog Tryz.f3 false true false false) := by
  refine returnsInHanded_of_change_and (C := Tryz.checked) (X := fun w _ => laidMetH Tryz.prog laidL w) (fun _ _ _ hh h => h.of_heap hh) Tryz.own started (by kernel_rfl) Tryz.func3
    (ChangeSpec.witness_shaped (enc := enc) (C := Tryz.checked) (os := os) (X := fun w _ => laidMetH Tryz.prog laidL w) false (World.doorLaid Tryz.prog 400 os) #[.slice none 0 0] 8 rfl (World.shaped_of_RefB (by kernel_rfl) (by kernel_rfl)) (by kernel_rfl) (by kernel_rfl) (by kernel_rfl) (door_met os _)) ?_
  intro W base args ds gs before hval0 hW _ _ hL _
  have hval : ∀ (j : Nat) t v, Tryz.f3.params[j]? = some t → args[j]? = some v → Value.okWide Tryz.prog W .any base t v := hval0
  have hW' := hW
  obtain ⟨p, q, hA0, hV, rfl, hfz, hnd⟩ := hW
  have hA : DataW.TrodAll enc Tryz.prog W 0 (fun _ => true) true Tryz.f3.params.toList args.toList ds p := hA0
  rw [Tryz.params3] at hA hval
  obtain ⟨v0, d0, rfl, rfl, h0⟩ := trodAll_one hA
  obtain ⟨rfl, rfl⟩ := trodVars_none hV
  obtain ⟨a0, e0⟩ := arg_slice (i := ⟨.sl 41, 1, 24⟩) rfl rfl o_seals20 (hval 0 _ _ rfl rfl) h0
  clear hA0 hval0
  simp only [List.append_nil] at hW'
  have hlt : ∀ x ∈ p, x.block < W.heap.size := fun x hx => by simpa using hW'.lt x hx
  have hc := law_callsG prec_ok a0 trivial rfl (fun _ _ => rfl) W (vs := [v0]) ⟨_, _, rfl, e0, rfl⟩ (glob_of_laid hL)
  refine hc.mono fun e W' ⟨he, bel⟩ => ?_
  subst he
  refine ⟨_, rfl, _, _, _, [], p, [], hW', trodAll_mk1 (shut_bool Tryz.underlying4 true), ?_, rfl, bel.frame _, fun h => by cases h⟩
  exact trodAll_mk1 (Below.trod Tryz.laidOut (by kernel_rfl) (of_decide_eq_true (by kernel_rfl)) h0 bel hlt)
theorem primaryRecalls_k0 : (Rows.primaryRecallsRow.inPlace == Tryz.prog.inPlace 3) = true := by kernel_rfl
theorem primaryRecalls_k1 : (Rows.primaryRecallsRow.unfollowed == Tryz.prog.unfollowed 3) = true := by kernel_rfl
theorem primaryRecalls_k2 : (Rows.primaryRecallsRow.recurses == Tryz.prog.recurses 3) = true := by kernel_rfl
theorem primaryRecalls_k3 : (Rows.primaryRecallsRow.named == Tryz.prog.varsNamed 3) = true := by kernel_rfl
theorem primaryRecalls_closed : joinedFacts Tryz.prog 3 Tryz.f3 Rows.primaryRecallsSpec Rows.primaryRecallsRow = true := by
  unfold joinedFacts
  rw [primaryRecalls_k0, primaryRecalls_k1, primaryRecalls_k2, primaryRecalls_k3]
  kernel_rfl
theorem primaryRecalls_holds : Rows.PrimaryRecallsSaid :=
  OpenClaim.holds_of_wide 3 Tryz.f3 rfl rfl rfl rfl rfl rfl rfl ⟨rfl, rfl, rfl, rfl, rfl⟩ rfl rfl rfl rfl rfl (by kernel_rfl) Tryz.func3 primaryRecalls_closed
    (of_decide_eq_true (by kernel_rfl)) (by unfold Func.isWrapper; first | (rw [if_pos (by decide +kernel)]; kernel_rfl) | (rw [if_neg (by decide +kernel)]; exact ⟨rfl, rfl⟩))
    (fun os started H enc _ => primaryRecalls_lifted os started H enc)
theorem primaryRecalls_card : Rows.PrimaryRecallsCardSaid :=
  Claim7.holds_tied_plain_at .later [] [.data, .data, .data] true (true, "f34a8cb4c0ad778ac140b6a97acc941340d26a55a6e4bbb75dd82f023f5b9887") false
    primaryRecalls_holds (fun _ h => by cases h) (by kernel_rfl) (fun _ h => by cases h) primaryRecalls_row_tie rfl ⟨rfl, rfl⟩ (by kernel_rfl) rfl
    (fun f fn hf hfn => by
      obtain rfl : f = 3 := Option.some.inj ((show Tryz.prog.funcNamed "rolodex/rolodexlaw20.PrimaryRecalls" = some 3 by kernel_rfl).symm.trans hf) |>.symm
      obtain rfl : fn = Tryz.f3 := (Option.some.inj (Tryz.func3.symm.trans hfn)).symm
      refine ⟨by kernel_rfl, fun j t ht => ?_⟩
      rw [Tryz.params3] at ht
      have h3 : t = 22 := by
        rcases j with _ | j <;> simp at ht <;> simp [ht]
      subst h3
      exact (show Tryz.prog.wantsStandIn 22 = false by kernel_rfl))
    (by kernel_rfl)
#print axioms primaryRecalls_card
end Go.Proofs.YtfljmihdeimahaaGreatDoor

/- PrimaryNone: no primary answers nothing; of heights, or a kind, that may not be, or no device, there is none; asked is only that the listed variables hold what the program's text lays there. -/
import Derived.Test.YtinpcefioadkcaaGreatDoorZLPNone5
import Derived.Test.YtinpcefioadkcaaGreatDoorCards
import Derived.Test.YtinpcefioadkcaaGreatDoorTie
import Derived.SevenTiedAt
namespace Go.Proofs.YtinpcefioadkcaaGreatDoor
set_option linter.all false
open Go.ChangeShapes Go.WideShapes Go.ChangeAt Go.RowKit
set_option maxRecDepth 100000 in
theorem primaryNone_lifted (os : Os) (started : os.Started) (H : Type) (enc : TypeId × Value → H) :
    ReturnsInHanded {} Tryz.checked os 4 .any (fun w args => (Rows.primaryNoneSpec.pre enc Tryz.prog Tryz.f4 [] false w args ∧ laidMetH Tryz.prog laidL w) ∧ sizedMet enc Tryz.prog Tryz.f4 (OpenSpec.ofChange Rows.primaryNoneSpec) false w args)
      (Rows.primaryNoneSpec.post enc Tryz.prog Tryz.f4 false true false false) := by
  refine returnsInHanded_of_change_and (C := Tryz.checked) (X := fun w _ => laidMetH Tryz.prog laidL w) (fun _ _ _ hh h => h.of_heap hh) Tryz.own started (by kernel_rfl) Tryz.func4
    (ChangeSpec.witness_shaped (enc := enc) (C := Tryz.checked) (os := os) (X := fun w _ => laidMetH Tryz.prog laidL w) false (World.doorLaid Tryz.prog 400 os) #[.agg (#[.int .i64 0, .int .i64 0, .int .i64 0] ++ Array.replicate 32 (.int .u8 0)), .agg (Array.replicate 7 (.int .i64 0) ++ #[.slice none 0 0, .slice none 0 0, .int .i64 0, .int .i64 0] ++ Array.replicate 64 (.int .u8 0) ++ Array.replicate 5 (.slice none 0 0) ++ Array.replicate 32 (.int .u8 0) ++ #[.slice none 0 0, .int .i64 0] ++ Array.replicate 64 (.int .u8 0) ++ #[.int .i64 0] ++ Array.replicate 96 (.int .u8 0) ++ Array.replicate 4 (.slice none 0 0)), .int .i64 0] 8 rfl (World.shaped_of_RefB (by kernel_rfl) (by kernel_rfl)) (by kernel_rfl) (by kernel_rfl) (by kernel_rfl) (door_met os _)) ?_
  intro W base args ds gs before hval0 hW _ _ hL _
  have hval : ∀ (j : Nat) t v, Tryz.f4.params[j]? = some t → args[j]? = some v → Value.okWide Tryz.prog W .any base t v := hval0
  have hW' := hW
  obtain ⟨p, q, hA0, hV, rfl, hfz, hnd⟩ := hW
  have hA : DataW.TrodAll enc Tryz.prog W 0 (fun _ => true) true Tryz.f4.params.toList args.toList ds p := hA0
  rw [Tryz.params4] at hA hval
  obtain ⟨v0, v1, v2, d0, d1, d2, p0, p1, p2, rfl, rfl, rfl, h0, h1, h2⟩ := trodAll_three hA
  obtain ⟨rfl, rfl⟩ := trodVars_none hV
  obtain ⟨a0, e0⟩ := arg_agg (i := ⟨.st [(0, 3), (1, 3), (2, 3), (3, 25)], 35, 56⟩) rfl rfl o_form20 (hval 0 _ _ rfl rfl) h0
  obtain ⟨a1, e1⟩ := arg_agg (i := ⟨.st [(0, 3), (1, 3), (2, 3), (3, 3), (4, 3), (5, 3), (6, 22), (7, 23), (8, 23), (9, 29), (76, 32), (78, 32), (80, 25), (112, 37), (275, 38), (276, 39), (277, 40), (278, 30)], 279, 632⟩) rfl rfl o_Msg (hval 1 _ _ rfl rfl) h1
  obtain ⟨a2, e2⟩ := arg_i64 (i := ⟨.int .i64, 1, 8⟩) rfl rfl (hval 2 _ _ rfl rfl) h2
  clear hA0 hval0
  simp only [List.append_nil] at hW'
  rw [List.append_assoc] at hW'
  have hlt : ∀ x ∈ p0 ++ (p1 ++ p2), x.block < W.heap.size := fun x hx => by simpa using hW'.lt x hx
  have hc := law_callsG pnone_ok (a0, a1, a2) trivial rfl (fun _ _ => rfl) W (vs := [v0, v1, v2]) ⟨_, _, rfl, e0, _, _, rfl, e1, _, _, rfl, e2, rfl⟩ (glob_of_laid hL)
  refine hc.mono fun e W' ⟨he, bel⟩ => ?_
  subst he
  refine ⟨_, rfl, _, _, _, [], p0 ++ (p1 ++ p2), [], hW', trodAll_mk1 (shut_bool Tryz.underlying4 true), ?_, rfl, bel.frame _, fun h => by cases h⟩
  exact trodAll_mk3 (Below.trod Tryz.laidOut (by kernel_rfl) (of_decide_eq_true (by kernel_rfl)) h0 bel (fun x hx => hlt x (by simp [hx]))) (Below.trod Tryz.laidOut (by kernel_rfl) (of_decide_eq_true (by kernel_rfl)) h1 bel (fun x hx => hlt x (by simp [hx]))) (Below.trod Tryz.laidOut (by kernel_rfl) (of_decide_eq_true (by kernel_rfl)) h2 bel (fun x hx => hlt x (by simp [hx])))
theorem primaryNone_k0 : (Rows.primaryNoneRow.inPlace == Tryz.prog.inPlace 4) = true := by kernel_rfl
theorem primaryNone_k1 : (Rows.primaryNoneRow.unfollowed == Tryz.prog.unfollowed 4) = true := by kernel_rfl
theorem primaryNone_k2 : (Rows.primaryNoneRow.recurses == Tryz.prog.recurses 4) = true := by kernel_rfl
theorem primaryNone_k3 : (Rows.primaryNoneRow.named == Tryz.prog.varsNamed 4) = true := by kernel_rfl
theorem primaryNone_closed : joinedFacts Tryz.prog 4 Tryz.f4 Rows.primaryNoneSpec Rows.primaryNoneRow = true := by
  unfold joinedFacts
  rw [primaryNone_k0, primaryNone_k1, primaryNone_k2, primaryNone_k3]
  kernel_rfl
theorem primaryNone_holds : Rows.PrimaryNoneSaid :=
  OpenClaim.holds_of_wide 4 Tryz.f4 rfl rfl rfl rfl rfl rfl rfl ⟨rfl, rfl, rfl, rfl, rfl⟩ rfl rfl rfl rfl rfl (by kernel_rfl) Tryz.func4 primaryNone_closed
    (of_decide_eq_true (by kernel_rfl)) (by unfold Func.isWrapper; first | (rw [if_pos (by decide +kernel)]; kernel_rfl) | (rw [if_neg (by decide +kernel)]; exact ⟨rfl, rfl⟩))
    (fun os started H enc _ => primaryNone_lifted os started H enc)
theorem primaryNone_card : Rows.PrimaryNoneCardSaid :=
  Claim7.holds_tied_plain_at .later [] [.data, .data, .data, .data, .data] true (true, "bdcda6e5fcdd3019130dcb7a5a7337c9fbac6ce077a3b571e315f87fec239352") false
    primaryNone_holds (fun _ h => by cases h) (by kernel_rfl) (fun _ h => by cases h) primaryNone_row_tie rfl ⟨rfl, rfl⟩ (by kernel_rfl) rfl
    (fun f fn hf hfn => by
      obtain rfl : f = 4 := Option.some.inj ((show Tryz.prog.funcNamed "rolodex/rolodexlaw20.PrimaryNone" = some 4 by kernel_rfl).symm.trans hf) |>.symm
      obtain rfl : fn = Tryz.f4 := (Option.some.inj (Tryz.func4.symm.trans hfn)).symm
      refine ⟨by kernel_rfl, fun j t ht => ?_⟩
      rw [Tryz.params4] at ht
      have h3 : t = 60 ∨ t = 42 ∨ t = 3 := by
        rcases j with _ | _ | _ | j <;> simp at ht <;> simp [ht]
      rcases h3 with rfl | rfl | rfl
      · exact (show Tryz.prog.wantsStandIn 60 = false by kernel_rfl)
      · exact (show Tryz.prog.wantsStandIn 42 = false by kernel_rfl)
      · exact (show Tryz.prog.wantsStandIn 3 = false by kernel_rfl))
    (by kernel_rfl)
#print axioms primaryNone_card
end Go.Proofs.YtinpcefioadkcaaGreatDoor

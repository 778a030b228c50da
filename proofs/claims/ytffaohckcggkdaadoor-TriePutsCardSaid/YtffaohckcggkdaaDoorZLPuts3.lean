import Derived.Test.YtffaohckcggkdaaDoorLaw
import Derived.Test.YtffaohckcggkdaaDoorZLPuts1
import Derived.Test.YtffaohckcggkdaaDoorZLPuts2
/- MY OWN ENGINE: the variables that the rows of this seat list. -/
namespace Go.Proofs.YtffaohckcggkdaaDoor
set_option linter.all false
open Go.RowKit Go.ChangeShapes Go.WideShapes Go.ChangeAt
theorem Tryd.own : ownKnob Tryd.prog.godebug = none := by kernel_rfl
theorem Tryd.laidOut : laidOutB Tryd.prog = true := by kernel_rfl
def laidL {H : Type} : List (String × DataW H) := [("rolodex/hash.begin", Rows.laid_rolodex_hash_begin), ("rolodex/hash.rounds", Rows.laid_rolodex_hash_rounds)]
theorem gBegin : Tryd.prog.globalNamed "rolodex/hash.begin" = some 0 := by kernel_rfl
theorem gRounds : Tryd.prog.globalNamed "rolodex/hash.rounds" = some 1 := by kernel_rfl
theorem tBegin : (Tryd.prog.globals[0]?).map (·.type) = some 135 := by kernel_rfl
theorem tRounds : (Tryd.prog.globals[1]?).map (·.type) = some 138 := by kernel_rfl
theorem dBegin : (Rows.laid_rolodex_hash_begin : DataW Unit) = .agg (gv0.toList.map fun b => .lit (.int .u32 (b.toNat : Int))) := by kernel_rfl
theorem dRounds : (Rows.laid_rolodex_hash_rounds : DataW Unit) = .agg (gv1.toList.map fun b => .lit (.int .u32 (b.toNat : Int))) := by kernel_rfl
theorem glob_of_laid {W : World} (h : laidMetH Tryd.prog laidL W) : Glob Tryd.prog W none0 := by
  rw [MakeChecks.laidMetH_plain _ _ _ (by kernel_rfl)] at h
  obtain ⟨ps, ⟨g0, t0, cs0, f0, p0, q0, hg0, ht0, hv0, hd0, ⟨g1, t1, cs1, f1, p1, q1, hg1, ht1, hv1, hd1, _, _⟩, _⟩, _, _⟩ := h
  obtain rfl := Option.some.inj (gBegin.symm.trans hg0)
  obtain rfl := Option.some.inj (gRounds.symm.trans hg1)
  obtain rfl := Option.some.inj (tBegin.symm.trans ht0)
  obtain rfl := Option.some.inj (tRounds.symm.trans ht1)
  rw [dBegin] at hd0
  rw [dRounds] at hd1
  intro g ps hm
  have hm' : (g, ps) = (0, [SV.arr32 gv0]) ∨ (g, ps) = (1, [SV.arr32 gv1]) := by
    have e : TabC.gl Tryd.prog = [(0, [SV.arr32 gv0]), (1, [SV.arr32 gv1])] := rfl
    rw [e] at hm
    simpa using hm
  rcases hm' with e | e
  · cases e
    exact glob_arr32 (i := ⟨.ar 8 110, 8, 32⟩) (j := ⟨.int .u32, 1, 4⟩) hg0 hv0 rfl rfl rfl rfl rfl rfl hd0
  · cases e
    exact glob_arr32 (i := ⟨.ar 64 110, 64, 256⟩) (j := ⟨.int .u32, 1, 4⟩) hg1 hv1 rfl rfl rfl rfl rfl rfl hd1
theorem door_met (os : Os) (args : Array Value) : laidMetH Tryd.prog laidL ((World.doorLaid Tryd.prog 400 os).forCall (fun _ _ => 0) ⟨#[], args, []⟩).memory :=
  laidMetH_of_parts3 (fuel := 8) (laidMet_of_run' 8 (by kernel_rfl) (by kernel_rfl)) (by kernel_rfl) (by kernel_rfl)
/-! what the arguments are -/
section
variable {H : Type} {enc : TypeId × Value → H} {W : World} {spare : Nat → Bool} {held : Bool}
theorem o_hash : Opens Tryd.prog enc W spare held 25 (fun v : H256 => [.arr8 v]) := o_arr8 (i := ⟨.ar 32 5, 32, 32⟩) (j := ⟨.int .u8, 1, 1⟩) rfl rfl rfl rfl rfl rfl
theorem o_int : Opens Tryd.prog enc W spare held 3 (fun n : Int => [.int .i64 n]) := o_i64 (i := ⟨.int .i64, 1, 8⟩) rfl rfl
theorem o_boolT : Opens Tryd.prog enc W spare held 4 (fun b : Bool => [.bool b]) := o_bool (i := ⟨.bool, 1, 1⟩) rfl rfl
theorem o_pfx : Opens Tryd.prog enc W spare held 27 ePfx :=
  (o_struct (i := ⟨.st [(0, 3), (1, 25)], 33, 40⟩) rfl rfl (o_field (off := 0) (off2 := 1) (j := ⟨.int .i64, 1, 8⟩) rfl o_int (fun _ => rfl) rfl (o_last (j := ⟨.ar 32 5, 32, 32⟩) rfl o_hash (fun _ => rfl))) (fun _ => rfl) (by kernel_rfl)).map (fun p => (⟨p.1, p.2⟩ : Pfx)) (fun _ => rfl)
theorem o_node : Opens Tryd.prog enc W spare held 51 eNd :=
  (o_struct (i := ⟨.st [(0, 4), (1, 25), (33, 25), (65, 27), (98, 3), (99, 3), (100, 25)], 132, 160⟩) rfl rfl
    (o_field (off := 0) (off2 := 1) (j := ⟨.bool, 1, 1⟩) rfl o_boolT (fun _ => rfl) rfl
    (o_field (off := 1) (off2 := 33) (j := ⟨.ar 32 5, 32, 32⟩) rfl o_hash (fun _ => rfl) rfl
    (o_field (off := 33) (off2 := 65) (j := ⟨.ar 32 5, 32, 32⟩) rfl o_hash (fun _ => rfl) rfl
    (o_field (off := 65) (off2 := 98) (j := ⟨.st [(0, 3), (1, 25)], 33, 40⟩) rfl o_pfx (fun _ => rfl) rfl
    (o_field (off := 98) (off2 := 99) (j := ⟨.int .i64, 1, 8⟩) rfl o_int (fun _ => rfl) rfl
    (o_field (off := 99) (off2 := 100) (j := ⟨.int .i64, 1, 8⟩) rfl o_int (fun _ => rfl) rfl
    (o_last (j := ⟨.ar 32 5, 32, 32⟩) rfl o_hash (fun _ => rfl)))))))) (fun _ => rfl) (by kernel_rfl)).map (fun p => (⟨p.1, p.2.1, p.2.2.1, p.2.2.2.1.len, p.2.2.2.1.bits, p.2.2.2.2.1, p.2.2.2.2.2.1, p.2.2.2.2.2.2⟩ : Nd)) (fun _ => rfl)
end
end Go.Proofs.YtffaohckcggkdaaDoor

namespace Go.Proofs.YtffaohckcggkdaaDoor
set_option linter.all false
open Go.RowKit Go.ChangeShapes Go.WideShapes Go.ChangeAt
section
variable {H : Type} {enc : TypeId × Value → H} {W : World} {spare : Nat → Bool} {held : Bool}
theorem o_pair : Opens Tryd.prog enc W spare held 56 eKV :=
  (o_struct (i := ⟨.st [(0, 25), (32, 25)], 64, 64⟩) rfl rfl
    (o_field (off := 0) (off2 := 32) (j := ⟨.ar 32 5, 32, 32⟩) rfl o_hash (fun _ => rfl) rfl
    (o_last (j := ⟨.ar 32 5, 32, 32⟩) rfl o_hash (fun _ => rfl))) (fun _ => rfl) (by kernel_rfl)).map (fun p => ((p.1, p.2) : KV)) (fun _ => rfl)
theorem o_pairs : Opens Tryd.prog enc W spare held 22 (fun l : List KV => [.fs 64 eKV l]) :=
  o_slice (i := ⟨.sl 56, 1, 24⟩) (j := ⟨.st [(0, 25), (32, 25)], 64, 64⟩) rfl rfl rfl rfl rfl o_pair (fun _ => rfl)
end
end Go.Proofs.YtffaohckcggkdaaDoor

namespace Go.Proofs.YtffaohckcggkdaaDoor
set_option linter.all false
open Go.RowKit Go.ChangeShapes Go.WideShapes Go.ChangeAt
section
variable {H : Type} {enc : TypeId × Value → H} {W : World} {spare : Nat → Bool} {held : Bool}
theorem o_two : Opens Tryd.prog enc W spare held 90 (fun t : Int × Int => [.int .i64 t.1, .int .i64 t.2]) := fun fuel cs x hx => by
  obtain ⟨xs, m, _, hx1, hlen, hxl, hel⟩ := DataW.trod_array (ty_array (i := ⟨.ar 2 3, 2, 16⟩) rfl rfl) hx
  rw [ty_cells (i := ⟨.ar 2 3, 2, 16⟩) rfl] at hlen
  have e0 := hel 0 (by decide)
  have e1 := hel 1 (by decide)
  rw [ty_cells (t := 3) (i := ⟨.int .i64, 1, 8⟩) rfl, List.getElem?_eq_getElem (by omega)] at e0 e1
  obtain ⟨a, ha⟩ := o_int _ _ _ e0
  obtain ⟨b, hb⟩ := o_int _ _ _ e1
  refine ⟨(a, b), ?_⟩
  have hlen2 : cs.length = 2 := hlen
  clear hx hel hx1 hlen e0 e1
  have e : cs = (cs.drop (0 * 1)).take 1 ++ (cs.drop (1 * 1)).take 1 := by
    rcases cs with _ | ⟨c, _ | ⟨d, _ | ⟨f, r⟩⟩⟩
    · simp at hlen2
    · simp at hlen2
    · rfl
    · simp at hlen2
  rw [e]
  exact hL_app (x := [.int .i64 a]) (y := [.int .i64 b]) ha hb
theorem o_step : Opens Tryd.prog enc W spare held 101 eStp :=
  (o_struct (i := ⟨.st [(0, 27), (33, 25)], 65, 72⟩) rfl rfl
    (o_field (off := 0) (off2 := 33) (j := ⟨.st [(0, 3), (1, 25)], 33, 40⟩) rfl o_pfx (fun _ => rfl) rfl
    (o_last (j := ⟨.ar 32 5, 32, 32⟩) rfl o_hash (fun _ => rfl))) (fun _ => rfl) (by kernel_rfl)).map (fun p => (⟨p.1.len, p.1.bits, p.2⟩ : Stp)) (fun _ => rfl)
theorem o_steps : Opens Tryd.prog enc W spare held 23 (fun l : List Stp => [.fs 65 eStp l]) :=
  o_slice (i := ⟨.sl 101, 1, 24⟩) (j := ⟨.st [(0, 27), (33, 25)], 65, 72⟩) rfl rfl rfl rfl rfl o_step (fun _ => rfl)
theorem o_proof : Opens Tryd.prog enc W spare held 29 ePrf :=
  (o_struct (i := ⟨.st [(0, 23), (1, 3), (2, 25), (34, 25), (66, 27), (99, 25), (131, 25)], 163, 200⟩) rfl rfl
    (o_field (off := 0) (off2 := 1) (j := ⟨.sl 101, 1, 24⟩) rfl o_steps (fun _ => rfl) rfl
    (o_field (off := 1) (off2 := 2) (j := ⟨.int .i64, 1, 8⟩) rfl o_int (fun _ => rfl) rfl
    (o_field (off := 2) (off2 := 34) (j := ⟨.ar 32 5, 32, 32⟩) rfl o_hash (fun _ => rfl) rfl
    (o_field (off := 34) (off2 := 66) (j := ⟨.ar 32 5, 32, 32⟩) rfl o_hash (fun _ => rfl) rfl
    (o_field (off := 66) (off2 := 99) (j := ⟨.st [(0, 3), (1, 25)], 33, 40⟩) rfl o_pfx (fun _ => rfl) rfl
    (o_field (off := 99) (off2 := 131) (j := ⟨.ar 32 5, 32, 32⟩) rfl o_hash (fun _ => rfl) rfl
    (o_last (j := ⟨.ar 32 5, 32, 32⟩) rfl o_hash (fun _ => rfl)))))))) (fun _ => rfl) (by kernel_rfl)).map (fun p => (⟨p.1, p.2.1, p.2.2.1, p.2.2.2.1, p.2.2.2.2.1.len, p.2.2.2.2.1.bits, p.2.2.2.2.2.1, p.2.2.2.2.2.2⟩ : Prf)) (fun _ => rfl)
end
end Go.Proofs.YtffaohckcggkdaaDoor

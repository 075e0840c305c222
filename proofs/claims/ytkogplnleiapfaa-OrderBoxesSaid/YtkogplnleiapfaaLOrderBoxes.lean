/- For every input the law OrderBoxes returns true, and its arguments read afterwards as before: the statement Rows.OrderBoxesSaid. Conditions: none. -/
import Derived.Test.YtkogplnleiapfaaRows
import Derived.WalkKit
import Derived.ProofKit
import Derived.OpenShut
import Derived.JoinedCond
import Derived.SizedLaws
import Derived.Test.YtkogplnleiapfaaLift
import Derived.Test.YtkogplnleiapfaaObr
namespace Go.Proofs.Ytkogplnleiapfaa.orderBoxes
open Go.ChangeShapes Go.WideShapes Go.ChangeAt Go.RowKit
set_option linter.unusedVariables false
theorem own : ownKnob Try.prog.godebug = none := by kernel_rfl
theorem laidOut : laidOutB Try.prog = true := by kernel_rfl
set_option maxRecDepth 100000 in
theorem contract (H : Type) (enc : TypeId × Value → H) (W : World) (base : Nat) (args : Array Value) (ds gs : List (DataW H)) (before : List MemPlace)
    (hval : ∀ (j : Nat) t v, Try.f5.params[j]? = some t → args[j]? = some v → Value.okWide Try.prog W .any base t v)
    (hW : DataW.Whole enc Try.prog Try.f5.params.toList Rows.orderBoxesSpec.vars false W args.toList ds gs before)
    (hsz0 : (DataW.weightsEach Try.prog (Try.f5.params.toList ++ Rows.orderBoxesSpec.plain.varTypes Try.prog) (ds ++ gs)).all (· ≤ reachBytes) = true) :
    Calls Try.prog 5 args W fun e W' => ∃ v, e = .returned v ∧ Rows.orderBoxesSpec.post enc Try.prog Try.f5 false true false false W args v W' := by
  have hW' := hW
  obtain ⟨p, q, hA0, hV, rfl, hfz, hnd⟩ := hW
  have hA : DataW.TrodAll enc Try.prog W 0 (fun _ => true) true Try.f5.params.toList args.toList ds p := hA0
  have hsz : (DataW.weightsEach Try.prog (Try.f5.params.toList ++ Rows.orderBoxesSpec.plain.varTypes Try.prog) (ds ++ gs)).all (· ≤ reachBytes) = true := hsz0
  rw [Try.params5] at hA hval hsz
  obtain ⟨v0, vs0, d0, ds0, p0, q0, hargs, rfl, rfl, h0, r0⟩ := trodAll_cons hA
  obtain ⟨v1, vs1, d1, ds1, p1, q1, rfl, rfl, rfl, h1, r1⟩ := trodAll_cons r0
  obtain ⟨v2, vs2, d2, ds2, p2, q2, rfl, rfl, rfl, h2, r2⟩ := trodAll_cons r1
  obtain ⟨v3, vs3, d3, ds3, p3, q3, rfl, rfl, rfl, h3, r3⟩ := trodAll_cons r2
  obtain ⟨rfl, rfl, rfl⟩ := trodAll_nil r3
  obtain rfl : args = #[v0, v1, v2, v3] := by cases args; simp_all
  obtain ⟨rfl, rfl⟩ := trodVars_none hV
  clear hA0
  obtain ⟨A0, c0, x0, rfl, hr0, hw0, hc0, hm0, hd0⟩ := open_row Try.underlying39 Try.underlying41 (by kernel_rfl) (hval 0 39 v0 rfl rfl) h0
  have hz0 := row_reach hsz (j := 0) (t := 39) rfl rfl Try.underlying39 (show 1 ≤ Try.prog.bytesOf 41 from by decide +kernel) hd0
  obtain ⟨A1, c1, x1, rfl, hr1, hw1, hc1, hm1, hd1⟩ := open_row Try.underlying39 Try.underlying41 (by kernel_rfl) (hval 1 39 v1 rfl rfl) h1
  have hz1 := row_reach hsz (j := 1) (t := 39) rfl rfl Try.underlying39 (show 1 ≤ Try.prog.bytesOf 41 from by decide +kernel) hd1
  obtain ⟨A2, c2, x2, rfl, hr2, hw2, hc2, hm2, hd2⟩ := open_row Try.underlying39 Try.underlying41 (by kernel_rfl) (hval 2 39 v2 rfl rfl) h2
  have hz2 := row_reach hsz (j := 2) (t := 39) rfl rfl Try.underlying39 (show 1 ≤ Try.prog.bytesOf 41 from by decide +kernel) hd2
  obtain ⟨A3, c3, x3, rfl, hr3, hw3, hc3, hm3, hd3⟩ := open_row Try.underlying39 Try.underlying41 (by kernel_rfl) (hval 3 39 v3 rfl rfl) h3
  have hz3 := row_reach hsz (j := 3) (t := 39) rfl rfl Try.underlying39 (show 1 ≤ Try.prog.bytesOf 41 from by decide +kernel) hd3
  refine (law_OrderBoxes A0 A1 A2 A3 c0 c1 c2 c3 x0 x1 x2 x3 W hr0 hr1 hr2 hr3 (Gn.small_nth (fun v hv => Gn.i16_small (hw0 v hv))) (Gn.small_nth (fun v hv => Gn.i16_small (hw1 v hv))) (Gn.small_nth (fun v hv => Gn.i16_small (hw2 v hv))) (Gn.small_nth (fun v hv => Gn.i16_small (hw3 v hv))) (by omega) (by omega) (by omega) (by omega)).mono fun e W' ⟨he, hb⟩ => ?_
  subst he
  exact ⟨_, rfl, post_law laidOut (by kernel_rfl) (by kernel_rfl) Try.underlying4 rfl hW' rfl hb⟩
set_option maxRecDepth 100000 in
theorem lifted (os : Os) (started : os.Started) (H : Type) (enc : TypeId × Value → H) :
    ReturnsInHanded {} Try.checked os 5 .any (Rows.orderBoxesSpec.pre6 enc Try.prog Try.f5 Rows.orderBoxesRow.domain false) (Rows.orderBoxesSpec.post enc Try.prog Try.f5 false true false false) := by
  refine returnsInHanded_of_change_sized (C := Try.checked) own started (by kernel_rfl) Try.func5
    (ChangeSpec.witness6 (enc := enc) (C := Try.checked) false ⟨#[], #[.slice none 0 0, .slice none 0 0, .slice none 0 0, .slice none 0 0], []⟩ 8 (by kernel_rfl) (by kernel_rfl) (by kernel_rfl) (by kernel_rfl)) ?_
  intro W base args ds gs before hval hW _ hsz _
  exact contract H enc W base args ds gs before hval hW hsz
theorem proved : Rows.OrderBoxesSaid :=
  OpenClaim.holds_of_wide 5 Try.f5 rfl rfl rfl rfl rfl rfl rfl ⟨rfl, rfl, rfl, rfl, rfl⟩ rfl rfl rfl rfl rfl (by kernel_rfl) Try.func5 (by kernel_rfl)
    (of_decide_eq_true (by kernel_rfl)) (by unfold Func.isWrapper; first | (rw [if_pos (by decide +kernel)]; kernel_rfl) | (rw [if_neg (by decide +kernel)]; exact ⟨rfl, rfl⟩))
    (fun os started H enc _ => lifted os started H enc)
end Go.Proofs.Ytkogplnleiapfaa.orderBoxes

/- For every input the law OrderPoints returns true, and its arguments read afterwards as before: the statement Rows.OrderPointsSaid. Conditions: none. -/
import Derived.Test.YtkgddgckilledaaRows
import Derived.WalkKit
import Derived.ProofKit
import Derived.OpenShut
import Derived.JoinedCond
import Derived.SizedLaws
import Derived.Test.YtkgddgckilledaaLift
import Derived.Test.YtkgddgckilledaaLift
import Derived.Test.YtkgddgckilledaaOpw
namespace Go.Proofs.Ytkgddgckilledaa.orderPoints
open Go.ChangeShapes Go.WideShapes Go.ChangeAt Go.RowKit
set_option linter.unusedVariables false
theorem own : ownKnob Try.prog.godebug = none := by kernel_rfl
theorem laidOut : laidOutB Try.prog = true := by kernel_rfl
set_option maxRecDepth 100000 in
theorem contract (H : Type) (enc : TypeId × Value → H) (W : World) (base : Nat) (args : Array Value) (ds gs : List (DataW H)) (before : List MemPlace)
    (hval : ∀ (j : Nat) t v, Try.f8.params[j]? = some t → args[j]? = some v → Value.okWide Try.prog W .any base t v)
    (hW : DataW.Whole enc Try.prog Try.f8.params.toList Rows.orderPointsSpec.vars false W args.toList ds gs before)
    (hsz0 : (DataW.weightsEach Try.prog (Try.f8.params.toList ++ Rows.orderPointsSpec.plain.varTypes Try.prog) (ds ++ gs)).all (· ≤ reachBytes) = true) :
    Calls Try.prog 8 args W fun e W' => ∃ v, e = .returned v ∧ Rows.orderPointsSpec.post enc Try.prog Try.f8 false true false false W args v W' := by
  have hW' := hW
  obtain ⟨p, q, hA0, hV, rfl, hfz, hnd⟩ := hW
  have hA : DataW.TrodAll enc Try.prog W 0 (fun _ => true) true Try.f8.params.toList args.toList ds p := hA0
  have hsz : (DataW.weightsEach Try.prog (Try.f8.params.toList ++ Rows.orderPointsSpec.plain.varTypes Try.prog) (ds ++ gs)).all (· ≤ reachBytes) = true := hsz0
  rw [Try.params8] at hA hval hsz
  obtain ⟨v0, vs0, d0, ds0, p0, q0, hargs, rfl, rfl, h0, r0⟩ := trodAll_cons hA
  obtain ⟨v1, vs1, d1, ds1, p1, q1, rfl, rfl, rfl, h1, r1⟩ := trodAll_cons r0
  obtain ⟨v2, vs2, d2, ds2, p2, q2, rfl, rfl, rfl, h2, r2⟩ := trodAll_cons r1
  obtain ⟨v3, vs3, d3, ds3, p3, q3, rfl, rfl, rfl, h3, r3⟩ := trodAll_cons r2
  obtain ⟨v4, vs4, d4, ds4, p4, q4, rfl, rfl, rfl, h4, r4⟩ := trodAll_cons r3
  obtain ⟨rfl, rfl, rfl⟩ := trodAll_nil r4
  obtain rfl : args = #[v0, v1, v2, v3, v4] := by cases args; simp_all
  obtain ⟨rfl, rfl⟩ := trodVars_none hV
  clear hA0
  obtain ⟨N0, E0, A0, c0, M0, rfl, ho0, X0, Y0, D0, rfl, hd0⟩ := open_oct Try.underlying24 (by kernel_rfl) (by kernel_rfl) Try.underlying3 Try.underlying4 Try.underlying22 Try.underlying2 (by kernel_rfl) (hval 0 24 v0 rfl rfl) h0
  have hz0 := oct_reach hsz (j := 0) (t := 24) rfl rfl Try.underlying24 Try.underlying22 (by kernel_rfl) hd0
  obtain ⟨N1, E1, A1, c1, M1, rfl, ho1, X1, Y1, D1, rfl, hd1⟩ := open_oct Try.underlying24 (by kernel_rfl) (by kernel_rfl) Try.underlying3 Try.underlying4 Try.underlying22 Try.underlying2 (by kernel_rfl) (hval 1 24 v1 rfl rfl) h1
  have hz1 := oct_reach hsz (j := 1) (t := 24) rfl rfl Try.underlying24 Try.underlying22 (by kernel_rfl) hd1
  obtain ⟨A2, c2, x2, rfl, hr2, hw2, hc2, hm2, hd2⟩ := open_row Try.underlying22 Try.underlying2 (by kernel_rfl) (hval 2 22 v2 rfl rfl) h2
  have hz2 := row_reach hsz (j := 2) (t := 22) rfl rfl Try.underlying22 (show 1 ≤ Try.prog.bytesOf 2 from by decide +kernel) hd2
  obtain ⟨a3, rfl, rfl, rfl, w3⟩ := open_int Try.underlying3 (hval 3 3 v3 rfl rfl) h3
  obtain ⟨a4, rfl, rfl, rfl, w4⟩ := open_int Try.underlying2 (hval 4 2 v4 rfl rfl) h4
  refine (law_OrderPoints N0 E0 A0 c0 M0 N1 E1 A1 c1 M1 A2 c2 x2 a3 a4 W ho0 ho1 hz0 hz1 hr2 (fun v hv => Gn.i64_wf (hw2 v hv)) (by omega) (Gn.i64_wf w3) (Gn.i64_wf w4)).mono fun e W' ⟨he, hb⟩ => ?_
  subst he
  exact ⟨_, rfl, post_law laidOut (by kernel_rfl) (by kernel_rfl) Try.underlying4 rfl hW' rfl hb⟩
set_option maxRecDepth 100000 in
theorem lifted (os : Os) (started : os.Started) (H : Type) (enc : TypeId × Value → H) :
    ReturnsInHanded {} Try.checked os 8 .any (Rows.orderPointsSpec.pre6 enc Try.prog Try.f8 Rows.orderPointsRow.domain false) (Rows.orderPointsSpec.post enc Try.prog Try.f8 false true false false) := by
  refine returnsInHanded_of_change_sized (C := Try.checked) own started (by kernel_rfl) Try.func8
    (ChangeSpec.witness6 (enc := enc) (C := Try.checked) false ⟨#[], #[.agg #[.int .i64 0, .bool false, .slice none 0 0], .agg #[.int .i64 0, .bool false, .slice none 0 0], .slice none 0 0, .int .i64 0, .int .i64 0], []⟩ 8 (by kernel_rfl) (by kernel_rfl) (by kernel_rfl) (by kernel_rfl)) ?_
  intro W base args ds gs before hval hW _ hsz _
  exact contract H enc W base args ds gs before hval hW hsz
theorem proved : Rows.OrderPointsSaid :=
  OpenClaim.holds_of_wide 8 Try.f8 rfl rfl rfl rfl rfl rfl rfl ⟨rfl, rfl, rfl, rfl, rfl⟩ rfl rfl rfl rfl rfl (by kernel_rfl) Try.func8 (by kernel_rfl)
    (of_decide_eq_true (by kernel_rfl)) (by unfold Func.isWrapper; first | (rw [if_pos (by decide +kernel)]; kernel_rfl) | (rw [if_neg (by decide +kernel)]; exact ⟨rfl, rfl⟩))
    (fun os started H enc _ => lifted os started H enc)
end Go.Proofs.Ytkgddgckilledaa.orderPoints

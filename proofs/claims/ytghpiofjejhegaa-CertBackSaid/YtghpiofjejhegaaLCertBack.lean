/- For every input the law CertBack returns true, and its arguments read afterwards as before: the statement Rows.CertBackSaid. Conditions: none. -/
import Derived.Test.YtghpiofjejhegaaRows
import Derived.WalkKit
import Derived.ProofKit
import Derived.OpenShut
import Derived.JoinedCond
import Derived.SizedLaws
import Derived.Test.YtghpiofjejhegaaLift
import Derived.Test.YtghpiofjejhegaaLce
import Derived.Test.YtghpiofjejhegaaCfd
namespace Go.Proofs.Ytghpiofjejhegaa.certBack
open Go.ChangeShapes Go.WideShapes Go.ChangeAt Go.RowKit
set_option linter.unusedVariables false
theorem own : ownKnob Try.prog.godebug = none := by kernel_rfl
theorem laidOut : laidOutB Try.prog = true := by kernel_rfl
set_option maxRecDepth 100000 in
theorem contract (H : Type) (enc : TypeId × Value → H) (W : World) (base : Nat) (args : Array Value) (ds gs : List (DataW H)) (before : List MemPlace)
    (hval : ∀ (j : Nat) t v, Try.f10.params[j]? = some t → args[j]? = some v → Value.okWide Try.prog W .any base t v)
    (hW : DataW.Whole enc Try.prog Try.f10.params.toList Rows.certBackSpec.vars false W args.toList ds gs before)
    (hsz0 : (DataW.weightsEach Try.prog (Try.f10.params.toList ++ Rows.certBackSpec.plain.varTypes Try.prog) (ds ++ gs)).all (· ≤ reachBytes) = true) :
    Calls Try.prog 10 args W fun e W' => ∃ v, e = .returned v ∧ Rows.certBackSpec.post enc Try.prog Try.f10 false true false false W args v W' := by
  have hW' := hW
  obtain ⟨p, q, hA0, hV, rfl, hfz, hnd⟩ := hW
  have hA : DataW.TrodAll enc Try.prog W 0 (fun _ => true) true Try.f10.params.toList args.toList ds p := hA0
  have hsz : (DataW.weightsEach Try.prog (Try.f10.params.toList ++ Rows.certBackSpec.plain.varTypes Try.prog) (ds ++ gs)).all (· ≤ reachBytes) = true := hsz0
  rw [Try.params10] at hA hval hsz
  obtain ⟨v0, vs0, d0, ds0, p0, q0, hargs, rfl, rfl, h0, r0⟩ := trodAll_cons hA
  obtain ⟨v1, vs1, d1, ds1, p1, q1, rfl, rfl, rfl, h1, r1⟩ := trodAll_cons r0
  obtain ⟨v2, vs2, d2, ds2, p2, q2, rfl, rfl, rfl, h2, r2⟩ := trodAll_cons r1
  obtain ⟨v3, vs3, d3, ds3, p3, q3, rfl, rfl, rfl, h3, r3⟩ := trodAll_cons r2
  obtain ⟨rfl, rfl, rfl⟩ := trodAll_nil r3
  obtain rfl : args = #[v0, v1, v2, v3] := by cases args; simp_all
  obtain ⟨rfl, rfl⟩ := trodVars_none hV
  clear hA0
  obtain ⟨D0, N0, A0, c0, os0, rfl, hD0, hN0, ho0, hc0, hm0, X0, Y0, S0, rfl, hd0⟩ := open_cert Try.underlying40 (by kernel_rfl) (by kernel_rfl) Try.underlying26 Try.underlying3 Try.underlying38 Try.underlying55 (by kernel_rfl) (by kernel_rfl) Try.underlying3 Try.underlying4 Try.underlying53 Try.underlying2 (by kernel_rfl) (hval 0 40 v0 rfl rfl) h0
  have hz0 := cert_reach hsz (j := 0) (t := 40) rfl rfl Try.underlying40 Try.underlying38 Try.underlying55 Try.underlying53 (by kernel_rfl) hd0
  obtain ⟨a1, rfl, rfl, rfl, w1⟩ := open_int Try.underlying3 (hval 1 3 v1 rfl rfl) h1
  obtain ⟨a2, rfl, rfl, rfl, w2⟩ := open_int Try.underlying5 (hval 2 5 v2 rfl rfl) h2
  obtain ⟨A3, c3, x3, rfl, hr3, hw3, hc3, hm3, hd3⟩ := open_row Try.underlying23 Try.underlying5 (by kernel_rfl) (hval 3 23 v3 rfl rfl) h3
  have hz3 := row_reach hsz (j := 3) (t := 23) rfl rfl Try.underlying23 (show 1 ≤ Try.prog.bytesOf 5 from by decide +kernel) hd3
  refine (law_CertBack D0 N0 A0 c0 os0 a1 a2 A3 c3 x3 W ho0 hD0 hN0 hc0 hm0 hz0 (Gn.i64_wf w1) (Gn.u8_wf w2) (fun x hx => Gn.u8_wf (hw3 x hx)) hr3 hc3 hm3 hz3).mono fun e W' ⟨he, hb⟩ => ?_
  subst he
  exact ⟨_, rfl, post_law laidOut (by kernel_rfl) (by kernel_rfl) Try.underlying4 rfl hW' rfl hb⟩
set_option maxRecDepth 100000 in
theorem lifted (os : Os) (started : os.Started) (H : Type) (enc : TypeId × Value → H) :
    ReturnsInHanded {} Try.checked os 10 .any (Rows.certBackSpec.pre6 enc Try.prog Try.f10 Rows.certBackRow.domain false) (Rows.certBackSpec.post enc Try.prog Try.f10 false true false false) := by
  refine returnsInHanded_of_change_sized (C := Try.checked) own started (by kernel_rfl) Try.func10
    (ChangeSpec.witness6 (enc := enc) (C := Try.checked) false ⟨#[], #[.agg #[.int .u64 0, .int .i64 0, .slice none 0 0], .int .i64 0, .int .u8 0, .slice none 0 0], []⟩ 8 (by kernel_rfl) (by kernel_rfl) (by kernel_rfl) (by kernel_rfl)) ?_
  intro W base args ds gs before hval hW _ hsz _
  exact contract H enc W base args ds gs before hval hW hsz
theorem proved : Rows.CertBackSaid :=
  OpenClaim.holds_of_wide 10 Try.f10 rfl rfl rfl rfl rfl rfl rfl ⟨rfl, rfl, rfl, rfl, rfl⟩ rfl rfl rfl rfl rfl (by kernel_rfl) Try.func10 (by kernel_rfl)
    (of_decide_eq_true (by kernel_rfl)) (by unfold Func.isWrapper; first | (rw [if_pos (by decide +kernel)]; kernel_rfl) | (rw [if_neg (by decide +kernel)]; exact ⟨rfl, rfl⟩))
    (fun os started H enc _ => lifted os started H enc)
end Go.Proofs.Ytghpiofjejhegaa.certBack

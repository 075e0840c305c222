/- The lift of a law whose parameters are structs: a range, an operand. No program in sight. -/
import Derived.Test.YtkogplnleiapfaaLift
namespace Go.Proofs.Ytkogplnleiapfaa
open Go.RowKit Go.WideShapes Go.ChangeShapes Go.WideMaps Go.WideElems Go.Joins Go.Deep Gn
section
variable {H : Type} {enc : TypeId × Value → H} {P : Program}
/-- A range that came in. -/
theorem open_range {w : World} {r : Reach} {b0 base : Nat} {spare : Nat → Bool} {held : Bool} {t : TypeId} {f0 f1 f2 f3 : Field} {v : Value} {d : DataW H} {ps : List MemPlace} (hs : P.underlying t = some (.struct #[f0, f1, f2, f3])) (hone : oneCellFields P #[f0, f1, f2, f3] = true) (hC : P.cellsOf t = 4)
    (h0 : P.underlying f0.type = some (.int .i64)) (h1 : P.underlying f1.type = some (.int .i64)) (h2 : P.underlying f2.type = some .bool) (h3 : P.underlying f3.type = some .bool)
    (hval : Value.okWide P w r b0 t v) (h : DataW.Trod enc P w base spare held t v d ps) :
    ∃ l h p q, v = .agg #[.int .i64 l, .int .i64 h, .bool p, .bool q] ∧ I64 l ∧ I64 h := by
  obtain ⟨v0, v1, v2, v3, y0, y1, y2, y3, n, rfl, rfl, rfl, t0, t1, t2, t3⟩ := open_agg4 hs hone hC hval h
  obtain ⟨N, e0, rfl, w0⟩ := DataW.trod_int h0 t0
  obtain ⟨M, e1, rfl, w1⟩ := DataW.trod_int h1 t1
  obtain ⟨E, e2, rfl⟩ := DataW.trod_bool h2 t2
  obtain ⟨F, e3, rfl⟩ := DataW.trod_bool h3 t3
  simp only [List.cons.injEq, and_true] at e0 e1 e2 e3
  subst e0 e1 e2 e3
  exact ⟨N, M, E, F, rfl, Gn.i64_wf w0, Gn.i64_wf w1⟩
/-- An operand that came in. -/
theorem open_operand {w : World} {r : Reach} {b0 base : Nat} {spare : Nat → Bool} {held : Bool} {t : TypeId} {f0 f1 : Field} {v : Value} {d : DataW H} {ps : List MemPlace} (hs : P.underlying t = some (.struct #[f0, f1])) (hone : oneCellFields P #[f0, f1] = true) (hC : P.cellsOf t = 2)
    (h0 : P.underlying f0.type = some (.int .i64)) (h1 : P.underlying f1.type = some (.int .i64))
    (hval : Value.okWide P w r b0 t v) (h : DataW.Trod enc P w base spare held t v d ps) :
    ∃ l h, v = .agg #[.int .i64 l, .int .i64 h] ∧ I64 l ∧ I64 h := by
  obtain ⟨v0, v1, y0, y1, n, rfl, rfl, rfl, t0, t1⟩ := open_agg2 hs hone hC hval h
  obtain ⟨N, e0, rfl, w0⟩ := DataW.trod_int h0 t0
  obtain ⟨M, e1, rfl, w1⟩ := DataW.trod_int h1 t1
  simp only [List.cons.injEq, and_true] at e0 e1
  subst e0 e1
  exact ⟨N, M, rfl, Gn.i64_wf w0, Gn.i64_wf w1⟩
end
end Go.Proofs.Ytkogplnleiapfaa

/- The lift of a law whose parameters are octagons, integers, slices of integers: an octagon opened, and how great it can be. No program in sight. -/
import Derived.Test.YtkogplnleiapfaaLift
import Derived.Test.YtkogplnleiapfaaOctC
import Derived.Test.YtkogplnleiapfaaShut
import Derived.Lib.SmallJoins
import Derived.SizedLaws
namespace Go.Proofs.Ytkogplnleiapfaa
open Go.RowKit Go.WideShapes Go.ChangeShapes Go.WideMaps Go.WideElems Go.Joins Go.Deep
section
variable {H : Type} {enc : TypeId × Value → H} {P : Program}
theorem open_ofInts {w : World} {base : Nat} {held : Bool} {t e : TypeId} {k : IntKind} {n : Nat} {v : Value} {y : DataW H × List MemPlace} (ht : P.underlying t = some (.slice e)) (he : P.underlying e = some (.int k)) (hc : P.cellsOf e = 1)
    (h : DataW.trod enc P w base (fun _ => true) held n t [v] = some y) :
    ∃ A c, ∃ xs : List Int, v = .slice A xs.length c ∧ Rd w w.heap.size k A xs.length (nth xs) ∧ (∀ x ∈ xs, (Lit.int k x).wf = true) ∧ xs.length ≤ c ∧ c ≤ maxLen ∧
      ((y.1 = .nil ∧ xs = []) ∨ ∃ rest, y.1 = .slice (lits k xs) rest) := by
  rcases open_ints ht he hc h with ⟨hcs, hx⟩ | ⟨a, len, cap, zs, hcs, _, hl, hm, hz, hx, hcell, hwz⟩
  · simp only [List.cons.injEq, and_true] at hcs
    subst hcs
    exact ⟨none, 0, [], rfl, Rd.zero, by simp, by simp, by simp, .inl ⟨by rw [hx], rfl⟩⟩
  · simp only [List.cons.injEq, and_true] at hcs
    subst hcs
    have hzl : zs.length = cap := by simpa using hz
    have htl : (zs.take len).length = len := by rw [List.length_take]; omega
    refine ⟨some a, cap, zs.take len, by rw [htl], ?_, fun x hx' => hwz x (List.mem_of_mem_take hx'), by rw [htl]; exact hl, hm, .inr ⟨_, by rw [hx]⟩⟩
    rw [htl]
    intro hn
    obtain ⟨b, off, rfl, hcell'⟩ := ints_at hcell (by omega)
    refine ⟨b, off, rfl, ?_, fun i hi => ?_⟩
    · exact block_lt_of_cell (hcell' 0 (by omega))
    · rw [hcell' i (by omega)]
      congr 2
      simp [nth, hi]
/-- An octagon that came in. -/
theorem open_oct {w : World} {r : Reach} {b0 base : Nat} {held : Bool} {t e : TypeId} {f0 f1 f2 : Field} {v : Value} {d : DataW H} {ps : List MemPlace} (hs : P.underlying t = some (.struct #[f0, f1, f2])) (hone : oneCellFields P #[f0, f1, f2] = true) (hC : P.cellsOf t = 3)
    (h0 : P.underlying f0.type = some (.int .i64)) (h1 : P.underlying f1.type = some .bool) (h2 : P.underlying f2.type = some (.slice e)) (he : P.underlying e = some (.int .i64)) (hc : P.cellsOf e = 1)
    (hval : Value.okWide P w r b0 t v) (h : DataW.Trod enc P w base (fun _ => true) held t v d ps) :
    ∃ N E A c M, v = .agg #[.int .i64 N, .bool E, .slice A M.length c] ∧ OctIn w w.heap.size A c N M ∧ ∃ x y D, d = .agg [x, y, D] ∧ ((D = .nil ∧ M = []) ∨ ∃ rest, D = .slice (lits .i64 M) rest) := by
  obtain ⟨v0, v1, v2, y0, y1, y2, n, rfl, rfl, rfl, t0, t1, t2⟩ := open_agg3 hs hone hC hval h
  obtain ⟨N, e0, rfl, w0⟩ := DataW.trod_int h0 t0
  obtain ⟨E, e1, rfl⟩ := DataW.trod_bool h1 t1
  simp only [List.cons.injEq, and_true] at e0 e1
  subst e0 e1
  obtain ⟨A, c, M, rfl, hr, hw, hl, hm, hd⟩ := open_ofInts h2 he hc t2
  exact ⟨N, E, A, c, M, rfl, ⟨Gn.i64_wf w0, hr, fun x hx => Gn.i64_wf (hw x hx), hl, hm⟩, _, _, _, rfl, hd⟩
/-- What the form's reach says of an octagon's cells. -/
theorem oct_reach {ts : List TypeId} {ds : List (DataW H)} (h : (DataW.weightsEach P ts ds).all (· ≤ reachBytes) = true) {j : Nat} {t e : TypeId} {f0 f1 f2 : Field} {x y D : DataW H} {M : List Int}
    (ht : ts[j]? = some t) (hd : ds[j]? = some (.agg [x, y, D])) (hs : P.underlying t = some (.struct #[f0, f1, f2])) (h2 : P.underlying f2.type = some (.slice e)) (hb : P.bytesOf e = 8)
    (hD : (D = .nil ∧ M = []) ∨ ∃ rest, D = .slice (lits .i64 M) rest) : (M.length : Int) ≤ 17592186043904 := by
  rcases hD with ⟨_, rfl⟩ | ⟨rest, rfl⟩
  · simp
  · have h1 := List.all_eq_true.1 h (((lits .i64 M).length + rest.length) * P.bytesOf e) (DataW.weights_mem_each ht hd _ (by simp [DataW.weights, hs, DataW.weightsEach, h2]; exact .inr (.inr (.inl rfl))))
    rw [hb] at h1
    simp [lits, reachBytes] at h1
    omega
theorem row_reach {ts : List TypeId} {ds : List (DataW H)} (h : (DataW.weightsEach P ts ds).all (· ≤ reachBytes) = true) {j : Nat} {t e : TypeId} {k : IntKind} {D : DataW H} {M : List Int}
    (ht : ts[j]? = some t) (hd : ds[j]? = some D) (h2 : P.underlying t = some (.slice e)) (hb : 1 ≤ P.bytesOf e)
    (hD : (D = .nil ∧ M = []) ∨ ∃ rest, D = .slice (lits k M) rest) : (M.length : Int) ≤ 140737488351232 := by
  rcases hD with ⟨_, rfl⟩ | ⟨rest, rfl⟩
  · simp
  · have h1 := sized_slice h ht hd h2
    simp only [lits, List.length_map, reachBytes] at h1
    have h3 : M.length * 1 ≤ (M.length + rest.length) * P.bytesOf e := Nat.mul_le_mul (by omega) hb
    omega
end
end Go.Proofs.Ytkogplnleiapfaa

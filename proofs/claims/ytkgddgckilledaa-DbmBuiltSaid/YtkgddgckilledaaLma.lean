/- The lift of a law whose parameter is a slice of slices of integers: opened. No program in sight. -/
import Derived.Test.YtkgddgckilledaaLift
import Derived.Test.YtkgddgckilledaaPtp
import Derived.Deep.Matrix
namespace Go.Proofs.Ytkgddgckilledaa
open Go.RowKit Go.WideShapes Go.ChangeShapes Go.WideMaps Go.WideElems Go.Joins Go.Deep Gn
section
variable {H : Type} {enc : TypeId × Value → H} {P : Program}
theorem open_matrix {w : World} {r : Reach} {b0 base : Nat} {held : Bool} {t e q : TypeId} {v : Value} {d : DataW H} {ps : List MemPlace} (ht : P.underlying t = some (.slice e)) (he : P.underlying e = some (.slice q)) (hq : P.underlying q = some (.int .i64))
    (ce : P.cellsOf e = 1) (cq : P.cellsOf q = 1) (hval : Value.okWide P w r b0 t v) (h : DataW.Trod enc P w base (fun _ => true) held t v d ps) :
    ∃ A c, ∃ ls : List RowV, v = .slice A ls.length c ∧ RowsIn w w.heap.size A ls ∧ ls.length ≤ c ∧ c ≤ maxLen := by
  obtain ⟨a0, len0, cap0, rfl⟩ := okWide_slice ht hval
  obtain ⟨fuel, hf⟩ := h
  rcases open_int_rows ht he hq ce cq hf with ⟨hcs, hx⟩ | ⟨a, len, cap, A, L, C, Z, hcs, _, hl, hm, _, hrow⟩
  · simp [Value.cells] at hcs
    obtain ⟨rfl, rfl, rfl⟩ := hcs
    exact ⟨none, 0, [], rfl, fun hn => absurd hn (by simp), by simp, by simp⟩
  · simp [Value.cells] at hcs
    obtain ⟨rfl, rfl, rfl⟩ := hcs
    have hlo : ((List.range len0).map fun r => RowV.mk (A r) (C r) ((Z r).take (L r))).length = len0 := by simp
    have hat : ∀ i, i < len0 → rvAt ((List.range len0).map fun r => RowV.mk (A r) (C r) ((Z r).take (L r))) i = RowV.mk (A i) (C i) ((Z i).take (L i)) := fun i hi => by
      unfold rvAt
      rw [List.getD_eq_getElem?_getD, List.getElem?_eq_getElem (by simpa using hi)]
      simp
    refine ⟨some a, cap0, (List.range len0).map fun r => RowV.mk (A r) (C r) ((Z r).take (L r)), by rw [hlo], ?_, by rw [hlo]; exact hl, hm⟩
    intro hn
    rw [hlo] at hn
    obtain ⟨b, off, spot⟩ := a
    have hspot : spot = none := by simpa [Addr.add] using World.cell?_spot (hrow 0 (by omega)).1
    subst hspot
    have hblk : b < w.heap.size := by
      have := (hrow 0 (by omega)).1
      rw [Go.WideShapes.add_plain] at this
      exact block_lt_of_cell this
    refine ⟨b, off, rfl, hblk, fun i hi => ?_⟩
    rw [hlo] at hi
    rw [hat i hi]
    obtain ⟨r0, r1, r2, r3, r4, r5, r6⟩ := hrow i (by omega)
    rw [Go.WideShapes.add_plain] at r0
    have htl : ((Z i).take (L i)).length = L i := by rw [List.length_take]; omega
    dsimp only
    rw [htl]
    refine ⟨r0, fun hp => ?_, fun u hu => Gn.i64_wf (r4 u (List.mem_of_mem_take hu)), ?_⟩
    · rcases hA : A i with _ | a'
      · have := r5 hA; omega
      · obtain ⟨b', off', spot'⟩ := a'
        obtain ⟨_, hcell⟩ := r6 _ hA
        have hs' : spot' = none := by simpa [Addr.add] using World.cell?_spot (hcell 0 (by omega))
        subst hs'
        refine ⟨b', off', rfl, ?_, fun k hk => ?_⟩
        · have := hcell 0 (by omega)
          rw [Go.WideShapes.add_plain] at this
          exact block_lt_of_cell this
        · have := hcell k (by omega)
          rw [Go.WideShapes.add_plain] at this
          rw [this]
          congr 2
          simp [nth, hk]
    · have : maxLen = 9223372036854775807 := rfl
      omega
end
end Go.Proofs.Ytkgddgckilledaa

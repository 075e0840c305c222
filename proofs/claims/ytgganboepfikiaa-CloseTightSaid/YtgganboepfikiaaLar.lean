/- The lift of a law whose parameter is an array of integers: opened. No program in sight. -/
import Derived.Test.YtgganboepfikiaaLio
namespace Go.Proofs.Ytgganboepfikiaa
open Go.RowKit Go.WideShapes Go.ChangeShapes Go.WideMaps Go.WideElems
section
variable {H : Type} {enc : TypeId × Value → H} {P : Program}
theorem mapM_each {α β : Type} {f : α → Option β} : ∀ (L : List α) (ys : List β), L.mapM f = some ys → ∀ i ∈ L, ∃ y, f i = some y
  | [], _, _, i, hi => by simp at hi
  | a :: L, ys, h, i, hi => by
    rw [List.mapM_cons] at h
    simp only [bind, Option.bind_eq_some_iff, pure, Option.some.injEq] at h
    obtain ⟨y, hy, zs, hzs, _⟩ := h
    rcases List.mem_cons.1 hi with rfl | hi
    · exact ⟨y, hy⟩
    · exact mapM_each L zs hzs i hi
theorem open_array {w : World} {r : Reach} {b0 base : Nat} {held : Bool} {t e : TypeId} {k : IntKind} {n : Nat} {v : Value} {d : DataW H} {ps : List MemPlace} (ht : P.underlying t = some (.array n e)) (he : P.underlying e = some (.int k)) (hc : P.cellsOf e = 1) (hC : P.cellsOf t = n)
    (hval : Value.okWide P w r b0 t v) (h : DataW.Trod enc P w base (fun _ => true) held t v d ps) :
    ∃ xs : List Int, v = .agg (xs.map (Value.int k)).toArray ∧ xs.length = n ∧ ∀ x ∈ xs, (Lit.int k x).wf = true := by
  simp only [Value.okWide, ht] at hval
  obtain ⟨cs, rfl, hsz, _⟩ := hval
  rw [hC] at hsz
  obtain ⟨fuel, hf⟩ := h
  cases fuel with
  | zero => simp [DataW.trod] at hf
  | succ m =>
    rw [DataW.trod_step] at hf
    unfold DataW.trodStep at hf
    simp only [ht, Value.cells] at hf
    rw [if_pos (by rw [hC]; simpa using hsz)] at hf
    simp only [Option.map_eq_some_iff] at hf
    obtain ⟨ys, hy, _⟩ := hf
    have hel : ∀ i, i < n → ∃ a, cs.toList[i]? = some (.int k a) ∧ (Lit.int k a).wf = true := fun i hi => by
      obtain ⟨y, h1⟩ := mapM_each _ _ hy i (List.mem_range.2 hi)
      obtain ⟨a, ea, _, wa⟩ := DataW.trod_int he h1
      rw [hc] at ea
      refine ⟨a, ?_, wa⟩
      have := congrArg (fun l : List Value => l[0]?) ea
      simpa using this
    let g : Value → Int := fun | .int _ a => a | _ => 0
    have hlen : cs.toList.length = n := by simpa using hsz
    refine ⟨cs.toList.map g, ?_, by simpa using hsz, fun x hx => ?_⟩
    · congr 1
      apply Array.toList_inj.1
      simp only [List.map_map]
      refine List.ext_getElem? fun i => ?_
      by_cases hi : i < n
      · obtain ⟨a, h1, _⟩ := hel i hi
        rw [h1, List.getElem?_map, h1]
        rfl
      · rw [List.getElem?_eq_none (by omega), List.getElem?_eq_none (by rw [List.length_map]; omega)]
    · obtain ⟨u, hu, rfl⟩ := List.mem_map.1 hx
      obtain ⟨i, hi, rfl⟩ := List.getElem_of_mem hu
      obtain ⟨a, h1, h2⟩ := hel i (by omega)
      rw [List.getElem?_eq_getElem hi] at h1
      injection h1 with h1
      rw [h1]; exact h2
end
end Go.Proofs.Ytgganboepfikiaa

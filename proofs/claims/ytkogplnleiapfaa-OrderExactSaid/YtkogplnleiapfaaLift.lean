/- The lift of a law: where the call returned true and left alone what was there, the row's post holds, whatever the parameters' types; a slice of integers opened, nil and empty too. No program in sight. -/
import Derived.Below
import Derived.ChangeSame
import Derived.RowKit
import Derived.OpenShut
import Derived.ProofKit
import Derived.Test.YtkogplnleiapfaaMem
namespace Go.Proofs.Ytkogplnleiapfaa
open Go.RowKit Go.WideShapes Go.ChangeShapes Go.WideMaps Go.WideElems
section
variable {H : Type} {enc : TypeId × Value → H} {P : Program}
theorem trodAll_below (hl : laidOutB P = true) {W W' : World} (hb : Below W.heap.size W W') : ∀ {ts : List TypeId} {vs : List Value} {ds : List (DataW H)} {ps : List MemPlace},
    (ts.all fun t => P.readableRec t && decide (t < P.types.size)) = true → DataW.TrodAll enc P W 0 (fun _ => true) true ts vs ds ps → (∀ x ∈ ps, x.block < W.heap.size) →
    DataW.TrodAll enc P W' 0 (fun b => decide (b < W.heap.size)) true ts vs ds ps
  | [], vs, ds, ps, _, h, _ => by
    obtain ⟨rfl, rfl, rfl⟩ := trodAll_nil h
    exact trodAll_mk0
  | t :: ts, vs, ds, ps, hr, h, hlt => by
    obtain ⟨v, vs', d, ds', p, q, rfl, rfl, rfl, h0, h1⟩ := trodAll_cons h
    simp only [List.all_cons, Bool.and_eq_true, decide_eq_true_eq] at hr
    have a := Below.trod hl hr.1.1 hr.1.2 h0 hb (fun x hx => hlt x (List.mem_append_left _ hx))
    have b := trodAll_below hl hb (by simpa using hr.2) h1 (fun x hx => hlt x (List.mem_append_right _ hx))
    exact trodAll_cons_mk a b
theorem post_law (hl : laidOutB P = true) {f : Func} {s : ChangeSpec} {apart : Bool} {W W' : World} {args : Array Value} {ds gs : List (DataW H)} {before : List MemPlace} {tb : TypeId}
    (hrd : (f.params.toList.all fun t => P.readableRec t && decide (t < P.types.size)) = true) (hrt : f.resultTypes = #[tb]) (htb : P.underlying tb = some .bool)
    (hvars : s.vars = []) (hW : DataW.Whole enc P f.params.toList s.vars apart W args.toList ds gs before)
    (hs : s.fn H (ds ++ gs) = { results := [.lit (.bool true)], args := ds }) (hb : Below W.heap.size W W') : s.post enc P f apart true false false W args (.bool true) W' := by
  have hlt := hW.lt
  have hW' := hW
  obtain ⟨p, q, hA, hV, rfl, hfz, hnd⟩ := hW
  rw [hvars] at hV
  obtain ⟨rfl, rfl⟩ := trodVars_none hV
  refine ⟨ds, [], p ++ [], [], p, [], hW', ?_, ?_, ?_, ?_, fun h => by cases h⟩
  · rw [hs, hrt]
    exact trodAll_cons_mk (shut_bool htb true) trodAll_mk0
  · rw [hs]
    exact trodAll_below hl hb hrd hA (fun x hx => hlt x (by simpa using hx))
  · rw [hs, hvars]; rfl
  · exact World.keptBut_mono (fun x hx => ⟨hx, .inr (.inl (by simpa using hx))⟩) (hb.frame (· ∈ p ++ []))
/-- A slice of integers that came in, nil and empty too. -/
theorem open_row {w : World} {r : Reach} {b0 base : Nat} {held : Bool} {t e : TypeId} {k : IntKind} {v : Value} {d : DataW H} {ps : List MemPlace} (ht : P.underlying t = some (.slice e)) (he : P.underlying e = some (.int k)) (hc : P.cellsOf e = 1)
    (hval : Value.okWide P w r b0 t v) (h : DataW.Trod enc P w base (fun _ => true) held t v d ps) :
    ∃ A c, ∃ xs : List Int, v = .slice A xs.length c ∧ Rd w w.heap.size k A xs.length (nth xs) ∧ (∀ x ∈ xs, (Lit.int k x).wf = true) ∧ xs.length ≤ c ∧ c ≤ maxLen ∧
      ((d = .nil ∧ xs = []) ∨ ∃ rest, d = .slice (lits k xs) rest) := by
  obtain ⟨a0, len, cap, rfl⟩ := okWide_slice ht hval
  obtain ⟨fuel, hf⟩ := h
  rcases open_ints ht he hc hf with ⟨hcs, hx⟩ | ⟨a, len', cap', zs, hcs, _, hl, hm, hz, hx, hcell, hwz⟩
  · simp [Value.cells] at hcs
    obtain ⟨rfl, rfl, rfl⟩ := hcs
    simp only [Prod.mk.injEq] at hx
    exact ⟨none, 0, [], rfl, Rd.zero, by simp, by simp, by simp, .inl ⟨hx.1, rfl⟩⟩
  · simp [Value.cells] at hcs
    obtain ⟨rfl, rfl, rfl⟩ := hcs
    simp only [Prod.mk.injEq] at hx
    have hzl : zs.length = cap := by simpa using hz
    have htl : (zs.take len).length = len := by rw [List.length_take]; omega
    refine ⟨some a, cap, zs.take len, by rw [htl], ?_, fun x hx' => hwz x (List.mem_of_mem_take hx'), by rw [htl]; exact hl, hm, .inr ⟨_, hx.1⟩⟩
    rw [htl]
    intro hn
    obtain ⟨b, off, rfl, hcell'⟩ := ints_at hcell (by omega)
    refine ⟨b, off, rfl, ?_, fun i hi => ?_⟩
    · exact block_lt_of_cell (hcell' 0 (by omega))
    · rw [hcell' i (by omega)]
      congr 2
      simp [nth, hi]
end
end Go.Proofs.Ytkogplnleiapfaa

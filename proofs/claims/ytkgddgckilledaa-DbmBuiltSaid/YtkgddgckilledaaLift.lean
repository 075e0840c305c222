/- The lift of a law: where the call returned true and left alone what was there, the row's post holds, whatever the parameters' types; a slice of integers opened, nil and empty too. No program in sight. -/
import Derived.Below
import Derived.ChangeSame
import Derived.RowKit
import Derived.OpenShut
import Derived.ProofKit
import Derived.Test.YtkgddgckilledaaMem
import Derived.Test.YtkgddgckilledaaNum
import Derived.Test.YtkgddgckilledaaOctC
import Derived.Lib.SmallJoins
import Derived.SizedLaws
namespace Go.Proofs.Ytkgddgckilledaa
open Go.RowKit Go.WideShapes Go.ChangeShapes Go.WideMaps Go.WideElems
section
variable {H : Type} {enc : TypeId × Value → H} {P : Program}
theorem trodAll_below (hl : laidOutB P = true) {W W' : World} (hb : Below W.heap.size W W') : ∀ {ts : List TypeId} {vs : List Value} {ds : List (DataW H)} {ps : List MemPlace},
    (ts.all fun t => P.readableRec t && decide (t < P.types.size)) = true → DataW.TrodAll enc P W 0 (fun _ => true) true ts vs ds ps → (∀ x ∈ ps, x.block < W.heap.size) →
    DataW.TrodAll enc P W' 0 (fun b => decide (b < W.heap.size)) true ts vs ds ps
  | [], vs, ds, ps, _, h, _ => by
    obtain ⟨rfl, rfl, rfl⟩ := trodAll_nil h
    exact trodAll_mk0
  | t :: ts, vs, ds, ps, hr, h, hlt => by
    obtain ⟨v, vs', d, ds', p, q, rfl, rfl, rfl, h0, h1⟩ := trodAll_cons h
    simp only [List.all_cons, Bool.and_eq_true, decide_eq_true_eq] at hr
    have a := Below.trod hl hr.1.1 hr.1.2 h0 hb (fun x hx => hlt x (List.mem_append_left _ hx))
    have b := trodAll_below hl hb (by simpa using hr.2) h1 (fun x hx => hlt x (List.mem_append_right _ hx))
    exact trodAll_cons_mk a b
theorem post_law (hl : laidOutB P = true) {f : Func} {s : ChangeSpec} {apart : Bool} {W W' : World} {args : Array Value} {ds gs : List (DataW H)} {before : List MemPlace} {tb : TypeId}
    (hrd : (f.params.toList.all fun t => P.readableRec t && decide (t < P.types.size)) = true) (hrt : f.resultTypes = #[tb]) (htb : P.underlying tb = some .bool)
    (hvars : s.vars = []) (hW : DataW.Whole enc P f.params.toList s.vars apart W args.toList ds gs before)
    (hs : s.fn H (ds ++ gs) = { results := [.lit (.bool true)], args := ds }) (hb : Below W.heap.size W W') : s.post enc P f apart true false false W args (.bool true) W' := by
  have hlt := hW.lt
  have hW' := hW
  obtain ⟨p, q, hA, hV, rfl, hfz, hnd⟩ := hW
  rw [hvars] at hV
  obtain ⟨rfl, rfl⟩ := trodVars_none hV
  refine ⟨ds, [], p ++ [], [], p, [], hW', ?_, ?_, ?_, ?_, fun h => by cases h⟩
  · rw [hs, hrt]
    exact trodAll_cons_mk (shut_bool htb true) trodAll_mk0
  · rw [hs]
    exact trodAll_below hl hb hrd hA (fun x hx => hlt x (by simpa using hx))
  · rw [hs, hvars]; rfl
  · exact World.keptBut_mono (fun x hx => ⟨hx, .inr (.inl (by simpa using hx))⟩) (hb.frame (· ∈ p ++ []))
/-- A slice of integers that came in, nil and empty too. -/
theorem open_row {w : World} {r : Reach} {b0 base : Nat} {held : Bool} {t e : TypeId} {k : IntKind} {v : Value} {d : DataW H} {ps : List MemPlace} (ht : P.underlying t = some (.slice e)) (he : P.underlying e = some (.int k)) (hc : P.cellsOf e = 1)
    (hval : Value.okWide P w r b0 t v) (h : DataW.Trod enc P w base (fun _ => true) held t v d ps) :
    ∃ A c, ∃ xs : List Int, v = .slice A xs.length c ∧ Rd w w.heap.size k A xs.length (nth xs) ∧ (∀ x ∈ xs, (Lit.int k x).wf = true) ∧ xs.length ≤ c ∧ c ≤ maxLen ∧
      ((d = .nil ∧ xs = []) ∨ ∃ rest, d = .slice (lits k xs) rest) := by
  obtain ⟨a0, len, cap, rfl⟩ := okWide_slice ht hval
  obtain ⟨fuel, hf⟩ := h
  rcases open_ints ht he hc hf with ⟨hcs, hx⟩ | ⟨a, len', cap', zs, hcs, _, hl, hm, hz, hx, hcell, hwz⟩
  · simp [Value.cells] at hcs
    obtain ⟨rfl, rfl, rfl⟩ := hcs
    simp only [Prod.mk.injEq] at hx
    exact ⟨none, 0, [], rfl, Rd.zero, by simp, by simp, by simp, .inl ⟨hx.1, rfl⟩⟩
  · simp [Value.cells] at hcs
    obtain ⟨rfl, rfl, rfl⟩ := hcs
    simp only [Prod.mk.injEq] at hx
    have hzl : zs.length = cap := by simpa using hz
    have htl : (zs.take len).length = len := by rw [List.length_take]; omega
    refine ⟨some a, cap, zs.take len, by rw [htl], ?_, fun x hx' => hwz x (List.mem_of_mem_take hx'), by rw [htl]; exact hl, hm, .inr ⟨_, hx.1⟩⟩
    rw [htl]
    intro hn
    obtain ⟨b, off, rfl, hcell'⟩ := ints_at hcell (by omega)
    refine ⟨b, off, rfl, ?_, fun i hi => ?_⟩
    · exact block_lt_of_cell (hcell' 0 (by omega))
    · rw [hcell' i (by omega)]
      congr 2
      simp [nth, hi]
end
end Go.Proofs.Ytkgddgckilledaa
namespace Go.Proofs.Ytkgddgckilledaa
open Go.RowKit Go.WideShapes Go.ChangeShapes
section
variable {H : Type} {enc : TypeId × Value → H} {P : Program}
theorem post_of_below {f : Func} {s : ChangeSpec} {apart fresh handsOn again : Bool} {W W' : World} {args : Array Value} {v : Value} {ds gs : List (DataW H)} {before pa pv : List MemPlace}
    (hW : DataW.Whole enc P f.params.toList s.vars apart W args.toList ds gs before)
    (hres : ∀ (b : Nat) (sp : Nat → Bool) (hd : Bool), DataW.TrodAll enc P W' b sp hd f.resultTypes.toList (v.resultList f.resultTypes.size) (s.fn H (ds ++ gs)).results [])
    (hargs : ∀ sp : Nat → Bool, (∀ p ∈ before, sp p.block = true) → DataW.TrodAll enc P W' 0 sp true f.params.toList args.toList (s.fn H (ds ++ gs)).args pa)
    (hvars : ∀ sp : Nat → Bool, (∀ p ∈ before, sp p.block = true) → DataW.TrodVars enc P W' sp s.vars (s.fn H (ds ++ gs)).vars pv)
    (hps : before = pa ++ pv) (hb : Below W.heap.size W W')
    (hok : ∀ (j : Nat) (t : TypeId) (r : Value), f.resultTypes[j]? = some t → (v.resultList f.resultTypes.size)[j]? = some r → Value.okWide P W' .any 0 t r) :
    s.post enc P f apart fresh handsOn again W args v W' := by
  have hlt : ∀ p ∈ before, p.block < W.heap.size := fun p hp => hW.lt p hp
  have hold : ∀ p ∈ before, (fun b => decide (b < W.heap.size)) p.block = true := fun p hp => by simpa using hlt p hp
  refine ⟨ds, gs, before, [], pa, pv, hW, hres _ _ _, hargs _ hold, hvars _ hold, World.keptBut_mono (fun p hp => ⟨hp, ?_⟩) (hb.frame (· ∈ before)), fun _ => ?_⟩
  · rw [hps, List.mem_append] at hp
    exact Or.inr hp
  · obtain ⟨_, _, _, _, _, hz, hn⟩ := hW
    refine ⟨hok, _, _, ([] ++ pa) ++ pv, ⟨[] ++ pa, pv, trodAll_append (hargs _ (fun _ _ => rfl)) (hres _ _ _), hvars _ (fun _ _ => rfl), rfl, ?_, ?_⟩, ?_⟩
    · intro b off hp
      have hin : MemPlace.cell b off ∈ before := by rw [hps]; simpa using hp
      rw [hb.frozen (hlt _ hin)]
      exact hz b off hin
    · intro ha
      have := hn ha
      rw [hps] at this
      simpa using this
    · intro p hp _
      rw [hps]
      simpa using hp
end
namespace Gn
theorem i64_wf {x : Int} (h : (Lit.int .i64 x).wf = true) : I64 x := by
  simp [Lit.wf, IntKind.min, IntKind.max, IntKind.signed, IntKind.bits] at h
  exact ⟨by omega, by omega⟩
theorem u64_wf {x : Int} (h : (Lit.int .u64 x).wf = true) : 0 ≤ x ∧ x ≤ 18446744073709551615 := by
  simp [Lit.wf, IntKind.min, IntKind.max, IntKind.signed, IntKind.bits] at h
  exact ⟨by omega, by omega⟩
theorem u8_wf {x : Int} (h : (Lit.int .u8 x).wf = true) : 0 ≤ x ∧ x ≤ 255 := by
  simp [Lit.wf, IntKind.min, IntKind.max, IntKind.signed, IntKind.bits] at h
  exact ⟨by omega, by omega⟩
end Gn
end Go.Proofs.Ytkgddgckilledaa
namespace Go.Proofs.Ytkgddgckilledaa
open Go.RowKit Go.WideShapes Go.ChangeShapes Go.WideMaps Go.WideElems Go.Joins Go.Deep
section
variable {H : Type} {enc : TypeId × Value → H} {P : Program}
theorem open_ofInts {w : World} {base : Nat} {held : Bool} {t e : TypeId} {k : IntKind} {n : Nat} {v : Value} {y : DataW H × List MemPlace} (ht : P.underlying t = some (.slice e)) (he : P.underlying e = some (.int k)) (hc : P.cellsOf e = 1)
    (h : DataW.trod enc P w base (fun _ => true) held n t [v] = some y) :
    ∃ A c, ∃ xs : List Int, v = .slice A xs.length c ∧ Rd w w.heap.size k A xs.length (nth xs) ∧ (∀ x ∈ xs, (Lit.int k x).wf = true) ∧ xs.length ≤ c ∧ c ≤ maxLen ∧
      ((y.1 = .nil ∧ xs = []) ∨ ∃ rest, y.1 = .slice (lits k xs) rest) := by
  rcases open_ints ht he hc h with ⟨hcs, hx⟩ | ⟨a, len, cap, zs, hcs, _, hl, hm, hz, hx, hcell, hwz⟩
  · simp only [List.cons.injEq, and_true] at hcs
    subst hcs
    exact ⟨none, 0, [], rfl, Rd.zero, by simp, by simp, by simp, .inl ⟨by rw [hx], rfl⟩⟩
  · simp only [List.cons.injEq, and_true] at hcs
    subst hcs
    have hzl : zs.length = cap := by simpa using hz
    have htl : (zs.take len).length = len := by rw [List.length_take]; omega
    refine ⟨some a, cap, zs.take len, by rw [htl], ?_, fun x hx' => hwz x (List.mem_of_mem_take hx'), by rw [htl]; exact hl, hm, .inr ⟨_, by rw [hx]⟩⟩
    rw [htl]
    intro hn
    obtain ⟨b, off, rfl, hcell'⟩ := ints_at hcell (by omega)
    refine ⟨b, off, rfl, ?_, fun i hi => ?_⟩
    · exact block_lt_of_cell (hcell' 0 (by omega))
    · rw [hcell' i (by omega)]
      congr 2
      simp [nth, hi]
/-- An octagon that came in. -/
theorem open_oct {w : World} {r : Reach} {b0 base : Nat} {held : Bool} {t e : TypeId} {f0 f1 f2 : Field} {v : Value} {d : DataW H} {ps : List MemPlace} (hs : P.underlying t = some (.struct #[f0, f1, f2])) (hone : oneCellFields P #[f0, f1, f2] = true) (hC : P.cellsOf t = 3)
    (h0 : P.underlying f0.type = some (.int .i64)) (h1 : P.underlying f1.type = some .bool) (h2 : P.underlying f2.type = some (.slice e)) (he : P.underlying e = some (.int .i64)) (hc : P.cellsOf e = 1)
    (hval : Value.okWide P w r b0 t v) (h : DataW.Trod enc P w base (fun _ => true) held t v d ps) :
    ∃ N E A c M, v = .agg #[.int .i64 N, .bool E, .slice A M.length c] ∧ OctIn w w.heap.size A c N M ∧ ∃ x y D, d = .agg [x, y, D] ∧ ((D = .nil ∧ M = []) ∨ ∃ rest, D = .slice (lits .i64 M) rest) := by
  obtain ⟨v0, v1, v2, y0, y1, y2, n, rfl, rfl, rfl, t0, t1, t2⟩ := open_agg3 hs hone hC hval h
  obtain ⟨N, e0, rfl, w0⟩ := DataW.trod_int h0 t0
  obtain ⟨E, e1, rfl⟩ := DataW.trod_bool h1 t1
  simp only [List.cons.injEq, and_true] at e0 e1
  subst e0 e1
  obtain ⟨A, c, M, rfl, hr, hw, hl, hm, hd⟩ := open_ofInts h2 he hc t2
  exact ⟨N, E, A, c, M, rfl, ⟨Gn.i64_wf w0, hr, fun x hx => Gn.i64_wf (hw x hx), hl, hm⟩, _, _, _, rfl, hd⟩
/-- What the form's reach says of an octagon's cells. -/
theorem oct_reach {ts : List TypeId} {ds : List (DataW H)} (h : (DataW.weightsEach P ts ds).all (· ≤ reachBytes) = true) {j : Nat} {t e : TypeId} {f0 f1 f2 : Field} {x y D : DataW H} {M : List Int}
    (ht : ts[j]? = some t) (hd : ds[j]? = some (.agg [x, y, D])) (hs : P.underlying t = some (.struct #[f0, f1, f2])) (h2 : P.underlying f2.type = some (.slice e)) (hb : P.bytesOf e = 8)
    (hD : (D = .nil ∧ M = []) ∨ ∃ rest, D = .slice (lits .i64 M) rest) : (M.length : Int) ≤ 17592186043904 := by
  rcases hD with ⟨_, rfl⟩ | ⟨rest, rfl⟩
  · simp
  · have h1 := List.all_eq_true.1 h (((lits .i64 M).length + rest.length) * P.bytesOf e) (DataW.weights_mem_each ht hd _ (by simp [DataW.weights, hs, DataW.weightsEach, h2]; exact .inr (.inr (.inl rfl))))
    rw [hb] at h1
    simp [lits, reachBytes] at h1
    omega
theorem row_reach {ts : List TypeId} {ds : List (DataW H)} (h : (DataW.weightsEach P ts ds).all (· ≤ reachBytes) = true) {j : Nat} {t e : TypeId} {k : IntKind} {D : DataW H} {M : List Int}
    (ht : ts[j]? = some t) (hd : ds[j]? = some D) (h2 : P.underlying t = some (.slice e)) (hb : 1 ≤ P.bytesOf e)
    (hD : (D = .nil ∧ M = []) ∨ ∃ rest, D = .slice (lits k M) rest) : (M.length : Int) ≤ 140737488351232 := by
  rcases hD with ⟨_, rfl⟩ | ⟨rest, rfl⟩
  · simp
  · have h1 := sized_slice h ht hd h2
    simp only [lits, List.length_map, reachBytes] at h1
    have h3 : M.length * 1 ≤ (M.length + rest.length) * P.bytesOf e := Nat.mul_le_mul (by omega) hb
    omega
end
end Go.Proofs.Ytkgddgckilledaa

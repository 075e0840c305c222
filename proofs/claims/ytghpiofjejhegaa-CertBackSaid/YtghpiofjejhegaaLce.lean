/- The lift of a law whose parameter is a certificate: a row of octagons opened. No program in sight. -/
import Derived.Test.YtghpiofjejhegaaLift
import Derived.Test.YtghpiofjejhegaaCeg
namespace Go.Proofs.Ytghpiofjejhegaa
open Go.RowKit Go.WideShapes Go.ChangeShapes Go.WideMaps Go.WideElems Go.Joins Go.Deep Gn
section
variable {H : Type} {enc : TypeId × Value → H} {P : Program}
/-- What an octagon reads as. -/
def OcD (d : DataW H) (o : OC) : Prop := ∃ x y D, d = .agg [x, y, D] ∧ ((D = .nil ∧ o.m = []) ∨ ∃ rest, D = .slice (lits .i64 o.m) rest)
/-- A row of octagons that came in. -/
theorem open_octs {w : World} {base : Nat} {held : Bool} {t te e : TypeId} {f0 f1 f2 : Field} {n : Nat} {v : Value} {y : DataW H × List MemPlace} (ht : P.underlying t = some (.slice te)) (hs : P.underlying te = some (.struct #[f0, f1, f2])) (hone : oneCellFields P #[f0, f1, f2] = true) (hC : P.cellsOf te = 3)
    (h0 : P.underlying f0.type = some (.int .i64)) (h1 : P.underlying f1.type = some .bool) (h2 : P.underlying f2.type = some (.slice e)) (he : P.underlying e = some (.int .i64)) (hc : P.cellsOf e = 1)
    (h : DataW.trod enc P w base (fun _ => true) held n t [v] = some y) :
    ∃ A c, ∃ os : List OC, v = .slice A os.length c ∧ OctsIn w A os ∧ os.length ≤ c ∧ c ≤ maxLen ∧
      ((y.1 = .nil ∧ os = []) ∨ ∃ elems rest, y.1 = .slice elems rest ∧ ∀ i, i < os.length → ∃ d ∈ elems, OcD d (ocAt os i)) := by
  rcases open_slice ht h with ⟨hcs, rfl⟩ | ⟨a, len, cap, m, n', D, Pl, hcs, hb, hl, hm, hmm, rfl, hx⟩
  · simp only [List.cons.injEq, and_true] at hcs
    subst hcs
    exact ⟨none, 0, [], rfl, fun hn => absurd hn (by simp), by simp, by simp, .inl ⟨rfl, rfl⟩⟩
  · simp only [List.cons.injEq, and_true] at hcs
    subst hcs
    have hmc : m = cap := by rw [hmm]; simp
    have each : ∀ i, i < len → ∃ q : OC × Option Addr × Nat, w.cell? (a.add (i * 3)) = some (.int .i64 q.1.n) ∧ w.cell? (a.add (i * 3 + 1)) = some (.bool q.1.e) ∧ w.cell? (a.add (i * 3 + 2)) = some (.slice q.2.1 q.1.m.length q.2.2) ∧
        OctIn w w.heap.size q.2.1 q.2.2 q.1.n q.1.m ∧ OcD (D i) q.1 := by
      intro i hi
      obtain ⟨cs', k1, k2⟩ := hx i (by omega)
      rw [hC] at k1
      obtain ⟨_, hlen, hcell⟩ := World.cells?_some k1
      obtain ⟨y0, y1, y2, n2, hxy, _, t0, t1, t2⟩ := trod_struct3 hs k2
      obtain ⟨o0, c0⟩ := hone_of hone 0 f0 rfl
      obtain ⟨o1, c1⟩ := hone_of hone 1 f1 rfl
      obtain ⟨o2, c2⟩ := hone_of hone 2 f2 rfl
      match cs', hlen with
      | [v0, v1, v2], _ =>
        simp only [o0, c0, o1, c1, o2, c2] at t0 t1 t2
        have e0 := hcell 0 (by omega)
        have e1 := hcell 1 (by omega)
        have e2 := hcell 2 (by omega)
        rw [add_add] at e0 e1 e2
        obtain ⟨N, g0, r0, w0⟩ := DataW.trod_int h0 (by simpa using t0)
        obtain ⟨E, g1, r1⟩ := DataW.trod_bool h1 (by simpa using t1)
        simp only [List.cons.injEq, and_true] at g0 g1
        subst g0 g1
        obtain ⟨A, c, M, rfl, hr, hw, hl', hm', hd⟩ := open_ofInts (y := y2) h2 he hc (by simpa using t2)
        simp only [Prod.mk.injEq] at hxy
        exact ⟨⟨⟨N, E, M⟩, A, c⟩, by simpa using e0, by simpa using e1, by simpa using e2, ⟨Gn.i64_wf w0, hr, fun x hx => Gn.i64_wf (hw x hx), hl', hm'⟩, _, _, _, hxy.1, hd⟩
    have : Inhabited (OC × Option Addr × Nat) := ⟨⟨⟨0, false, []⟩, none, 0⟩⟩
    obtain ⟨q, hq⟩ := choose_lt each
    have hlo : ((List.range len).map fun i => (q i).1).length = len := by simp
    have hat : ∀ i, i < len → ocAt ((List.range len).map fun i => (q i).1) i = (q i).1 := fun i hi => by
      unfold ocAt
      rw [List.getD_eq_getElem?_getD, List.getElem?_eq_getElem (by simpa using hi)]
      simp
    refine ⟨some a, cap, (List.range len).map fun i => (q i).1, by rw [hlo], ?_, by rw [hlo]; exact hl, hm, .inr ⟨_, _, rfl, fun i hi => ?_⟩⟩
    · intro hn
      rw [hlo] at hn
      obtain ⟨b, off, spot⟩ := a
      have hspot : spot = none := by simpa [Addr.add] using World.cell?_spot (hq 0 hn).1
      subst hspot
      refine ⟨b, off, rfl, ?_, fun i hi => ?_⟩
      · have := (hq 0 hn).1
        rw [Go.WideShapes.add_plain] at this
        exact block_lt_of_cell this
      · rw [hlo] at hi
        obtain ⟨r0, r1, r2, ro, _⟩ := hq i hi
        rw [hat i hi]
        rw [Go.WideShapes.add_plain] at r0 r1 r2
        exact ⟨_, _, r0, r1, r2, ro⟩
    · rw [hlo] at hi
      rw [hat i hi]
      exact ⟨D i, List.mem_map.2 ⟨i, List.mem_range.2 hi, rfl⟩, (hq i hi).2.2.2.2⟩
/-- A certificate that came in. -/
theorem open_cert {w : World} {r : Reach} {b0 base : Nat} {held : Bool} {t te e : TypeId} {g0 g1 g2 f0 f1 f2 : Field} {v : Value} {d : DataW H} {ps : List MemPlace} (hst : P.underlying t = some (.struct #[g0, g1, g2])) (honet : oneCellFields P #[g0, g1, g2] = true) (hCt : P.cellsOf t = 3)
    (u0 : P.underlying g0.type = some (.int .u64)) (u1 : P.underlying g1.type = some (.int .i64)) (u2 : P.underlying g2.type = some (.slice te))
    (hs : P.underlying te = some (.struct #[f0, f1, f2])) (hone : oneCellFields P #[f0, f1, f2] = true) (hC : P.cellsOf te = 3)
    (h0 : P.underlying f0.type = some (.int .i64)) (h1 : P.underlying f1.type = some .bool) (h2 : P.underlying f2.type = some (.slice e)) (he : P.underlying e = some (.int .i64)) (hc : P.cellsOf e = 1)
    (hval : Value.okWide P w r b0 t v) (h : DataW.Trod enc P w base (fun _ => true) held t v d ps) :
    ∃ D N A c os, v = .agg #[.int .u64 D, .int .i64 N, .slice A os.length c] ∧ (0 ≤ D ∧ D ≤ 18446744073709551615) ∧ I64 N ∧ OctsIn w A os ∧ os.length ≤ c ∧ c ≤ maxLen ∧
      ∃ x y DS, d = .agg [x, y, DS] ∧ ((DS = .nil ∧ os = []) ∨ ∃ elems rest, DS = .slice elems rest ∧ ∀ i, i < os.length → ∃ d ∈ elems, OcD d (ocAt os i)) := by
  obtain ⟨v0, v1, v2, y0, y1, y2, n, rfl, rfl, rfl, t0, t1, t2⟩ := open_agg3 hst honet hCt hval h
  obtain ⟨D, e0, rfl, w0⟩ := DataW.trod_int u0 t0
  obtain ⟨N, e1, rfl, w1⟩ := DataW.trod_int u1 t1
  simp only [List.cons.injEq, and_true] at e0 e1
  subst e0 e1
  obtain ⟨A, c, os, rfl, ho, hl, hm, hd⟩ := open_octs u2 hs hone hC h0 h1 h2 he hc t2
  exact ⟨D, N, A, c, os, rfl, Gn.u64_wf w0, Gn.i64_wf w1, ho, hl, hm, _, _, _, rfl, hd⟩
theorem weightsAll_mem {e : TypeId} : ∀ {elems : List (DataW H)} {d : DataW H} {n : Nat}, d ∈ elems → n ∈ d.weights P e → n ∈ DataW.weightsAll P e elems
  | x :: r, d, n, hd, hn => by
    simp only [DataW.weightsAll, List.mem_append]
    rcases List.mem_cons.1 hd with rfl | hd
    · exact .inl hn
    · exact .inr (weightsAll_mem hd hn)
/-- What the form's reach says of the cells of a certificate's octagons. -/
theorem cert_reach {ts : List TypeId} {ds : List (DataW H)} (h : (DataW.weightsEach P ts ds).all (· ≤ reachBytes) = true) {j : Nat} {t te e : TypeId} {g0 g1 g2 f0 f1 f2 : Field} {x y DS : DataW H} {os : List OC}
    (ht : ts[j]? = some t) (hd : ds[j]? = some (.agg [x, y, DS])) (hst : P.underlying t = some (.struct #[g0, g1, g2])) (u2 : P.underlying g2.type = some (.slice te)) (hs : P.underlying te = some (.struct #[f0, f1, f2])) (h2 : P.underlying f2.type = some (.slice e)) (hb : P.bytesOf e = 8)
    (hD : (DS = .nil ∧ os = []) ∨ ∃ elems rest, DS = .slice elems rest ∧ ∀ i, i < os.length → ∃ d ∈ elems, OcD d (ocAt os i)) : ∀ i, i < os.length → ((ocAt os i).m.length : Int) ≤ 17592186043904 := by
  intro i hi
  rcases hD with ⟨_, rfl⟩ | ⟨elems, rest, rfl, hel⟩
  · simp at hi
  · obtain ⟨d, hde, x', y', D', rfl, hM⟩ := hel i hi
    rcases hM with ⟨_, e0⟩ | ⟨r2, rfl⟩
    · rw [e0]; simp
    · have hmem : ((lits (H := H) .i64 (ocAt os i).m).length + r2.length) * P.bytesOf e ∈ DataW.weights P t (.agg [x, y, .slice elems rest]) := by
        simp only [DataW.weights, hst, DataW.weightsEach, u2, List.mem_append, List.mem_cons, List.map_cons, List.map_nil]
        refine .inr (.inr (.inl (.inr (.inl (weightsAll_mem hde ?_)))))
        simp only [DataW.weights, hs, DataW.weightsEach, h2, List.mem_append, List.mem_cons, List.map_cons, List.map_nil]
        exact .inr (.inr (.inl (.inl trivial)))
      have h1 := List.all_eq_true.1 h _ (DataW.weights_mem_each ht hd _ hmem)
      rw [hb] at h1
      simp [lits, reachBytes] at h1
      omega
end
end Go.Proofs.Ytghpiofjejhegaa

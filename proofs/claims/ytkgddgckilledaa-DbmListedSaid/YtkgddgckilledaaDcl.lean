/- The statement DbmListed: what dbm.Cells gives is what gnomonref12.Cells lists, wherever the loop breaks. -/
import Derived.Test.YtkgddgckilledaaDcb
import Derived.Test.YtkgddgckilledaaDbk
namespace Go.Proofs.Ytkgddgckilledaa
open Go.RowKit
attribute [local go_sem] Oper.semAt_some
set_option linter.unusedVariables false
set_option linter.unusedSimpArgs false
open Gn
theorem keepsOthers_of_below {W W' : World} (h : Below W.heap.size W W') : KeepsOthers W W' :=
  ⟨h.size, fun k o hk _ => (h.block k (Array.getElem?_eq_some_iff.1 hk).1).trans hk⟩
theorem frozen_turn2 {w w' : World} {a : Addr} {v : Value} {row : Option Nat} {i : Nat} (h : w.cell? ⟨a.block, 0, none⟩ = some v) (hg : w.grownBy w' row) (hr : ∀ r, row = some r → ∃ o : Obj, w.heap[r]? = some o ∧ o.isCells = false) : w'.frozen? ⟨a.block, i, none⟩ = w.frozen? ⟨a.block, i, none⟩ := by
  obtain ⟨o, ho, hc⟩ := cells_of_cell h
  exact World.frozen?_of_block (grownBy_keeps_cells hg hr ho hc)
theorem cellsL_len (N : Int) (E : Bool) (M : List Int) : (cellsL N E M).length ≤ 16384 := by
  by_cases h : chk N E M = 0 ∧ E = false
  · obtain ⟨h1, rfl⟩ := h
    obtain ⟨n, rfl, hn, _⟩ := chk_zero h1
    rw [cellsL_ok h1]
    refine Nat.le_trans (List.length_filter_le _ _) (Nat.le_trans (pairs_len n) ?_)
    exact Nat.mul_le_mul (show 2 * n ≤ 128 by omega) (show 2 * n ≤ 128 by omega)
  · rw [cellsL_none h]; simp
theorem pv3_get (m : Nat) (M : List Int) : ∀ (ps : List (Nat × Nat)) (i : Nat) (p : Nat × Nat), ps[i]? = some p → (pv3 m M ps)[i * 3]? = some (.int .i64 (p.1 : Int)) ∧ (pv3 m M ps)[i * 3 + 1]? = some (.int .i64 (p.2 : Int)) ∧ (pv3 m M ps)[i * 3 + 2]? = some (.int .i64 (cl m M p.1 p.2))
  | q :: ps, 0, p, h => by
    obtain rfl : q = p := by simpa using h
    refine ⟨rfl, rfl, rfl⟩
  | q :: ps, i + 1, p, h => by
    have := pv3_get m M ps i p (by simpa using h)
    rw [show (i + 1) * 3 = i * 3 + 3 by omega, show i * 3 + 3 + 1 = i * 3 + 1 + 3 by omega, show i * 3 + 3 + 2 = i * 3 + 2 + 3 by omega]
    exact this
/-- A slice of told cells that can be read below block B. -/
def Rd3 (w : World) (B : Nat) (A : Option Addr) (m : Nat) (M : List Int) (ps : List (Nat × Nat)) : Prop :=
  ∀ (i : Nat) (p : Nat × Nat), ps[i]? = some p → ∃ b off, A = some ⟨b, off, none⟩ ∧ b < B ∧ w.cell? ⟨b, off + i * 3, none⟩ = some (.int .i64 (p.1 : Int)) ∧ w.cell? ⟨b, off + i * 3 + 1, none⟩ = some (.int .i64 (p.2 : Int)) ∧ w.cell? ⟨b, off + i * 3 + 2, none⟩ = some (.int .i64 (cl m M p.1 p.2))
theorem Rd3.go {w w' : World} {A : Option Addr} {m : Nat} {M : List Int} {ps : List (Nat × Nat)} {B : Nat} (h : Rd3 w B A m M ps) (hb : Below B w w') : Rd3 w' B A m M ps := fun i p hp => by
  obtain ⟨b, off, e, hlt, h1, h2, h3⟩ := h i p hp
  exact ⟨b, off, e, hlt, (hb.cell (p := ⟨b, _, none⟩) hlt).trans h1, (hb.cell (p := ⟨b, _, none⟩) hlt).trans h2, (hb.cell (p := ⟨b, _, none⟩) hlt).trans h3⟩
theorem rd3_own {w : World} {base : Nat} {e : TypeId} {c m : Nat} {M : List Int} {A : Option Addr} {ps : List (Nat × Nat)} (h : w.ownsRow base e 3 (.slice A ps.length c) ps.length (pv3 m M ps)) : Rd3 w w.heap.size A m M ps := fun i p hp => by
  have hn : 0 < ps.length := by
    rcases Nat.lt_or_ge i ps.length with h' | h'
    · omega
    · rw [List.getElem?_eq_none h'] at hp; cases hp
  rcases h.2 with ⟨hv, h0⟩ | ⟨g, cap, cur, hv, hb, hh, hnc, hcm, hcs, hx⟩
  · omega
  · injection hv with h1 h2 h3
    subst h1
    have hlt := (h.lt g rfl).2
    have key : ∀ j u, (pv3 m M ps)[j]? = some u → w.cell? ⟨g, j, none⟩ = some u := fun j u hu => by
      have := h.cells (g := g) rfl j u hu
      rwa [show (⟨g, 0, none⟩ : Addr).add j = ⟨g, j, none⟩ by unfold Addr.add; split <;> simp_all] at this
    obtain ⟨p1, p2, p3⟩ := pv3_get m M ps i p hp
    exact ⟨g, 0, rfl, hlt, by rw [Nat.zero_add]; exact ⟨key _ _ p1, key _ _ p2, key _ _ p3⟩⟩
/-- A counter in the first block beyond w0: all that w0 held is as it was. -/
structure Lk (w0 X : World) (u : Int) : Prop where
  below : Below w0.heap.size w0 X
  cell : X.cell? ⟨w0.heap.size, 0, none⟩ = some (.int .i64 u)
  fz : X.frozen? ⟨w0.heap.size, 0, none⟩ = false
theorem Lk.lt {w0 X : World} {u : Int} (h : Lk w0 X u) : w0.heap.size < X.heap.size := World.block_lt_of_cell? X ⟨w0.heap.size, 0, none⟩ h.cell
theorem Lk.own {w0 X Y : World} {u : Int} {row : Option Nat} {B : Nat} (hB : w0.heap.size ≤ B) (h : Lk w0 X u) (hg : X.grownBy Y row) (hr : ∀ r, row = some r → B ≤ r ∧ ∃ o : Obj, X.heap[r]? = some o ∧ o.isCells = false) : Lk w0 Y u :=
  ⟨h.below.grown hg h.below.size (fun k e => Nat.le_trans hB (hr k e).1), cell_kept h.cell hg (fun r e => (hr r e).2), (frozen_turn2 (a := ⟨w0.heap.size, 0, none⟩) h.cell hg (fun r e => (hr r e).2)).trans h.fz⟩
theorem Lk.set {w0 X : World} {u : Int} (h : Lk w0 X u) (v : Int) : Lk w0 (X.setCell ⟨w0.heap.size, 0, none⟩ (.int .i64 v)) v :=
  ⟨h.below.setCell (p := ⟨w0.heap.size, 0, none⟩) (Nat.le_refl _) _, by have := h.cell; simp [go_sem, this], by have := h.fz; simp [go_sem, this]⟩
theorem Lk.alloc {w0 X : World} {u : Int} (h : Lk w0 X u) (o : Obj) : Lk w0 (X.alloc o) u :=
  h.own (Nat.le_refl _) (World.grownBy_alloc X o none) (fun r e => by cases e)
theorem Lk.drew {w0 X : World} {u : Int} (h : Lk w0 X u) {Y : World} (hb : Below X.heap.size X Y) : Lk w0 Y u :=
  h.own (row := none) (Nat.le_refl _) ⟨hb.1, hb.2, hb.3, hb.size, fun k hk _ => hb.block k hk⟩ (fun r e => by cases e)
/-- What follows a range over a function within a block, met once. -/
theorem wpIn_cutB {F : Fence} {nF : Nat} {P : Program} {s : Code} {K : Act → World → Prop} {Q' : Exit → Act → World → Prop} {a : Act} {w : World} {i : Nat} (R : Nat → World → Prop)
    (first : ∀ K' : Act → World → Prop, (∀ D w', R D w' → K' { a with defers := { target := .collected D, args := #[] } :: a.defers } w') → s.wpIn F nF P (Exit.inBlock i (Exit.then K' Q')) a w)
    (rest : ∀ D w', R D w' → K { a with defers := { target := .collected D, args := #[] } :: a.defers } w') : s.wpIn F nF P (Exit.inBlock i (Exit.then K Q')) a w := first K rest
theorem pre_get {ps pre : List (Nat × Nat)} {x p : Nat × Nat} (hp : ps[pre.length]? = some p) (h : pre ++ [x] <+: ps) : x = p := by
  obtain ⟨t, rfl⟩ := h
  simpa using hp
theorem enters33 : ∀ args w, (callFunc 33 args).run Try.prog w = .ok (.enter 33 args) w := enters_of Try.func33 (by kernel_rfl) rfl
set_option maxRecDepth 100000 in
set_option maxHeartbeats 8000000 in
theorem law_DbmListed (N : Int) (E : Bool) (A : Option Addr) (c : Nat) (M : List Int) (stop : Int) (w : World) (ho : OctIn w w.heap.size A c N M) :
    Calls Try.prog 3 #[.agg #[.int .i64 N, .bool E, .slice A M.length c], .int .i64 stop] w fun e w' => e = .returned (.bool true) ∧ Below w.heap.size w w' := by
  refine (callsIn_wide (n := 6)).1 ?_
  refine callsIn_of_wp_marks Try.func3 rfl trivial ?_ rfl
  simp only [Try.ntmps3, List.size_toArray, List.length_cons, List.length_nil, Nat.reduceAdd, Nat.reduceSub, Array.replicate_succ, Array.replicate_zero, List.push_toArray, List.append_toArray, List.nil_append, List.cons_append]
  gi_upto_region 1 with fail
  obtain ⟨W, hW⟩ : ∃ W, W = ((w.alloc (.cells #[.int .i64 N, .bool E, .slice A M.length c] /-T-/24)).alloc (.cells #[.int .i64 stop] /-T-/3)).alloc (.cells #[.bool false] /-T-/4) := ⟨_, rfl⟩
  have hs : W.heap.size = w.heap.size + 3 := by rw [hW]; simp
  have k0 : W.cell? ⟨w.heap.size, 0, none⟩ = some (.int .i64 N) := by rw [hW]; simp [go_sem]
  have k1 : W.cell? ⟨w.heap.size, 1, none⟩ = some (.bool E) := by rw [hW]; simp [go_sem]
  have k2 : W.cell? ⟨w.heap.size, 2, none⟩ = some (.slice A M.length c) := by rw [hW]; simp [go_sem]
  have k3 : W.cell? ⟨w.heap.size + 1, 0, none⟩ = some (.int .i64 stop) := by rw [hW]; simp [go_sem]
  have k4 : W.cell? ⟨w.heap.size + 1 + 1, 0, none⟩ = some (.bool false) := by rw [hW]; simp [go_sem]
  have f4 : W.frozen? ⟨w.heap.size + 1 + 1, 0, none⟩ = false := by rw [hW]; simp [go_sem]
  have hB : Below w.heap.size w W := by rw [hW]; exact (((Below.refl _ _).alloc (Nat.le_refl _) _).alloc (by simp) _).alloc (by simp; omega) _
  rw [← hW]
  clear hW
  have hoW := ho.go hB
  gi_upto_region 3 with (refine ⟨trivial, ?_⟩; gi_at_call 9; refine callsIn_w (known12 W) ?_; rintro e w1 ⟨rfl, hb1⟩)
  have m0 := below_cell hb1 k0
  have m1 := below_cell hb1 k1
  have m2 := below_cell hb1 k2
  have m3 := below_cell hb1 k3
  have m4 := below_cell hb1 k4
  have g4 := (hb1.frozen (p := ⟨w.heap.size + 1 + 1, 0, none⟩) (by show w.heap.size + 1 + 1 < _; omega)).trans f4
  have ho1 := hoW.go hb1
  have hB1 := hB.trans (hb1.mono hB.size)
  have hs1 : w.heap.size + 3 ≤ w1.heap.size := by have := hb1.size; omega
  clear k0 k1 k2 k3 k4 f4 hoW hb1 hs hB
  have cR := ref_Cells N E A c M w1 ho1
  gi_upto_region 4 with (refine ⟨trivial, ?_⟩; gi_at_call 10; refine callsIn_w cR ?_; clear cR; rintro e w2 ⟨A1, c1, rfl, hrow, hb2⟩)
  obtain ⟨w3, hw3⟩ : ∃ w3, w3 = w2.alloc (.cells #[.slice A1 (cellsL N E M).length c1] /-T-/26) := ⟨_, rfl⟩
  have hb3 : Below w2.heap.size w2 w3 := by rw [hw3]; exact (Below.refl _ _).alloc (Nat.le_refl _) _
  have n5 : w3.cell? ⟨w2.heap.size, 0, none⟩ = some (.slice A1 (cellsL N E M).length c1) := by rw [hw3]; simp [go_sem]
  have hR3 : Rd3 w3 w3.heap.size A1 (2 * N.toNat) M (cellsL N E M) := by
    intro i p hp
    obtain ⟨b, off, e, hlt, h⟩ := (rd3_own hrow).go hb3 i p hp
    exact ⟨b, off, e, Nat.lt_of_lt_of_le hlt hb3.size, h⟩
  have hb13 := hb2.trans (hb3.mono hb2.size)
  have n0 := below_cell hb13 m0
  have n1 := below_cell hb13 m1
  have n2 := below_cell hb13 m2
  have n3 := below_cell hb13 m3
  have n4 := below_cell hb13 m4
  have g4' := (hb13.frozen (p := ⟨w.heap.size + 1 + 1, 0, none⟩) (by show w.heap.size + 1 + 1 < _; omega)).trans g4
  have ho3 := ho1.go hb13
  have hB3 := hB1.trans (hb13.mono hB1.size)
  have hs3 : w.heap.size + 3 ≤ w3.heap.size := by have := hb13.size; omega
  rw [← hw3]
  clear hw3 m0 m1 m2 m3 m4 g4 ho1 hrow hb3 hb2 hb13 hB1 hs1
  gi_upto_region 5 with (refine ⟨trivial, ?_⟩; gi_at_call 11; refine callsIn_w (dbm_Cells N E _ w3) ?_; rintro e w4 ⟨rfl, rfl⟩)
  obtain ⟨w0, hw0⟩ : ∃ w0, w0 = w3.alloc (.cells #[.int .i64 N, .bool E, .slice A M.length c] /-T-/24) := ⟨_, rfl⟩
  have hb0 : Below w3.heap.size w3 w0 := by rw [hw0]; exact (Below.refl _ _).alloc (Nat.le_refl _) _
  have hbox : OctAt w0 w3.heap.size N E (.slice A M.length c) := by rw [hw0]; exact OctAt.box _ _ _ _ _
  have hBo : w3.heap.size < w0.heap.size := hbox.lt
  have k3 := below_cell hb0 n3
  have k4 := below_cell hb0 n4
  have k5 := below_cell hb0 n5
  have f4 := (hb0.frozen (p := ⟨w.heap.size + 1 + 1, 0, none⟩) (by show w.heap.size + 1 + 1 < _; omega)).trans g4'
  have ho0 := ho3.go hb0
  have hR0 : Rd3 w0 w0.heap.size A1 (2 * N.toNat) M (cellsL N E M) := by
    intro i p hp
    obtain ⟨b, off, e, hlt, h⟩ := hR3.go hb0 i p hp
    exact ⟨b, off, e, Nat.lt_of_lt_of_le hlt hb0.size, h⟩
  have hB0 := hB3.trans (hb0.mono hB3.size)
  have hs0 : w.heap.size + 3 ≤ w0.heap.size := by omega
  rw [← hw0]
  clear hw0 n0 n1 n2 n3 n4 n5 g4' ho3 hR3 hb0 hB3
  generalize w2.heap.size = bL at *
  generalize w3.heap.size = Bo at *
  clear w2 w3 hs3
  gi_upto_region 6 with fail
  obtain ⟨w5, hw5⟩ : ∃ w5, w5 = w0.alloc (.cells #[.int .i64 0] /-T-/3) := ⟨_, rfl⟩
  have hK : Lk w0 w5 0 := by
    rw [hw5]
    exact ⟨(Below.refl _ _).alloc (Nat.le_refl _) _, by simp [go_sem], by simp [go_sem]⟩
  rw [← hw5]
  clear hw5
  gi_wp2
  have hlen := cellsL_len N E M
  refine wpIn_cutB (fun D X => w5.heap.size ≤ D ∧ (∃ u : Nat, Lk w0 X u) ∧ X.heap[D]? = some (.deferred (some []))) ?first ?rest
  case first =>
    intro K' hK'
    refine wpIn_rangeFunc_ownF (F := Fence.wide) rfl (by omega) (gf := 33) (lb := #[.pointer (some ⟨Bo, 0, none⟩)]) rfl trivial enters33
      (cells_stops N E A c M Bo w0 hBo hbox ho0) belowK_t (fun X l o o' hl h h1 h2 => belowK_b (w := w5) hK.below.size X l o o' hl h h1 h2) hK.below (fun _ => rfl)
      (fun pre X => Lk w0 X (pre.length : Nat))
      (fun c' _ X => c' = .exit 0 ∧ ∃ u : Nat, Lk w0 X u)
      (fun s X X' row h hg hr => Lk.own hK.below.size h hg hr)
      (fun _ s X X' row ⟨e, u, h⟩ hg hr => ⟨e, u, Lk.own hK.below.size h hg hr⟩)
      hK ?a1 ?assign ?body ?done ?stop
    case assign =>
      intro l x X K hK
      gi_wp2
      exact hK
    case body =>
      intro l pre x X hI hl
      have m3 := (hI.below.cell (p := ⟨w.heap.size + 1, 0, none⟩) (by show w.heap.size + 1 < _; omega)).trans k3
      have mk := hI.cell
      have fk := hI.fz
      by_cases hst : ((pre.length : Nat) : Int) = stop
      · have d1 : (((pre.length : Nat) : Int) == stop) = true := beq_iff_eq.2 hst
        gi_wp2
        exact ⟨KeepsOthers.refl _, rfl, pre.length, hI⟩
      · have d1 : (((pre.length : Nat) : Int) == stop) = false := beq_eq_false_iff_ne.2 hst
        have hS := Lib.hid (hI.set ((pre.length : Int) + 1))
        have hq : (pre.length : Int) + 1 ≤ 16384 := by omega
        gi_wp2
        refine ⟨KeepsOthers.setCell _ _ _, (Below.refl _ _).setCell (p := ⟨w0.heap.size, 0, none⟩) (Nat.le_refl _) _, ?_⟩
        show Lk w0 _ (((pre ++ [x]).length : Nat) : Int)
        rw [show (((pre ++ [x]).length : Nat) : Int) = (pre.length : Int) + 1 by simp]
        exact hS.out
    case done =>
      intro D xs X hD _ hI hd
      gi_wp2
      exact ⟨hD, ⟨xs.length, hI⟩, hd⟩
    case stop =>
      rintro D c' pre X hD _ ⟨rfl, u, hI⟩ hd
      gi_wp2
      exact ⟨hD, ⟨u, hI⟩, hd⟩
  case rest =>
    rintro D X ⟨hD, ⟨u, hI⟩, hd⟩
    have hD0 : w0.heap.size < D := Nat.lt_of_lt_of_le hK.lt hD
    have mk := hI.cell
    have fk := hI.fz
    have hI0 := hI.set 0
    have hd0 := (KeepsOthers.setCell X ⟨w0.heap.size, 0, none⟩ (.int .i64 0)).same D _ hd rfl
    gi_upto_region 10 with fail
    obtain ⟨X1, hX1⟩ : ∃ X1, X1 = X.setCell ⟨w0.heap.size, 0, none⟩ (.int .i64 0) := ⟨_, rfl⟩
    rw [← hX1] at hI0 hd0 ⊢
    clear hX1 mk fk hI hd
    have hDX : D < X1.heap.size := (Array.getElem?_eq_some_iff.1 hd0).1
    clear hK
    gi_wp2
    refine wpIn_rangeFunc_ownB (F := Fence.wide) rfl (by omega) (gf := 33) (lb := #[.pointer (some ⟨Bo, 0, none⟩)]) rfl trivial enters33
      (cells_stops N E A c M Bo w0 hBo hbox ho0) belowK_t (fun X l o o' hl h h1 h2 => belowK_b (w := X1) hI0.below.size X l o o' hl h h1 h2) hI0.below (fun _ => rfl)
      (fun pre X => Lk w0 X (pre.length : Nat) ∧ X.heap[D]? = some (.deferred (some [])))
      (fun c' pre X => c' = .ret ∧ ¬ pre <+: cellsL N E M)
      (fun s X X' row h hg hr => ⟨Lk.own hI0.below.size h.1 hg hr, (hg.block D (Array.getElem?_eq_some_iff.1 h.2).1 (fun e => by have := (hr D e.symm).1; omega)).trans h.2⟩)
      (fun _ s X X' row h hg hr => h)
      ⟨hI0, hd0⟩
      (fun x b X => X.cell? ⟨b, 0, none⟩ = some (.int .i64 x.1) ∧ X.cell? ⟨b, 1, none⟩ = some (.int .i64 x.2))
      (fun x b _ X X' row h hg hr => ⟨cell_kept h.1 hg (fun r e => (hr r e).2), cell_kept h.2 hg (fun r e => (hr r e).2)⟩)
      ?a2 ?assign ?body ?done ?stop
    case assign =>
      intro l pre x X K hI hK
      have hS := Lib.hid hI
      obtain ⟨X2, hX2⟩ : ∃ X2, X2 = X.alloc (.cells #[.int .i64 x.1, .int .i64 x.2] /-T-/31) := ⟨_, rfl⟩
      have HX2 := Lib.hid hX2
      have hc1 : X2.cell? ⟨X.heap.size, 0, none⟩ = some (.int .i64 x.1) := by rw [hX2]; simp [go_sem]
      have hc2 : X2.cell? ⟨X.heap.size, 1, none⟩ = some (.int .i64 x.2) := by rw [hX2]; simp [go_sem]
      have q1 : KeepsFrom X1.heap.size X X2 := by rw [hX2]; exact (KeepsOthers.alloc X _).from _
      have q2 : Below w0.heap.size X X2 := by rw [hX2]; exact (Below.refl _ _).alloc (Nat.le_of_lt hI.1.lt) _
      have q3 : Lk w0 X2 (pre.length : Nat) ∧ X2.heap[D]? = some (.deferred (some [])) := by
        rw [hX2]; exact ⟨hI.1.alloc _, (KeepsOthers.alloc X _).same D _ hI.2 rfl⟩
      clear hI hX2
      have hK2 := fun b => hK b X2 q1 q2 q3
      clear hK q1 q2 q3
      gi_wp2
      rw [← HX2.out]
      generalize X.heap.size = b at *
      exact hK2 b ⟨hc1, hc2⟩
    case body =>
      rintro l pre x b X ⟨hI, hdI⟩ ⟨hc1, hc2⟩ hl
      obtain ⟨p, hp⟩ : ∃ p, (cellsL N E M)[pre.length]? = some p := ⟨_, List.getElem?_eq_getElem hl⟩
      have HX := Lib.hid (show pre ++ [x] <+: cellsL N E M → x = p from pre_get hp)
      obtain ⟨g, off, rfl, hg, r0, r1, r2⟩ := hR0 _ _ hp
      have m5 := (hI.below.cell (p := ⟨bL, 0, none⟩) (by have := World.block_lt_of_cell? w0 ⟨bL, 0, none⟩ k5; exact this)).trans k5
      have m4 := (hI.below.cell (p := ⟨w.heap.size + 1 + 1, 0, none⟩) (by show w.heap.size + 1 + 1 < _; omega)).trans k4
      have g4 := (hI.below.frozen (p := ⟨w.heap.size + 1 + 1, 0, none⟩) (by show w.heap.size + 1 + 1 < _; omega)).trans f4
      have s0 := (hI.below.cell (p := ⟨g, _, none⟩) hg).trans r0
      have s1 := (hI.below.cell (p := ⟨g, _, none⟩) hg).trans r1
      have s2 := (hI.below.cell (p := ⟨g, _, none⟩) hg).trans r2
      have mk := hI.cell
      have a0 := After.cell m5
      have a1 := After.cell mk
      have a2 := After.cell hc1
      have a3 := After.cell hc2
      have a4 := After.cell s0
      have a5 := After.cell s1
      have a6 := After.cell s2
      have d1 : decide ((cellsL N E M).length ≤ pre.length) = false := decide_eq_false (by omega)
      have d2 : ((pre.length : Nat) : Int) < (((cellsL N E M).length : Nat) : Int) := by omega
      have d3 : (0 : Int) ≤ ((pre.length : Nat) : Int) := by omega
      clear hp hg r0 r1 r2 s0 s1 s2 hc1 hc2 m5
      by_cases hxp : x = p
      · subst hxp
        have hne : ∀ W, (binOp .neq 31 (.agg #[.int .i64 x.1, .int .i64 x.2]) (.agg #[.int .i64 x.1, .int .i64 x.2])).run Try.prog W = .ok (.bool false) W := fun W => by rw [run_neq_struct, run_eql2 _ (by kernel_rfl), decide_eq_true ⟨rfl, rfl⟩]; rfl
        have hq : (pre.length : Int) + 1 ≤ 16384 := by omega
        generalize hk : pre.length = k at *
        have HK := Lib.hid hk
        clear hk
        gi_upto_region 13 with fail
        refine wpIn_region_afterR (by kernel_rfl) (by kernel_rfl) (by kernel_rfl) ?_
        repeat (go_big_quiet_step (fail))
        refine wpQuiet_nil ?_
        intro w9 hb9
        refine ⟨rfl, ?_⟩
        have hI9 := hI.drew hb9
        have hd9 : w9.heap[D]? = some (.deferred (some [])) := (hb9.block D (Array.getElem?_eq_some_iff.1 hdI).1).trans hdI
        have hS := Lib.hid (hI9.set ((k : Int) + 1))
        have hSd := Lib.hid ((KeepsOthers.setCell w9 ⟨w0.heap.size, 0, none⟩ (.int .i64 ((k : Int) + 1))).same D _ hd9 rfl)
        have hKF := Lib.hid (((keepsOthers_of_below hb9).trans (KeepsOthers.setCell w9 ⟨w0.heap.size, 0, none⟩ (.int .i64 ((k : Int) + 1)))).from X1.heap.size)
        have hKp := Lib.hid ((hb9.mono hI.below.size).setCell (p := ⟨w0.heap.size, 0, none⟩) (Nat.le_refl _) (.int .i64 ((k : Int) + 1)))
        have mk9 := hI9.cell
        have fk9 := hI9.fz
        clear a0 a1 a2 a3 a4 a5 a6 d1 d2 d3 mk hI hdI hI9 hd9 hb9 m4 g4 hne
        gi_wp2
        refine ⟨hKF.out, hKp.out, ?_⟩
        show Lk w0 _ (((pre ++ [x]).length : Nat) : Int) ∧ _
        rw [show (((pre ++ [x]).length : Nat) : Int) = (k : Int) + 1 by rw [← HK.out]; simp]
        exact ⟨hS.out, hSd.out⟩
      · have hne : ∀ W, (binOp .neq 31 (.agg #[.int .i64 x.1, .int .i64 x.2]) (.agg #[.int .i64 p.1, .int .i64 p.2])).run Try.prog W = .ok (.bool true) W := fun W => by
          rw [run_neq_struct, run_eql2 _ (by kernel_rfl), decide_eq_false (fun h => hxp (Prod.ext (by omega) (by omega)))]; rfl
        have HN := Lib.hid (show ¬ (pre ++ [x] <+: cellsL N E M) from fun h => hxp (HX.out h))
        clear hxp HX
        generalize pre.length = k at *
        gi_upto_region 13 with fail
        refine wpIn_region_afterR (by kernel_rfl) (by kernel_rfl) (by kernel_rfl) ?_
        repeat (go_big_quiet_step (fail))
        refine wpQuiet_nil ?_
        intro w9 hb9
        refine ⟨rfl, ?_⟩
        have m9 := below_cell hb9 m4
        have g9 := (hb9.frozen (p := ⟨w.heap.size + 1 + 1, 0, none⟩) (World.block_lt_of_cell? X _ m4)).trans g4
        have hKF := Lib.hid (((keepsOthers_of_below hb9).trans (KeepsOthers.setCell w9 ⟨w.heap.size + 1 + 1, 0, none⟩ (.bool false))).from X1.heap.size)
        clear a0 a1 a2 a3 a4 a5 a6 d1 d2 d3 mk hI hdI hb9 m4 g4 hne
        gi_wp2
        exact ⟨hKF.out, rfl, HN.out⟩
    case done =>
      rintro D2 xs X hD2 rfl ⟨hI, hdI⟩ hd2
      have m5 := (hI.below.cell (p := ⟨bL, 0, none⟩) (by have := World.block_lt_of_cell? w0 ⟨bL, 0, none⟩ k5; exact this)).trans k5
      have m4 := (hI.below.cell (p := ⟨w.heap.size + 1 + 1, 0, none⟩) (by show w.heap.size + 1 + 1 < _; omega)).trans k4
      have g4 := (hI.below.frozen (p := ⟨w.heap.size + 1 + 1, 0, none⟩) (by show w.heap.size + 1 + 1 < _; omega)).trans f4
      have mk := hI.cell
      have hE : Below w.heap.size w (X.setCell ⟨w.heap.size + 1 + 1, 0, none⟩ (.bool true)) := (hB0.trans (hI.below.mono (by omega))).setCell (p := ⟨w.heap.size + 1 + 1, 0, none⟩) (by show w.heap.size ≤ w.heap.size + 1 + 1; omega) _
      have h2 := (KeepsOthers.setCell X ⟨w.heap.size + 1 + 1, 0, none⟩ (.bool true)).same D2 _ hd2 rfl
      have h1 := (KeepsOthers.setCell X ⟨w.heap.size + 1 + 1, 0, none⟩ (.bool true)).same D _ hdI rfl
      have hr : (X.setCell ⟨w.heap.size + 1 + 1, 0, none⟩ (.bool true)).cell? ⟨w.heap.size + 1 + 1, 0, none⟩ = some (.bool true) := by simp [go_sem, m4]
      have hne : D ≠ D2 := by omega
      have HH := Lib.hid (And.intro hE (And.intro h2 (And.intro h1 hr)))
      clear hE h2 h1 hr hd2 hdI hI hd0 hI0 k3 k4 k5 f4
      generalize (cellsL N E M).length = L at *
      gi_wp2
      obtain ⟨hE, h2, h1, hr⟩ := HH.out
      generalize X.setCell ⟨w.heap.size + 1 + 1, 0, none⟩ (.bool true) = Y at *
      have h3 : (Y.putObj D2 (.deferred none)).heap[D]? = some (.deferred (some [])) := (World.putObj_heap_other hne).trans h1
      refine ⟨by simp, .inl ⟨_, _, rfl, run_takeDeferred h2, ⟨by simp, .inl ⟨_, _, rfl, run_takeDeferred h3, ?_⟩⟩⟩⟩
      have c1 := cell_kept hr (grownBy_putObj' _ D2 (.deferred none)) (fun r e => by cases e; exact ⟨_, h2, rfl⟩)
      have c2 := cell_kept c1 (grownBy_putObj' _ D (.deferred none)) (fun r e => by cases e; exact ⟨_, h3, rfl⟩)
      refine ⟨.bool true, by simp [results, Try.f3, go_sem, c2], rfl, Below.trans (b := Y) hE (Below.trans (b := Y.putObj D2 (.deferred none)) ?_ ?_)⟩
      · exact belowK_b (w := w) (Nat.le_refl _) _ D2 _ _ (by omega) h2 rfl rfl
      · exact belowK_b (w := w) (Nat.le_refl _) _ D _ _ (by omega) h3 rfl rfl
    case stop =>
      rintro D2 c' pre X hD2 hpre ⟨rfl, hno⟩ hd2
      exact absurd hpre hno
end Go.Proofs.Ytkgddgckilledaa

/- Walks: a cell bounded: Bound and With, of the packages dbm and gnomonref12. -/
import Derived.Test.YtkgddgckilledaaOctK
import Derived.Test.YtkgddgckilledaaBndW
namespace Go.Proofs.Ytkgddgckilledaa
open Go.RowKit
set_option linter.unusedVariables false
set_option linter.unusedSimpArgs false
namespace Gn
/-- A cell and its mirror bounded. -/
def boundM (m : Nat) (M : List Int) (i j : Nat) (c : Int) : List Int := (M.set (i * m + j) (min (cl m M i j) (asB c))).set (ac j * m + ac i) (min (cl m M i j) (asB c))
theorem boundM_len (m : Nat) (M : List Int) (i j : Nat) (c : Int) : (boundM m M i j c).length = M.length := by simp [boundM]
theorem cl_boundM {m : Nat} {M : List Int} {i j : Nat} {c : Int} (h : M.length = m * m) (hi : i < m) (hj : j < m) (hi' : ac i < m) (hj' : ac j < m) {a b : Nat} (hb : b < m) :
    cl m (boundM m M i j c) a b = if (a = i ∧ b = j) ∨ (a = ac j ∧ b = ac i) then min (cl m M i j) (asB c) else cl m M a b := by
  unfold boundM
  rw [cl_set (by rw [List.length_set]; exact h) hj' hi' hb, cl_set h hi hj hb]
  by_cases h1 : a = ac j ∧ b = ac i
  · rw [if_pos h1, if_pos (.inr h1)]
  · rw [if_neg h1]
    by_cases h2 : a = i ∧ b = j
    · rw [if_pos h2, if_pos (.inl h2)]
    · rw [if_neg h2, if_neg (by rintro (h | h); exact h2 h; exact h1 h)]
end Gn
open Gn
/-- The same without a word on what was there before. -/
structure BoxR (w W : World) (N : Int) (E : Bool) (v : Value) : Prop where
  c0 : W.cell? ⟨w.heap.size, 0, none⟩ = some (.int .i64 N)
  c1 : W.cell? ⟨w.heap.size, 1, none⟩ = some (.bool E)
  c2 : W.cell? ⟨w.heap.size, 2, none⟩ = some v
  r0 : W.cell? ⟨w.heap.size + 1, 0, none⟩ = some (.int .i64 0)
  r1 : W.cell? ⟨w.heap.size + 1, 1, none⟩ = some (.bool false)
  r2 : W.cell? ⟨w.heap.size + 1, 2, none⟩ = some (.slice none 0 0)
  fc : ∀ i, W.frozen? ⟨w.heap.size, i, none⟩ = false
  fr : ∀ i, W.frozen? ⟨w.heap.size + 1, i, none⟩ = false
  lt : w.heap.size + 1 < W.heap.size
theorem BoxRes.r {w W : World} {N : Int} {E : Bool} {v : Value} (h : BoxRes w W N E v) : BoxR w W N E v := ⟨h.c0, h.c1, h.c2, h.r0, h.r1, h.r2, h.fc, h.fr, h.lt⟩
theorem BoxR.go {w W W' : World} {N : Int} {E : Bool} {v : Value} (h : BoxR w W N E v) (hb : Below W.heap.size W W') : BoxR w W' N E v :=
  ⟨below_cell hb h.c0, below_cell hb h.c1, below_cell hb h.c2, below_cell hb h.r0, below_cell hb h.r1, below_cell hb h.r2,
    fun i => (hb.frozen (p := ⟨w.heap.size, i, none⟩) (Nat.lt_of_succ_lt h.lt)).trans (h.fc i), fun i => (hb.frozen (p := ⟨w.heap.size + 1, i, none⟩) h.lt).trans (h.fr i), Nat.lt_of_lt_of_le h.lt hb.size⟩
theorem BoxR.only {w W W' : World} {N : Int} {E : Bool} {v : Value} {g : Nat} (h : BoxR w W N E v) (hg : W.grownBy W' (some g)) (h1 : g ≠ w.heap.size) (h2 : g ≠ w.heap.size + 1) : BoxR w W' N E v :=
  ⟨only_cell hg h.c0 (Ne.symm h1), only_cell hg h.c1 (Ne.symm h1), only_cell hg h.c2 (Ne.symm h1), only_cell hg h.r0 (Ne.symm h2), only_cell hg h.r1 (Ne.symm h2), only_cell hg h.r2 (Ne.symm h2),
    fun i => only_frozen hg (h.fc i) (Nat.lt_of_succ_lt h.lt) (Ne.symm h1), fun i => only_frozen hg (h.fr i) h.lt (Ne.symm h2), Nat.lt_of_lt_of_le h.lt hg.size⟩
theorem Ow.blockOf {w : World} {base c : Nat} {e : TypeId} {k : IntKind} {A : Option Addr} {xs : List Int} (h : Ow w base e k A c xs) (hl : 0 < xs.length) : ∃ g, A = some ⟨g, 0, none⟩ ∧ base ≤ g ∧ g < w.heap.size := by
  rcases h.form with ⟨_, _, rfl⟩ | ⟨g, hA, h1, h2, _⟩
  · simp at hl
  · exact ⟨g, hA, h1, h2⟩
theorem ref_Bound_same (n : Nat) (E : Bool) (A : Option Addr) (ln c : Nat) (i : Nat) (b : Int) (w : World) (hb : ¬ b < 0) :
    Calls Try.prog 51 #[.agg #[.int .i64 n, .bool false, .slice A ln c], .int .i64 i, .int .i64 i, .int .i64 b] w fun e w' => e = .returned (.agg #[.int .i64 n, .bool false, .slice A ln c]) ∧ Below w.heap.size w w' := by
  have cN := fun W => near_as b W
  have hbb : ¬ asB b < 0 := by unfold asB; split <;> (try split) <;> omega
  generalize asB b = d at *
  go_enter Try.func51, Try.ntmps51
  go_wp2_with (go_at_call 72; with_reducible refine (cN _).mono ?_; rintro e w' ⟨rfl, rfl⟩)
  refine bodyPost_ret (v := .agg #[.int .i64 n, .bool false, .slice A ln c]) (by simp [results, Try.results51, go_sem]) rfl ⟨rfl, ?_⟩
  exact ((Below.refl _ _).alloc (Nat.le_refl _) _).alloc (by simp) _
theorem ref_Bound_none (n : Nat) (A : Option Addr) (ln c : Nat) (i : Nat) (b : Int) (w : World) (hb : b < 0) :
    Calls Try.prog 51 #[.agg #[.int .i64 n, .bool false, .slice A ln c], .int .i64 i, .int .i64 i, .int .i64 b] w fun e w' => e = .returned (.agg #[.int .i64 n, .bool true, .slice none 0 0]) ∧ Below w.heap.size w w' := by
  have cN := fun W => near_as b W
  have cE := fun W => ref_Empty n W
  have hbb : asB b < 0 := by unfold asB; split <;> (try split) <;> omega
  obtain ⟨W, hW, hR, hs⟩ := box_res w 24 n false (.slice A ln c)
  generalize asB b = d at *
  go_enter Try.func51, Try.ntmps51
  go_wp2_with (go_at_call 72; with_reducible refine (cN _).mono ?_; rintro e w' ⟨rfl, rfl⟩)
  rw [← hW]
  clear hW
  refine (cE _).mono ?_
  rintro e w1 ⟨rfl, hb1⟩
  obtain ⟨c0, c1, c2, r0, r1, r2, fc, fr, hB, hl⟩ := hR.go hb1
  go_wp2_with fail
  refine bodyPost_ret (v := .agg #[.int .i64 n, .bool true, .slice none 0 0]) (by simp [results, Try.results51, go_sem, r0, r1, r2]) rfl ⟨rfl, ?_⟩
  exact ((hB.setCell (by simp) _).setCell (by simp) _).setCell (by simp) _
theorem ref_Bound_empty (n : Nat) (A : Option Addr) (ln c : Nat) (i j : Int) (b : Int) (w : World) :
    Calls Try.prog 51 #[.agg #[.int .i64 n, .bool true, .slice A ln c], .int .i64 i, .int .i64 j, .int .i64 b] w fun e w' => e = .returned (.agg #[.int .i64 n, .bool true, .slice A ln c]) ∧ Below w.heap.size w w' := by
  go_enter Try.func51, Try.ntmps51
  go_wp2_with fail
  refine bodyPost_ret (v := .agg #[.int .i64 n, .bool true, .slice A ln c]) (by simp [results, Try.results51, go_sem]) rfl ⟨rfl, ?_⟩
  exact ((Below.refl _ _).alloc (Nat.le_refl _) _).alloc (by simp) _
set_option maxHeartbeats 1000000 in
theorem ref_Bound (n : Nat) (g c : Nat) (M : List Int) (i j : Nat) (b : Int) (w : World) (base : Nat) (hn : n ≤ 64) (hM : M.length = (2 * n) * (2 * n)) (ho : Ow w base 2 .i64 (some ⟨g, 0, none⟩) c M) (hi : i < 2 * n) (hj : j < 2 * n) (hij : i ≠ j) :
    Calls Try.prog 51 #[.agg #[.int .i64 n, .bool false, .slice (some ⟨g, 0, none⟩) M.length c], .int .i64 i, .int .i64 j, .int .i64 b] w fun e w' =>
      e = .returned (.agg #[.int .i64 n, .bool false, .slice (some ⟨g, 0, none⟩) M.length c]) ∧ Ow w' base 2 .i64 (some ⟨g, 0, none⟩) c (boundM (2 * n) M i j b) ∧ w.grownBy w' (some g) := by
  have cN := fun W => near_as b W
  have cI := fun W => ref_Across i W (by omega)
  have cJ := fun W => ref_Across j W (by omega)
  have hai := ac_lt hi
  have haj := ac_lt hj
  have hb1 : (((i : Nat) : Int) == j) = false := beq_eq_false_iff_ne.2 (by omega)
  obtain ⟨W, hW, hR, hs⟩ := box_res w 24 n false (.slice (some ⟨g, 0, none⟩) M.length c)
  have hoW := ho.below (hR.below)
  have hG0 : w.grownBy W (some g) := only_of_below hR.below _
  have hgl := (ho.blockGe).2
  have hlt := hR.lt
  obtain ⟨k0, k1, k2, r0, r1, r2, fc, fr, _, _⟩ := id hR
  have hMq : M.length ≤ 16384 := by rw [hM, sq2]; exact sq_le hn
  have hp : i * (2 * n) + j < M.length := by rw [hM]; exact idx_lt hi hj
  have hp' : ac j * (2 * n) + ac i < M.length := by rw [hM]; exact idx_lt haj hai
  have hcv := hoW.cellAt hp
  have hfv := hoW.frozenAt (i * (2 * n) + j)
  have e1 : (i : Int) * (2 * (n : Int)) = ((i * (2 * n) : Nat) : Int) := by push_cast; rfl
  have e2 : ((ac j : Nat) : Int) * (2 * (n : Int)) = ((ac j * (2 * n) : Nat) : Int) := by push_cast; rfl
  have hbd : boundM (2 * n) M i j b = (M.set (i * (2 * n) + j) (min (cl (2 * n) M i j) (asB b))).set (ac j * (2 * n) + ac i) (min (cl (2 * n) M i j) (asB b)) := rfl
  have hcl : cl (2 * n) M i j = nth M (i * (2 * n) + j) := rfl
  rw [hcl] at hbd
  have hvm : ∀ v d : Int, (d < v → min v d = d) ∧ (¬ d < v → min v d = v) := fun v d => ⟨fun h => by omega, fun h => by omega⟩
  have hvm := hvm (nth M (i * (2 * n) + j)) (asB b)
  have HB := Lib.hid hbd
  have HL := Lib.hid hM
  clear hbd hcl hM
  obtain ⟨u, hu⟩ : ∃ u, u = min (nth M (i * (2 * n) + j)) (asB b) := ⟨_, rfl⟩
  rw [← hu] at HB hvm
  generalize nth M (i * (2 * n) + j) = v at *
  generalize asB b = d at *
  clear hu
  have b1 : i * (2 * n) + j < 16384 := by omega
  have b2 : ac j * (2 * n) + ac i < 16384 := by omega
  generalize i * (2 * n) = p at *
  generalize ac j * (2 * n) = p' at *
  generalize ac i = ai at *
  generalize ac j = aj at *
  have cO := hoW.cap
  obtain ⟨hv1, hv2⟩ := hvm
  have hgne : g ≠ w.heap.size := by omega
  have hgne' : g ≠ w.heap.size + 1 := by omega
  have hchoose : (d < v ∧ u = d) ∨ (¬ d < v ∧ u = v) := by by_cases h : d < v; exact .inl ⟨h, hv1 h⟩; exact .inr ⟨h, hv2 h⟩
  clear hv1 hv2
  go_enter Try.func51, Try.ntmps51
  go_wp2_with (go_at_call 72; with_reducible refine (cN _).mono ?_; rintro e w' ⟨rfl, rfl⟩)
  rw [← hW]
  clear hW
  have a0 := After.cell k0
  have a2 := After.cell k2
  have a3 := After.cell hcv
  have q1 : ((p + j : Nat) : Int) < (M.length : Int) := by omega
  have q2 : (0 : Int) ≤ ((p + j : Nat) : Int) := by omega
  have q3 : ((p : Int) + (j : Int)) < (M.length : Int) := by omega
  have q4 : (0 : Int) ≤ (p : Int) + (j : Int) := by omega
  refine wp_region_mix [(19, 1)] (by kernel_rfl) (by kernel_rfl) ?_
  simp only [wpMix, List.take_succ_cons, List.take_zero, List.drop_succ_cons, List.drop_zero]
  have hm : (if d < v then d else v) = u := by rcases hchoose with ⟨h, rfl⟩ | ⟨h, rfl⟩; exact if_pos h; exact if_neg (by omega)
  clear hchoose
  repeat (go_big_quiet_step (fail))
  refine wpQuiet_nil ?_
  intro w1 hb1
  have hR1 := hR.r.go hb1
  have hO1 := hoW.below hb1
  have hcv1 := below_cell hb1 hcv
  have hf1 := hO1.frozenAt (p + j)
  have hG1 := only_below hG0 hb1
  have hO1' := hO1.set (p + j) u
  have hG1' := only_setCell (p := ⟨g, p + j, none⟩) hG1 (.inl rfl) (.int .i64 u)
  have hR1' := hR1.only (only_setCell (p := ⟨g, p + j, none⟩) (World.grownBy.refl w1 (some g)) (.inl rfl) (.int .i64 u)) hgne hgne'
  clear hb1 hO1 hG1 hR1 hm a0 a2 a3 k0 k1 k2 hcv hfv hoW hG0 r0 r1 r2 fc fr hR q1 q2 q3 q4
  go_wp2_with fail
  refine mixQ_normal (wpQuiet_nil ?_)
  intro w2 hb2
  have hO2 := hO1'.below hb2
  have hG2 := only_below hG1' hb2
  have hR2 := hR1'.go hb2
  clear hO1' hG1' hR1' hcv1 hf1 hb2
  obtain ⟨k0, k1, k2, r0, r1, r2, fc, fr, hl2⟩ := id hR2
  have hl : (M.set (p + j) u).length = M.length := List.length_set
  have hcv := hO2.cellAt (i := p + j) (by rw [hl]; exact hp)
  rw [nth_set_same hp] at hcv
  have hcv' := hO2.cellAt (i := p' + ai) (by rw [hl]; exact hp')
  have hfv' := hO2.frozenAt (p' + ai)
  go_wp2_with fail
  have a0 := After.cell k0
  have a2 := After.cell k2
  have a3 := After.cell hcv
  have q3 : ((p : Int) + (j : Int)) < (M.length : Int) := by omega
  have q4 : (0 : Int) ≤ (p : Int) + (j : Int) := by omega
  have q5 : ((p' : Int) + (ai : Int)) < (M.length : Int) := by omega
  have q6 : (0 : Int) ≤ (p' : Int) + (ai : Int) := by omega
  refine wp_region_mix [(19, 1)] (by kernel_rfl) (by kernel_rfl) ?_
  simp only [wpMix, List.take_succ_cons, List.take_zero, List.drop_succ_cons, List.drop_zero]
  repeat (go_big_quiet_step (first | (go_at_call 53; with_reducible exact after_same (cJ _)) | (go_at_call 53; with_reducible exact after_same (cI _))))
  refine wpQuiet_nil ?_
  intro w3 hb3
  have hO3 := hO2.below hb3
  have hG3 := only_below hG2 hb3
  have hR3 := hR2.go hb3
  have hcv3 := below_cell hb3 hcv'
  have hf3 := hO3.frozenAt (p' + ai)
  have hO3' := hO3.set (p' + ai) u
  have hG3' := only_setCell (p := ⟨g, p' + ai, none⟩) hG3 (.inl rfl) (.int .i64 u)
  have hR3' := hR3.only (only_setCell (p := ⟨g, p' + ai, none⟩) (World.grownBy.refl w3 (some g)) (.inl rfl) (.int .i64 u)) hgne hgne'
  clear hb3 hO3 hG3 hR3 a0 a2 a3 k0 k1 k2 hcv hcv' hfv' hO2 hG2 r0 r1 r2 fc fr hR2 q3 q4 q5 q6 hl2
  go_wp2_with fail
  refine mixQ_normal (wpQuiet_nil ?_)
  intro w4 hb4
  have hO4 := hO3'.below hb4
  have hG4 := only_below hG3' hb4
  obtain ⟨k0, k1, k2, r0, r1, r2, fc, fr, hl4⟩ := hR3'.go hb4
  clear hO3' hG3' hR3' hb4 hcv3 hf3
  go_wp2_with fail
  refine bodyPost_ret (v := .agg #[.int .i64 n, .bool false, .slice (some ⟨g, 0, none⟩) M.length c]) (by simp [results, Try.results51, go_sem, r0, r1, r2]) rfl ⟨rfl, ?_, ?_⟩
  · rw [HB.out]
    have s := fun (X : World) (o : Nat) (v : Value) => only_setCell (p := ⟨w.heap.size + 1, o, none⟩) (World.grownBy.refl X (some (w.heap.size + 1))) (.inl rfl) v
    exact ((hO4.other' (s _ 0 _) (Ne.symm hgne')).other' (s _ 1 _) (Ne.symm hgne')).other' (s _ 2 _) (Ne.symm hgne')
  · exact only_setCell (only_setCell (only_setCell hG4 (.inr (by simp)) _) (.inr (by simp)) _) (.inr (by simp)) _
end Go.Proofs.Ytkgddgckilledaa

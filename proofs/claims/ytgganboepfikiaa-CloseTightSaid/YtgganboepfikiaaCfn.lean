/- Plain: where the numbers are small no sum of closing saturates. No program in sight. -/
import Derived.Test.YtgganboepfikiaaCid
namespace Go.Proofs.Ytgganboepfikiaa
open Go.RowKit
set_option linter.unusedVariables false
set_option linter.unusedSimpArgs false
namespace Gn
/-- Inf, or small. -/
def Fn (L v : Int) : Prop := v = 9223372036854775807 ∨ (-L ≤ v ∧ v ≤ L)
def allF (m : Nat) (L : Int) (X : List Int) : Prop := ∀ a, a < m → ∀ b, b < m → Fn L (cl m X a b)
theorem fn_more {L K v : Int} (h : Fn L v) (hk : L ≤ K) : Fn K v := by unfold Fn at *; omega
theorem fn_plus {K L a b : Int} (ha : Fn K a) (hb : Fn L b) (hA : Bd a) (hB : Bd b) (h : K + L ≤ 4611686018427387904) : Fn (K + L) (plus a b) ∧ sat a b = false := by
  have hs : sat a b = false := by rw [sat_iff, asB_of hA, asB_of hB]; unfold Fn at *; omega
  refine ⟨?_, hs⟩
  rw [plus_exact hA hB hs]
  unfold Fn at *
  split <;> omega
theorem fn_less {L a b : Int} (ha : Fn L a) (hb : Fn L b) (hA : Bd a) (hB : Bd b) : Fn L (less a b) := by rw [less_eq hA hB]; unfold Fn at *; omega
def wB (B D : Int) (k a b : Nat) : Int := if a = k ∧ b = k then 2 * D else if a = k ∨ b = k then B + 2 * D else 2 * B + 4 * D
/-- A round of paths: how great numbers grow at most. -/
theorem round_fin {m k : Nat} {X : List Int} {s : Bool} {B D : Int} (hl : X.length = m * m) (hB : allB X) (hk : k < m) (h0 : 0 ≤ D) (h1 : D ≤ B) (h2 : 2 * B + 4 * D ≤ 4611686018427387904) (hX : allF m B X) (hD : Fn D (cl m X k k)) :
    allF m (2 * B + 4 * D) (pI m k m (X, s)).1 ∧ (pI m k m (X, s)).2 = s := by
  have key := lp2_inv (fun i j => pStep m k i j) (fun i j S => S.1.length = m * m ∧ allB S.1 ∧ S.2 = s ∧
     (∀ a, a < m → ∀ b, b < m → Fn (if a < i ∨ (a = i ∧ b < j) then wB B D k a b else if a = k ∧ b = k then D else B) (cl m S.1 a b))) m (X, s)
     ⟨hl, hB, rfl, fun a ha b hb => ?_⟩ ?_ ?_
  · refine ⟨fun a ha b hb => ?_, key.2.2.1⟩
    have := key.2.2.2 a ha b hb
    rw [if_pos (.inl ha)] at this
    exact fn_more this (by unfold wB; repeat' split
                           all_goals omega)
  · rw [if_neg (by omega)]
    by_cases h : a = k ∧ b = k
    · rw [if_pos h, h.1, h.2]; exact hD
    · rw [if_neg h]; exact hX a ha b hb
  · rintro i hi j hj S ⟨l1, l2, l3, l4⟩
    have f1 := l4 i hi k hk
    have f2 := l4 k hk j hj
    have f3 := l4 i hi j hj
    have hle : (if i < i ∨ (i = i ∧ k < j) then wB B D k i k else if i = k ∧ k = k then D else B) + (if k < i ∨ (k = i ∧ j < j) then wB B D k k j else if k = k ∧ j = k then D else B) ≤ wB B D k i j := by
      unfold wB
      repeat' split
      all_goals omega
    have hw : wB B D k i j ≤ 4611686018427387904 := by
      unfold wB
      repeat' split
      all_goals omega
    have hw3 : (if i < i ∨ (i = i ∧ j < j) then wB B D k i j else if i = k ∧ j = k then D else B) ≤ wB B D k i j := by
      unfold wB
      repeat' split
      all_goals omega
    obtain ⟨g1, g2⟩ := fn_plus f1 f2 (cl_bd l2 _ _) (cl_bd l2 _ _) (by omega)
    refine ⟨by rw [pStep_len, l1], allB_p l2, ?_, fun a ha b hb => ?_⟩
    · show (S.2 || sat (cl m S.1 i k) (cl m S.1 k j)) = s
      rw [g2, Bool.or_false, l3]
    · rw [cl_pStep l1 hi hj hb]
      by_cases hab : a = i ∧ b = j
      · obtain ⟨rfl, rfl⟩ := hab
        rw [if_pos (show a = a ∧ b = b from ⟨rfl, rfl⟩), if_pos (show a < a ∨ (a = a ∧ b < b + 1) by omega)]
        exact fn_less (fn_more f3 hw3) (fn_more g1 hle) (cl_bd l2 _ _) (plus_bd _ _)
      · rw [if_neg hab]
        have := l4 a ha b hb
        by_cases h : a < i ∨ (a = i ∧ b < j)
        · rw [if_pos h] at this; rw [if_pos (by omega)]; exact this
        · rw [if_neg h] at this; rw [if_neg (by omega)]; exact this
  · rintro i hi S ⟨l1, l2, l3, l4⟩
    refine ⟨l1, l2, l3, fun a ha b hb => ?_⟩
    have := l4 a ha b hb
    by_cases h : a < i ∨ (a = i ∧ b < m)
    · rw [if_pos h] at this; rw [if_pos (by omega)]; exact this
    · rw [if_neg h] at this; rw [if_neg (by omega)]; exact this
def tw : Nat → Int → Int
  | 0, B => B
  | k + 1, B => 2 * tw k B
theorem tw_pos {B : Int} (h : 0 ≤ B) : ∀ k, 0 ≤ tw k B
  | 0 => h
  | k + 1 => by have := tw_pos h k; show 0 ≤ 2 * tw k B; omega
theorem tw_le {B : Int} (h : 0 ≤ B) (k : Nat) : ∀ d, tw k B ≤ tw (k + d) B
  | 0 => Int.le_refl _
  | d + 1 => by have := tw_le h k d; have := tw_pos h (k + d); show _ ≤ 2 * tw (k + d) B; omega
/-- Where the first r sides have a point. -/
theorem paths_fin {m r : Nat} {M x : List Int} {B : Int} (hl : M.length = m * m) (hB : allB M) (hr : r ≤ m) (hx : Pt r m M x) (hd : ∀ a, a < m → cl m M a a = 0) (hF : allF m B M) (h0 : 0 ≤ B) (h1 : tw r B ≤ 4611686018427387904) :
    ∀ k, k ≤ r → allF m (tw k B) (pK m k (M, false)).1 ∧ (pK m k (M, false)).2 = false
  | 0, _ => ⟨hF, rfl⟩
  | k + 1, hk => by
    obtain ⟨i1, i2⟩ := paths_fin hl hB hr hx hd hF h0 h1 k (by omega)
    have f := form_pK (m := m) (k := k) (S := (M, false)) ⟨hl, hB⟩
    have p := pt_pK (S := (M, false)) ⟨hl, hB⟩ hr hx k (by omega)
    have d1 := p k (by omega) k (by omega)
    rw [apartV_self] at d1
    have d2 := (le_pK (m := m) (S := (M, false)) hB k).2 (k * m + k)
    have d3 := hd k (by omega)
    have t := tw_le h0 (k + 1) (r - (k + 1))
    rw [show k + 1 + (r - (k + 1)) = r by omega] at t
    have t2 : tw (k + 1) B = 2 * tw k B := rfl
    have t3 := tw_pos h0 k
    have hz : cl m (pK m k (M, false)).1 k k = 0 := by
      unfold ok at d1
      unfold cl at *
      dsimp only at d2
      omega
    have := round_fin (D := 0) (s := (pK m k (M, false)).2) f.1 f.2 (show k < m by omega) (Int.le_refl _) t3 (by omega) i1 (by unfold Fn; omega)
    refine ⟨fun a ha b hb => ?_, this.2.trans i2⟩
    exact fn_more (this.1 a ha b hb) (by omega)
theorem paths_fin6 {m k : Nat} {M : List Int} {B : Int} (hl : M.length = m * m) (hB : allB M) (hk : k < m) (h0 : 0 ≤ B) (h1 : 6 * B ≤ 4611686018427387904) (h : allF m B (pK m k (M, false)).1 ∧ (pK m k (M, false)).2 = false) :
    allF m (6 * B) (pK m (k + 1) (M, false)).1 ∧ (pK m (k + 1) (M, false)).2 = false := by
  have f := form_pK (m := m) (k := k) (S := (M, false)) ⟨hl, hB⟩
  have := round_fin (D := B) (s := (pK m k (M, false)).2) f.1 f.2 hk h0 (Int.le_refl _) (by omega) h.1 (h.1 k hk k hk)
  exact ⟨fun a ha b hb => fn_more (this.1 a ha b hb) (by omega), this.2.trans h.2⟩
theorem fn_even {L v : Int} (h : Fn L v) (hv : Bd v) : Fn (L + 1) (even v) := by
  unfold even
  rw [asB_of hv]
  unfold Fn at *
  split
  · exact .inl rfl
  · omega
/-- No sum saturates. -/
theorem closeM_nosat {n : Nat} {M : List Int} {B : Int} (hl : M.length = (2 * n) * (2 * n)) (hB : allB M) (hP : allF (2 * n) B (paths (2 * n) (M, false)).1) (hs : (paths (2 * n) (M, false)).2 = false) (h : 2 * B + 2 ≤ 4611686018427387904) : (closeM (2 * n) M).2 = false := by
  have f1 := form_pK (m := 2 * n) (k := 2 * n) (S := (M, false)) ⟨hl, hB⟩
  have f1 : (paths (2 * n) (M, false)).1.length = (2 * n) * (2 * n) ∧ allB (paths (2 * n) (M, false)).1 := f1
  unfold closeM
  dsimp only
  generalize paths (2 * n) (M, false) = S at *
  have f2 : (mirrors (2 * n) S.1).length = (2 * n) * (2 * n) ∧ allB (mirrors (2 * n) S.1) := ⟨(mI_len _ _ _).trans f1.1, allB_mI f1.2⟩
  have f3 : (evens (2 * n) (mirrors (2 * n) S.1)).length = (2 * n) * (2 * n) ∧ allB (evens (2 * n) (mirrors (2 * n) S.1)) := ⟨(eI_len _ _ _).trans f2.1, allB_eI f2.2⟩
  have hY : allF (2 * n) (B + 1) (evens (2 * n) (mirrors (2 * n) S.1)) := fun a ha b hb => by
    have hX : Fn B (cl (2 * n) (mirrors (2 * n) S.1) a b) := by
      rw [cl_mirrors f1.1 f1.2 a ha b hb]
      exact fn_less (hP a ha b hb) (hP _ (ac_lt hb) _ (ac_lt ha)) (cl_bd f1.2 _ _) (cl_bd f1.2 _ _)
    rw [cl_evens f2.1 a ha b hb]
    split
    · exact fn_even hX (cl_bd f2.2 _ _)
    · exact fn_more hX (by omega)
  have hS : (sides (2 * n) (evens (2 * n) (mirrors (2 * n) S.1)) S.2).2 = false :=
    sides_iff.2.2 ⟨hs, fun a ha => (fn_plus (hY a ha _ (ac_lt ha)) (hY _ (ac_lt ha) a ha) (cl_bd f3.2 _ _) (cl_bd f3.2 _ _) (by omega)).2⟩
  split
  · exact hs
  · split
    · exact hS
    · exact (cl_strong f3.1 f3.2).2.2 ⟨hS, fun a ha b hb _ => (fn_plus (hY a ha _ (ac_lt ha)) (hY _ (ac_lt hb) b hb) (cl_bd f3.2 _ _) (cl_bd f3.2 _ _) (by omega)).2⟩
end Gn
end Go.Proofs.Ytgganboepfikiaa

/- Plain: what the steps of closing make of each cell. No program in sight. -/
import Derived.Test.YtkgddgckilledaaCrm
import Derived.Test.YtkgddgckilledaaCls
namespace Go.Proofs.Ytkgddgckilledaa
open Go.RowKit
set_option linter.unusedVariables false
set_option linter.unusedSimpArgs false
namespace Gn
theorem lp2_inv {α : Type} (f : Nat → Nat → α → α) (I : Nat → Nat → α → Prop) (m : Nat) (S : α) (h0 : I 0 0 S) (hs : ∀ i, i < m → ∀ j, j < m → ∀ S, I i j S → I i (j + 1) (f i j S)) (hr : ∀ i, i < m → ∀ S, I i m S → I (i + 1) 0 S) : I m 0 (lp (fun i => lp (f i) m) m S) :=
  lp_inv _ (fun i S => I i 0 S) m S h0 fun i hi S h => hr i hi _ (lp_inv (f i) (fun j S => I i j S) m S h fun j hj S h => hs i hi j hj S h)
theorem less_comm (a b : Int) : less a b = less b a := by unfold less; omega
theorem less_eq {a b : Int} (ha : Bd a) (hb : Bd b) : less a b = min a b := by unfold less; rw [asB_of ha, asB_of hb]
theorem plus_zero {a : Int} (ha : Bd a) : plus a 0 = a := by
  unfold plus
  rw [asB_of ha, asB_of (show Bd 0 by unfold Bd; omega)]
  split
  · omega
  · rw [Int.add_zero, asB_of ha]
theorem zero_plus {a : Int} (ha : Bd a) : plus 0 a = a := by rw [plus_comm]; exact plus_zero ha
theorem less_same {a : Int} (ha : Bd a) : less a a = a := by rw [less_eq ha ha]; omega
theorem less_of_le {a b : Int} (ha : Bd a) (hb : Bd b) (h : a ≤ b) : less a b = a := by rw [less_eq ha hb]; omega
/-- A half of twice is not below. -/
theorem half_self {a : Int} (ha : Bd a) : a ≤ half (plus a a) := by
  by_cases hi : a = 9223372036854775807
  · subst hi; decide
  · have h2 : plus a a = asB (a + a) := by unfold plus; rw [asB_of ha, if_neg (by omega)]
    rw [h2]
    unfold half
    rw [asB_idem]
    unfold Bd at ha
    unfold asB
    repeat' split
    all_goals omega
theorem cl_bd {m : Nat} {X : List Int} (h : allB X) (i j : Nat) : Bd (cl m X i j) := h _
theorem cl_pStep {m k i j : Nat} {S : MS} (hl : S.1.length = m * m) (hi : i < m) (hj : j < m) {a b : Nat} (hb : b < m) :
    cl m (pStep m k i j S).1 a b = if a = i ∧ b = j then less (cl m S.1 i j) (plus (cl m S.1 i k) (cl m S.1 k j)) else cl m S.1 a b := by
  unfold pStep; exact cl_set hl hi hj hb
/-- A round of paths, at a side that has no way back below 0. -/
theorem round {m k : Nat} {X : List Int} {s : Bool} (hl : X.length = m * m) (hB : allB X) (hk : k < m) (hd : cl m X k k = 0) :
    (∀ a, a < m → ∀ b, b < m → cl m (pI m k m (X, s)).1 a b = less (cl m X a b) (plus (cl m X a k) (cl m X k b))) ∧
    ((pI m k m (X, s)).2 = false → s = false ∧ ∀ a, a < m → ∀ b, b < m → sat (cl m X a k) (cl m X k b) = false) := by
  have key := lp2_inv (fun i j => pStep m k i j) (fun i j S => S.1.length = m * m ∧
     (∀ a, a < m → ∀ b, b < m → cl m S.1 a b = if a < i ∨ (a = i ∧ b < j) then less (cl m X a b) (plus (cl m X a k) (cl m X k b)) else cl m X a b) ∧
     (S.2 = false → s = false ∧ ∀ a, a < m → ∀ b, b < m → (a < i ∨ (a = i ∧ b < j)) → sat (cl m X a k) (cl m X k b) = false)) m (X, s)
     ⟨hl, fun a _ b _ => (if_neg (by omega)).symm, fun h => ⟨h, fun a _ b _ h => by omega⟩⟩ ?_ ?_
  · refine ⟨fun a ha b hb => ?_, fun h => ?_⟩
    · have := key.2.1 a ha b hb
      rw [if_pos (.inl ha)] at this
      exact this
    · have := key.2.2 h
      exact ⟨this.1, fun a ha b hb => this.2 a ha b hb (.inl ha)⟩
  · rintro i hi j hj S ⟨h1, h2, h3⟩
    have e1 : cl m S.1 i k = cl m X i k := by
      rw [h2 i hi k hk, hd, plus_zero (cl_bd hB _ _), less_same (cl_bd hB _ _)]; split <;> rfl
    have e2 : cl m S.1 k j = cl m X k j := by
      rw [h2 k hk j hj, hd, zero_plus (cl_bd hB _ _), less_same (cl_bd hB _ _)]; split <;> rfl
    have e3 : cl m S.1 i j = cl m X i j := by rw [h2 i hi j hj, if_neg (by omega)]
    refine ⟨by rw [pStep_len, h1], fun a ha b hb => ?_, fun h => ?_⟩
    · rw [cl_pStep h1 hi hj hb, e1, e2, e3]
      by_cases hab : a = i ∧ b = j
      · rw [if_pos hab, if_pos (by omega), hab.1, hab.2]
      · rw [if_neg hab, h2 a ha b hb]
        by_cases h : a < i ∨ (a = i ∧ b < j)
        · rw [if_pos h, if_pos (by omega)]
        · rw [if_neg h, if_neg (by omega)]
    · have hs : (S.2 || sat (cl m S.1 i k) (cl m S.1 k j)) = false := h
      rw [Bool.or_eq_false_iff, e1, e2] at hs
      obtain ⟨h4, h5⟩ := h3 hs.1
      refine ⟨h4, fun a ha b hb hab => ?_⟩
      by_cases he : a = i ∧ b = j
      · rw [he.1, he.2]; exact hs.2
      · exact h5 a ha b hb (by omega)
  · rintro i hi S ⟨h1, h2, h3⟩
    refine ⟨h1, fun a ha b hb => ?_, fun h => ⟨(h3 h).1, fun a ha b hb hab => (h3 h).2 a ha b hb (by omega)⟩⟩
    rw [h2 a ha b hb]
    by_cases h : a < i ∨ (a = i ∧ b < m)
    · rw [if_pos h, if_pos (by omega)]
    · rw [if_neg h, if_neg (by omega)]
theorem cl_mStep {n i j : Nat} {X : List Int} (hl : X.length = (2 * n) * (2 * n)) (hi : i < 2 * n) (hj : j < 2 * n) {a b : Nat} (hb : b < 2 * n) :
    cl (2 * n) (mStep (2 * n) i j X) a b = if (a = i ∧ b = j) ∨ (a = ac j ∧ b = ac i) then less (cl (2 * n) X i j) (cl (2 * n) X (ac j) (ac i)) else cl (2 * n) X a b := by
  have hp : i * (2 * n) + j < X.length := by rw [hl]; exact idx_lt hi hj
  unfold mStep
  rw [cl_set (by rw [List.length_set]; exact hl) (ac_lt hj) (ac_lt hi) hb, nth_set_same hp, cl_set hl hi hj hb]
  by_cases h1 : a = ac j ∧ b = ac i
  · rw [if_pos h1, if_pos (.inr h1)]; rfl
  · rw [if_neg h1]
    by_cases h2 : a = i ∧ b = j
    · rw [if_pos h2, if_pos (.inl h2)]; rfl
    · rw [if_neg h2, if_neg (fun h => h.elim h2 h1)]
theorem cl_mirrors {n : Nat} {X : List Int} (hl : X.length = (2 * n) * (2 * n)) (hB : allB X) (a : Nat) (ha : a < 2 * n) (b : Nat) (hb : b < 2 * n) :
    cl (2 * n) (mirrors (2 * n) X) a b = less (cl (2 * n) X a b) (cl (2 * n) X (ac b) (ac a)) := by
  have key := lp2_inv (fun i j => mStep (2 * n) i j) (fun i j Z => Z.length = (2 * n) * (2 * n) ∧
     (∀ a, a < 2 * n → ∀ b, b < 2 * n → cl (2 * n) Z a b = if (a < i ∨ (a = i ∧ b < j)) ∨ (ac b < i ∨ (ac b = i ∧ ac a < j)) then less (cl (2 * n) X a b) (cl (2 * n) X (ac b) (ac a)) else cl (2 * n) X a b)) (2 * n) X
     ⟨hl, fun a _ b _ => (if_neg (by omega)).symm⟩ ?_ ?_
  · have := key.2 a ha b hb
    rw [if_pos (.inl (.inl ha))] at this
    exact this
  · rintro i hi j hj Z ⟨h1, h2⟩
    have hai := ac_lt hi
    have haj := ac_lt hj
    refine ⟨by rw [mStep_len, h1], fun a ha b hb => ?_⟩
    have hv : less (cl (2 * n) Z i j) (cl (2 * n) Z (ac j) (ac i)) = less (cl (2 * n) X i j) (cl (2 * n) X (ac j) (ac i)) := by
      have b1 : Bd (cl (2 * n) X i j) := cl_bd hB _ _
      have b2 : Bd (cl (2 * n) X (ac j) (ac i)) := cl_bd hB _ _
      rw [h2 i hi j hj, h2 (ac j) haj (ac i) hai, ac_ac, ac_ac, less_comm (cl (2 * n) X (ac j) (ac i)) (cl (2 * n) X i j)]
      by_cases h : (i < i ∨ (i = i ∧ j < j)) ∨ (ac j < i ∨ (ac j = i ∧ ac i < j))
      · rw [if_pos h, if_pos (by omega), less_same (less_bd _ _)]
      · rw [if_neg h, if_neg (by omega)]
    rw [cl_mStep h1 hi hj hb, hv]
    by_cases h3 : (a = i ∧ b = j) ∨ (a = ac j ∧ b = ac i)
    · rw [if_pos h3]
      rcases h3 with ⟨rfl, rfl⟩ | ⟨rfl, rfl⟩
      · rw [if_pos (by omega)]
      · rw [if_pos (by rw [ac_ac, ac_ac]; omega), ac_ac, ac_ac, less_comm]
    · rw [if_neg h3, h2 a ha b hb]
      have h4 : ¬ (ac b = i ∧ ac a = j) := fun h => h3 (.inr ⟨by rw [← h.2, ac_ac], by rw [← h.1, ac_ac]⟩)
      by_cases h : (a < i ∨ (a = i ∧ b < j)) ∨ (ac b < i ∨ (ac b = i ∧ ac a < j))
      · rw [if_pos h, if_pos (by omega)]
      · rw [if_neg h, if_neg (by omega)]
  · rintro i hi Z ⟨h1, h2⟩
    refine ⟨h1, fun a ha b hb => ?_⟩
    have haa := ac_lt ha
    have hab := ac_lt hb
    rw [h2 a ha b hb]
    by_cases h : (a < i ∨ (a = i ∧ b < 2 * n)) ∨ (ac b < i ∨ (ac b = i ∧ ac a < 2 * n))
    · rw [if_pos h, if_pos (by omega)]
    · rw [if_neg h, if_neg (by omega)]
theorem cl_evens {n : Nat} {X : List Int} (hl : X.length = (2 * n) * (2 * n)) (a : Nat) (ha : a < 2 * n) (b : Nat) (hb : b < 2 * n) :
    cl (2 * n) (evens (2 * n) X) a b = if b = ac a then even (cl (2 * n) X a b) else cl (2 * n) X a b := by
  have key := lp_inv (eStep (2 * n)) (fun i Z => Z.length = (2 * n) * (2 * n) ∧ ∀ a, a < 2 * n → ∀ b, b < 2 * n → cl (2 * n) Z a b = if a < i ∧ b = ac a then even (cl (2 * n) X a b) else cl (2 * n) X a b) (2 * n) X
    ⟨hl, fun a _ b _ => (if_neg (by omega)).symm⟩ ?_
  · have := key.2 a ha b hb
    by_cases h : b = ac a
    · rw [if_pos ⟨ha, h⟩] at this; rw [if_pos h]; exact this
    · rw [if_neg (fun k => h k.2)] at this; rw [if_neg h]; exact this
  · rintro i hi Z ⟨h1, h2⟩
    refine ⟨by simp [eStep, h1], fun a ha b hb => ?_⟩
    unfold eStep
    rw [cl_set h1 hi (ac_lt hi) hb]
    have h3 := h2 i hi (ac i) (ac_lt hi)
    rw [if_neg (by omega)] at h3
    by_cases h : a = i ∧ b = ac i
    · rw [if_pos h, if_pos (by rw [h.1]; exact ⟨by omega, h.2⟩)]
      obtain ⟨rfl, rfl⟩ := h
      rw [← h3]; rfl
    · rw [if_neg h, h2 a ha b hb]
      by_cases h4 : a < i ∧ b = ac a
      · rw [if_pos h4, if_pos ⟨by omega, h4.2⟩]
      · rw [if_neg h4, if_neg (by
          rintro ⟨h5, h6⟩
          by_cases h7 : a = i
          · subst h7; exact h ⟨rfl, h6⟩
          · exact h4 ⟨by omega, h6⟩)]
theorem loops_iff {m : Nat} {X : List Int} : loops m X = true ↔ ∃ a, a < m ∧ cl m X a a < 0 := by
  have key := lp_inv (fun i e => e || decide (nth X (i * m + i) < 0)) (fun i e => e = true ↔ ∃ a, a < i ∧ cl m X a a < 0) m false ?_ ?_
  · exact key
  · simp
  · rintro i hi e h
    rw [Bool.or_eq_true, h, decide_eq_true_eq]
    constructor
    · rintro (⟨a, h1, h2⟩ | h1)
      · exact ⟨a, by omega, h2⟩
      · exact ⟨i, by omega, h1⟩
    · rintro ⟨a, h1, h2⟩
      by_cases h3 : a = i
      · subst h3; exact .inr h2
      · exact .inl ⟨a, by omega, h2⟩
theorem sides_iff {m : Nat} {X : List Int} {s : Bool} : ((sides m X s).1 = true ↔ ∃ a, a < m ∧ plus (cl m X a (ac a)) (cl m X (ac a) a) < 0) ∧
    ((sides m X s).2 = false ↔ s = false ∧ ∀ a, a < m → sat (cl m X a (ac a)) (cl m X (ac a) a) = false) := by
  have key := lp_inv (sStep m X) (fun i S => (S.1 = true ↔ ∃ a, a < i ∧ plus (cl m X a (ac a)) (cl m X (ac a) a) < 0) ∧ (S.2 = false ↔ s = false ∧ ∀ a, a < i → sat (cl m X a (ac a)) (cl m X (ac a) a) = false)) m (false, s) ?_ ?_
  · exact key
  · exact ⟨by simp, by simp⟩
  · rintro i hi S ⟨h1, h2⟩
    constructor
    · show (decide (plus (cl m X i (ac i)) (cl m X (ac i) i) < 0) || S.1) = true ↔ _
      rw [Bool.or_eq_true, h1, decide_eq_true_eq]
      constructor
      · rintro (h3 | ⟨a, h3, h4⟩)
        · exact ⟨i, by omega, h3⟩
        · exact ⟨a, by omega, h4⟩
      · rintro ⟨a, h3, h4⟩
        by_cases h5 : a = i
        · subst h5; exact .inl h4
        · exact .inr ⟨a, by omega, h4⟩
    · show (S.2 || sat (cl m X i (ac i)) (cl m X (ac i) i)) = false ↔ _
      rw [Bool.or_eq_false_iff, h2]
      constructor
      · rintro ⟨⟨h3, h4⟩, h5⟩
        refine ⟨h3, fun a ha => ?_⟩
        by_cases h6 : a = i
        · subst h6; exact h5
        · exact h4 a (by omega)
      · rintro ⟨h3, h4⟩
        exact ⟨⟨h3, fun a ha => h4 a (by omega)⟩, h4 i (by omega)⟩
theorem cl_strong {n : Nat} {Y : List Int} {s : Bool} (hl : Y.length = (2 * n) * (2 * n)) (hB : allB Y) :
    (∀ a, a < 2 * n → ∀ b, b < 2 * n → cl (2 * n) (strong (2 * n) (Y, s)).1 a b = if a = b then cl (2 * n) Y a b else less (cl (2 * n) Y a b) (half (plus (cl (2 * n) Y a (ac a)) (cl (2 * n) Y (ac b) b)))) ∧
    ((strong (2 * n) (Y, s)).2 = false ↔ s = false ∧ ∀ a, a < 2 * n → ∀ b, b < 2 * n → a ≠ b → sat (cl (2 * n) Y a (ac a)) (cl (2 * n) Y (ac b) b) = false) := by
  have key := lp2_inv (fun i j => tStep (2 * n) i j) (fun i j S => S.1.length = (2 * n) * (2 * n) ∧
     (∀ a, a < 2 * n → ∀ b, b < 2 * n → cl (2 * n) S.1 a b = if (a < i ∨ (a = i ∧ b < j)) ∧ a ≠ b then less (cl (2 * n) Y a b) (half (plus (cl (2 * n) Y a (ac a)) (cl (2 * n) Y (ac b) b))) else cl (2 * n) Y a b) ∧
     (S.2 = false ↔ s = false ∧ ∀ a, a < 2 * n → ∀ b, b < 2 * n → (a < i ∨ (a = i ∧ b < j)) → a ≠ b → sat (cl (2 * n) Y a (ac a)) (cl (2 * n) Y (ac b) b) = false)) (2 * n) (Y, s)
     ⟨hl, fun a _ b _ => (if_neg (by omega)).symm, ⟨fun h => ⟨h, fun a _ b _ h => by omega⟩, fun h => h.1⟩⟩ ?_ ?_
  · refine ⟨fun a ha b hb => ?_, ?_⟩
    · have := key.2.1 a ha b hb
      by_cases hab : a = b
      · rw [if_neg (fun k => k.2 hab)] at this; rw [if_pos hab]; exact this
      · rw [if_pos ⟨.inl ha, hab⟩] at this; rw [if_neg hab]; exact this
    · have := key.2.2
      constructor
      · intro h; obtain ⟨h1, h2⟩ := this.1 h; exact ⟨h1, fun a ha b hb hab => h2 a ha b hb (.inl ha) hab⟩
      · rintro ⟨h1, h2⟩; exact this.2 ⟨h1, fun a ha b hb _ hab => h2 a ha b hb hab⟩
  · rintro i hi j hj S ⟨h1, h2, h3⟩
    have hself : ∀ a, a < 2 * n → cl (2 * n) S.1 a (ac a) = cl (2 * n) Y a (ac a) := by
      intro a ha
      rw [h2 a ha (ac a) (ac_lt ha), ac_ac, less_of_le (cl_bd hB _ _) (half_bd _) (half_self (cl_bd hB _ _))]
      split <;> rfl
    have hself' : cl (2 * n) S.1 (ac j) j = cl (2 * n) Y (ac j) j := by
      have := hself (ac j) (ac_lt hj)
      rwa [ac_ac] at this
    by_cases hij : i = j
    · have e : tStep (2 * n) i j S = S := by unfold tStep; rw [if_pos hij]
      rw [e]
      refine ⟨h1, fun a ha b hb => ?_, h3.trans ⟨fun h => ⟨h.1, fun a ha b hb hab hne => h.2 a ha b hb (by omega) hne⟩, fun h => ⟨h.1, fun a ha b hb hab hne => h.2 a ha b hb (by omega) hne⟩⟩⟩
      rw [h2 a ha b hb]
      by_cases h : (a < i ∨ (a = i ∧ b < j)) ∧ a ≠ b
      · rw [if_pos h, if_pos (by omega)]
      · rw [if_neg h, if_neg (by omega)]
    · have e : tStep (2 * n) i j S = (S.1.set (i * (2 * n) + j) (less (cl (2 * n) S.1 i j) (half (plus (cl (2 * n) S.1 i (ac i)) (cl (2 * n) S.1 (ac j) j)))), S.2 || sat (cl (2 * n) S.1 i (ac i)) (cl (2 * n) S.1 (ac j) j)) := by
        unfold tStep; rw [if_neg hij]; rfl
      have e3 : cl (2 * n) S.1 i j = cl (2 * n) Y i j := by rw [h2 i hi j hj, if_neg (by omega)]
      rw [e, hself i hi, hself', e3]
      refine ⟨by rw [List.length_set, h1], fun a ha b hb => ?_, ?_⟩
      · rw [cl_set h1 hi hj hb]
        by_cases hab : a = i ∧ b = j
        · rw [if_pos hab, if_pos (by omega), hab.1, hab.2]
        · rw [if_neg hab, h2 a ha b hb]
          by_cases h : (a < i ∨ (a = i ∧ b < j)) ∧ a ≠ b
          · rw [if_pos h, if_pos (by omega)]
          · rw [if_neg h, if_neg (by omega)]
      · dsimp only
        rw [Bool.or_eq_false_iff, h3]
        constructor
        · rintro ⟨⟨h4, h5⟩, h6⟩
          refine ⟨h4, fun a ha b hb hab hne => ?_⟩
          by_cases he : a = i ∧ b = j
          · rw [he.1, he.2]; exact h6
          · exact h5 a ha b hb (by omega) hne
        · rintro ⟨h4, h5⟩
          exact ⟨⟨h4, fun a ha b hb hab hne => h5 a ha b hb (by omega) hne⟩, h5 i hi j hj (by omega) hij⟩
  · rintro i hi S ⟨h1, h2, h3⟩
    refine ⟨h1, fun a ha b hb => ?_, h3.trans ⟨fun h => ⟨h.1, fun a ha b hb hab hne => h.2 a ha b hb (by omega) hne⟩, fun h => ⟨h.1, fun a ha b hb hab hne => h.2 a ha b hb (by omega) hne⟩⟩⟩
    rw [h2 a ha b hb]
    by_cases h : (a < i ∨ (a = i ∧ b < 2 * n)) ∧ a ≠ b
    · rw [if_pos h, if_pos (by omega)]
    · rw [if_neg h, if_neg (by omega)]
end Gn
end Go.Proofs.Ytkgddgckilledaa

/- Plain: With has just the points that keep to the bound. No program in sight. -/
import Derived.Test.YtkgddgckilledaaOctD
import Derived.Test.YtkgddgckilledaaHat
namespace Go.Proofs.Ytkgddgckilledaa
open Go.RowKit
namespace Gn
theorem ac_div (i : Nat) : ac i / 2 = i / 2 := by unfold ac; split <;> omega
theorem ac_mod (i : Nat) : (ac i % 2 = 1) ↔ ¬ (i % 2 = 1) := by unfold ac; split <;> omega
theorem sideV_ac (x : List Int) (i : Nat) : sideV x (ac i) = -sideV x i := by
  unfold sideV
  rw [ac_div]
  by_cases h : i % 2 = 1
  · rw [if_neg (fun k => (ac_mod i).1 k h), if_pos h]; omega
  · rw [if_pos ((ac_mod i).2 h), if_neg h]
theorem apartV_ac (x : List Int) (i j : Nat) : apartV x (ac j) (ac i) = apartV x i j := by
  unfold apartV; rw [sideV_ac, sideV_ac]; omega
theorem apartV_self (x : List Int) (i : Nat) : apartV x i i = 0 := by unfold apartV; omega
theorem bd_min {a b : Int} (ha : Bd a) (hb : Bd b) : Bd (min a b) := by unfold Bd at *; omega
theorem ac_inj {a b : Nat} (h : ac a = ac b) : a = b := by rw [← ac_ac a, h, ac_ac]
/-- A bound laid keeps the form. -/
theorem okM_bound {n : Nat} {M : List Int} {i j : Nat} {c : Int} (hl : M.length = (2 * n) * (2 * n)) (hok : okM (2 * n) M) (hi : i < 2 * n) (hj : j < 2 * n) (hij : i ≠ j) : okM (2 * n) (boundM (2 * n) M i j c) := by
  have hai := ac_lt hi
  have haj := ac_lt hj
  intro a ha b hb
  have haa := ac_lt ha
  have hab := ac_lt hb
  have h0 := hok a ha b hb
  have h1 := hok i hi j hj
  have hc1 := cl_boundM (c := c) hl hi hj hai haj (a := a) hb
  have hc2 := cl_boundM (c := c) hl hi hj hai haj (a := ac b) haa
  have hbd := bd_min ((isB_iff _).1 h1.1) (asB_bd c)
  by_cases h : (a = i ∧ b = j) ∨ (a = ac j ∧ b = ac i)
  · rw [if_pos h] at hc1
    rw [if_pos (by rcases h with ⟨rfl, rfl⟩ | ⟨rfl, rfl⟩; exact .inr ⟨rfl, rfl⟩; exact .inl ⟨ac_ac _, ac_ac _⟩)] at hc2
    refine ⟨?_, fun e => ?_, ?_⟩
    · rw [hc1]; exact (isB_iff _).2 hbd
    · exfalso
      rcases h with ⟨rfl, rfl⟩ | ⟨rfl, rfl⟩
      · exact hij e
      · exact hij (ac_inj e).symm
    · rw [hc1, hc2]
  · rw [if_neg h] at hc1
    rw [if_neg (by
      rintro (⟨h1, h2⟩ | ⟨h1, h2⟩)
      · exact h (.inr ⟨by rw [← h2, ac_ac], by rw [← h1, ac_ac]⟩)
      · exact h (.inl ⟨ac_inj h2, ac_inj h1⟩))] at hc2
    unfold okC
    rw [hc1, hc2]
    exact h0
theorem chk_bound {n : Nat} {M : List Int} {i j : Nat} {c : Int} (h : chk n false M = 0) (hi : i < 2 * n) (hj : j < 2 * n) (hij : i ≠ j) : chk n false (boundM (2 * n) M i j c) = 0 := by
  obtain ⟨m, hm, hn, _, h0⟩ := chk_zero h
  obtain rfl : n = m := by omega
  obtain ⟨hl, hok⟩ := h0 rfl
  exact chk_ok hn (by rw [boundM_len, hl]) (okM_bound (by rw [hl, sq2]) hok hi hj hij)
theorem hasM_bound {n : Nat} {M x : List Int} {i j : Nat} {c : Int} (hl : M.length = (2 * n) * (2 * n)) (hok : okM (2 * n) M) (hi : i < 2 * n) (hj : j < 2 * n) :
    hasM (2 * n) (boundM (2 * n) M i j c) x ↔ hasM (2 * n) M x ∧ (asB c = 9223372036854775807 ∨ apartV x i j ≤ asB c) := by
  have hai := ac_lt hi
  have haj := ac_lt hj
  have h1 := hok i hi j hj
  have hv := (isB_iff _).1 h1.1
  have hcb := asB_bd c
  have hm := apartV_ac x i j
  have key : (min (cl (2 * n) M i j) (asB c) = 9223372036854775807 ∨ apartV x i j ≤ min (cl (2 * n) M i j) (asB c)) ↔ (okP (2 * n) M x i j ∧ (asB c = 9223372036854775807 ∨ apartV x i j ≤ asB c)) := by
    unfold okP; unfold Bd at hv hcb; omega
  have hsym : okP (2 * n) M x (ac j) (ac i) ↔ okP (2 * n) M x i j := by unfold okP; rw [← h1.2.2, hm]
  constructor
  · intro H
    have h2 := H i hi j hj
    unfold okP at h2
    rw [cl_boundM hl hi hj hai haj hj, if_pos (.inl ⟨rfl, rfl⟩)] at h2
    have h2 := key.1 h2
    refine ⟨fun a ha b hb => ?_, h2.2⟩
    by_cases h : (a = i ∧ b = j) ∨ (a = ac j ∧ b = ac i)
    · rcases h with ⟨rfl, rfl⟩ | ⟨rfl, rfl⟩
      · exact h2.1
      · exact hsym.2 h2.1
    · have h3 := H a ha b hb
      unfold okP at h3
      rw [cl_boundM hl hi hj hai haj hb, if_neg h] at h3
      exact h3
  · rintro ⟨H, hc⟩ a ha b hb
    unfold okP
    rw [cl_boundM hl hi hj hai haj hb]
    by_cases h : (a = i ∧ b = j) ∨ (a = ac j ∧ b = ac i)
    · rw [if_pos h]
      have h2 := key.2 ⟨H i hi j hj, hc⟩
      rcases h with ⟨rfl, rfl⟩ | ⟨rfl, rfl⟩
      · exact h2
      · rw [hm]; exact h2
    · rw [if_neg h]; exact H a ha b hb
/-- Does a difference keep to a bound? -/
def keepB (v c : Int) : Bool := decide (4611686018427387904 < c ∨ v ≤ asB c)
theorem keepB_iff {v c : Int} : keepB v c = true ↔ (asB c = 9223372036854775807 ∨ v ≤ asB c) ∨ (4611686018427387904 < c) := by
  unfold keepB; rw [decide_eq_true_eq]
  constructor
  · rintro (h | h)
    · exact .inr h
    · exact .inl (.inr h)
  · rintro ((h | h) | h)
    · left; unfold asB at h; split at h <;> (try split at h) <;> omega
    · exact .inr h
    · exact .inl h
theorem asB_great {c : Int} (h : 4611686018427387904 < c) : asB c = 9223372036854775807 := by unfold asB; rw [if_neg (by omega), if_pos h]
theorem asB_fits {c : Int} (h : ¬ 4611686018427387904 < c) : asB c = max c (-4611686018427387904) := by unfold asB; split <;> (try split) <;> omega
/-- The law. -/
theorem withP_has {N : Int} {E : Bool} {M x : List Int} {i j c : Int} (he : (withP N E M i j c).2 = 0) (hx : (x.length : Int) = N) :
    ∃ n a b : Nat, N = n ∧ n ≤ 64 ∧ i = a ∧ j = b ∧ a < 2 * n ∧ b < 2 * n ∧ hasO (withP N E M i j c).1.1 (withP N E M i j c).1.2.1 (withP N E M i j c).1.2.2 x = (hasO N E M x && keepB (apartV x a b) c) := by
  by_cases hc : chk N E M = 0
  · obtain ⟨n, rfl, hn, hE1, hE0⟩ := chk_zero hc
    by_cases hin : inM n i j = true
    · obtain ⟨a, b, rfl, rfl, ha, hb⟩ := inM_iff.1 hin
      refine ⟨n, a, b, rfl, hn, rfl, rfl, ha, hb, ?_⟩
      rcases E with _ | _
      · obtain ⟨hl, hok⟩ := hE0 rfl
        have hl' : M.length = (2 * n) * (2 * n) := by rw [hl, sq2]
        by_cases hab : a = b
        · subst hab
          by_cases hneg : c < 0
          · rw [withP_none hc hin hneg]
            have h1 : hasO n true [] x = false := hasO_no (fun h => by cases h.2.1)
            have h2 : keepB (apartV x a a) c = false := by
              unfold keepB; rw [apartV_self]
              exact decide_eq_false (by unfold asB; split <;> (try split) <;> omega)
            simp [h1, h2]
          · rw [withP_same hc hin hneg]
            have h2 : keepB (apartV x a a) c = true := by
              unfold keepB; rw [apartV_self]
              exact decide_eq_true (by unfold asB; split <;> (try split) <;> omega)
            simp [h2]
        · rw [withP_in hc hin hab]
          have hxl : x.length = n := by omega
          rw [hasO_eq (chk_bound hc ha hb hab) hxl, hasO_eq hc hxl, Bool.eq_iff_iff]
          simp only [Bool.and_eq_true, decide_eq_true_eq]
          rw [hasM_bound hl' hok ha hb, keepB_iff]
          constructor
          · rintro ⟨h1, h2⟩; exact ⟨h1, .inl h2⟩
          · rintro ⟨h1, h2 | h2⟩
            · exact ⟨h1, h2⟩
            · exact ⟨h1, .inl (asB_great h2)⟩
      · rw [withP_empty hc hin]
        have h1 : ∀ L, hasO n true L x = false := fun L => hasO_no (fun h => by cases h.2.1)
        simp [h1]
    · rw [withP_out hc (by simpa using hin)] at he
      cases he
  · rw [withP_bad hc] at he
    exact absurd he hc
end Gn
end Go.Proofs.Ytkgddgckilledaa

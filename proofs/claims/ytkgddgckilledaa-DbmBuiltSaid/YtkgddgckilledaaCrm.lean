/- Plain: closing goes with what is below: of what is not above comes what is not above. No program in sight. -/
import Derived.Test.YtkgddgckilledaaCls
import Derived.Test.YtkgddgckilledaaDbp
namespace Go.Proofs.Ytkgddgckilledaa
open Go.RowKit
set_option linter.unusedVariables false
set_option linter.unusedSimpArgs false
namespace Gn
theorem lp_rel {α β : Type} (f : Nat → α → α) (g : Nat → β → β) (R : α → β → Prop) (n : Nat) (S : α) (T : β) (h0 : R S T) (hs : ∀ i, i < n → ∀ S T, R S T → R (f i S) (g i T)) : R (lp f n S) (lp g n T) := by
  induction n with
  | zero => exact h0
  | succ n ih => exact hs n (by omega) _ _ (ih fun i hi => hs i (by omega))
theorem asB_mono {a c : Int} (h : a ≤ c) : asB a ≤ asB c := by
  unfold asB; repeat' split <;> omega
theorem plus_mono2 {a b c d : Int} (h : a ≤ c) (k : b ≤ d) : plus a b ≤ plus c d := by
  have h1 := asB_bd a
  have h2 := asB_bd b
  have h3 := asB_bd c
  have h4 := asB_bd d
  have h5 := asB_mono h
  have h6 := asB_mono k
  have h7 := plus_bd a b
  unfold Bd at h7
  unfold plus at *
  generalize asB a = x at *; generalize asB b = y at *; generalize asB c = z at *; generalize asB d = t at *
  unfold Bd at h1 h2 h3 h4
  by_cases hr : z = 9223372036854775807 ∨ t = 9223372036854775807
  · rw [if_pos hr]; omega
  · rw [if_neg hr, if_neg (by omega)]
    exact asB_mono (by omega)
theorem half_mono {a c : Int} (h : a ≤ c) : half a ≤ half c := by
  have h1 := asB_bd a
  have h3 := asB_bd c
  have h5 := asB_mono h
  unfold half; unfold Bd at *
  repeat' split <;> omega
theorem even_mono {a c : Int} (h : a ≤ c) : even a ≤ even c := by
  have h1 := asB_bd a
  have h3 := asB_bd c
  have h5 := asB_mono h
  unfold even; unfold Bd at *
  repeat' split <;> omega
theorem less_mono {a b c d : Int} (h : a ≤ c) (k : b ≤ d) : less a b ≤ less c d := by
  have h5 := asB_mono h
  have h6 := asB_mono k
  unfold less; omega
theorem nth_set (X : List Int) (k : Nat) (v : Int) (i : Nat) : nth (X.set k v) i = if k = i ∧ k < X.length then v else nth X i := by
  unfold nth
  simp only [List.getD_eq_getElem?_getD, List.getElem?_set]
  by_cases h : k = i
  · subst h
    by_cases h2 : k < X.length
    · simp [h2]
    · simp [h2]
  · simp [h]
/-- Cell by cell not above. -/
def le (X Y : List Int) : Prop := X.length = Y.length ∧ ∀ k, nth X k ≤ nth Y k
theorem le_refl (X : List Int) : le X X := ⟨rfl, fun _ => Int.le_refl _⟩
theorem le_set {X Y : List Int} (h : le X Y) {v u : Int} (hv : v ≤ u) (k : Nat) : le (X.set k v) (Y.set k u) := by
  refine ⟨by simp [h.1], fun i => ?_⟩
  rw [nth_set, nth_set, h.1]
  split
  · exact hv
  · exact h.2 i
theorem paths_mono {m : Nat} {S T : MS} (h : le S.1 T.1) : le (paths m S).1 (paths m T).1 := by
  refine lp_rel _ _ (fun S T : MS => le S.1 T.1) _ _ _ h fun k _ S T h => ?_
  refine lp_rel _ _ (fun S T : MS => le S.1 T.1) _ _ _ h fun i _ S T h => ?_
  refine lp_rel _ _ (fun S T : MS => le S.1 T.1) _ _ _ h fun j _ S T h => ?_
  exact le_set h (less_mono (h.2 _) (plus_mono2 (h.2 _) (h.2 _))) _
theorem mirrors_mono {m : Nat} {X Y : List Int} (h : le X Y) : le (mirrors m X) (mirrors m Y) := by
  refine lp_rel _ _ le _ _ _ h fun i _ X Y h => ?_
  refine lp_rel _ _ le _ _ _ h fun j _ X Y h => ?_
  have h1 := le_set h (less_mono (h.2 (i * m + j)) (h.2 (ac j * m + ac i))) (i * m + j)
  exact le_set h1 (h1.2 _) _
theorem loops_mono {m : Nat} {X Y : List Int} (h : le X Y) : loops m Y = true → loops m X = true := by
  refine lp_rel _ _ (fun e f : Bool => f = true → e = true) _ _ _ (fun h => h) fun i _ e f k => ?_
  have := h.2 (i * m + i)
  simp only [Bool.or_eq_true, decide_eq_true_eq]
  rintro (hf | hf)
  · exact .inl (k hf)
  · exact .inr (by omega)
theorem evens_mono {m : Nat} {X Y : List Int} (h : le X Y) : le (evens m X) (evens m Y) :=
  lp_rel _ _ le _ _ _ h fun i _ X Y h => le_set h (even_mono (h.2 _)) _
theorem sides_mono {m : Nat} {X Y : List Int} {s t : Bool} (h : le X Y) : (sides m Y t).1 = true → (sides m X s).1 = true := by
  refine lp_rel _ _ (fun e f : Bool × Bool => f.1 = true → e.1 = true) _ (false, s) (false, t) (fun h => h) fun i _ e f k => ?_
  have := plus_mono2 (h.2 (i * m + ac i)) (h.2 (ac i * m + i))
  simp only [sStep, Bool.or_eq_true, decide_eq_true_eq]
  rintro (hf | hf)
  · exact .inl (by omega)
  · exact .inr (k hf)
theorem strong_mono {m : Nat} {S T : MS} (h : le S.1 T.1) : le (strong m S).1 (strong m T).1 := by
  refine lp_rel _ _ (fun S T : MS => le S.1 T.1) _ _ _ h fun i _ S T h => ?_
  refine lp_rel _ _ (fun S T : MS => le S.1 T.1) _ _ _ h fun j _ S T h => ?_
  unfold tStep
  split
  · exact h
  · exact le_set h (less_mono (h.2 _) (half_mono (plus_mono2 (h.2 _) (h.2 _)))) _
theorem closeM_mono {m : Nat} {X Y : List Int} (h : le X Y) {A : List Int} (hA : (closeM m X).1 = some A) : ∃ B, (closeM m Y).1 = some B ∧ le A B := by
  have h1 := paths_mono (m := m) (S := (X, false)) (T := (Y, false)) h
  have h2 := mirrors_mono (m := m) h1
  have h3 := evens_mono (m := m) h2
  unfold closeM at hA ⊢
  dsimp only at hA ⊢
  by_cases e1 : loops m (mirrors m (paths m (X, false)).1) = true
  · rw [if_pos e1] at hA; cases hA
  rw [if_neg e1] at hA
  by_cases e2 : (sides m (evens m (mirrors m (paths m (X, false)).1)) (paths m (X, false)).2).1 = true
  · rw [if_pos e2] at hA; cases hA
  rw [if_neg e2] at hA
  rw [if_neg (fun h => e1 (loops_mono h2 h)), if_neg (fun h => e2 (sides_mono h3 h))]
  injection hA with hA
  subst hA
  exact ⟨_, rfl, strong_mono h3⟩
theorem closeP_ok {n : Nat} {M : List Int} (h : chk n false M = 0) : closeP n false M = match closeM (2 * n) M with
    | (none, s) => ((((n : Int), true, []), s), 0)
    | (some X, s) => ((((n : Int), false, X), s), 0) := by
  unfold closeP; rw [if_neg (by omega), if_neg (by simp)]; simp only [Int.toNat_natCast]
  rcases closeM (2 * n) M with ⟨_ | X, s⟩ <;> rfl
theorem closeP_empty {n : Nat} {M : List Int} (h : chk n true M = 0) : closeP n true M = ((((n : Int), true, []), false), 0) := by
  unfold closeP; rw [if_neg (by omega), if_pos rfl]
theorem le_boundM {n : Nat} {M : List Int} {i j : Nat} {c : Int} (hok : okM (2 * n) M) (hi : i < 2 * n) (hj : j < 2 * n) : le (boundM (2 * n) M i j c) M := by
  have h1 := (hok i hi j hj).2.2
  refine ⟨boundM_len _ _ _ _ _, fun k => ?_⟩
  unfold boundM
  rw [nth_set, nth_set]
  unfold cl at *
  split
  · rename_i h; rw [← h.1, ← h1]; omega
  · split
    · rename_i h; rw [← h.1]; omega
    · exact Int.le_refl _
/-- The law of CloseRises. -/
theorem rises {N : Int} {E : Bool} {M : List Int} {i j c : Int} {P : (Int × Bool × List Int) × Int} (hP : withP N E M i j c = P) (he : P.2 = 0) :
    (0 ≤ N ∧ N ≤ 64 ∧ P.1.1 = N) ∧ ((closeP P.1.1 P.1.2.1 P.1.2.2).1.1.2.1 = true ∨ ((closeP N E M).1.1.2.1 = false ∧ le (closeP P.1.1 P.1.2.1 P.1.2.2).1.1.2.2 (closeP N E M).1.1.2.2)) := by
  subst hP
  by_cases hc : chk N E M = 0
  · obtain ⟨n, rfl, hn, hE1, hE0⟩ := chk_zero hc
    have em : ∀ M' : List Int, M' = [] → (closeP n true M').1.1.2.1 = true := by rintro _ rfl; rw [closeP_empty (chk_empty hn)]
    by_cases hin : inM n i j = true
    · obtain ⟨a, b, rfl, rfl, ha, hb⟩ := inM_iff.1 hin
      rcases E with _ | _
      · obtain ⟨hl, hok⟩ := hE0 rfl
        have same : (closeP n false M).1.1.2.1 = true ∨ ((closeP n false M).1.1.2.1 = false ∧ le (closeP n false M).1.1.2.2 (closeP n false M).1.1.2.2) := by
          cases (closeP n false M).1.1.2.1
          · exact .inr ⟨rfl, le_refl _⟩
          · exact .inl rfl
        by_cases hab : a = b
        · subst hab
          by_cases hneg : c < 0
          · rw [withP_none hc hin hneg]; exact ⟨⟨by omega, by omega, rfl⟩, .inl (em _ rfl)⟩
          · rw [withP_same hc hin hneg]; exact ⟨⟨by omega, by omega, rfl⟩, same⟩
        · rw [withP_in hc hin hab]
          refine ⟨⟨by omega, by omega, rfl⟩, ?_⟩
          dsimp only
          rw [closeP_ok (chk_bound hc ha hb hab), closeP_ok hc]
          rcases hA : closeM (2 * n) (boundM (2 * n) M a b c) with ⟨_ | A, s⟩
          · exact .inl rfl
          · obtain ⟨B, hB, hAB⟩ := closeM_mono (m := 2 * n) (le_boundM (c := c) hok ha hb) (A := A) (by rw [hA])
            rcases hY : closeM (2 * n) M with ⟨Z, t⟩
            rw [hY] at hB
            dsimp only at hB
            subst hB
            exact .inr ⟨rfl, hAB⟩
      · rw [withP_empty hc hin]; exact ⟨⟨by omega, by omega, rfl⟩, .inl (em _ rfl)⟩
    · rw [withP_out hc (by simpa using hin)] at he
      cases he
  · rw [withP_bad hc] at he
    exact absurd he hc
end Gn
end Go.Proofs.Ytkgddgckilledaa

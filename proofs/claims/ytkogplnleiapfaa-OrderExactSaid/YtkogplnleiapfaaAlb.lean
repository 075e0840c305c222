/- Plain: all of a matrix are bounds, and stay so as it is closed. No program in sight. -/
import Derived.Test.YtkogplnleiapfaaClm
import Derived.Test.YtkogplnleiapfaaMemS
namespace Go.Proofs.Ytkogplnleiapfaa
open Go.RowKit
set_option linter.unusedVariables false
set_option linter.unusedSimpArgs false
namespace Gn
theorem less_min {a b : Int} (ha : Bd a) (hb : Bd b) : (if b < a then b else a) = less a b := by
  unfold less
  rw [asB_of ha, asB_of hb]
  split <;> omega
/-- All of it are bounds. -/
def allB (X : List Int) : Prop := ∀ p, Bd (nth X p)
theorem allB_set {X : List Int} (h : allB X) (p : Nat) {v : Int} (hv : Bd v) : allB (X.set p v) := by
  intro q
  by_cases hq : p = q
  · subst hq
    by_cases hl : p < X.length
    · rw [nth_set_same hl]; exact hv
    · rw [List.set_eq_of_length_le (by omega)]; exact h p
  · rw [nth_set_ne hq]; exact h q
theorem allB_p {m k i j : Nat} {S : MS} (h : allB S.1) : allB (pStep m k i j S).1 := allB_set h _ (less_bd _ _)
theorem allB_pJ {m k i j : Nat} {S : MS} (h : allB S.1) : allB (pJ m k i j S).1 := lp_keep _ (fun S' : MS => allB S'.1) _ _ h fun i S' h => allB_p h
theorem allB_pI {m k i : Nat} {S : MS} (h : allB S.1) : allB (pI m k i S).1 := lp_keep _ (fun S' : MS => allB S'.1) _ _ h fun i S' h => allB_pJ h
theorem allB_pK {m k : Nat} {S : MS} (h : allB S.1) : allB (pK m k S).1 := lp_keep _ (fun S' : MS => allB S'.1) _ _ h fun i S' h => allB_pI h
theorem allB_m {m i j : Nat} {X : List Int} (h : allB X) : allB (mStep m i j X) := by
  have h1 := allB_set h (i * m + j) (less_bd (nth X (i * m + j)) (nth X (ac j * m + ac i)))
  exact allB_set h1 _ (h1 _)
theorem allB_mJ {m i j : Nat} {X : List Int} (h : allB X) : allB (mJ m i j X) := lp_keep _ allB _ _ h fun i S' h => allB_m h
theorem allB_mI {m i : Nat} {X : List Int} (h : allB X) : allB (mI m i X) := lp_keep _ allB _ _ h fun i S' h => allB_mJ h
theorem allB_eI {m i : Nat} {X : List Int} (h : allB X) : allB (eI m i X) := lp_keep _ allB _ _ h fun i S' h => allB_set h _ (even_bd _)
theorem allB_t {m i j : Nat} {S : MS} (h : allB S.1) : allB (tStep m i j S).1 := by
  unfold tStep
  split
  · exact h
  · exact allB_set h _ (less_bd _ _)
theorem allB_tJ {m i j : Nat} {S : MS} (h : allB S.1) : allB (tJ m i j S).1 := lp_keep _ (fun S' : MS => allB S'.1) _ _ h fun i S' h => allB_t h
theorem allB_tI {m i : Nat} {S : MS} (h : allB S.1) : allB (tI m i S).1 := lp_keep _ (fun S' : MS => allB S'.1) _ _ h fun i S' h => allB_tJ h
theorem allB_of {n : Nat} {M : List Int} (hl : M.length = (2 * n) * (2 * n)) (hok : okM (2 * n) M) : allB M := by
  intro p
  rcases Nat.lt_or_ge p M.length with h | h
  · obtain ⟨h1, h2, h3⟩ := div_mod_lt (m := 2 * n) (k := p) (by omega)
    have := (hok _ h1 _ h2).1
    unfold cl at this
    rw [h3] at this
    exact (isB_iff _).1 this
  · unfold nth
    rw [List.getD_eq_getElem?_getD, List.getElem?_eq_none h]
    exact .inr ⟨by decide, by decide⟩
end Gn
end Go.Proofs.Ytkogplnleiapfaa

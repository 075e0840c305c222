/- Closing in plain words: the steps that the code takes, one after the other, on a matrix and on whether a sum saturated. No program in sight. -/
import Derived.Test.YtkgddgckilledaaOct
import Derived.Test.YtkgddgckilledaaMem
namespace Go.Proofs.Ytkgddgckilledaa
open Go.RowKit
namespace Gn
/-- A loop from 0 on. -/
def lp {α : Type} (f : Nat → α → α) : Nat → α → α
  | 0, S => S
  | n + 1, S => f n (lp f n S)
theorem lp_inv {α : Type} (f : Nat → α → α) (I : Nat → α → Prop) (n : Nat) (S : α) (h0 : I 0 S) (hs : ∀ i, i < n → ∀ S, I i S → I (i + 1) (f i S)) : I n (lp f n S) := by
  induction n with
  | zero => exact h0
  | succ n ih => exact hs n (by omega) _ (ih fun i hi => hs i (by omega))
theorem lp_keep {α : Type} (f : Nat → α → α) (I : α → Prop) (n : Nat) (S : α) (h0 : I S) (hs : ∀ i S, I S → I (f i S)) : I (lp f n S) := lp_inv f (fun _ => I) n S h0 fun i _ S h => hs i S h
/-- A matrix; whether a sum saturated. -/
abbrev MS := List Int × Bool
def pStep (m k i j : Nat) (S : MS) : MS :=
  (S.1.set (i * m + j) (less (nth S.1 (i * m + j)) (plus (nth S.1 (i * m + k)) (nth S.1 (k * m + j)))), S.2 || sat (nth S.1 (i * m + k)) (nth S.1 (k * m + j)))
def pJ (m k i : Nat) : Nat → MS → MS := lp (pStep m k i)
def pI (m k : Nat) : Nat → MS → MS := lp fun i => pJ m k i m
def pK (m : Nat) : Nat → MS → MS := lp fun k => pI m k m
def paths (m : Nat) (S : MS) : MS := pK m m S
/-- The lesser of a cell and the one across, in both. -/
def mStep (m i j : Nat) (X : List Int) : List Int :=
  (X.set (i * m + j) (less (nth X (i * m + j)) (nth X (ac j * m + ac i)))).set (ac j * m + ac i) (nth (X.set (i * m + j) (less (nth X (i * m + j)) (nth X (ac j * m + ac i)))) (i * m + j))
def mJ (m i : Nat) : Nat → List Int → List Int := lp (mStep m i)
def mI (m : Nat) : Nat → List Int → List Int := lp fun i => mJ m i m
def mirrors (m : Nat) (X : List Int) : List Int := mI m m X
def loopI (m : Nat) (X : List Int) : Nat → Bool → Bool := lp fun i e => e || decide (nth X (i * m + i) < 0)
def loops (m : Nat) (X : List Int) : Bool := loopI m X m false
def eStep (m i : Nat) (X : List Int) : List Int := X.set (i * m + ac i) (even (nth X (i * m + ac i)))
def eI (m : Nat) : Nat → List Int → List Int := lp (eStep m)
def evens (m : Nat) (X : List Int) : List Int := eI m m X
/-- Whether it is empty; whether a sum saturated. -/
def sStep (m : Nat) (X : List Int) (i : Nat) (S : Bool × Bool) : Bool × Bool := (decide (plus (nth X (i * m + ac i)) (nth X (ac i * m + i)) < 0) || S.1, S.2 || sat (nth X (i * m + ac i)) (nth X (ac i * m + i)))
def sI (m : Nat) (X : List Int) : Nat → Bool × Bool → Bool × Bool := lp (sStep m X)
def sides (m : Nat) (X : List Int) (s : Bool) : Bool × Bool := sI m X m (false, s)
def tStep (m i j : Nat) (S : MS) : MS :=
  if i = j then S else (S.1.set (i * m + j) (less (nth S.1 (i * m + j)) (half (plus (nth S.1 (i * m + ac i)) (nth S.1 (ac j * m + j))))), S.2 || sat (nth S.1 (i * m + ac i)) (nth S.1 (ac j * m + j)))
def tJ (m i : Nat) : Nat → MS → MS := lp (tStep m i)
def tI (m : Nat) : Nat → MS → MS := lp fun i => tJ m i m
def strong (m : Nat) (S : MS) : MS := tI m m S
/-- Lengths stay. -/
theorem pStep_len (m k i j : Nat) (S : MS) : (pStep m k i j S).1.length = S.1.length := by unfold pStep; simp
theorem pJ_len (m k i j : Nat) (S : MS) : (pJ m k i j S).1.length = S.1.length := lp_keep _ (fun S' : MS => S'.1.length = S.1.length) _ _ rfl fun i S' h => by rw [pStep_len, h]
theorem pI_len (m k i : Nat) (S : MS) : (pI m k i S).1.length = S.1.length := lp_keep _ (fun S' : MS => S'.1.length = S.1.length) _ _ rfl fun i S' h => by rw [pJ_len, h]
theorem pK_len (m k : Nat) (S : MS) : (pK m k S).1.length = S.1.length := lp_keep _ (fun S' : MS => S'.1.length = S.1.length) _ _ rfl fun i S' h => by rw [pI_len, h]
theorem mStep_len (m i j : Nat) (X : List Int) : (mStep m i j X).length = X.length := by simp [mStep]
theorem mJ_len (m i j : Nat) (X : List Int) : (mJ m i j X).length = X.length := lp_keep _ (fun S' : List Int => S'.length = X.length) _ _ rfl fun i S' h => by rw [mStep_len, h]
theorem mI_len (m i : Nat) (X : List Int) : (mI m i X).length = X.length := lp_keep _ (fun S' : List Int => S'.length = X.length) _ _ rfl fun i S' h => by rw [mJ_len, h]
theorem eI_len (m i : Nat) (X : List Int) : (eI m i X).length = X.length := lp_keep _ (fun S' : List Int => S'.length = X.length) _ _ rfl fun i S' h => by simp [eStep, h]
theorem tStep_len (m i j : Nat) (S : MS) : (tStep m i j S).1.length = S.1.length := by unfold tStep; split <;> simp
theorem tJ_len (m i j : Nat) (S : MS) : (tJ m i j S).1.length = S.1.length := lp_keep _ (fun S' : MS => S'.1.length = S.1.length) _ _ rfl fun i S' h => by rw [tStep_len, h]
theorem tI_len (m i : Nat) (S : MS) : (tI m i S).1.length = S.1.length := lp_keep _ (fun S' : MS => S'.1.length = S.1.length) _ _ rfl fun i S' h => by rw [tJ_len, h]
end Gn
end Go.Proofs.Ytkgddgckilledaa
namespace Go.Proofs.Ytkgddgckilledaa
open Go.RowKit
open Gn
namespace Gn
/-- What closing makes of a matrix of side m: the matrix, or none where it is empty; whether a sum saturated. -/
def closeM (m : Nat) (M : List Int) : Option (List Int) × Bool :=
  let P := paths m (M, false)
  let X := mirrors m P.1
  if loops m X then (none, P.2) else
  let Y := evens m X
  let D := sides m Y P.2
  if D.1 then (none, D.2) else
  let S := strong m (Y, D.2)
  (some S.1, S.2)
def closeP (N : Int) (E : Bool) (M : List Int) : ((Int × Bool × List Int) × Bool) × Int :=
  if chk N E M ≠ 0 then (((0, false, []), false), chk N E M)
  else if E = true then (((N, true, []), false), 0)
  else match closeM (2 * N.toNat) M with
    | (none, s) => (((N, true, []), s), 0)
    | (some X, s) => (((N, false, X), s), 0)
end Gn
namespace Gn
/-- What stands behind k of the six steps. -/
def clSt (m : Nat) (M : List Int) : Nat → MS
  | 0 => (M, false)
  | 1 => paths m (M, false)
  | 2 => (mirrors m (paths m (M, false)).1, (paths m (M, false)).2)
  | 3 => (mirrors m (paths m (M, false)).1, (paths m (M, false)).2)
  | 4 => (evens m (mirrors m (paths m (M, false)).1), (paths m (M, false)).2)
  | 5 => (evens m (mirrors m (paths m (M, false)).1), (sides m (evens m (mirrors m (paths m (M, false)).1)) (paths m (M, false)).2).2)
  | _ => strong m (evens m (mirrors m (paths m (M, false)).1), (sides m (evens m (mirrors m (paths m (M, false)).1)) (paths m (M, false)).2).2)
def clOk (m : Nat) (M : List Int) (k : Nat) : Prop :=
  (3 ≤ k → loops m (clSt m M 2).1 = false) ∧ (5 ≤ k → (sides m (clSt m M 4).1 (clSt m M 4).2).1 = false)
theorem clSt_len (m : Nat) (M : List Int) (k : Nat) : (clSt m M k).1.length = M.length := by
  have h1 : (paths m (M, false)).1.length = M.length := pK_len _ _ _
  have h2 : (mirrors m (paths m (M, false)).1).length = M.length := (mI_len _ _ _).trans h1
  have h3 : (evens m (mirrors m (paths m (M, false)).1)).length = M.length := (eI_len _ _ _).trans h2
  match k with
  | 0 => rfl
  | 1 => exact h1
  | 2 => exact h2
  | 3 => exact h2
  | 4 => exact h3
  | 5 => exact h3
  | k + 6 => exact (tI_len _ _ _).trans h3
theorem closeM_loops {m : Nat} {M : List Int} (h : loops m (clSt m M 2).1 = true) : closeM m M = (none, (clSt m M 2).2) := by
  unfold closeM
  simp only [clSt] at h ⊢
  rw [if_pos h]
theorem closeM_sides {m : Nat} {M : List Int} (h0 : clOk m M 4) (h : (sides m (clSt m M 4).1 (clSt m M 4).2).1 = true) : closeM m M = (none, (clSt m M 5).2) := by
  have h1 := h0.1 (by omega)
  unfold closeM
  simp only [clSt] at h h1 ⊢
  rw [if_neg (by rw [h1]; exact Bool.false_ne_true), if_pos h]
theorem closeM_ok {m : Nat} {M : List Int} (h : clOk m M 6) : closeM m M = (some (clSt m M 6).1, (clSt m M 6).2) := by
  have h1 := h.1 (by omega)
  have h2 := h.2 (by omega)
  unfold closeM
  simp only [clSt] at h1 h2 ⊢
  rw [if_neg (by rw [h1]; exact Bool.false_ne_true), if_neg (by rw [h2]; exact Bool.false_ne_true)]
end Gn
end Go.Proofs.Ytkgddgckilledaa
namespace Go.Proofs.Ytkgddgckilledaa
open Go.RowKit
set_option linter.unusedVariables false
set_option linter.unusedSimpArgs false
namespace Gn
theorem less_min {a b : Int} (ha : Bd a) (hb : Bd b) : (if b < a then b else a) = less a b := by
  unfold less
  rw [asB_of ha, asB_of hb]
  split <;> omega
/-- All of it are bounds. -/
def allB (X : List Int) : Prop := ∀ p, Bd (nth X p)
theorem allB_set {X : List Int} (h : allB X) (p : Nat) {v : Int} (hv : Bd v) : allB (X.set p v) := by
  intro q
  by_cases hq : p = q
  · subst hq
    by_cases hl : p < X.length
    · rw [nth_set_same hl]; exact hv
    · rw [List.set_eq_of_length_le (by omega)]; exact h p
  · rw [nth_set_ne hq]; exact h q
theorem allB_p {m k i j : Nat} {S : MS} (h : allB S.1) : allB (pStep m k i j S).1 := allB_set h _ (less_bd _ _)
theorem allB_pJ {m k i j : Nat} {S : MS} (h : allB S.1) : allB (pJ m k i j S).1 := lp_keep _ (fun S' : MS => allB S'.1) _ _ h fun i S' h => allB_p h
theorem allB_pI {m k i : Nat} {S : MS} (h : allB S.1) : allB (pI m k i S).1 := lp_keep _ (fun S' : MS => allB S'.1) _ _ h fun i S' h => allB_pJ h
theorem allB_pK {m k : Nat} {S : MS} (h : allB S.1) : allB (pK m k S).1 := lp_keep _ (fun S' : MS => allB S'.1) _ _ h fun i S' h => allB_pI h
theorem allB_m {m i j : Nat} {X : List Int} (h : allB X) : allB (mStep m i j X) := by
  have h1 := allB_set h (i * m + j) (less_bd (nth X (i * m + j)) (nth X (ac j * m + ac i)))
  exact allB_set h1 _ (h1 _)
theorem allB_mJ {m i j : Nat} {X : List Int} (h : allB X) : allB (mJ m i j X) := lp_keep _ allB _ _ h fun i S' h => allB_m h
theorem allB_mI {m i : Nat} {X : List Int} (h : allB X) : allB (mI m i X) := lp_keep _ allB _ _ h fun i S' h => allB_mJ h
theorem allB_eI {m i : Nat} {X : List Int} (h : allB X) : allB (eI m i X) := lp_keep _ allB _ _ h fun i S' h => allB_set h _ (even_bd _)
theorem allB_t {m i j : Nat} {S : MS} (h : allB S.1) : allB (tStep m i j S).1 := by
  unfold tStep
  split
  · exact h
  · exact allB_set h _ (less_bd _ _)
theorem allB_tJ {m i j : Nat} {S : MS} (h : allB S.1) : allB (tJ m i j S).1 := lp_keep _ (fun S' : MS => allB S'.1) _ _ h fun i S' h => allB_t h
theorem allB_tI {m i : Nat} {S : MS} (h : allB S.1) : allB (tI m i S).1 := lp_keep _ (fun S' : MS => allB S'.1) _ _ h fun i S' h => allB_tJ h
theorem allB_of {n : Nat} {M : List Int} (hl : M.length = (2 * n) * (2 * n)) (hok : okM (2 * n) M) : allB M := by
  intro p
  rcases Nat.lt_or_ge p M.length with h | h
  · obtain ⟨h1, h2, h3⟩ := div_mod_lt (m := 2 * n) (k := p) (by omega)
    have := (hok _ h1 _ h2).1
    unfold cl at this
    rw [h3] at this
    exact (isB_iff _).1 this
  · unfold nth
    rw [List.getD_eq_getElem?_getD, List.getElem?_eq_none h]
    exact .inr ⟨by decide, by decide⟩
end Gn
end Go.Proofs.Ytkgddgckilledaa

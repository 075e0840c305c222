/- Closing in plain words: the steps that the code takes, one after the other, on a matrix and on whether a sum saturated. No program in sight. -/
import Derived.Test.YtkogplnleiapfaaOct
namespace Go.Proofs.Ytkogplnleiapfaa
open Go.RowKit
namespace Gn
/-- A loop from 0 on. -/
def lp {α : Type} (f : Nat → α → α) : Nat → α → α
  | 0, S => S
  | n + 1, S => f n (lp f n S)
theorem lp_inv {α : Type} (f : Nat → α → α) (I : Nat → α → Prop) (n : Nat) (S : α) (h0 : I 0 S) (hs : ∀ i, i < n → ∀ S, I i S → I (i + 1) (f i S)) : I n (lp f n S) := by
  induction n with
  | zero => exact h0
  | succ n ih => exact hs n (by omega) _ (ih fun i hi => hs i (by omega))
theorem lp_keep {α : Type} (f : Nat → α → α) (I : α → Prop) (n : Nat) (S : α) (h0 : I S) (hs : ∀ i S, I S → I (f i S)) : I (lp f n S) := lp_inv f (fun _ => I) n S h0 fun i _ S h => hs i S h
/-- A matrix; whether a sum saturated. -/
abbrev MS := List Int × Bool
def pStep (m k i j : Nat) (S : MS) : MS :=
  (S.1.set (i * m + j) (less (nth S.1 (i * m + j)) (plus (nth S.1 (i * m + k)) (nth S.1 (k * m + j)))), S.2 || sat (nth S.1 (i * m + k)) (nth S.1 (k * m + j)))
def pJ (m k i : Nat) : Nat → MS → MS := lp (pStep m k i)
def pI (m k : Nat) : Nat → MS → MS := lp fun i => pJ m k i m
def pK (m : Nat) : Nat → MS → MS := lp fun k => pI m k m
def paths (m : Nat) (S : MS) : MS := pK m m S
/-- The lesser of a cell and the one across, in both. -/
def mStep (m i j : Nat) (X : List Int) : List Int :=
  (X.set (i * m + j) (less (nth X (i * m + j)) (nth X (ac j * m + ac i)))).set (ac j * m + ac i) (nth (X.set (i * m + j) (less (nth X (i * m + j)) (nth X (ac j * m + ac i)))) (i * m + j))
def mJ (m i : Nat) : Nat → List Int → List Int := lp (mStep m i)
def mI (m : Nat) : Nat → List Int → List Int := lp fun i => mJ m i m
def mirrors (m : Nat) (X : List Int) : List Int := mI m m X
def loopI (m : Nat) (X : List Int) : Nat → Bool → Bool := lp fun i e => e || decide (nth X (i * m + i) < 0)
def loops (m : Nat) (X : List Int) : Bool := loopI m X m false
def eStep (m i : Nat) (X : List Int) : List Int := X.set (i * m + ac i) (even (nth X (i * m + ac i)))
def eI (m : Nat) : Nat → List Int → List Int := lp (eStep m)
def evens (m : Nat) (X : List Int) : List Int := eI m m X
/-- Whether it is empty; whether a sum saturated. -/
def sStep (m : Nat) (X : List Int) (i : Nat) (S : Bool × Bool) : Bool × Bool := (decide (plus (nth X (i * m + ac i)) (nth X (ac i * m + i)) < 0) || S.1, S.2 || sat (nth X (i * m + ac i)) (nth X (ac i * m + i)))
def sI (m : Nat) (X : List Int) : Nat → Bool × Bool → Bool × Bool := lp (sStep m X)
def sides (m : Nat) (X : List Int) (s : Bool) : Bool × Bool := sI m X m (false, s)
def tStep (m i j : Nat) (S : MS) : MS :=
  if i = j then S else (S.1.set (i * m + j) (less (nth S.1 (i * m + j)) (half (plus (nth S.1 (i * m + ac i)) (nth S.1 (ac j * m + j))))), S.2 || sat (nth S.1 (i * m + ac i)) (nth S.1 (ac j * m + j)))
def tJ (m i : Nat) : Nat → MS → MS := lp (tStep m i)
def tI (m : Nat) : Nat → MS → MS := lp fun i => tJ m i m
def strong (m : Nat) (S : MS) : MS := tI m m S
/-- Lengths stay. -/
theorem pStep_len (m k i j : Nat) (S : MS) : (pStep m k i j S).1.length = S.1.length := by unfold pStep; simp
theorem pJ_len (m k i j : Nat) (S : MS) : (pJ m k i j S).1.length = S.1.length := lp_keep _ (fun S' : MS => S'.1.length = S.1.length) _ _ rfl fun i S' h => by rw [pStep_len, h]
theorem pI_len (m k i : Nat) (S : MS) : (pI m k i S).1.length = S.1.length := lp_keep _ (fun S' : MS => S'.1.length = S.1.length) _ _ rfl fun i S' h => by rw [pJ_len, h]
theorem pK_len (m k : Nat) (S : MS) : (pK m k S).1.length = S.1.length := lp_keep _ (fun S' : MS => S'.1.length = S.1.length) _ _ rfl fun i S' h => by rw [pI_len, h]
theorem mStep_len (m i j : Nat) (X : List Int) : (mStep m i j X).length = X.length := by simp [mStep]
theorem mJ_len (m i j : Nat) (X : List Int) : (mJ m i j X).length = X.length := lp_keep _ (fun S' : List Int => S'.length = X.length) _ _ rfl fun i S' h => by rw [mStep_len, h]
theorem mI_len (m i : Nat) (X : List Int) : (mI m i X).length = X.length := lp_keep _ (fun S' : List Int => S'.length = X.length) _ _ rfl fun i S' h => by rw [mJ_len, h]
theorem eI_len (m i : Nat) (X : List Int) : (eI m i X).length = X.length := lp_keep _ (fun S' : List Int => S'.length = X.length) _ _ rfl fun i S' h => by simp [eStep, h]
theorem tStep_len (m i j : Nat) (S : MS) : (tStep m i j S).1.length = S.1.length := by unfold tStep; split <;> simp
theorem tJ_len (m i j : Nat) (S : MS) : (tJ m i j S).1.length = S.1.length := lp_keep _ (fun S' : MS => S'.1.length = S.1.length) _ _ rfl fun i S' h => by rw [tStep_len, h]
theorem tI_len (m i : Nat) (S : MS) : (tI m i S).1.length = S.1.length := lp_keep _ (fun S' : MS => S'.1.length = S.1.length) _ _ rfl fun i S' h => by rw [tJ_len, h]
end Gn
end Go.Proofs.Ytkogplnleiapfaa

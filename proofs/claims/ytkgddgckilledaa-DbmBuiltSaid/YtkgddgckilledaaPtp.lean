/- Plain: the octagon of a list of points; rows of points in memory. No program in sight. -/
import Derived.Test.YtkgddgckilledaaHat
import Derived.Test.YtkgddgckilledaaCfo
namespace Go.Proofs.Ytkgddgckilledaa
open Go.RowKit
set_option linter.unusedVariables false
set_option linter.unusedSimpArgs false
namespace Gn
/-- A row of numbers, as a value. -/
structure RowV where
  A : Option Addr
  c : Nat
  x : List Int
instance : Inhabited RowV := ⟨⟨none, 0, []⟩⟩
def rvAt (ls : List RowV) (i : Nat) : RowV := ls.getD i default
theorem rvAt_get {ls : List RowV} {i : Nat} (h : i < ls.length) : ls[i]? = some (rvAt ls i) := by
  unfold rvAt; rw [List.getD_eq_getElem?_getD, List.getElem?_eq_getElem h]; rfl
theorem rvAt_mem {ls : List RowV} {i : Nat} (h : i < ls.length) : rvAt ls i ∈ ls := List.mem_of_getElem? (rvAt_get h)
theorem take_row {ls : List RowV} {i : Nat} (h : i < ls.length) : ls.take (i + 1) = ls.take i ++ [rvAt ls i] := by
  have := rvAt_get h
  rw [List.getElem?_eq_getElem h] at this
  injection this with this
  rw [List.take_succ_eq_append_getElem h, this]
/-- Is a row of another length among them? -/
def badL (N : Int) (ls : List RowV) : Bool := ls.any fun r => decide ((r.x.length : Int) ≠ N)
theorem badL_at {N : Int} {ls : List RowV} {i : Nat} (h : i < ls.length) (hne : ((rvAt ls i).x.length : Int) ≠ N) : badL N ls = true :=
  List.any_eq_true.2 ⟨_, rvAt_mem h, decide_eq_true hne⟩
theorem badL_none {N : Int} {ls : List RowV} (h : ∀ i, i < ls.length → ((rvAt ls i).x.length : Int) = N) : badL N ls = false := by
  cases e : badL N ls
  · rfl
  · obtain ⟨r, hr, hn⟩ := List.any_eq_true.1 e
    obtain ⟨i, hi⟩ := List.mem_iff_getElem?.1 hr
    have hl : i < ls.length := (List.getElem?_eq_some_iff.1 hi).1
    rw [rvAt_get hl] at hi
    injection hi with hi
    exact absurd (hi ▸ h i hl) (of_decide_eq_true hn)
theorem badL_false {N : Int} {ls : List RowV} (h : badL N ls = false) {i : Nat} (hi : i < ls.length) : ((rvAt ls i).x.length : Int) = N := by
  refine Decidable.byContradiction fun k => ?_
  rw [badL_at hi k] at h; cases h
/-- The greatest of the differences, as bounds. -/
def bestV (ls : List RowV) (i j : Nat) : Int := ls.foldl (fun m r => max m (countV (apartV r.x i j))) (-4611686018427387904)
theorem bestV_nil (i j : Nat) : bestV [] i j = -4611686018427387904 := rfl
theorem bestV_snoc (ls : List RowV) (r : RowV) (i j : Nat) : bestV (ls ++ [r]) i j = max (bestV ls i j) (countV (apartV r.x i j)) := by simp [bestV]
theorem bestV_take {ls : List RowV} {k : Nat} (h : k < ls.length) (i j : Nat) : bestV (ls.take (k + 1)) i j = max (bestV (ls.take k) i j) (countV (apartV (rvAt ls k).x i j)) := by
  rw [take_row h, bestV_snoc]
theorem countV_bd (v : Int) : Bd (countV v) := by unfold countV Bd; repeat' split
                                                  all_goals omega
theorem bd_max {a b : Int} (ha : Bd a) (hb : Bd b) : Bd (max a b) := by unfold Bd at *; omega
theorem bestV_bd (ls : List RowV) (i j : Nat) : Bd (bestV ls i j) := by
  have : ∀ (ls : List RowV) (m : Int), Bd m → Bd (ls.foldl (fun m r => max m (countV (apartV r.x i j))) m) := fun ls => by
    induction ls with
    | nil => exact fun m h => h
    | cons r ls ih => exact fun m h => ih _ (bd_max h (countV_bd _))
  exact this ls _ (.inr ⟨by omega, by omega⟩)
theorem bestV_self {ls : List RowV} (h : ls ≠ []) (i : Nat) : bestV ls i i = 0 := by
  have h0 : countV 0 = 0 := by decide
  have : ∀ (ls : List RowV), ls.foldl (fun m r => max m (countV (apartV r.x i i))) 0 = 0 := fun ls => by
    induction ls with
    | nil => rfl
    | cons r ls ih =>
      rw [List.foldl_cons, apartV_self, h0]
      exact ih
  cases ls with
  | nil => exact absurd rfl h
  | cons r ls =>
    unfold bestV
    rw [List.foldl_cons, apartV_self, h0]
    exact this ls
/-- A matrix by its cells, one after the other. -/
def fS (m : Nat) (f : Nat → Nat → Int) (i j : Nat) (X : List Int) : List Int := X.set (i * m + j) (f i j)
def fJ (m : Nat) (f : Nat → Nat → Int) (i : Nat) : Nat → List Int → List Int := lp (fS m f i)
def fI (m : Nat) (f : Nat → Nat → Int) : Nat → List Int → List Int := lp fun i => fJ m f i m
theorem fS_len (m : Nat) (f : Nat → Nat → Int) (i j : Nat) (X : List Int) : (fS m f i j X).length = X.length := by simp [fS]
theorem fJ_len (m : Nat) (f : Nat → Nat → Int) (i j : Nat) (X : List Int) : (fJ m f i j X).length = X.length := lp_keep _ (fun Z : List Int => Z.length = X.length) _ _ rfl fun i S h => by rw [fS_len, h]
theorem fI_len (m : Nat) (f : Nat → Nat → Int) (i : Nat) (X : List Int) : (fI m f i X).length = X.length := lp_keep _ (fun Z : List Int => Z.length = X.length) _ _ rfl fun i S h => by rw [fJ_len, h]
def tabM (m : Nat) (f : Nat → Nat → Int) : List Int := (List.range (m * m)).map fun k => f (k / m) (k % m)
theorem tabM_len (m : Nat) (f : Nat → Nat → Int) : (tabM m f).length = m * m := by simp [tabM]
theorem cl_tabM {m : Nat} {f : Nat → Nat → Int} {a b : Nat} (ha : a < m) (hb : b < m) : cl m (tabM m f) a b = f a b := by
  have h := idx_lt ha hb
  have e1 : (a * m + b) / m = a := by rw [Nat.mul_comm, Nat.mul_add_div (by omega), Nat.div_eq_of_lt hb, Nat.add_zero]
  have e2 : (a * m + b) % m = b := by rw [Nat.mul_comm, Nat.mul_add_mod, Nat.mod_eq_of_lt hb]
  unfold cl
  have : nth (tabM m f) (a * m + b) = (fun k => f (k / m) (k % m)) (a * m + b) := by simp [tabM, nth, h]
  rw [this]
  dsimp only
  rw [e1, e2]
theorem fI_tab {m : Nat} {f : Nat → Nat → Int} {X : List Int} (hl : X.length = m * m) : fI m f m X = tabM m f := by
  have key := lp2_inv (fun i j => fS m f i j) (fun i j Z => Z.length = m * m ∧ ∀ a, a < m → ∀ b, b < m → (a < i ∨ (a = i ∧ b < j)) → cl m Z a b = f a b) m X ⟨hl, fun a _ b _ h => by omega⟩ ?_ ?_
  · refine mat_ext ((fI_len _ _ _ _).trans hl) (tabM_len _ _) fun a ha b hb => ?_
    rw [cl_tabM ha hb]
    exact key.2 a ha b hb (.inl ha)
  · rintro i hi j hj Z ⟨h1, h2⟩
    refine ⟨by rw [fS_len, h1], fun a ha b hb hab => ?_⟩
    unfold fS
    rw [cl_set h1 hi hj hb]
    by_cases e : a = i ∧ b = j
    · rw [if_pos e, e.1, e.2]
    · rw [if_neg e]; exact h2 a ha b hb (by omega)
  · rintro i hi Z ⟨h1, h2⟩
    exact ⟨h1, fun a ha b hb hab => h2 a ha b hb (by omega)⟩
/-- .. all but the diagonal. -/
def gS (m : Nat) (f : Nat → Nat → Int) (i j : Nat) (X : List Int) : List Int := if i = j then X else X.set (i * m + j) (f i j)
def gJ (m : Nat) (f : Nat → Nat → Int) (i : Nat) : Nat → List Int → List Int := lp (gS m f i)
def gI (m : Nat) (f : Nat → Nat → Int) : Nat → List Int → List Int := lp fun i => gJ m f i m
theorem gS_len (m : Nat) (f : Nat → Nat → Int) (i j : Nat) (X : List Int) : (gS m f i j X).length = X.length := by unfold gS; split <;> simp
theorem gJ_len (m : Nat) (f : Nat → Nat → Int) (i j : Nat) (X : List Int) : (gJ m f i j X).length = X.length := lp_keep _ (fun Z : List Int => Z.length = X.length) _ _ rfl fun i S h => by rw [gS_len, h]
theorem gI_len (m : Nat) (f : Nat → Nat → Int) (i : Nat) (X : List Int) : (gI m f i X).length = X.length := lp_keep _ (fun Z : List Int => Z.length = X.length) _ _ rfl fun i S h => by rw [gJ_len, h]
theorem gI_tab {m : Nat} {f : Nat → Nat → Int} {X : List Int} (hl : X.length = m * m) (hd : ∀ i, i < m → cl m X i i = f i i) : gI m f m X = tabM m f := by
  have key := lp2_inv (fun i j => gS m f i j) (fun i j Z => Z.length = m * m ∧ (∀ a, a < m → cl m Z a a = f a a) ∧ ∀ a, a < m → ∀ b, b < m → (a < i ∨ (a = i ∧ b < j)) → cl m Z a b = f a b) m X ⟨hl, hd, fun a _ b _ h => by omega⟩ ?_ ?_
  · refine mat_ext ((gI_len _ _ _ _).trans hl) (tabM_len _ _) fun a ha b hb => ?_
    rw [cl_tabM ha hb]
    exact key.2.2 a ha b hb (.inl ha)
  · rintro i hi j hj Z ⟨h1, h2, h3⟩
    refine ⟨by rw [gS_len, h1], fun a ha => ?_, fun a ha b hb hab => ?_⟩
    · unfold gS
      split
      · exact h2 a ha
      · rename_i hij
        rw [cl_set h1 hi hj ha, if_neg (by omega)]; exact h2 a ha
    · unfold gS
      split
      · rename_i hij
        by_cases e : a = i ∧ b = j
        · rw [e.1, e.2, ← hij]; exact h2 i hi
        · exact h3 a ha b hb (by omega)
      · rw [cl_set h1 hi hj hb]
        by_cases e : a = i ∧ b = j
        · rw [if_pos e, e.1, e.2]
        · rw [if_neg e]; exact h3 a ha b hb (by omega)
  · rintro i hi Z ⟨h1, h2, h3⟩
    exact ⟨h1, h2, fun a ha b hb hab => h3 a ha b hb (by omega)⟩
def pointsP (n : Nat) (ls : List RowV) : Int × Bool × List Int := if ls.length = 0 then (n, true, []) else (n, false, tabM (2 * n) (bestV ls))
def pointsE (N : Int) (ls : List RowV) : Int := if (N < 0 ∨ 64 < N) ∨ badL N ls = true then 120 else 0
def pointsR (N : Int) (ls : List RowV) : Int × Bool × List Int := if pointsE N ls = 0 then pointsP N.toNat ls else (0, false, [])
theorem diff_best {b v : Int} (hb : Bd b) : (if diffF v > 0 then 9223372036854775807 else if diffF v = 0 then max b (diffV v) else b) = max b (countV v) := by
  unfold diffF diffV countV
  unfold Bd at hb
  repeat' split
  all_goals omega
end Gn
open Gn
/-- Rows of numbers that can be read. -/
def RowsIn (w : World) (B : Nat) (A : Option Addr) (ls : List RowV) : Prop :=
  0 < ls.length → ∃ b off, A = some ⟨b, off, none⟩ ∧ b < B ∧ ∀ i, i < ls.length → w.cell? ⟨b, off + i, none⟩ = some (.slice (rvAt ls i).A (rvAt ls i).x.length (rvAt ls i).c) ∧
    Rd w B .i64 (rvAt ls i).A (rvAt ls i).x.length (nth (rvAt ls i).x) ∧ (∀ u ∈ (rvAt ls i).x, I64 u) ∧ ((rvAt ls i).x.length : Int) ≤ 9223372036854775807
theorem RowsIn.below {w w' : World} {B : Nat} {A : Option Addr} {ls : List RowV} (h : RowsIn w B A ls) (hb : Below B w w') : RowsIn w' B A ls := fun hn => by
  obtain ⟨b, off, rfl, hlt, hx⟩ := h hn
  refine ⟨b, off, rfl, hlt, fun i hi => ?_⟩
  obtain ⟨h1, h2, h3, h4⟩ := hx i hi
  exact ⟨(hb.cell (p := ⟨b, off + i, none⟩) hlt).trans h1, h2.below hb, h3, h4⟩
end Go.Proofs.Ytkgddgckilledaa

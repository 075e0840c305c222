/- Plain: the cells of some variables let go: one after the other, and all at once. No program in sight. -/
import Derived.Test.YtkgddgckilledaaCfo
import Derived.Test.YtkgddgckilledaaOrd
namespace Go.Proofs.Ytkgddgckilledaa
open Go.RowKit
set_option linter.unusedVariables false
set_option linter.unusedSimpArgs false
namespace Gn
/-- A cell and the one that says the contrary way, let go. -/
def wStep (m i j : Nat) (X : List Int) : List Int := if i = j then X else (X.set (i * m + j) 9223372036854775807).set (j * m + i) 9223372036854775807
def wRow (m v i : Nat) (X : List Int) : List Int := wStep m i (2 * v + 1) (wStep m i (2 * v) X)
def wI (m v : Nat) : Nat → List Int → List Int := lp (wRow m v)
def wV (m v : Nat) (X : List Int) : List Int := wI m v m X
def wL (m : Nat) (vs : List Nat) (X : List Int) : List Int := vs.foldl (fun X v => wV m v X) X
theorem wStep_len (m i j : Nat) (X : List Int) : (wStep m i j X).length = X.length := by unfold wStep; split <;> simp
theorem wRow_len (m v i : Nat) (X : List Int) : (wRow m v i X).length = X.length := by unfold wRow; rw [wStep_len, wStep_len]
theorem wI_len (m v i : Nat) (X : List Int) : (wI m v i X).length = X.length := lp_keep _ (fun Z : List Int => Z.length = X.length) _ _ rfl fun i S h => by rw [wRow_len, h]
theorem wV_len (m v : Nat) (X : List Int) : (wV m v X).length = X.length := wI_len _ _ _ _
theorem wL_len (m : Nat) (vs : List Nat) (X : List Int) : (wL m vs X).length = X.length := by
  induction vs generalizing X with
  | nil => rfl
  | cons v vs ih => exact (ih _).trans (wV_len m v X)
theorem wL_snoc (m : Nat) (vs : List Nat) (v : Nat) (X : List Int) : wL m (vs ++ [v]) X = wV m v (wL m vs X) := by simp [wL]
theorem cl_wStep {m i j : Nat} {X : List Int} (hl : X.length = m * m) (hi : i < m) (hj : j < m) {a b : Nat} (hb : b < m) :
    cl m (wStep m i j X) a b = if i ≠ j ∧ ((a = i ∧ b = j) ∨ (a = j ∧ b = i)) then 9223372036854775807 else cl m X a b := by
  unfold wStep
  by_cases h : i = j
  · rw [if_pos h, if_neg (fun k => k.1 h)]
  · rw [if_neg h, cl_set (by rw [List.length_set]; exact hl) hj hi hb, cl_set hl hi hj hb]
    by_cases h1 : a = j ∧ b = i
    · rw [if_pos h1, if_pos ⟨h, .inr h1⟩]
    · rw [if_neg h1]
      by_cases h2 : a = i ∧ b = j
      · rw [if_pos h2, if_pos ⟨h, .inl h2⟩]
      · rw [if_neg h2, if_neg (fun k => k.2.elim h2 h1)]
theorem cl_wI {n v : Nat} (hv : v < n) {X : List Int} (hl : X.length = (2 * n) * (2 * n)) (k : Nat) (hk : k ≤ 2 * n) (a : Nat) (ha : a < 2 * n) (b : Nat) (hb : b < 2 * n) :
    cl (2 * n) (wI (2 * n) v k X) a b = if a ≠ b ∧ ((b / 2 = v ∧ a < k) ∨ (a / 2 = v ∧ b < k)) then 9223372036854775807 else cl (2 * n) X a b := by
  have key := lp_inv (wRow (2 * n) v) (fun k Z => Z.length = (2 * n) * (2 * n) ∧ ∀ a, a < 2 * n → ∀ b, b < 2 * n →
    cl (2 * n) Z a b = if a ≠ b ∧ ((b / 2 = v ∧ a < k) ∨ (a / 2 = v ∧ b < k)) then 9223372036854775807 else cl (2 * n) X a b) k X ⟨hl, fun a _ b _ => (if_neg (by omega)).symm⟩ ?_
  · exact key.2 a ha b hb
  · rintro i hi Z ⟨h1, h2⟩
    refine ⟨by rw [wRow_len, h1], fun a ha b hb => ?_⟩
    unfold wRow
    rw [cl_wStep (by rw [wStep_len, h1]) (by omega) (by omega) hb, cl_wStep h1 (by omega) (by omega) hb, h2 a ha b hb]
    by_cases c0 : i ≠ 2 * v + 1 ∧ ((a = i ∧ b = 2 * v + 1) ∨ (a = 2 * v + 1 ∧ b = i))
    · rw [if_pos c0, if_pos (by omega)]
    · rw [if_neg c0]
      by_cases c1 : i ≠ 2 * v ∧ ((a = i ∧ b = 2 * v) ∨ (a = 2 * v ∧ b = i))
      · rw [if_pos c1, if_pos (by omega)]
      · rw [if_neg c1]
        by_cases c2 : a ≠ b ∧ ((b / 2 = v ∧ a < i) ∨ (a / 2 = v ∧ b < i))
        · rw [if_pos c2, if_pos (by omega)]
        · rw [if_neg c2, if_neg (by omega)]
theorem cl_wL {n : Nat} {X : List Int} (hl : X.length = (2 * n) * (2 * n)) (vs : List Nat) (hv : ∀ v ∈ vs, v < n) (a : Nat) (ha : a < 2 * n) (b : Nat) (hb : b < 2 * n) :
    cl (2 * n) (wL (2 * n) vs X) a b = if a ≠ b ∧ (a / 2 ∈ vs ∨ b / 2 ∈ vs) then 9223372036854775807 else cl (2 * n) X a b := by
  induction vs generalizing X with
  | nil => rw [if_neg (by simp)]; rfl
  | cons v vs ih =>
    show cl (2 * n) (wL (2 * n) vs (wV (2 * n) v X)) a b = _
    rw [ih (by rw [wV_len, hl]) (fun u hu => hv u (by simp [hu]))]
    unfold wV
    rw [cl_wI (hv v (by simp)) hl _ (Nat.le_refl _) a ha b hb]
    by_cases c1 : a ≠ b ∧ (a / 2 ∈ vs ∨ b / 2 ∈ vs)
    · rw [if_pos c1, if_pos ⟨c1.1, c1.2.elim (fun h => .inl (by simp [h])) (fun h => .inr (by simp [h]))⟩]
    · rw [if_neg c1]
      by_cases c2 : a ≠ b ∧ ((b / 2 = v ∧ a < 2 * n) ∨ (a / 2 = v ∧ b < 2 * n))
      · rw [if_pos c2, if_pos ⟨c2.1, c2.2.elim (fun h => .inr (by simp [h.1])) (fun h => .inl (by simp [h.1]))⟩]
      · rw [if_neg c2, if_neg ?_]
        rintro ⟨h0, h1 | h1⟩
        · rcases List.mem_cons.1 h1 with h | h
          · exact c2 ⟨h0, .inr ⟨h, hb⟩⟩
          · exact c1 ⟨h0, .inl h⟩
        · rcases List.mem_cons.1 h1 with h | h
          · exact c2 ⟨h0, .inl ⟨h, ha⟩⟩
          · exact c1 ⟨h0, .inr h⟩
/-- All at once. -/
def dropM (m : Nat) (g : Nat → Bool) (X : List Int) : List Int := (List.range (m * m)).map fun k => if k / m ≠ k % m ∧ (g (k / m / 2) || g (k % m / 2)) = true then 9223372036854775807 else nth X k
theorem dropM_len (m : Nat) (g : Nat → Bool) (X : List Int) : (dropM m g X).length = m * m := by simp [dropM]
theorem cl_dropM {m : Nat} {g : Nat → Bool} {X : List Int} {a b : Nat} (ha : a < m) (hb : b < m) :
    cl m (dropM m g X) a b = if a ≠ b ∧ (g (a / 2) || g (b / 2)) = true then 9223372036854775807 else cl m X a b := by
  have h := idx_lt ha hb
  have e1 : (a * m + b) / m = a := by rw [Nat.mul_comm, Nat.mul_add_div (by omega), Nat.div_eq_of_lt hb, Nat.add_zero]
  have e2 : (a * m + b) % m = b := by rw [Nat.mul_comm, Nat.mul_add_mod, Nat.mod_eq_of_lt hb]
  unfold cl
  have : nth (dropM m g X) (a * m + b) = (fun k => if k / m ≠ k % m ∧ (g (k / m / 2) || g (k % m / 2)) = true then 9223372036854775807 else nth X k) (a * m + b) := by
    simp [dropM, nth, h]
  rw [this]
  dsimp only
  rw [e1, e2]
theorem wL_drop {n : Nat} {X : List Int} (hl : X.length = (2 * n) * (2 * n)) {vs : List Nat} (hv : ∀ v ∈ vs, v < n) {g : Nat → Bool} (hg : ∀ v, v < n → (g v = true ↔ v ∈ vs)) : wL (2 * n) vs X = dropM (2 * n) g X :=
  mat_ext (by rw [wL_len, hl]) (dropM_len _ _ _) fun a ha b hb => by
    rw [cl_wL hl vs hv a ha b hb, cl_dropM ha hb]
    have h1 := hg (a / 2) (by omega)
    have h2 := hg (b / 2) (by omega)
    by_cases c : a ≠ b ∧ (a / 2 ∈ vs ∨ b / 2 ∈ vs)
    · rw [if_pos c, if_pos ⟨c.1, by rw [Bool.or_eq_true, h1, h2]; exact c.2⟩]
    · rw [if_neg c, if_neg (fun k => c ⟨k.1, by have := k.2; rw [Bool.or_eq_true, h1, h2] at this; exact this⟩)]
/-- The document's way: cell by cell. -/
def rStep (m : Nat) (g : Nat → Bool) (i j : Nat) (X : List Int) : List Int := if i ≠ j ∧ (g (i / 2) || g (j / 2)) = true then X.set (i * m + j) 9223372036854775807 else X
def rJ (m : Nat) (g : Nat → Bool) (i : Nat) : Nat → List Int → List Int := lp (rStep m g i)
def rI (m : Nat) (g : Nat → Bool) : Nat → List Int → List Int := lp fun i => rJ m g i m
theorem rStep_len (m : Nat) (g : Nat → Bool) (i j : Nat) (X : List Int) : (rStep m g i j X).length = X.length := by unfold rStep; split <;> simp
theorem rJ_len (m : Nat) (g : Nat → Bool) (i j : Nat) (X : List Int) : (rJ m g i j X).length = X.length := lp_keep _ (fun Z : List Int => Z.length = X.length) _ _ rfl fun i S h => by rw [rStep_len, h]
theorem rI_len (m : Nat) (g : Nat → Bool) (i : Nat) (X : List Int) : (rI m g i X).length = X.length := lp_keep _ (fun Z : List Int => Z.length = X.length) _ _ rfl fun i S h => by rw [rJ_len, h]
theorem rI_drop {m : Nat} {g : Nat → Bool} {X : List Int} (hl : X.length = m * m) : rI m g m X = dropM m g X := by
  have key := lp2_inv (fun i j => rStep m g i j) (fun i j Z => Z.length = m * m ∧ ∀ a, a < m → ∀ b, b < m →
    cl m Z a b = if (a < i ∨ (a = i ∧ b < j)) ∧ a ≠ b ∧ (g (a / 2) || g (b / 2)) = true then 9223372036854775807 else cl m X a b) m X ⟨hl, fun a _ b _ => (if_neg (by omega)).symm⟩ ?_ ?_
  · refine mat_ext ((rI_len _ _ _ _).trans hl) (dropM_len _ _ _) fun a ha b hb => ?_
    have := key.2 a ha b hb
    rw [cl_dropM ha hb]
    refine this.trans ?_
    by_cases c : a ≠ b ∧ (g (a / 2) || g (b / 2)) = true
    · rw [if_pos ⟨.inl ha, c⟩, if_pos c]
    · rw [if_neg (fun k => c k.2), if_neg c]
  · rintro i hi j hj Z ⟨h1, h2⟩
    refine ⟨by rw [rStep_len, h1], fun a ha b hb => ?_⟩
    unfold rStep
    by_cases c : i ≠ j ∧ (g (i / 2) || g (j / 2)) = true
    · rw [if_pos c, cl_set h1 hi hj hb]
      by_cases e : a = i ∧ b = j
      · rw [if_pos e, if_pos ⟨by omega, by rw [e.1, e.2]; exact c⟩]
      · rw [if_neg e, h2 a ha b hb]
        by_cases k : (a < i ∨ (a = i ∧ b < j)) ∧ a ≠ b ∧ (g (a / 2) || g (b / 2)) = true
        · rw [if_pos k, if_pos ⟨by omega, k.2⟩]
        · rw [if_neg k, if_neg (fun q => k ⟨by omega, q.2⟩)]
    · rw [if_neg c, h2 a ha b hb]
      by_cases k : (a < i ∨ (a = i ∧ b < j)) ∧ a ≠ b ∧ (g (a / 2) || g (b / 2)) = true
      · rw [if_pos k, if_pos ⟨by omega, k.2⟩]
      · rw [if_neg k, if_neg (fun q => ?_)]
        by_cases e : a = i ∧ b = j
        · exact c (by rw [← e.1, ← e.2]; exact q.2)
        · exact k ⟨by omega, q.2⟩
  · rintro i hi Z ⟨h1, h2⟩
    refine ⟨h1, fun a ha b hb => ?_⟩
    rw [h2 a ha b hb]
    by_cases k : (a < i ∨ (a = i ∧ b < m)) ∧ a ≠ b ∧ (g (a / 2) || g (b / 2)) = true
    · rw [if_pos k, if_pos ⟨by omega, k.2⟩]
    · rw [if_neg k, if_neg (fun q => k ⟨by omega, q.2⟩)]
/-- An octagon with variables let go. -/
def dropO (P : Int × Bool × List Int) (g : Nat → Bool) : Int × Bool × List Int := if P.2.1 = true then P else (P.1, false, dropM (2 * P.1.toNat) g P.2.2)
theorem dropM_ok {n : Nat} {g : Nat → Bool} {X : List Int} (hok : okM (2 * n) X) : okM (2 * n) (dropM (2 * n) g X) := fun a ha b hb => by
  have e := @cl_dropM (2 * n) g X
  have hs : (a ≠ b ∧ (g (a / 2) || g (b / 2)) = true) ↔ (ac b ≠ ac a ∧ (g (ac b / 2) || g (ac a / 2)) = true) := by
    have d : ∀ i, ac i / 2 = i / 2 := fun i => by unfold ac; split <;> omega
    rw [d, d, Bool.or_comm]
    refine and_congr_left fun _ => ⟨fun h k => h ?_, fun h k => h (by rw [k])⟩
    rw [← ac_ac a, ← k, ac_ac]
  refine ⟨?_, fun q => ?_, ?_⟩
  · rw [e ha hb]; split
    · decide
    · exact (hok a ha b hb).1
  · rw [e ha hb, if_neg (fun k => k.1 q)]; exact (hok a ha b hb).2.1 q
  · rw [e ha hb, e (ac_lt hb) (ac_lt ha)]
    by_cases c : a ≠ b ∧ (g (a / 2) || g (b / 2)) = true
    · rw [if_pos c, if_pos (hs.1 c)]
    · rw [if_neg c, if_neg (fun k => c (hs.2 k))]; exact (hok a ha b hb).2.2
theorem dropO_chk {n : Nat} {E : Bool} {M : List Int} {g : Nat → Bool} (hc : chk n E M = 0) : (dropO (n, E, M) g).1 = n ∧ chk n (dropO (n, E, M) g).2.1 (dropO (n, E, M) g).2.2 = 0 := by
  unfold dropO
  dsimp only
  rcases E with _ | _
  · rw [if_neg (by simp)]
    obtain ⟨m, hm, hn, _, h0⟩ := chk_zero hc
    obtain rfl : n = m := by omega
    refine ⟨rfl, chk_ok hn ?_ ?_⟩
    · dsimp only; rw [show ((n : Int).toNat) = n by omega, dropM_len, sq2]
    · dsimp only; rw [show ((n : Int).toNat) = n by omega]; exact dropM_ok (h0 rfl).2
  · rw [if_pos rfl]; exact ⟨rfl, hc⟩
/-- What Forget tells of an octagon that may be; what Keep tells. -/
def forgetP (N : Int) (E : Bool) (M : List Int) (g : Nat → Bool) : Int × Bool × List Int := dropO (clo N E M) g
theorem forgetP_chk {n : Nat} {E : Bool} {M : List Int} {g : Nat → Bool} (hc : chk n E M = 0) : (forgetP n E M g).1 = n ∧ chk n (forgetP n E M g).2.1 (forgetP n E M g).2.2 = 0 := by
  have h := clo_chk hc
  unfold forgetP
  rcases hq : clo n E M with ⟨a, b, c⟩
  rw [hq] at h
  dsimp only at h
  obtain ⟨rfl, h2⟩ := h
  exact dropO_chk h2
/-- The error of a Forget. -/
def forgetE (N : Int) (E : Bool) (M : List Int) (v : Int) : Int := if chk N E M ≠ 0 then chk N E M else if v < 0 ∨ v ≥ N then 122 else 0
def forgetR (N : Int) (E : Bool) (M : List Int) (v : Int) : Int × Bool × List Int := if forgetE N E M v = 0 then forgetP N E M (fun u => decide ((u : Int) = v)) else (0, false, [])
/-- All of a list are numbers of variables. -/
def inN (N : Int) (l : List Int) : Bool := l.all fun v => decide (0 ≤ v) && decide (v < N)
def keepE (N : Int) (E : Bool) (M : List Int) (l : List Int) : Int := if chk N E M ≠ 0 then chk N E M else if inN N l = true then 0 else 122
/-- The variables that a list leaves out. -/
def outOf (l : List Int) (u : Nat) : Bool := !(l.contains (u : Int))
def keepR (N : Int) (E : Bool) (M : List Int) (l : List Int) : Int × Bool × List Int := if keepE N E M l = 0 then forgetP N E M (outOf l) else (0, false, [])
end Gn
end Go.Proofs.Ytkgddgckilledaa

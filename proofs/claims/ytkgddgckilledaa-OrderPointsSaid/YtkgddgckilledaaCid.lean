/- Plain: what is closed without saturating is closed: closing it again changes nothing. No program in sight. -/
import Derived.Test.YtkgddgckilledaaCpt
namespace Go.Proofs.Ytkgddgckilledaa
open Go.RowKit
set_option linter.unusedVariables false
set_option linter.unusedSimpArgs false
namespace Gn
/-- The triangle's law. -/
def Tri (m : Nat) (X : List Int) : Prop := ∀ a, a < m → ∀ k, k < m → ∀ b, b < m → cl m X a b ≤ plus (cl m X a k) (cl m X k b)
theorem set_self (X : List Int) (p : Nat) : X.set p (nth X p) = X := by
  refine list_eq_nth (by simp) fun i hi => ?_
  rw [nth_set]
  split
  · rename_i h; rw [h.1]
  · rfl
theorem paths_tri {m : Nat} {X : List Int} {s : Bool} (hB : allB X) (h : Tri m X) : (paths m (X, s)).1 = X := by
  refine lp_inv _ (fun _ S => S.1 = X) m (X, s) rfl fun k hk S hS => ?_
  refine lp2_inv (fun i j => pStep m k i j) (fun _ _ S => S.1 = X) m S hS (fun i hi j hj S hS => ?_) (fun _ _ _ h => h)
  show S.1.set (i * m + j) (less (nth S.1 (i * m + j)) (plus (nth S.1 (i * m + k)) (nth S.1 (k * m + j)))) = X
  have hh := h i hi k hk j hj
  unfold cl at hh
  rw [hS, less_of_le (hB _) (plus_bd _ _) hh]
  exact set_self X _
/-- The same, exactly. -/
def E3 (x a b : Int) : Prop := a ≠ 9223372036854775807 → b ≠ 9223372036854775807 → x ≠ 9223372036854775807 ∧ x ≤ a + b
theorem plus_ways {a b : Int} (ha : Bd a) (hb : Bd b) (h : sat a b = false) : ((a = 9223372036854775807 ∨ b = 9223372036854775807) ∧ plus a b = 9223372036854775807) ∨ (a ≠ 9223372036854775807 ∧ b ≠ 9223372036854775807 ∧ plus a b = a + b ∧ -4611686018427387904 ≤ a + b ∧ a + b ≤ 4611686018427387904) := by
  have h1 := plus_exact ha hb h
  have h2 := (sat_iff _ _).1 h
  rw [asB_of ha, asB_of hb] at h2
  split at h1
  · rename_i h3; exact .inl ⟨h3, h1⟩
  · right; unfold Bd at *; omega
theorem e3_plus {x a b : Int} (hx : Bd x) (ha : Bd a) (hb : Bd b) (h : E3 x a b) : x ≤ plus a b := by
  unfold E3 at h
  unfold plus
  rw [asB_of ha, asB_of hb]
  split
  · unfold Bd at hx; omega
  · rename_i h3
    have := h (by omega) (by omega)
    unfold Bd at hx
    unfold asB; repeat' split
    all_goals omega
def TriK (m k : Nat) (X : List Int) : Prop := ∀ k', k' < k → ∀ a, a < m → ∀ b, b < m → E3 (cl m X a b) (cl m X a k') (cl m X k' b)
theorem e3_two {xab xak xkb xai xib xki xik p1 p2 p3 : Int} (b0 : Bd xab) (b1 : Bd xak) (b2 : Bd xkb) (b3 : Bd xai) (b4 : Bd xib) (b5 : Bd xki) (b6 : Bd xik)
    (w1 : ((xak = 9223372036854775807 ∨ xkb = 9223372036854775807) ∧ p1 = 9223372036854775807) ∨ (xak ≠ 9223372036854775807 ∧ xkb ≠ 9223372036854775807 ∧ p1 = xak + xkb ∧ -4611686018427387904 ≤ xak + xkb ∧ xak + xkb ≤ 4611686018427387904))
    (w2 : ((xak = 9223372036854775807 ∨ xki = 9223372036854775807) ∧ p2 = 9223372036854775807) ∨ (xak ≠ 9223372036854775807 ∧ xki ≠ 9223372036854775807 ∧ p2 = xak + xki ∧ -4611686018427387904 ≤ xak + xki ∧ xak + xki ≤ 4611686018427387904))
    (w3 : ((xik = 9223372036854775807 ∨ xkb = 9223372036854775807) ∧ p3 = 9223372036854775807) ∨ (xik ≠ 9223372036854775807 ∧ xkb ≠ 9223372036854775807 ∧ p3 = xik + xkb ∧ -4611686018427387904 ≤ xik + xkb ∧ xik + xkb ≤ 4611686018427387904))
    (t1 : E3 xab xai xib) (t2 : E3 xkb xki xib) (t3 : E3 xak xai xik) (t4 : E3 0 xki xik) : E3 (min xab p1) (min xai p2) (min xib p3) := by
  unfold E3 at *
  intro h1 h2
  unfold Bd at *
  have done : ∀ y, y ≠ 9223372036854775807 → (min xab p1 ≤ y) → y ≤ 4611686018427387904 → min xab p1 ≠ 9223372036854775807 := fun y _ h h' => by omega
  by_cases c1 : xai ≤ p2
  · rw [Int.min_eq_left c1] at h1 ⊢
    by_cases c2 : xib ≤ p3
    · rw [Int.min_eq_left c2] at h2 ⊢
      have := t1 h1 h2
      have hm : min xab p1 ≤ xab := Int.min_le_left _ _
      exact ⟨by clear w1 w2 w3 t1 t2 t3 t4; omega, by clear w1 w2 w3 t1 t2 t3 t4; omega⟩
    · rw [Int.min_eq_right (show p3 ≤ xib by omega)] at h2 ⊢
      rcases w3 with w3 | ⟨v1, v2, v3, v4, v5⟩
      · exact absurd w3.2 h2
      have := t3 h1 v1
      rcases w1 with ⟨w1 | w1, _⟩ | ⟨_, _, u3, u4, u5⟩
      · exact absurd w1 this.1
      · exact absurd w1 v2
      have hm : min xab p1 ≤ p1 := Int.min_le_right _ _
      exact ⟨by clear w2 t1 t2 t3 t4; omega, by clear w2 t1 t2 t3 t4; omega⟩
  · rw [Int.min_eq_right (show p2 ≤ xai by omega)] at h1 ⊢
    rcases w2 with w2 | ⟨v1, v2, v3, v4, v5⟩
    · exact absurd w2.2 h1
    by_cases c2 : xib ≤ p3
    · rw [Int.min_eq_left c2] at h2 ⊢
      have := t2 v2 h2
      rcases w1 with ⟨w1 | w1, _⟩ | ⟨_, _, u3, u4, u5⟩
      · exact absurd w1 v1
      · exact absurd w1 this.1
      have hm : min xab p1 ≤ p1 := Int.min_le_right _ _
      exact ⟨by clear w3 t1 t2 t3 t4; omega, by clear w3 t1 t2 t3 t4; omega⟩
    · rw [Int.min_eq_right (show p3 ≤ xib by omega)] at h2 ⊢
      rcases w3 with w3 | ⟨y1, y2, y3, y4, y5⟩
      · exact absurd w3.2 h2
      have := t4 v2 y1
      rcases w1 with ⟨w1 | w1, _⟩ | ⟨_, _, u3, u4, u5⟩
      · exact absurd w1 v1
      · exact absurd w1 y2
      have hm : min xab p1 ≤ p1 := Int.min_le_right _ _
      exact ⟨by clear t1 t2 t3 t4; omega, by clear t1 t2 t3 t4; omega⟩
theorem triK_step {m k : Nat} {X : List Int} {s : Bool} (hl : X.length = m * m) (hB : allB X) (hk : k < m) (hd : cl m X k k = 0) (hs : (pI m k m (X, s)).2 = false) (h : TriK m k X) : TriK m (k + 1) (pI m k m (X, s)).1 := by
  obtain ⟨hc, hS⟩ := round (s := s) hl hB hk hd
  have hS := (hS hs).2
  intro k' hk' a ha b hb
  have hc' := fun a ha b hb => (hc a ha b hb).trans (less_eq (cl_bd hB _ _) (plus_bd _ _))
  have w := fun a ha b hb => plus_ways (cl_bd hB _ _) (cl_bd hB _ _) (hS a ha b hb)
  have bd := fun a b => cl_bd (m := m) hB a b
  by_cases he : k' = k
  · subst he
    rw [hc' a ha b hb, hc' a ha k' hk, hc' k' hk b hb, hd, plus_zero (bd _ _), zero_plus (bd _ _)]
    have w1 := w a ha b hb
    have b1 := bd a b
    have b2 := bd a k'
    have b3 := bd k' b
    unfold E3
    unfold Bd at *
    generalize plus (cl m X a k') (cl m X k' b) = p at *
    omega
  · have hk2 : k' < m := by omega
    rw [hc' a ha b hb, hc' a ha k' hk2, hc' k' hk2 b hb]
    have t := fun a ha b hb => h k' (by omega) a ha b hb
    have t4 := t k hk k hk
    rw [hd] at t4
    exact e3_two (bd _ _) (bd _ _) (bd _ _) (bd _ _) (bd _ _) (bd _ _) (bd _ _) (w a ha b hb) (w a ha k' hk2) (w k' hk2 b hb) (t a ha b hb) (t k hk b hb) (t a ha k hk) t4
theorem sat_pI {m k : Nat} {S : MS} (h : (pI m k m S).2 = false) : S.2 = false := by
  have := lp2_inv (fun i j => pStep m k i j) (fun _ _ S' => S'.2 = false → S.2 = false) m S (fun h => h) (fun i _ j _ S' hS' h => by
    have h' : (S'.2 || sat (nth S'.1 (i * m + k)) (nth S'.1 (k * m + j))) = false := h
    rw [Bool.or_eq_false_iff] at h'
    exact hS' h'.1) (fun _ _ _ h => h)
  exact this h
theorem sat_pK {m : Nat} {S : MS} (k : Nat) : ∀ d, (pK m (k + d) S).2 = false → (pK m k S).2 = false
  | 0, h => h
  | d + 1, h => sat_pK k d (sat_pI h)
/-- Paths whose ways back stay at 0, and of which no sum saturates, keep to the triangle's law. -/
theorem triK_pK {m : Nat} {M : List Int} (hl : M.length = m * m) (hB : allB M) (hd : ∀ k, k < m → ∀ a, a < m → cl m (pK m k (M, false)).1 a a = 0) (hs : (pK m m (M, false)).2 = false) : ∀ k, k ≤ m → TriK m k (pK m k (M, false)).1
  | 0, _ => fun k' hk' => absurd hk' (by omega)
  | k + 1, h => by
    have f := form_pK (m := m) (k := k) (S := (M, false)) ⟨hl, hB⟩
    have h2 : (pK m (k + 1) (M, false)).2 = false := sat_pK (k + 1) (m - (k + 1)) (by rw [show k + 1 + (m - (k + 1)) = m by omega]; exact hs)
    exact triK_step (X := (pK m k (M, false)).1) (s := (pK m k (M, false)).2) f.1 f.2 (by omega) (hd k (by omega) k (by omega)) h2 (triK_pK hl hB hd hs k (by omega))
section
variable {n : Nat} {M Z x : List Int} {s : Bool}
theorem Cs.dK (c : Cs n M Z s) (hl : M.length = (2 * n) * (2 * n)) (hok : okM (2 * n) M) (k : Nat) (hk : k ≤ 2 * n) (a : Nat) (ha : a < 2 * n) : cl (2 * n) (pK (2 * n) k (M, false)).1 a a = 0 := by
  have hB := allB_of hl hok
  have h1 := c.dX hl hok ha
  have h2 := (c.leXP hl hB).2 (a * (2 * n) + a)
  have h3 := (le_pK2 (m := 2 * n) (S := (M, false)) hB k (2 * n - k)).2 (a * (2 * n) + a)
  rw [show k + (2 * n - k) = 2 * n by omega] at h3
  have e : pK (2 * n) (2 * n) (M, false) = (c.P, c.sp) := c.hP
  rw [e] at h3
  have h4 := (le_pK (m := 2 * n) (S := (M, false)) hB k).2 (a * (2 * n) + a)
  have h5 := (hok a ha a ha).2.1 rfl
  unfold cl at *
  dsimp only at h3 h4
  omega
theorem Cs.dP (c : Cs n M Z s) (hl : M.length = (2 * n) * (2 * n)) (hok : okM (2 * n) M) (a : Nat) (ha : a < 2 * n) : cl (2 * n) c.P a a = 0 := by
  have := c.dK hl hok (2 * n) (Nat.le_refl _) a ha
  have e : pK (2 * n) (2 * n) (M, false) = (c.P, c.sp) := c.hP
  rw [e] at this; exact this
theorem Cs.no_sat (c : Cs n M Z s) (hl : M.length = (2 * n) * (2 * n)) (hB : allB M) (hs : s = false) : c.sp = false ∧ (∀ a, a < 2 * n → sat (cl (2 * n) c.Y a (ac a)) (cl (2 * n) c.Y (ac a) a) = false) ∧ ∀ a, a < 2 * n → ∀ b, b < 2 * n → a ≠ b → sat (cl (2 * n) c.Y a (ac a)) (cl (2 * n) c.Y (ac b) b) = false := by
  have h1 := (cl_strong (s := c.ss) (c.fY hl hB).1 (c.fY hl hB).2).2
  rw [c.hZ] at h1
  obtain ⟨h2, h3⟩ := h1.1 hs
  have h4 := (sides_iff (m := 2 * n) (X := c.Y) (s := c.sp)).2
  rw [c.hD] at h4
  obtain ⟨h5, h6⟩ := h4.1 h2
  exact ⟨h5, h6, h3⟩
theorem Cs.tP (c : Cs n M Z s) (hl : M.length = (2 * n) * (2 * n)) (hok : okM (2 * n) M) (hs : c.sp = false) : TriK (2 * n) (2 * n) c.P := by
  have e : pK (2 * n) (2 * n) (M, false) = (c.P, c.sp) := c.hP
  have := triK_pK hl (allB_of hl hok) (fun k hk a ha => c.dK hl hok k (by omega) a ha) (by rw [e]; exact hs) (2 * n) (Nat.le_refl _)
  rw [e] at this; exact this
/-- The paths' cells across. -/
theorem Cs.sP (c : Cs n M Z s) (hl : M.length = (2 * n) * (2 * n)) (hok : okM (2 * n) M) (hs : c.sp = false) {a b : Nat} (ha : a < 2 * n) (hb : b < 2 * n) : cl (2 * n) c.P a b = cl (2 * n) c.P (ac b) (ac a) := by
  have hB := allB_of hl hok
  have fP := c.fP hl hB
  obtain ⟨T, hT⟩ : ∃ T, T = mat (2 * n) (fun i j => cl (2 * n) c.P (ac j) (ac i)) := ⟨_, rfl⟩
  have hTc : ∀ i, i < 2 * n → ∀ j, j < 2 * n → cl (2 * n) T i j = cl (2 * n) c.P (ac j) (ac i) := fun i hi j hj => by rw [hT, cl_mat hi hj]
  have hTl : T.length = (2 * n) * (2 * n) := by rw [hT, mat_len]
  have hTB : allB T := by
    intro p
    by_cases hp : p < (2 * n) * (2 * n)
    · obtain ⟨h1, h2, h3⟩ := div_mod_lt hp
      have := hTc _ h1 _ h2
      unfold cl at this
      rw [h3] at this
      rw [this]; exact fP.2 _
    · unfold nth
      rw [List.getD_eq_getElem?_getD, List.getElem?_eq_none (by omega)]
      exact .inr ⟨by decide, by decide⟩
  have tP := c.tP hl hok hs
  have hTri : Tri (2 * n) T := fun i hi k hk j hj => by
    rw [hTc i hi j hj, hTc i hi k hk, hTc k hk j hj, plus_comm]
    exact e3_plus (fP.2 _) (fP.2 _) (fP.2 _) (tP (ac k) (ac_lt hk) _ (ac_lt hj) _ (ac_lt hi))
  have hTM : le T M := le_of_cl hTl hl fun i hi j hj => by
    rw [hTc i hi j hj, (hok i hi j hj).2.2]
    exact (c.lePM hB).2 _
  have h1 := paths_mono (m := 2 * n) (S := (T, false)) (T := (M, false)) hTM
  rw [paths_tri hTB hTri, c.hP] at h1
  have key : ∀ i, i < 2 * n → ∀ j, j < 2 * n → cl (2 * n) c.P (ac j) (ac i) ≤ cl (2 * n) c.P i j := fun i hi j hj => by
    rw [← hTc i hi j hj]; exact h1.2 _
  have k1 := key a ha b hb
  have k2 := key (ac b) (ac_lt hb) (ac a) (ac_lt ha)
  rw [ac_ac, ac_ac] at k2
  omega
theorem Cs.xP (c : Cs n M Z s) (hl : M.length = (2 * n) * (2 * n)) (hok : okM (2 * n) M) (hs : c.sp = false) {a b : Nat} (ha : a < 2 * n) (hb : b < 2 * n) : cl (2 * n) c.X a b = cl (2 * n) c.P a b := by
  have hB := allB_of hl hok
  rw [c.cX hl hB ha hb, ← c.sP hl hok hs ha hb, less_same (cl_bd (c.fP hl hB).2 _ _)]
/-- Half the bound of a side. -/
def Cs.h (c : Cs n M Z s) (a : Nat) : Int := half (cl (2 * n) c.P a (ac a))
theorem Cs.hw (c : Cs n M Z s) (hl : M.length = (2 * n) * (2 * n)) (hB : allB M) (a : Nat) : (c.h a = 9223372036854775807 ∧ cl (2 * n) c.P a (ac a) = 9223372036854775807) ∨ (c.h a ≠ 9223372036854775807 ∧ cl (2 * n) c.P a (ac a) ≠ 9223372036854775807 ∧ c.h a = cl (2 * n) c.P a (ac a) / 2 ∧ -4611686018427387904 ≤ cl (2 * n) c.P a (ac a) ∧ cl (2 * n) c.P a (ac a) ≤ 4611686018427387904) := by
  have b := cl_bd (m := 2 * n) (c.fP hl hB).2 a (ac a)
  unfold Cs.h half
  rw [asB_of b]
  unfold Bd at b
  split
  · left; omega
  · right; omega
theorem Cs.yU (c : Cs n M Z s) (hl : M.length = (2 * n) * (2 * n)) (hok : okM (2 * n) M) (hs : c.sp = false) {a : Nat} (ha : a < 2 * n) : (c.h a = 9223372036854775807 ∧ cl (2 * n) c.Y a (ac a) = 9223372036854775807) ∨ (c.h a ≠ 9223372036854775807 ∧ cl (2 * n) c.Y a (ac a) = 2 * c.h a) := by
  have hB := allB_of hl hok
  rw [c.cY hl hB ha (ac_lt ha), if_pos rfl, c.xP hl hok hs ha (ac_lt ha), even_half]
  show (half (cl (2 * n) c.P a (ac a)) = _ ∧ _) ∨ (half (cl (2 * n) c.P a (ac a)) ≠ _ ∧ _ = 2 * half (cl (2 * n) c.P a (ac a)))
  split
  · left; exact ⟨by assumption, rfl⟩
  · right; exact ⟨by assumption, rfl⟩
def hv (x y : Int) : Int := if x = 9223372036854775807 ∨ y = 9223372036854775807 then 9223372036854775807 else x + y
theorem hv_ways (x y : Int) : ((x = 9223372036854775807 ∨ y = 9223372036854775807) ∧ hv x y = 9223372036854775807) ∨ (x ≠ 9223372036854775807 ∧ y ≠ 9223372036854775807 ∧ hv x y = x + y) := by
  unfold hv
  split
  · left; exact ⟨by assumption, rfl⟩
  · right; rename_i h; exact ⟨fun e => h (.inl e), fun e => h (.inr e), rfl⟩
theorem e3_four {pab pak pkb xa xk xk' xb : Int} (b1 : Bd pab) (b2 : Bd pak) (b3 : Bd pkb) (h1 : xa = 9223372036854775807 ∨ (-2305843009213693952 ≤ xa ∧ xa ≤ 2305843009213693952)) (h2 : xk = 9223372036854775807 ∨ (-2305843009213693952 ≤ xk ∧ xk ≤ 2305843009213693952))
    (h3 : xk' = 9223372036854775807 ∨ (-2305843009213693952 ≤ xk' ∧ xk' ≤ 2305843009213693952)) (h4 : xb = 9223372036854775807 ∨ (-2305843009213693952 ≤ xb ∧ xb ≤ 2305843009213693952))
    (t1 : E3 pab pak pkb) (t2 : E3 xa pak xk) (t3 : E3 xb pkb xk') (t4 : xk ≠ 9223372036854775807 → xk' ≠ 9223372036854775807 → 0 ≤ xk + xk') : E3 (min pab (hv xa xb)) (min pak (hv xa xk')) (min pkb (hv xk xb)) := by
  unfold E3 at *
  intro q1 q2
  unfold Bd at *
  have w0 := hv_ways xa xb
  have w1 := hv_ways xa xk'
  have w2 := hv_ways xk xb
  generalize hv xa xb = p0 at *
  generalize hv xa xk' = p1 at *
  generalize hv xk xb = p2 at *
  have hm1 : min pab p0 ≤ pab := Int.min_le_left _ _
  have hm2 : min pab p0 ≤ p0 := Int.min_le_right _ _
  by_cases c1 : pak ≤ p1
  · rw [Int.min_eq_left c1] at q1 ⊢
    by_cases c2 : pkb ≤ p2
    · rw [Int.min_eq_left c2] at q2 ⊢
      have := t1 q1 q2
      clear w0 w1 w2 t1 t2 t3 t4 h1 h2 h3 h4
      exact ⟨by omega, by omega⟩
    · rw [Int.min_eq_right (show p2 ≤ pkb by omega)] at q2 ⊢
      rcases w2 with w2 | ⟨v1, v2, v3⟩
      · exact absurd w2.2 q2
      have := t2 q1 v1
      clear w1 t1 t2 t3 t4 hm1
      exact ⟨by omega, by omega⟩
  · rw [Int.min_eq_right (show p1 ≤ pak by omega)] at q1 ⊢
    rcases w1 with w1 | ⟨v1, v2, v3⟩
    · exact absurd w1.2 q1
    by_cases c2 : pkb ≤ p2
    · rw [Int.min_eq_left c2] at q2 ⊢
      have := t3 q2 v2
      clear w2 t1 t2 t3 t4 hm1
      exact ⟨by omega, by omega⟩
    · rw [Int.min_eq_right (show p2 ≤ pkb by omega)] at q2 ⊢
      rcases w2 with w2 | ⟨y1, y2, y3⟩
      · exact absurd w2.2 q2
      have := t4 y1 v2
      clear t1 t2 t3 t4 hm1
      exact ⟨by omega, by omega⟩
theorem Cs.sides0 (c : Cs n M Z s) (hl : M.length = (2 * n) * (2 * n)) (hok : okM (2 * n) M) (hs : s = false) {a : Nat} (ha : a < 2 * n) (h1 : c.h a ≠ 9223372036854775807) (h2 : c.h (ac a) ≠ 9223372036854775807) : 0 ≤ c.h a + c.h (ac a) := by
  have hB := allB_of hl hok
  obtain ⟨n1, n2, n3⟩ := c.no_sat hl hB hs
  have hD := (sides_iff (m := 2 * n) (X := c.Y) (s := c.sp)).1
  rw [c.hD] at hD
  have h3 : ¬ plus (cl (2 * n) c.Y a (ac a)) (cl (2 * n) c.Y (ac a) a) < 0 := fun h => by
    have := hD.2 ⟨a, ha, h⟩; cases this
  have w := plus_ways (cl_bd (c.fY hl hB).2 _ _) (cl_bd (c.fY hl hB).2 _ _) (n2 a ha)
  have y1 := c.yU hl hok n1 ha
  have y2 := c.yU hl hok n1 (ac_lt ha)
  rw [ac_ac] at y2
  have b1 := cl_bd (m := 2 * n) (c.fY hl hB).2 a (ac a)
  have b2 := cl_bd (m := 2 * n) (c.fY hl hB).2 (ac a) a
  unfold Bd at b1 b2
  generalize cl (2 * n) c.Y a (ac a) = u at *
  generalize cl (2 * n) c.Y (ac a) a = v at *
  generalize plus u v = p at *
  omega
/-- What closing makes of a cell. -/
theorem Cs.zP (c : Cs n M Z s) (hl : M.length = (2 * n) * (2 * n)) (hok : okM (2 * n) M) (hs : s = false) {a b : Nat} (ha : a < 2 * n) (hb : b < 2 * n) : cl (2 * n) Z a b = min (cl (2 * n) c.P a b) (hv (c.h a) (c.h (ac b))) := by
  have hB := allB_of hl hok
  obtain ⟨n1, n2, n3⟩ := c.no_sat hl hB hs
  have bP := fun a b => cl_bd (m := 2 * n) (c.fP hl hB).2 a b
  have bY := fun a b => cl_bd (m := 2 * n) (c.fY hl hB).2 a b
  by_cases hab : a = b
  · subst hab
    rw [c.dZ hl hok ha, c.dP hl hok a ha]
    have := c.sides0 hl hok hs ha
    unfold hv
    split <;> omega
  · rw [c.cZ hl hB ha hb, if_neg hab, less_eq (bY _ _) (half_bd _)]
    have w := plus_ways (bY a (ac a)) (bY (ac b) b) (n3 a ha b hb hab)
    have y1 := c.yU hl hok n1 ha
    have y2 := c.yU hl hok n1 (ac_lt hb)
    rw [ac_ac] at y2
    have hy : half (plus (cl (2 * n) c.Y a (ac a)) (cl (2 * n) c.Y (ac b) b)) = hv (c.h a) (c.h (ac b)) := by
      have bp := plus_bd (cl (2 * n) c.Y a (ac a)) (cl (2 * n) c.Y (ac b) b)
      unfold half hv
      rw [asB_of bp]
      have b1 := bY a (ac a)
      have b2 := bY (ac b) b
      unfold Bd at b1 b2
      generalize cl (2 * n) c.Y a (ac a) = u at *
      generalize cl (2 * n) c.Y (ac b) b = v at *
      generalize plus u v = p at *
      split <;> split <;> omega
    rw [hy, c.cY hl hB ha hb]
    by_cases hba : b = ac a
    · rw [if_pos hba]
      subst hba
      rw [c.xP hl hok n1 ha hb, even_half]
      have e : half (cl (2 * n) c.P a (ac a)) = c.h a := rfl
      rw [e, ac_ac]
      have w2 := c.hw hl hB a
      unfold hv
      split <;> split <;> omega
    · rw [if_neg hba, c.xP hl hok n1 ha hb]
theorem Cs.hT (c : Cs n M Z s) (hl : M.length = (2 * n) * (2 * n)) (hok : okM (2 * n) M) (hs : c.sp = false) {a k : Nat} (ha : a < 2 * n) (hk : k < 2 * n) : E3 (c.h a) (cl (2 * n) c.P a k) (c.h k) := by
  have hB := allB_of hl hok
  have tP := c.tP hl hok hs
  have t1 := tP k hk a ha (ac a) (ac_lt ha)
  have t2 := tP (ac k) (ac_lt hk) k hk (ac a) (ac_lt ha)
  rw [← c.sP hl hok hs ha hk] at t2
  have w1 := c.hw hl hB a
  have w2 := c.hw hl hB k
  have b1 := cl_bd (m := 2 * n) (c.fP hl hB).2 a k
  unfold Bd at b1
  unfold E3 at *
  intro h1 h2
  have := t2 (by omega) h1
  have := t1 h1 this.1
  omega
theorem Cs.tZ (c : Cs n M Z s) (hl : M.length = (2 * n) * (2 * n)) (hok : okM (2 * n) M) (hs : s = false) : TriK (2 * n) (2 * n) Z := by
  intro k hk a ha b hb
  have hB := allB_of hl hok
  obtain ⟨n1, n2, n3⟩ := c.no_sat hl hB hs
  have t1 := c.tP hl hok n1 k hk a ha b hb
  have t2 := c.hT hl hok n1 ha hk
  have t3 := c.hT hl hok n1 (ac_lt hb) (ac_lt hk)
  rw [← c.sP hl hok n1 hk hb] at t3
  have t4 := c.sides0 hl hok hs hk
  rw [c.zP hl hok hs ha hb, c.zP hl hok hs ha hk, c.zP hl hok hs hk hb]
  have bP := fun a b => cl_bd (m := 2 * n) (c.fP hl hB).2 a b
  have b1 := bP a b
  have b2 := bP a k
  have b3 := bP k b
  have g1 := c.hw hl hB a
  have g2 := c.hw hl hB k
  have g3 := c.hw hl hB (ac k)
  have g4 := c.hw hl hB (ac b)
  have h1 : c.h a = 9223372036854775807 ∨ (-2305843009213693952 ≤ c.h a ∧ c.h a ≤ 2305843009213693952) := by omega
  have h2 : c.h k = 9223372036854775807 ∨ (-2305843009213693952 ≤ c.h k ∧ c.h k ≤ 2305843009213693952) := by omega
  have h3 : c.h (ac k) = 9223372036854775807 ∨ (-2305843009213693952 ≤ c.h (ac k) ∧ c.h (ac k) ≤ 2305843009213693952) := by omega
  have h4 : c.h (ac b) = 9223372036854775807 ∨ (-2305843009213693952 ≤ c.h (ac b) ∧ c.h (ac b) ≤ 2305843009213693952) := by omega
  clear g1 g2 g3 g4 n2 n3
  generalize cl (2 * n) c.P a b = pab at *
  generalize cl (2 * n) c.P a k = pak at *
  generalize cl (2 * n) c.P k b = pkb at *
  generalize c.h a = xa at *
  generalize c.h k = xk at *
  generalize c.h (ac k) = xk' at *
  generalize c.h (ac b) = xb at *
  exact e3_four b1 b2 b3 h1 h2 h3 h4 t1 t2 t3 t4
theorem Cs.triZ (c : Cs n M Z s) (hl : M.length = (2 * n) * (2 * n)) (hok : okM (2 * n) M) (hs : s = false) : Tri (2 * n) Z := fun a ha k hk b hb =>
  have f := (c.fZ hl (allB_of hl hok)).2
  e3_plus (f _) (f _) (f _) (c.tZ hl hok hs k hk a ha b hb)
theorem Cs.uZ (c : Cs n M Z s) (hl : M.length = (2 * n) * (2 * n)) (hok : okM (2 * n) M) (hs : s = false) {a : Nat} (ha : a < 2 * n) : (c.h a = 9223372036854775807 ∧ cl (2 * n) Z a (ac a) = 9223372036854775807) ∨ (c.h a ≠ 9223372036854775807 ∧ cl (2 * n) Z a (ac a) = 2 * c.h a) := by
  rw [c.zP hl hok hs ha (ac_lt ha), ac_ac]
  have w := c.hw hl (allB_of hl hok) a
  unfold hv
  split <;> omega
/-- Closed again, it is the same. -/
theorem close_again (hl : M.length = (2 * n) * (2 * n)) (hok : okM (2 * n) M) (h : closeM (2 * n) M = (some Z, false)) : ∃ t, closeM (2 * n) Z = (some Z, t) := by
  obtain ⟨c⟩ := closeM_some h
  have hB := allB_of hl hok
  have fZ := c.fZ hl hB
  have tri := c.triZ hl hok rfl
  obtain ⟨n1, n2, n3⟩ := c.no_sat hl hB rfl
  have e1 : (paths (2 * n) (Z, false)).1 = Z := paths_tri fZ.2 tri
  have e2 : mirrors (2 * n) Z = Z := mat_ext ((mI_len _ _ _).trans fZ.1) fZ.1 fun a ha b hb => by
    rw [cl_mirrors fZ.1 fZ.2 a ha b hb, ← c.sZ hl hB ha hb, less_same (cl_bd fZ.2 _ _)]
  have e3 : loops (2 * n) Z = false := by
    cases e : loops (2 * n) Z
    · rfl
    · obtain ⟨a, ha, h1⟩ := loops_iff.1 e
      rw [c.dZ hl hok ha] at h1
      omega
  have e4 : evens (2 * n) Z = Z := mat_ext ((eI_len _ _ _).trans fZ.1) fZ.1 fun a ha b hb => by
    rw [cl_evens fZ.1 a ha b hb]
    split
    · rename_i e; subst e
      have u := c.uZ hl hok rfl ha
      have b1 := cl_bd (m := 2 * n) fZ.2 a (ac a)
      unfold even
      rw [asB_of b1]
      split <;> omega
    · rfl
  have e5 : ∀ t, (sides (2 * n) Z t).1 = false := fun t => by
    cases e : (sides (2 * n) Z t).1
    · rfl
    · obtain ⟨a, ha, h1⟩ := sides_iff.1.1 e
      have := tri a ha (ac a) (ac_lt ha) a ha
      rw [c.dZ hl hok ha] at this
      omega
  have e6 : ∀ t, (strong (2 * n) (Z, t)).1 = Z := fun t => mat_ext ((tI_len _ _ _).trans fZ.1) fZ.1 fun a ha b hb => by
    rw [(cl_strong fZ.1 fZ.2).1 a ha b hb]
    split
    · rfl
    · rename_i hab
      refine less_of_le (cl_bd fZ.2 _ _) (half_bd _) ?_
      have u1 := c.uZ hl hok rfl ha
      have u2 := c.uZ hl hok rfl (ac_lt hb)
      have y1 := c.yU hl hok n1 ha
      have y2 := c.yU hl hok n1 (ac_lt hb)
      rw [ac_ac] at u2 y2
      have z := c.zP hl hok rfl ha hb
      have f1 : cl (2 * n) Z a (ac a) = cl (2 * n) c.Y a (ac a) := by omega
      have f2 : cl (2 * n) Z (ac b) b = cl (2 * n) c.Y (ac b) b := by omega
      have w := plus_ways (cl_bd (c.fY hl hB).2 a (ac a)) (cl_bd (c.fY hl hB).2 (ac b) b) (n3 a ha b hb hab)
      rw [f1, f2]
      have bp := plus_bd (cl (2 * n) c.Y a (ac a)) (cl (2 * n) c.Y (ac b) b)
      unfold half
      rw [asB_of bp]
      have b1 := cl_bd (m := 2 * n) (c.fY hl hB).2 a (ac a)
      have b2 := cl_bd (m := 2 * n) (c.fY hl hB).2 (ac b) b
      have b3 := cl_bd (m := 2 * n) fZ.2 a b
      unfold hv at z
      unfold Bd at b1 b2 b3
      generalize cl (2 * n) c.Y a (ac a) = u at *
      generalize cl (2 * n) c.Y (ac b) b = v at *
      generalize plus u v = p at *
      split at z <;> split <;> omega
  unfold closeM
  dsimp only
  rw [e1, e2, e3, e4, e5, if_neg (by simp), if_neg (by simp), e6]
  exact ⟨_, rfl⟩
end
end Gn
end Go.Proofs.Ytkgddgckilledaa

/- Plain: closing keeps the points, and never raises a cell; what it makes may be. No program in sight. -/
import Derived.Test.YtkgddgckilledaaCfo
namespace Go.Proofs.Ytkgddgckilledaa
open Go.RowKit
set_option linter.unusedVariables false
set_option linter.unusedSimpArgs false
namespace Gn
/-- A difference keeps to a bound. -/
def ok (v d : Int) : Prop := v = 9223372036854775807 ∨ d ≤ v
theorem ok_less {a b d : Int} (ha : ok a d) (hb : ok b d) (h1 : Bd a) (h2 : Bd b) : ok (less a b) d := by
  rw [less_eq h1 h2]; unfold ok at *; unfold Bd at *; omega
theorem ok_plus {a b d e : Int} (ha : ok a d) (hb : ok b e) (h1 : Bd a) (h2 : Bd b) : ok (plus a b) (d + e) := by
  unfold plus
  rw [asB_of h1, asB_of h2]
  unfold ok at *
  split
  · exact .inl rfl
  · unfold asB; repeat' split
    all_goals omega
theorem ok_even {a t : Int} (ha : ok a (2 * t)) (h1 : Bd a) : ok (even a) (2 * t) := by
  unfold even
  rw [asB_of h1]
  unfold ok at *
  split
  · exact .inl rfl
  · omega
theorem ok_half {a t : Int} (ha : ok a (2 * t)) (h1 : Bd a) : ok (half a) t := by
  unfold half
  rw [asB_of h1]
  unfold ok at *
  split
  · exact .inl rfl
  · omega
/-- A point keeps to the cells of the first r sides. -/
def Pt (r m : Nat) (X x : List Int) : Prop := ∀ i, i < r → ∀ j, j < r → ok (cl m X i j) (apartV x i j)
theorem pt_pStep {m r k i j : Nat} {S : MS} {x : List Int} (hl : S.1.length = m * m) (hB : allB S.1) (hk : k < r) (hi : i < m) (hj : j < m) (hr : r ≤ m) (h : Pt r m S.1 x) : Pt r m (pStep m k i j S).1 x := by
  intro a ha b hb
  rw [cl_pStep hl hi hj (by omega)]
  by_cases hab : a = i ∧ b = j
  · rw [if_pos hab]
    obtain ⟨rfl, rfl⟩ := hab
    refine ok_less (h a ha b hb) ?_ (cl_bd hB _ _) (plus_bd _ _)
    have := ok_plus (h a ha k hk) (h k hk b hb) (cl_bd hB _ _) (cl_bd hB _ _)
    rwa [show apartV x a k + apartV x k b = apartV x a b by unfold apartV; omega] at this
  · rw [if_neg hab]; exact h a ha b hb
/-- Lengths and bounds, on the way. -/
theorem form_pI {m k i : Nat} {S : MS} (h : S.1.length = m * m ∧ allB S.1) : (pI m k i S).1.length = m * m ∧ allB (pI m k i S).1 := ⟨by rw [pI_len, h.1], allB_pI h.2⟩
theorem form_pK {m k : Nat} {S : MS} (h : S.1.length = m * m ∧ allB S.1) : (pK m k S).1.length = m * m ∧ allB (pK m k S).1 := ⟨by rw [pK_len, h.1], allB_pK h.2⟩
theorem pt_pI {m r k : Nat} {S : MS} {x : List Int} (hf : S.1.length = m * m ∧ allB S.1) (hk : k < r) (hr : r ≤ m) (h : Pt r m S.1 x) : Pt r m (pI m k m S).1 x :=
  (lp2_inv (fun i j => pStep m k i j) (fun _ _ S => (S.1.length = m * m ∧ allB S.1) ∧ Pt r m S.1 x) m S ⟨hf, h⟩ (fun i hi j hj S ⟨h1, h2⟩ => ⟨⟨by rw [pStep_len, h1.1], allB_p h1.2⟩, pt_pStep h1.1 h1.2 hk hi hj hr h2⟩) (fun _ _ _ h => h)).2
theorem pt_pK {m r : Nat} {S : MS} {x : List Int} (hf : S.1.length = m * m ∧ allB S.1) (hr : r ≤ m) (h : Pt r m S.1 x) : ∀ k, k ≤ r → Pt r m (pK m k S).1 x := by
  intro k
  induction k with
  | zero => exact fun _ => h
  | succ k ih => exact fun hk => pt_pI (form_pK hf) (by omega) hr (ih (by omega))
/-- Never above. -/
theorem le_trans {X Y Z : List Int} (h : le X Y) (k : le Y Z) : le X Z := ⟨h.1.trans k.1, fun i => Int.le_trans (h.2 i) (k.2 i)⟩
theorem le_set_self {X : List Int} {k : Nat} {v : Int} (h : v ≤ nth X k) : le (X.set k v) X := by
  refine ⟨by simp, fun i => ?_⟩
  rw [nth_set]
  split
  · rename_i h'; rw [← h'.1]; exact h
  · exact Int.le_refl _
theorem less_le {a b : Int} (ha : Bd a) : less a b ≤ a := by unfold less; rw [asB_of ha]; omega
theorem le_pStep {m k i j : Nat} {S : MS} (hB : allB S.1) : le (pStep m k i j S).1 S.1 := le_set_self (less_le (hB _))
theorem le_pI {m k : Nat} {S : MS} (hB : allB S.1) : le (pI m k m S).1 S.1 :=
  (lp2_inv (fun i j => pStep m k i j) (fun _ _ S' => allB S'.1 ∧ le S'.1 S.1) m S ⟨hB, le_refl _⟩ (fun i hi j hj S' ⟨h1, h2⟩ => ⟨allB_p h1, le_trans (le_pStep h1) h2⟩) (fun _ _ _ h => h)).2
theorem le_pK {m : Nat} {S : MS} (hB : allB S.1) : ∀ k, le (pK m k S).1 S.1
  | 0 => le_refl _
  | k + 1 => le_trans (le_pI (allB_pK hB)) (le_pK hB k)
theorem le_pK2 {m : Nat} {S : MS} (hB : allB S.1) (k : Nat) : ∀ d, le (pK m (k + d) S).1 (pK m k S).1
  | 0 => le_refl _
  | d + 1 => le_trans (le_pI (allB_pK hB)) (le_pK2 hB k d)
theorem le_of_cl {m : Nat} {X Y : List Int} (hx : X.length = m * m) (hy : Y.length = m * m) (h : ∀ a, a < m → ∀ b, b < m → cl m X a b ≤ cl m Y a b) : le X Y := by
  refine ⟨hx.trans hy.symm, fun k => ?_⟩
  by_cases hk : k < m * m
  · obtain ⟨h1, h2, h3⟩ := div_mod_lt hk
    have := h _ h1 _ h2
    unfold cl at this
    rwa [h3] at this
  · unfold nth
    rw [List.getD_eq_getElem?_getD, List.getElem?_eq_none (by omega), List.getD_eq_getElem?_getD, List.getElem?_eq_none (by omega)]
    exact Int.le_refl _
theorem even_lea {a : Int} (ha : Bd a) : even a ≤ a := by
  have := even_le a
  rw [less_eq ha bd_inf] at this
  omega
/-- The steps of a closing that is not empty. -/
structure Cs (n : Nat) (M Z : List Int) (s : Bool) where
  P : List Int
  X : List Int
  Y : List Int
  sp : Bool
  ss : Bool
  hP : paths (2 * n) (M, false) = (P, sp)
  hX : X = mirrors (2 * n) P
  hO : loops (2 * n) X = false
  hY : Y = evens (2 * n) X
  hD : sides (2 * n) Y sp = (false, ss)
  hZ : strong (2 * n) (Y, ss) = (Z, s)
theorem closeM_some {n : Nat} {M Z : List Int} {s : Bool} (h : closeM (2 * n) M = (some Z, s)) : Nonempty (Cs n M Z s) := by
  unfold closeM at h
  dsimp only at h
  split at h
  · simp at h
  rename_i h1
  split at h
  · simp at h
  rename_i h2
  simp only [Prod.mk.injEq, Option.some.injEq] at h
  exact ⟨⟨_, _, _, _, _, rfl, rfl, Bool.eq_false_iff.2 h1, rfl, Prod.ext (Bool.eq_false_iff.2 h2) rfl, Prod.ext h.1 h.2⟩⟩
section
variable {n : Nat} {M Z x : List Int} {s : Bool}
theorem Cs.fP (c : Cs n M Z s) (hl : M.length = (2 * n) * (2 * n)) (hB : allB M) : c.P.length = (2 * n) * (2 * n) ∧ allB c.P := by
  have := form_pK (m := 2 * n) (k := 2 * n) (S := (M, false)) ⟨hl, hB⟩
  have e : pK (2 * n) (2 * n) (M, false) = (c.P, c.sp) := c.hP
  rw [e] at this; exact this
theorem Cs.fX (c : Cs n M Z s) (hl : M.length = (2 * n) * (2 * n)) (hB : allB M) : c.X.length = (2 * n) * (2 * n) ∧ allB c.X := by
  rw [c.hX]; exact ⟨(mI_len _ _ _).trans (c.fP hl hB).1, allB_mI (c.fP hl hB).2⟩
theorem Cs.fY (c : Cs n M Z s) (hl : M.length = (2 * n) * (2 * n)) (hB : allB M) : c.Y.length = (2 * n) * (2 * n) ∧ allB c.Y := by
  rw [c.hY]; exact ⟨(eI_len _ _ _).trans (c.fX hl hB).1, allB_eI (c.fX hl hB).2⟩
theorem Cs.fZ (c : Cs n M Z s) (hl : M.length = (2 * n) * (2 * n)) (hB : allB M) : Z.length = (2 * n) * (2 * n) ∧ allB Z := by
  have h1 : (strong (2 * n) (c.Y, c.ss)).1 = Z := by rw [c.hZ]
  rw [← h1]; exact ⟨(tI_len _ _ _).trans (c.fY hl hB).1, allB_tI (c.fY hl hB).2⟩
theorem Cs.cX (c : Cs n M Z s) (hl : M.length = (2 * n) * (2 * n)) (hB : allB M) {a b : Nat} (ha : a < 2 * n) (hb : b < 2 * n) : cl (2 * n) c.X a b = less (cl (2 * n) c.P a b) (cl (2 * n) c.P (ac b) (ac a)) := by
  rw [c.hX]; exact cl_mirrors (c.fP hl hB).1 (c.fP hl hB).2 a ha b hb
theorem Cs.cY (c : Cs n M Z s) (hl : M.length = (2 * n) * (2 * n)) (hB : allB M) {a b : Nat} (ha : a < 2 * n) (hb : b < 2 * n) : cl (2 * n) c.Y a b = if b = ac a then even (cl (2 * n) c.X a b) else cl (2 * n) c.X a b := by
  rw [c.hY]; exact cl_evens (c.fX hl hB).1 a ha b hb
theorem Cs.cZ (c : Cs n M Z s) (hl : M.length = (2 * n) * (2 * n)) (hB : allB M) {a b : Nat} (ha : a < 2 * n) (hb : b < 2 * n) :
    cl (2 * n) Z a b = if a = b then cl (2 * n) c.Y a b else less (cl (2 * n) c.Y a b) (half (plus (cl (2 * n) c.Y a (ac a)) (cl (2 * n) c.Y (ac b) b))) := by
  have := (cl_strong (s := c.ss) (c.fY hl hB).1 (c.fY hl hB).2).1 a ha b hb
  rwa [c.hZ] at this
theorem Cs.lePM (c : Cs n M Z s) (hB : allB M) : le c.P M := by
  have := le_pK (m := 2 * n) (S := (M, false)) hB (2 * n)
  have e : pK (2 * n) (2 * n) (M, false) = (c.P, c.sp) := c.hP
  rw [e] at this; exact this
theorem Cs.leXP (c : Cs n M Z s) (hl : M.length = (2 * n) * (2 * n)) (hB : allB M) : le c.X c.P :=
  le_of_cl (c.fX hl hB).1 (c.fP hl hB).1 fun a ha b hb => by rw [c.cX hl hB ha hb]; exact less_le (cl_bd (c.fP hl hB).2 _ _)
theorem Cs.leYX (c : Cs n M Z s) (hl : M.length = (2 * n) * (2 * n)) (hB : allB M) : le c.Y c.X :=
  le_of_cl (c.fY hl hB).1 (c.fX hl hB).1 fun a ha b hb => by
    rw [c.cY hl hB ha hb]; split
    · exact even_lea (cl_bd (c.fX hl hB).2 _ _)
    · exact Int.le_refl _
theorem Cs.leZY (c : Cs n M Z s) (hl : M.length = (2 * n) * (2 * n)) (hB : allB M) : le Z c.Y :=
  le_of_cl (c.fZ hl hB).1 (c.fY hl hB).1 fun a ha b hb => by
    rw [c.cZ hl hB ha hb]; split
    · exact Int.le_refl _
    · exact less_le (cl_bd (c.fY hl hB).2 _ _)
theorem Cs.leXM (c : Cs n M Z s) (hl : M.length = (2 * n) * (2 * n)) (hB : allB M) : le c.X M := le_trans (c.leXP hl hB) (c.lePM hB)
theorem Cs.leYM (c : Cs n M Z s) (hl : M.length = (2 * n) * (2 * n)) (hB : allB M) : le c.Y M := le_trans (c.leYX hl hB) (c.leXM hl hB)
theorem Cs.leZM (c : Cs n M Z s) (hl : M.length = (2 * n) * (2 * n)) (hB : allB M) : le Z M := le_trans (c.leZY hl hB) (c.leYM hl hB)
/-- Diagonals. -/
theorem Cs.dX (c : Cs n M Z s) (hl : M.length = (2 * n) * (2 * n)) (hok : okM (2 * n) M) {a : Nat} (ha : a < 2 * n) : cl (2 * n) c.X a a = 0 := by
  have hB := allB_of hl hok
  have h1 : ¬ cl (2 * n) c.X a a < 0 := fun h => by
    have := loops_iff.2 ⟨a, ha, h⟩
    rw [c.hO] at this; cases this
  have h2 := (c.leXM hl hB).2 (a * (2 * n) + a)
  have h3 := (hok a ha a ha).2.1 rfl
  unfold cl at *
  omega
theorem Cs.dZ (c : Cs n M Z s) (hl : M.length = (2 * n) * (2 * n)) (hok : okM (2 * n) M) {a : Nat} (ha : a < 2 * n) : cl (2 * n) Z a a = 0 := by
  have hB := allB_of hl hok
  rw [c.cZ hl hB ha ha, if_pos rfl, c.cY hl hB ha ha, if_neg (fun h => ac_ne a h.symm), c.dX hl hok ha]
/-- Cells across. -/
theorem Cs.sX (c : Cs n M Z s) (hl : M.length = (2 * n) * (2 * n)) (hB : allB M) {a b : Nat} (ha : a < 2 * n) (hb : b < 2 * n) : cl (2 * n) c.X a b = cl (2 * n) c.X (ac b) (ac a) := by
  rw [c.cX hl hB ha hb, c.cX hl hB (ac_lt hb) (ac_lt ha), ac_ac, ac_ac, less_comm]
theorem Cs.sY (c : Cs n M Z s) (hl : M.length = (2 * n) * (2 * n)) (hB : allB M) {a b : Nat} (ha : a < 2 * n) (hb : b < 2 * n) : cl (2 * n) c.Y a b = cl (2 * n) c.Y (ac b) (ac a) := by
  rw [c.cY hl hB ha hb, c.cY hl hB (ac_lt hb) (ac_lt ha), ac_ac]
  by_cases h : b = ac a
  · subst h; rw [if_pos rfl, if_pos rfl, ac_ac]
  · rw [if_neg h, if_neg (fun k => h k.symm), c.sX hl hB ha hb]
theorem Cs.sZ (c : Cs n M Z s) (hl : M.length = (2 * n) * (2 * n)) (hB : allB M) {a b : Nat} (ha : a < 2 * n) (hb : b < 2 * n) : cl (2 * n) Z a b = cl (2 * n) Z (ac b) (ac a) := by
  rw [c.cZ hl hB ha hb, c.cZ hl hB (ac_lt hb) (ac_lt ha), ac_ac, ac_ac, ← c.sY hl hB ha hb, plus_comm]
  by_cases h : a = b
  · subst h; rw [if_pos rfl, if_pos rfl]
  · rw [if_neg h, if_neg (fun k => h (ac_inj k).symm)]
theorem Cs.okZ (c : Cs n M Z s) (hl : M.length = (2 * n) * (2 * n)) (hok : okM (2 * n) M) : okM (2 * n) Z := fun a ha b hb =>
  ⟨(isB_iff _).2 (cl_bd (c.fZ hl (allB_of hl hok)).2 _ _), fun h => by subst h; exact c.dZ hl hok ha, c.sZ hl (allB_of hl hok) ha hb⟩
theorem side_twice (x : List Int) (a : Nat) : apartV x a (ac a) = 2 * sideV x a := by unfold apartV; rw [sideV_ac]; omega
theorem pt_mirrors {n : Nat} {X x : List Int} (hl : X.length = (2 * n) * (2 * n)) (hB : allB X) (h : Pt (2 * n) (2 * n) X x) : Pt (2 * n) (2 * n) (mirrors (2 * n) X) x := fun a ha b hb => by
  rw [cl_mirrors hl hB a ha b hb]
  have := h _ (ac_lt hb) _ (ac_lt ha)
  rw [apartV_ac] at this
  exact ok_less (h a ha b hb) this (cl_bd hB _ _) (cl_bd hB _ _)
theorem pt_evens {n : Nat} {X x : List Int} (hl : X.length = (2 * n) * (2 * n)) (hB : allB X) (h : Pt (2 * n) (2 * n) X x) : Pt (2 * n) (2 * n) (evens (2 * n) X) x := fun a ha b hb => by
  rw [cl_evens hl a ha b hb]
  have h1 := h a ha b hb
  split
  · rename_i e; subst e
    rw [side_twice] at h1 ⊢
    exact ok_even h1 (cl_bd hB _ _)
  · exact h1
theorem pt_strong {n : Nat} {Y x : List Int} {s : Bool} (hl : Y.length = (2 * n) * (2 * n)) (hB : allB Y) (h : Pt (2 * n) (2 * n) Y x) : Pt (2 * n) (2 * n) (strong (2 * n) (Y, s)).1 x := fun a ha b hb => by
  rw [(cl_strong hl hB).1 a ha b hb]
  have h1 := h a ha b hb
  split
  · exact h1
  · refine ok_less h1 ?_ (cl_bd hB _ _) (half_bd _)
    have h2 := ok_plus (h a ha _ (ac_lt ha)) (h _ (ac_lt hb) b hb) (cl_bd hB _ _) (cl_bd hB _ _)
    rw [show apartV x a (ac a) + apartV x (ac b) b = 2 * apartV x a b by unfold apartV; rw [sideV_ac, sideV_ac]; omega] at h2
    exact ok_half h2 (plus_bd _ _)
theorem pt_loops {m : Nat} {X x : List Int} (h : Pt m m X x) : loops m X = false := by
  cases e : loops m X
  · rfl
  · obtain ⟨a, ha, h1⟩ := loops_iff.1 e
    have := h a ha a ha
    rw [apartV_self] at this
    unfold ok at this
    omega
theorem pt_sides {n : Nat} {Y x : List Int} {s : Bool} (hB : allB Y) (h : Pt (2 * n) (2 * n) Y x) : (sides (2 * n) Y s).1 = false := by
  cases e : (sides (2 * n) Y s).1
  · rfl
  · obtain ⟨a, ha, h1⟩ := sides_iff.1.1 e
    have := ok_plus (h a ha _ (ac_lt ha)) (h _ (ac_lt ha) a ha) (cl_bd hB _ _) (cl_bd hB _ _)
    rw [show apartV x a (ac a) + apartV x (ac a) a = 0 by unfold apartV; omega] at this
    unfold ok at this
    omega
/-- Where there is a point, nothing is found to be empty, and the point stays. -/
theorem close_point (hl : M.length = (2 * n) * (2 * n)) (hB : allB M) (h : hasM (2 * n) M x) : ∃ Z s, closeM (2 * n) M = (some Z, s) ∧ hasM (2 * n) Z x := by
  have h0 : Pt (2 * n) (2 * n) M x := h
  have f1 := form_pK (m := 2 * n) (k := 2 * n) (S := (M, false)) ⟨hl, hB⟩
  have h1 : Pt (2 * n) (2 * n) (paths (2 * n) (M, false)).1 x := pt_pK (S := (M, false)) ⟨hl, hB⟩ (Nat.le_refl _) h0 _ (Nat.le_refl _)
  have f1 : (paths (2 * n) (M, false)).1.length = (2 * n) * (2 * n) ∧ allB (paths (2 * n) (M, false)).1 := f1
  unfold closeM
  dsimp only
  generalize paths (2 * n) (M, false) = S at *
  have h2 := pt_mirrors f1.1 f1.2 h1
  have f2 : (mirrors (2 * n) S.1).length = (2 * n) * (2 * n) ∧ allB (mirrors (2 * n) S.1) := ⟨(mI_len _ _ _).trans f1.1, allB_mI f1.2⟩
  have h3 := pt_evens f2.1 f2.2 h2
  have f3 : (evens (2 * n) (mirrors (2 * n) S.1)).length = (2 * n) * (2 * n) ∧ allB (evens (2 * n) (mirrors (2 * n) S.1)) := ⟨(eI_len _ _ _).trans f2.1, allB_eI f2.2⟩
  rw [pt_loops h2, pt_sides f3.2 h3, if_neg (by simp), if_neg (by simp)]
  exact ⟨_, _, rfl, pt_strong f3.1 f3.2 h3⟩
theorem ok_mono {v u d : Int} (h : v ≤ u) (hu : Bd u) (k : ok v d) : ok u d := by unfold ok at *; unfold Bd at hu; omega
theorem hasM_le {m : Nat} {X Y x : List Int} (h : le X Y) (hB : allB Y) (hx : hasM m X x) : hasM m Y x := fun a ha b hb => ok_mono (h.2 _) (hB _) (hx a ha b hb)
theorem close_hasM (hl : M.length = (2 * n) * (2 * n)) (hok : okM (2 * n) M) (h : closeM (2 * n) M = (some Z, s)) : hasM (2 * n) Z x ↔ hasM (2 * n) M x := by
  have hB := allB_of hl hok
  obtain ⟨c⟩ := closeM_some h
  refine ⟨hasM_le (c.leZM hl hB) hB, fun hx => ?_⟩
  obtain ⟨Z', s', h1, h2⟩ := close_point hl hB hx
  rw [h] at h1
  simp only [Prod.mk.injEq, Option.some.injEq] at h1
  rw [h1.1]; exact h2
theorem close_none (hl : M.length = (2 * n) * (2 * n)) (hok : okM (2 * n) M) (h : closeM (2 * n) M = (none, s)) : ¬ hasM (2 * n) M x := fun hx => by
  obtain ⟨Z', s', h1, h2⟩ := close_point hl (allB_of hl hok) hx
  rw [h] at h1
  simp at h1
end
end Gn
end Go.Proofs.Ytkgddgckilledaa

/- Plain: an octagon of two variables, both bounded, closed: each cell is met by a point. No program in sight. -/
import Derived.Test.YtgganboepfikiaaCfn
import Derived.Test.YtgganboepfikiaaCbx
namespace Go.Proofs.Ytgganboepfikiaa
open Go.RowKit
set_option linter.unusedVariables false
set_option linter.unusedSimpArgs false
namespace Gn
/-- The eight bounds of two variables. -/
structure In8 (h0 h1 h2 h3 A B C D x y : Int) : Prop where
  a0 : x ≤ h0
  a1 : -x ≤ h1
  a2 : y ≤ h2
  a3 : -y ≤ h3
  b0 : x - y ≤ A
  b1 : y - x ≤ B
  b2 : x + y ≤ C
  b3 : -x - y ≤ D
/-- Closed bounds. -/
structure Shut8 (h0 h1 h2 h3 A B C D : Int) : Prop where
  s0 : 0 ≤ h0 + h1
  s1 : 0 ≤ h2 + h3
  s2 : 0 ≤ A + B
  s3 : 0 ≤ C + D
  g0 : A ≤ h0 + h3
  g1 : B ≤ h1 + h2
  g2 : C ≤ h0 + h2
  g3 : D ≤ h1 + h3
  u0 : 2 * h0 ≤ A + C
  u1 : 2 * h1 ≤ B + D
  u2 : 2 * h2 ≤ B + C
  u3 : 2 * h3 ≤ A + D
  v0 : A ≤ 2 * h0 + D
  v1 : A ≤ C + 2 * h3
  v2 : B ≤ 2 * h2 + D
  v3 : B ≤ C + 2 * h1
  v4 : C ≤ 2 * h0 + B
  v5 : C ≤ A + 2 * h2
  v6 : D ≤ 2 * h1 + A
  v7 : D ≤ B + 2 * h3
section
variable {h0 h1 h2 h3 A B C D : Int}
theorem met_h0 (s : Shut8 h0 h1 h2 h3 A B C D) : ∃ x y, In8 h0 h1 h2 h3 A B C D x y ∧ x = h0 := by
  obtain ⟨⟩ := s
  obtain ⟨y, hy⟩ : ∃ y, y = max (h0 - A) (max (-h3) (-D - h0)) := ⟨_, rfl⟩
  exact ⟨h0, y, ⟨by omega, by omega, by omega, by omega, by omega, by omega, by omega, by omega⟩, rfl⟩
theorem met_h1 (s : Shut8 h0 h1 h2 h3 A B C D) : ∃ x y, In8 h0 h1 h2 h3 A B C D x y ∧ -x = h1 := by
  obtain ⟨⟩ := s
  obtain ⟨y, hy⟩ : ∃ y, y = max (-h1 - A) (max (-h3) (h1 - D)) := ⟨_, rfl⟩
  exact ⟨-h1, y, ⟨by omega, by omega, by omega, by omega, by omega, by omega, by omega, by omega⟩, by omega⟩
theorem met_h2 (s : Shut8 h0 h1 h2 h3 A B C D) : ∃ x y, In8 h0 h1 h2 h3 A B C D x y ∧ y = h2 := by
  obtain ⟨⟩ := s
  obtain ⟨x, hx⟩ : ∃ x, x = max (-h1) (max (h2 - B) (-D - h2)) := ⟨_, rfl⟩
  exact ⟨x, h2, ⟨by omega, by omega, by omega, by omega, by omega, by omega, by omega, by omega⟩, rfl⟩
theorem met_h3 (s : Shut8 h0 h1 h2 h3 A B C D) : ∃ x y, In8 h0 h1 h2 h3 A B C D x y ∧ -y = h3 := by
  obtain ⟨⟩ := s
  obtain ⟨x, hx⟩ : ∃ x, x = max (-h1) (max (-h3 - B) (h3 - D)) := ⟨_, rfl⟩
  exact ⟨x, -h3, ⟨by omega, by omega, by omega, by omega, by omega, by omega, by omega, by omega⟩, by omega⟩
theorem met_A (s : Shut8 h0 h1 h2 h3 A B C D) : ∃ x y, In8 h0 h1 h2 h3 A B C D x y ∧ x - y = A := by
  obtain ⟨⟩ := s
  obtain ⟨x, hx⟩ : ∃ x, x = max (-h1) (max (A - h3) ((A - D + 1) / 2)) := ⟨_, rfl⟩
  exact ⟨x, x - A, ⟨by omega, by omega, by omega, by omega, by omega, by omega, by omega, by omega⟩, by omega⟩
theorem met_B (s : Shut8 h0 h1 h2 h3 A B C D) : ∃ x y, In8 h0 h1 h2 h3 A B C D x y ∧ y - x = B := by
  obtain ⟨⟩ := s
  obtain ⟨x, hx⟩ : ∃ x, x = max (-h1) (max (-h3 - B) ((-B - D + 1) / 2)) := ⟨_, rfl⟩
  exact ⟨x, x + B, ⟨by omega, by omega, by omega, by omega, by omega, by omega, by omega, by omega⟩, by omega⟩
theorem met_C (s : Shut8 h0 h1 h2 h3 A B C D) : ∃ x y, In8 h0 h1 h2 h3 A B C D x y ∧ x + y = C := by
  obtain ⟨⟩ := s
  obtain ⟨x, hx⟩ : ∃ x, x = max (-h1) (max (C - h2) ((C - B + 1) / 2)) := ⟨_, rfl⟩
  exact ⟨x, C - x, ⟨by omega, by omega, by omega, by omega, by omega, by omega, by omega, by omega⟩, by omega⟩
theorem met_D (s : Shut8 h0 h1 h2 h3 A B C D) : ∃ x y, In8 h0 h1 h2 h3 A B C D x y ∧ -x - y = D := by
  obtain ⟨⟩ := s
  obtain ⟨x, hx⟩ : ∃ x, x = max (-h1) (max (-D - h2) ((-B - D + 1) / 2)) := ⟨_, rfl⟩
  exact ⟨x, -D - x, ⟨by omega, by omega, by omega, by omega, by omega, by omega, by omega, by omega⟩, by omega⟩
end
def tA : Nat → Nat × Nat
  | 0 => (0, 1)
  | 1 => (1, 0)
  | 2 => (2, 3)
  | _ => (3, 2)
def tB : Nat → Nat × Nat
  | 0 => (0, 2)
  | 1 => (2, 0)
  | 2 => (0, 3)
  | _ => (1, 2)
theorem tA_in : ∀ k, k < 4 → (tA k).1 < 4 ∧ (tA k).2 < 4 ∧ (tA k).1 ≠ (tA k).2 := by decide
theorem tB_in : ∀ k, k < 4 → (tB k).1 < 4 ∧ (tB k).2 < 4 ∧ (tB k).1 ≠ (tB k).2 := by decide
def ti1 (bs : List Int) (k : Nat) (X : List Int) : List Int := boundM 4 X (tA k).1 (tA k).2 (min (nth bs k) 12)
def ti2 (bs : List Int) (k : Nat) (X : List Int) : List Int := if 0 ≤ nth bs (8 + k) then boundM 4 X (tB k).1 (tB k).2 (nth bs (4 + k)) else X
def tiA (bs : List Int) (k : Nat) : List Int := lp (ti1 bs) k (topM 4)
def tiM (bs : List Int) (k : Nat) : List Int := lp (ti2 bs) k (tiA bs 4)
def tiny (x : Int) : Prop := -128 ≤ x ∧ x ≤ 127
structure TiOk (X : List Int) : Prop where
  len : X.length = (2 * 2) * (2 * 2)
  ok : okM (2 * 2) X
  fin : allF (2 * 2) 128 X
theorem tiOk_top : TiOk (topM 4) := ⟨by decide +kernel, by decide +kernel, fun a ha b hb => by
  have := cl_topM (m := 2 * 2) ha hb
  rw [show cl (2 * 2) (topM 4) a b = _ from this]
  unfold Fn
  split <;> omega⟩
theorem TiOk.bound {X : List Int} (h : TiOk X) {i j : Nat} {c : Int} (hi : i < 4) (hj : j < 4) (hij : i ≠ j) (hc : tiny c) : TiOk (boundM 4 X i j c) := by
  refine ⟨(boundM_len _ _ _ _ _).trans h.len, okM_bound h.len h.ok hi hj hij, fun a ha b hb => ?_⟩
  have := cl_boundM (m := 2 * 2) (i := i) (j := j) (c := c) h.len hi hj (ac_lt (n := 2) hi) (ac_lt (n := 2) hj) (a := a) hb
  rw [show cl (2 * 2) (boundM 4 X i j c) a b = _ from this]
  unfold tiny at hc
  split
  · have f := h.fin i hi j hj
    rw [asB_small (by omega)]
    unfold Fn at *
    omega
  · exact h.fin a ha b hb
theorem tiOk_A {bs : List Int} (hb : ∀ v, tiny (nth bs v)) (k : Nat) (hk : k ≤ 4) : TiOk (tiA bs k) :=
  lp_inv _ (fun _ X => TiOk X) _ _ tiOk_top fun i hi X h => by
    have t := tA_in i (by omega)
    have := hb i
    unfold tiny at this
    exact h.bound t.1 t.2.1 t.2.2 ⟨by omega, by omega⟩
theorem tiOk_M {bs : List Int} (hb : ∀ v, tiny (nth bs v)) (k : Nat) (hk : k ≤ 4) : TiOk (tiM bs k) :=
  lp_inv _ (fun _ X => TiOk X) _ _ (tiOk_A hb 4 (Nat.le_refl _)) fun i hi X h => by
    have t := tB_in i (by omega)
    unfold ti2
    split
    · exact h.bound t.1 t.2.1 t.2.2 (hb _)
    · exact h
/-- Both are bounded. -/
theorem ti_le {bs : List Int} (hb : ∀ v, tiny (nth bs v)) : ∀ k, k < 4 → cl 4 (tiM bs 4) (tA k).1 (tA k).2 ≤ 12 := by
  have h1 := lp_inv (ti1 bs) (fun i X => TiOk X ∧ ∀ k, k < i → cl 4 X (tA k).1 (tA k).2 ≤ 12) 4 (topM 4) ⟨tiOk_top, fun k hk => absurd hk (by omega)⟩ ?_
  · have h2 := lp_inv (ti2 bs) (fun i X => TiOk X ∧ ∀ k, k < 4 → cl 4 X (tA k).1 (tA k).2 ≤ 12) 4 (tiA bs 4) h1 ?_
    · exact h2.2
    · rintro i hi X ⟨o, h⟩
      have t := tB_in i hi
      unfold ti2
      split
      · refine ⟨o.bound t.1 t.2.1 t.2.2 (hb _), fun k hk => ?_⟩
        have := (le_boundM (n := 2) (c := nth bs (4 + i)) o.ok t.1 t.2.1).2 ((tA k).1 * 4 + (tA k).2)
        exact Int.le_trans this (h k hk)
      · exact ⟨o, h⟩
  · rintro i hi X ⟨o, h⟩
    have t := tA_in i hi
    have hs := hb i
    unfold tiny at hs
    refine ⟨o.bound t.1 t.2.1 t.2.2 ⟨by omega, by omega⟩, fun k hk => ?_⟩
    by_cases e : k = i
    · subst e
      have := cl_boundM (m := 2 * 2) (i := (tA k).1) (j := (tA k).2) (c := min (nth bs k) 12) o.len t.1 t.2.1 (ac_lt (n := 2) t.1) (ac_lt (n := 2) t.2.1) (a := (tA k).1) (b := (tA k).2) t.2.1
      rw [if_pos (.inl ⟨rfl, rfl⟩), asB_small (by omega)] at this
      rw [show cl 4 (ti1 bs k X) (tA k).1 (tA k).2 = _ from this]
      omega
    · have := (le_boundM (n := 2) (c := min (nth bs i) 12) o.ok t.1 t.2.1).2 ((tA k).1 * 4 + (tA k).2)
      exact Int.le_trans this (h k (by omega))
theorem ti_nosat {bs : List Int} (hb : ∀ v, tiny (nth bs v)) : (closeM (2 * 2) (tiM bs 4)).2 = false := by
  have o := tiOk_M hb 4 (Nat.le_refl _)
  have hB := allB_of o.len o.ok
  have p0 : allF (2 * 2) 128 (pK (2 * 2) 0 (tiM bs 4, false)).1 ∧ (pK (2 * 2) 0 (tiM bs 4, false)).2 = false := ⟨o.fin, rfl⟩
  have p1 := paths_fin6 o.len hB (by omega) (by omega) (by omega) p0
  have p2 := paths_fin6 o.len hB (by omega) (by omega) (by omega) p1
  have p3 := paths_fin6 o.len hB (by omega) (by omega) (by omega) p2
  have p4 := paths_fin6 o.len hB (by omega) (by omega) (by omega) p3
  exact closeM_nosat o.len hB p4.1 p4.2 (by omega)
/-- Each cell is met. -/
theorem ti_met {bs Z : List Int} (hb : ∀ v, tiny (nth bs v)) (hA : closeM (2 * 2) (tiM bs 4) = (some Z, false)) :
    (∀ i, i < 4 → ∀ j, j < 4 → cl 4 Z i j ≠ 9223372036854775807) ∧ ∀ i, i < 4 → ∀ j, j < 4 → i ≠ j → ∃ x y : Int, (-6 ≤ x ∧ x ≤ 6) ∧ (-6 ≤ y ∧ y ≤ 6) ∧ hasM 4 (tiM bs 4) [x, y] ∧ apartV [x, y] i j = cl 4 Z i j := by
  have o := tiOk_M hb 4 (Nat.le_refl _)
  have hB := allB_of o.len o.ok
  obtain ⟨c⟩ := closeM_some hA
  have hu := ti_le hb
  have hle := (c.leZM o.len hB).2
  have uz := fun a ha => c.uZ o.len o.ok rfl (a := a) ha
  have u0 := uz 0 (by omega)
  have u1 := uz 1 (by omega)
  have u2 := uz 2 (by omega)
  have u3 := uz 3 (by omega)
  have l0 := Int.le_trans (hle (0 * 4 + 1)) (hu 0 (by omega))
  have l1 := Int.le_trans (hle (1 * 4 + 0)) (hu 1 (by omega))
  have l2 := Int.le_trans (hle (2 * 4 + 3)) (hu 2 (by omega))
  have l3 := Int.le_trans (hle (3 * 4 + 2)) (hu 3 (by omega))
  have e0 : nth Z (0 * 4 + 1) = cl (2 * 2) Z 0 (ac 0) := rfl
  have e1 : nth Z (1 * 4 + 0) = cl (2 * 2) Z 1 (ac 1) := rfl
  have e2 : nth Z (2 * 4 + 3) = cl (2 * 2) Z 2 (ac 2) := rfl
  have e3 : nth Z (3 * 4 + 2) = cl (2 * 2) Z 3 (ac 3) := rfl
  rw [e0] at l0
  rw [e1] at l1
  rw [e2] at l2
  rw [e3] at l3
  have bz := fun a b => cl_bd (m := 2 * 2) (c.fZ o.len hB).2 a b
  have b0 := bz 0 (ac 0)
  have b1 := bz 1 (ac 1)
  have b2 := bz 2 (ac 2)
  have b3 := bz 3 (ac 3)
  unfold Bd at b0 b1 b2 b3
  have hf : ∀ a, a < 4 → c.h a ≠ 9223372036854775807 ∧ -2305843009213693953 ≤ c.h a ∧ c.h a ≤ 6 ∧ cl (2 * 2) Z a (ac a) = 2 * c.h a := fun a ha => by
    rcases (show a = 0 ∨ a = 1 ∨ a = 2 ∨ a = 3 by omega) with rfl | rfl | rfl | rfl
    · clear u1 u2 u3; omega
    · clear u0 u2 u3; omega
    · clear u0 u1 u3; omega
    · clear u0 u1 u2; omega
  clear u0 u1 u2 u3 l0 l1 l2 l3 b0 b1 b2 b3 hle uz hu e0 e1 e2 e3
  have F1 : ∀ a, a < 4 → ∀ b, b < 4 → cl (2 * 2) Z a b ≠ 9223372036854775807 ∧ cl (2 * 2) Z a b ≤ c.h a + c.h (ac b) := fun a ha b hb' => by
    have z := c.zP o.len o.ok rfl (a := a) (b := b) ha hb'
    have x1 := hf a ha
    have x2 := hf (ac b) (ac_lt (n := 2) hb')
    have w := hv_ways (c.h a) (c.h (ac b))
    rw [z]
    generalize hv (c.h a) (c.h (ac b)) = q at *
    omega
  have F2 : ∀ a, a < 4 → ∀ k, k < 4 → ∀ b, b < 4 → cl (2 * 2) Z a b ≤ cl (2 * 2) Z a k + cl (2 * 2) Z k b := fun a ha k hk b hb' =>
    (c.tZ o.len o.ok rfl k hk a ha b hb' (F1 a ha k hk).1 (F1 k hk b hb').1).2
  have F4 := fun a ha b hb' => c.sZ o.len hB (a := a) (b := b) ha hb'
  have F5 := fun a ha => c.dZ o.len o.ok (a := a) ha
  have hh := fun x => close_hasM (x := x) o.len o.ok hA
  have f0 := hf 0 (by omega)
  have f1 := hf 1 (by omega)
  have f2 := hf 2 (by omega)
  have f3 := hf 3 (by omega)
  have d0 := F5 0 (by omega)
  have d1 := F5 1 (by omega)
  have d2 := F5 2 (by omega)
  have d3 := F5 3 (by omega)
  have y0 := F4 0 (by omega) 2 (by omega)
  have y1 := F4 2 (by omega) 0 (by omega)
  have y2 := F4 0 (by omega) 3 (by omega)
  have y3 := F4 1 (by omega) 2 (by omega)
  have a0 : ac 0 = 1 := rfl
  have a1 : ac 1 = 0 := rfl
  have a2 : ac 2 = 3 := rfl
  have a3 : ac 3 = 2 := rfl
  rw [a0] at f0
  rw [a1] at f1
  rw [a2] at f2
  rw [a3] at f3
  rw [a0, a2] at y0 y1
  rw [a0, a3] at y2
  rw [a1, a2] at y3
  have s : Shut8 (c.h 0) (c.h 1) (c.h 2) (c.h 3) (cl (2 * 2) Z 0 2) (cl (2 * 2) Z 2 0) (cl (2 * 2) Z 0 3) (cl (2 * 2) Z 1 2) := by
    have t := fun a k b (h : a < 4 ∧ k < 4 ∧ b < 4) => F2 a h.1 k h.2.1 b h.2.2
    have g := fun a b (h : a < 4 ∧ b < 4) => (F1 a h.1 b h.2).2
    have t1 := t 0 1 0 (by omega)
    have t2 := t 2 3 2 (by omega)
    have t3 := t 0 2 0 (by omega)
    have t4 := t 0 3 0 (by omega)
    have t5 := t 0 2 1 (by omega)
    have t6 := t 1 2 0 (by omega)
    have t7 := t 2 0 3 (by omega)
    have t8 := t 3 0 2 (by omega)
    have t9 := t 0 1 2 (by omega)
    have t10 := t 0 3 2 (by omega)
    have t11 := t 2 3 0 (by omega)
    have t12 := t 2 1 0 (by omega)
    have t13 := t 0 1 3 (by omega)
    have t14 := t 0 2 3 (by omega)
    have t15 := t 1 0 2 (by omega)
    have t16 := t 1 3 2 (by omega)
    have g1 := g 0 2 (by omega)
    have g2 := g 2 0 (by omega)
    have g3 := g 0 3 (by omega)
    have g4 := g 1 2 (by omega)
    rw [a2] at g1
    rw [a0] at g2
    rw [a3] at g3
    rw [a2] at g4
    clear t g F1 F2 F4 F5 hf bz hh
    exact ⟨by omega, by omega, by omega, by omega, by omega, by omega, by omega, by omega, by omega, by omega, by omega, by omega, by omega, by omega, by omega, by omega, by omega, by omega, by omega, by omega⟩
  refine ⟨fun i hi j hj => (F1 i hi j hj).1, fun i hi j hj hij => ?_⟩
  have key : ∀ x y, In8 (c.h 0) (c.h 1) (c.h 2) (c.h 3) (cl (2 * 2) Z 0 2) (cl (2 * 2) Z 2 0) (cl (2 * 2) Z 0 3) (cl (2 * 2) Z 1 2) x y → (-6 ≤ x ∧ x ≤ 6) ∧ (-6 ≤ y ∧ y ≤ 6) ∧ hasM 4 (tiM bs 4) [x, y] := fun x y p => by
    obtain ⟨p0, p1, p2, p3, p4, p5, p6, p7⟩ := p
    refine ⟨⟨by omega, by omega⟩, ⟨by omega, by omega⟩, (hh [x, y]).1 fun a ha b hb' => .inr ?_⟩
    have ha : a < 4 := ha
    have hb' : b < 4 := hb'
    have q0 : sideV [x, y] 0 = x := rfl
    have q1 : sideV [x, y] 1 = -x := rfl
    have q2 : sideV [x, y] 2 = y := rfl
    have q3 : sideV [x, y] 3 = -y := rfl
    unfold apartV
    clear F1 F2 F4 F5 hf bz hh s
    rcases (show a = 0 ∨ a = 1 ∨ a = 2 ∨ a = 3 by omega) with rfl | rfl | rfl | rfl <;> rcases (show b = 0 ∨ b = 1 ∨ b = 2 ∨ b = 3 by omega) with rfl | rfl | rfl | rfl <;> simp only [q0, q1, q2, q3] <;> omega
  have fin : ∀ (v : Int), (∃ x y, In8 (c.h 0) (c.h 1) (c.h 2) (c.h 3) (cl (2 * 2) Z 0 2) (cl (2 * 2) Z 2 0) (cl (2 * 2) Z 0 3) (cl (2 * 2) Z 1 2) x y ∧ apartV [x, y] i j = v) → v = cl (2 * 2) Z i j → ∃ x y : Int, (-6 ≤ x ∧ x ≤ 6) ∧ (-6 ≤ y ∧ y ≤ 6) ∧ hasM 4 (tiM bs 4) [x, y] ∧ apartV [x, y] i j = cl 4 Z i j := by
    rintro v ⟨x, y, h1, h2⟩ hv
    obtain ⟨k1, k2, k3⟩ := key x y h1
    exact ⟨x, y, k1, k2, k3, h2.trans hv⟩
  have m0 := met_h0 s
  have m1 := met_h1 s
  have m2 := met_h2 s
  have m3 := met_h3 s
  have m4 := met_A s
  have m5 := met_B s
  have m6 := met_C s
  have m7 := met_D s
  clear F1 F2 F4 F5 hf bz hh s key
  rcases (show i = 0 ∨ i = 1 ∨ i = 2 ∨ i = 3 by omega) with rfl | rfl | rfl | rfl <;> rcases (show j = 0 ∨ j = 1 ∨ j = 2 ∨ j = 3 by omega) with rfl | rfl | rfl | rfl
  · exact absurd rfl hij
  · obtain ⟨x, y, h, e⟩ := m0; exact fin _ ⟨x, y, h, rfl⟩ (by show x - -x = _; omega)
  · obtain ⟨x, y, h, e⟩ := m4; exact fin _ ⟨x, y, h, rfl⟩ (by show x - y = _; omega)
  · obtain ⟨x, y, h, e⟩ := m6; exact fin _ ⟨x, y, h, rfl⟩ (by show x - -y = _; omega)
  · obtain ⟨x, y, h, e⟩ := m1; exact fin _ ⟨x, y, h, rfl⟩ (by show -x - x = _; omega)
  · exact absurd rfl hij
  · obtain ⟨x, y, h, e⟩ := m7; exact fin _ ⟨x, y, h, rfl⟩ (by show -x - y = _; omega)
  · obtain ⟨x, y, h, e⟩ := m5; exact fin _ ⟨x, y, h, rfl⟩ (by show -x - -y = _; omega)
  · obtain ⟨x, y, h, e⟩ := m5; exact fin _ ⟨x, y, h, rfl⟩ (by show y - x = _; omega)
  · obtain ⟨x, y, h, e⟩ := m6; exact fin _ ⟨x, y, h, rfl⟩ (by show y - -x = _; omega)
  · exact absurd rfl hij
  · obtain ⟨x, y, h, e⟩ := m2; exact fin _ ⟨x, y, h, rfl⟩ (by show y - -y = _; omega)
  · obtain ⟨x, y, h, e⟩ := m7; exact fin _ ⟨x, y, h, rfl⟩ (by show -y - x = _; omega)
  · obtain ⟨x, y, h, e⟩ := m4; exact fin _ ⟨x, y, h, rfl⟩ (by show -y - -x = _; omega)
  · obtain ⟨x, y, h, e⟩ := m3; exact fin _ ⟨x, y, h, rfl⟩ (by show -y - y = _; omega)
  · exact absurd rfl hij
end Gn
end Go.Proofs.Ytgganboepfikiaa
namespace Go.Proofs.Ytgganboepfikiaa
open Go.RowKit
set_option linter.unusedVariables false
set_option linter.unusedSimpArgs false
namespace Gn
def bjStep (x y : Int) (any : Bool) (i j : Nat) (X : List Int) : List Int := if i ≠ j ∧ (any = false ∨ cl 4 X i j < apartV [x, y] i j) then X.set (i * 4 + j) (apartV [x, y] i j) else X
def bJ (x y : Int) (any : Bool) (i : Nat) : Nat → List Int → List Int := lp (bjStep x y any i)
def bI (x y : Int) (any : Bool) : Nat → List Int → List Int := lp fun i => bJ x y any i 4
def ptStep (M : List Int) (p q : Nat) (S : Bool × List Int) : Bool × List Int := if hasM 4 M [(p : Int) - 6, (q : Int) - 6] then (true, bI ((p : Int) - 6) ((q : Int) - 6) S.1 4 S.2) else S
def ptQ (M : List Int) (p : Nat) : Nat → Bool × List Int → Bool × List Int := lp (ptStep M p)
def ptP (M : List Int) : Nat → Bool × List Int → Bool × List Int := lp fun p => ptQ M p 13
theorem bjStep_len (x y : Int) (any : Bool) (i j : Nat) (X : List Int) : (bjStep x y any i j X).length = X.length := by unfold bjStep; split <;> simp
theorem bJ_len (x y : Int) (any : Bool) (i j : Nat) (X : List Int) : (bJ x y any i j X).length = X.length := lp_keep _ (fun S : List Int => S.length = X.length) _ _ rfl fun i S h => by rw [bjStep_len, h]
theorem bI_len (x y : Int) (any : Bool) (i : Nat) (X : List Int) : (bI x y any i X).length = X.length := lp_keep _ (fun S : List Int => S.length = X.length) _ _ rfl fun i S h => by rw [bJ_len, h]
/-- A point beside the best: each cell. -/
theorem bI_cell {x y : Int} {any : Bool} {X : List Int} (hl : X.length = 4 * 4) (a : Nat) (ha : a < 4) (b : Nat) (hb : b < 4) :
    cl 4 (bI x y any 4 X) a b = if a = b then cl 4 X a b else if any = false then apartV [x, y] a b else max (cl 4 X a b) (apartV [x, y] a b) := by
  have key := lp2_inv (fun i j => bjStep x y any i j) (fun i j Y => Y.length = 4 * 4 ∧ ∀ a, a < 4 → ∀ b, b < 4 → cl 4 Y a b = if (a < i ∨ (a = i ∧ b < j)) ∧ a ≠ b then (if any = false then apartV [x, y] a b else max (cl 4 X a b) (apartV [x, y] a b)) else cl 4 X a b) 4 X
    ⟨hl, fun a _ b _ => (if_neg (by omega)).symm⟩ ?_ ?_
  · have := key.2 a ha b hb
    by_cases h : a = b
    · rw [if_neg (fun k => k.2 h)] at this; rw [if_pos h]; exact this
    · rw [if_pos ⟨.inl ha, h⟩] at this; rw [if_neg h]; exact this
  · rintro i hi j hj Y ⟨h1, h2⟩
    refine ⟨by rw [bjStep_len, h1], fun a ha b hb => ?_⟩
    have h3 := h2 i hi j hj
    rw [if_neg (by omega)] at h3
    unfold bjStep
    by_cases hc : i ≠ j ∧ (any = false ∨ cl 4 Y i j < apartV [x, y] i j)
    · rw [if_pos hc, cl_set h1 hi hj hb]
      by_cases hab : a = i ∧ b = j
      · obtain ⟨rfl, rfl⟩ := hab
        rw [if_pos ⟨rfl, rfl⟩, if_pos ⟨.inr ⟨rfl, by omega⟩, hc.1⟩]
        rcases hc.2 with h | h
        · rw [if_pos h]
        · rw [h3] at h
          split
          · rfl
          · omega
      · rw [if_neg hab, h2 a ha b hb]
        by_cases h : (a < i ∨ (a = i ∧ b < j)) ∧ a ≠ b
        · rw [if_pos h, if_pos (show (a < i ∨ (a = i ∧ b < j + 1)) ∧ a ≠ b by omega)]
        · rw [if_neg h, if_neg (show ¬ ((a < i ∨ (a = i ∧ b < j + 1)) ∧ a ≠ b) by omega)]
    · rw [if_neg hc, h2 a ha b hb]
      by_cases hab : a = i ∧ b = j
      · obtain ⟨rfl, rfl⟩ := hab
        rw [if_neg (show ¬ ((a < a ∨ (a = a ∧ b < b)) ∧ a ≠ b) by omega)]
        by_cases hne : a = b
        · rw [if_neg (fun k => k.2 hne)]
        · rw [if_pos ⟨.inr ⟨rfl, by omega⟩, hne⟩]
          have h4 : ¬ (any = false ∨ cl 4 Y a b < apartV [x, y] a b) := fun k => hc ⟨hne, k⟩
          rw [h3] at h4
          rw [if_neg (fun k => h4 (.inl k))]
          have h5 : ¬ cl 4 X a b < apartV [x, y] a b := fun k => h4 (.inr k)
          omega
      · by_cases h : (a < i ∨ (a = i ∧ b < j)) ∧ a ≠ b
        · rw [if_pos h, if_pos (show (a < i ∨ (a = i ∧ b < j + 1)) ∧ a ≠ b by omega)]
        · rw [if_neg h, if_neg (show ¬ ((a < i ∨ (a = i ∧ b < j + 1)) ∧ a ≠ b) by omega)]
  · rintro i hi Y ⟨h1, h2⟩
    refine ⟨h1, fun a ha b hb => ?_⟩
    rw [h2 a ha b hb]
    by_cases h : (a < i ∨ (a = i ∧ b < 4)) ∧ a ≠ b
    · rw [if_pos h, if_pos (show (a < i + 1 ∨ (a = i + 1 ∧ b < 0)) ∧ a ≠ b by omega)]
    · rw [if_neg h, if_neg (show ¬ ((a < i + 1 ∨ (a = i + 1 ∧ b < 0)) ∧ a ≠ b) by omega)]
/-- A point that has been looked at. -/
def seen (p q : Nat) (x y : Int) : Prop := ∃ p' q' : Nat, x = (p' : Int) - 6 ∧ y = (q' : Int) - 6 ∧ q' < 13 ∧ (p' < p ∨ (p' = p ∧ q' < q))
structure Best (M : List Int) (p q : Nat) (S : Bool × List Int) : Prop where
  len : S.2.length = 4 * 4
  dia : ∀ a, a < 4 → cl 4 S.2 a a = 0
  no : S.1 = false → ∀ x y, seen p q x y → ¬ hasM 4 M [x, y]
  met : S.1 = true → ∀ a, a < 4 → ∀ b, b < 4 → a ≠ b → ∃ x y, hasM 4 M [x, y] ∧ apartV [x, y] a b = cl 4 S.2 a b
  top : S.1 = true → ∀ a, a < 4 → ∀ b, b < 4 → a ≠ b → ∀ x y, seen p q x y → hasM 4 M [x, y] → apartV [x, y] a b ≤ cl 4 S.2 a b
theorem best_all (M : List Int) : Best M 13 0 (ptP M 13 (false, topM 4)) := by
  refine lp2_inv (fun p q => ptStep M p q) (fun p q S => Best M p q S) 13 (false, topM 4) ⟨by decide +kernel, by decide +kernel, ?_, fun h => (by cases h), fun h => (by cases h)⟩ ?_ ?_
  · rintro _ x y ⟨p', q', _, _, _, h⟩
    omega
  · rintro p hp q hq S ⟨h1, h2, h3, h4, h5⟩
    have hs : ∀ x y, seen p (q + 1) x y → seen p q x y ∨ (x = (p : Int) - 6 ∧ y = (q : Int) - 6) := by
      rintro x y ⟨p', q', e1, e2, e3, e4⟩
      by_cases h : p' = p ∧ q' = q
      · obtain ⟨rfl, rfl⟩ := h; exact .inr ⟨e1, e2⟩
      · exact .inl ⟨p', q', e1, e2, e3, by omega⟩
    unfold ptStep
    by_cases hh : hasM 4 M [(p : Int) - 6, (q : Int) - 6]
    · rw [if_pos hh]
      have hc := fun a ha b hb => bI_cell (x := (p : Int) - 6) (y := (q : Int) - 6) (any := S.1) h1 a ha b hb
      refine ⟨(bI_len _ _ _ _ _).trans h1, fun a ha => ?_, fun h => (by cases h), fun _ a ha b hb hab => ?_, fun _ a ha b hb hab x y hxy hm => ?_⟩
      · show cl 4 (bI _ _ _ 4 _) a a = 0
        rw [hc a ha a ha, if_pos rfl]; exact h2 a ha
      · show ∃ x y, hasM 4 M [x, y] ∧ apartV [x, y] a b = cl 4 (bI _ _ _ 4 _) a b
        rw [hc a ha b hb, if_neg hab]
        by_cases ha1 : S.1 = false
        · rw [if_pos ha1]; exact ⟨_, _, hh, rfl⟩
        · rw [if_neg ha1]
          obtain ⟨x, y, k1, k2⟩ := h4 (by simpa using ha1) a ha b hb hab
          rcases Int.le_total (cl 4 S.2 a b) (apartV [(p : Int) - 6, (q : Int) - 6] a b) with h | h
          · rw [Int.max_eq_right h]; exact ⟨_, _, hh, rfl⟩
          · rw [Int.max_eq_left h]; exact ⟨x, y, k1, k2⟩
      · show apartV [x, y] a b ≤ cl 4 (bI _ _ _ 4 _) a b
        rw [hc a ha b hb, if_neg hab]
        rcases hs x y hxy with h | ⟨rfl, rfl⟩
        · by_cases ha1 : S.1 = false
          · exact absurd hm (h3 ha1 x y h)
          · rw [if_neg ha1]
            have := h5 (by simpa using ha1) a ha b hb hab x y h hm
            omega
        · split <;> omega
    · rw [if_neg hh]
      exact ⟨h1, h2, fun h x y hxy => by
        rcases hs x y hxy with k | ⟨rfl, rfl⟩
        · exact h3 h x y k
        · exact hh, h4, fun h a ha b hb hab x y hxy hm => by
        rcases hs x y hxy with k | ⟨rfl, rfl⟩
        · exact h5 h a ha b hb hab x y k hm
        · exact absurd hm hh⟩
  · rintro p hp S ⟨h1, h2, h3, h4, h5⟩
    have hs : ∀ x y, seen (p + 1) 0 x y → seen p 13 x y := by
      rintro x y ⟨p', q', e1, e2, e3, e4⟩
      exact ⟨p', q', e1, e2, e3, by omega⟩
    exact ⟨h1, h2, fun h x y hxy => h3 h x y (hs x y hxy), h4, fun h a ha b hb hab x y hxy hm => h5 h a ha b hb hab x y (hs x y hxy) hm⟩
/-- The law of CloseTight. -/
theorem tight_law {bs : List Int} (hb : ∀ v, tiny (nth bs v)) {Q : ((Int × Bool × List Int) × Bool) × Int} (hQ : closeP 2 false (tiM bs 4) = Q) :
    Q.2 = 0 ∧ Q.1.2 = false ∧ Q.1.1.1 = 2 ∧ ((ptP (tiM bs 4) 13 (false, topM 4)).1 = false → Q.1.1.2.1 = true) ∧ ((ptP (tiM bs 4) 13 (false, topM 4)).1 = true → Q.1.1.2.1 = false ∧ Q.1.1.2.2 = (ptP (tiM bs 4) 13 (false, topM 4)).2) := by
  have o := tiOk_M hb 4 (Nat.le_refl _)
  have hB := allB_of o.len o.ok
  have hc : chk ((2 : Nat) : Int) false (tiM bs 4) = 0 := chk_ok (by omega) o.len o.ok
  have hns := ti_nosat hb
  have B := best_all (tiM bs 4)
  generalize ptP (tiM bs 4) 13 (false, topM 4) = S at *
  have hQ' : closeP ((2 : Nat) : Int) false (tiM bs 4) = Q := hQ
  rw [closeP_ok hc] at hQ'
  subst hQ'
  rcases hA : closeM (2 * 2) (tiM bs 4) with ⟨_ | Z, s⟩
  · rw [hA] at hns
    refine ⟨rfl, hns, rfl, fun _ => rfl, fun h => ?_⟩
    obtain ⟨x, y, h1, _⟩ := B.met h 0 (by omega) 1 (by omega) (by omega)
    exact absurd h1 (close_none o.len o.ok hA)
  · rw [hA] at hns
    have hs : s = false := hns
    subst hs
    obtain ⟨hf, hm⟩ := ti_met hb hA
    have hsn : ∀ x y : Int, (-6 ≤ x ∧ x ≤ 6) → (-6 ≤ y ∧ y ≤ 6) → seen 13 0 x y := fun x y hx hy => ⟨(x + 6).toNat, (y + 6).toNat, by omega, by omega, by omega, by omega⟩
    obtain ⟨c⟩ := closeM_some hA
    refine ⟨rfl, rfl, rfl, fun h => ?_, fun h => ⟨rfl, ?_⟩⟩
    · obtain ⟨x, y, h1, h2, h3, _⟩ := hm 0 (by omega) 1 (by omega) (by omega)
      exact absurd h3 (B.no h x y (hsn x y h1 h2))
    · show Z = S.2
      have e1 : Z = mat 4 (fun i j => cl 4 Z i j) := eq_mat (c.fZ o.len hB).1 fun i _ j _ => rfl
      rw [e1]
      refine (eq_mat B.len fun i hi j hj => ?_).symm
      by_cases hij : i = j
      · subst hij
        rw [B.dia i hi]
        exact (c.dZ o.len o.ok (a := i) hi).symm
      · obtain ⟨x, y, h1, h2⟩ := B.met h i hi j hj hij
        have h3 := (close_hasM o.len o.ok hA).2 h1 i hi j hj
        obtain ⟨x', y', k1, k2, k3, k4⟩ := hm i hi j hj hij
        have h4 := B.top h i hi j hj hij x' y' (hsn x' y' k1 k2) k3
        have h5 := hf i hi j hj
        have h6 : cl 4 Z i j = 9223372036854775807 ∨ apartV [x, y] i j ≤ cl 4 Z i j := h3
        omega
end Gn
end Go.Proofs.Ytgganboepfikiaa

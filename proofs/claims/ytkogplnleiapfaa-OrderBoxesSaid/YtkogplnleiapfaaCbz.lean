/- Plain: bounds of variables alone, closed, of 32 bits. No program in sight. -/
import Derived.Test.YtkogplnleiapfaaCpt
namespace Go.Proofs.Ytkogplnleiapfaa
open Go.RowKit
set_option linter.unusedVariables false
set_option linter.unusedSimpArgs false
namespace Gn
/-- The greatest number of a side. -/
def mostV (lo hi : List Int) (i : Nat) : Int := if i % 2 = 0 then nth hi (i / 2) else -(nth lo (i / 2))
def boxStep (m : Nat) (lo hi : List Int) (v : Nat) (X : List Int) : List Int := boundM m (boundM m X (2 * v) (2 * v + 1) (2 * nth hi v)) (2 * v + 1) (2 * v) (-2 * nth lo v)
def boxM (n : Nat) (lo hi : List Int) : Nat → List Int := fun k => lp (boxStep (2 * n) lo hi) k (topM (2 * n))
def boxE (lo hi : List Int) (k : Nat) : Bool := lp (fun v e => e || decide (nth hi v < nth lo v)) k false
def small (x : Int) : Prop := -2147483648 ≤ x ∧ x ≤ 2147483647
theorem boxM_len (n : Nat) (lo hi : List Int) (k : Nat) : (boxM n lo hi k).length = (2 * n) * (2 * n) :=
  lp_keep _ (fun X : List Int => X.length = (2 * n) * (2 * n)) _ _ (topM_len _) fun v X h => by unfold boxStep; rw [boundM_len, boundM_len, h]
theorem cl_topM {m a b : Nat} (ha : a < m) (hb : b < m) : cl m (topM m) a b = if a = b then 0 else 9223372036854775807 := cl_mat ha hb
theorem asB_small {x : Int} (h : -20000000000 ≤ x ∧ x ≤ 20000000000) : asB x = x := asB_of (by unfold Bd; omega)
theorem cl_boxM {n : Nat} {lo hi : List Int} (hl : ∀ v, small (nth lo v)) (hh : ∀ v, small (nth hi v)) : ∀ k, k ≤ n → ∀ a, a < 2 * n → ∀ b, b < 2 * n →
    cl (2 * n) (boxM n lo hi k) a b = if b = ac a ∧ a / 2 < k then 2 * mostV lo hi a else if a = b then 0 else 9223372036854775807
  | 0, _, a, ha, b, hb => by
    rw [if_neg (by omega)]
    exact cl_topM ha hb
  | k + 1, hk, a, ha, b, hb => by
    have ih := cl_boxM (n := n) hl hh k (by omega)
    have e1 : ac (2 * k) = 2 * k + 1 := ac_even k
    have e2 : ac (2 * k + 1) = 2 * k := ac_odd k
    have h1 := hl k
    have h2 := hh k
    unfold small at h1 h2
    show cl (2 * n) (boundM (2 * n) (boundM (2 * n) (boxM n lo hi k) (2 * k) (2 * k + 1) (2 * nth hi k)) (2 * k + 1) (2 * k) (-2 * nth lo k)) a b = _
    have hlen := boxM_len n lo hi k
    have i1 : cl (2 * n) (boxM n lo hi k) (2 * k) (2 * k + 1) = 9223372036854775807 := by rw [ih _ (by omega) _ (by omega), if_neg (by omega), if_neg (by omega)]
    have i2 : cl (2 * n) (boxM n lo hi k) (2 * k + 1) (2 * k) = 9223372036854775807 := by rw [ih _ (by omega) _ (by omega), if_neg (by omega), if_neg (by omega)]
    have B := fun a b (hb : b < 2 * n) => cl_boundM (m := 2 * n) (M := boxM n lo hi k) (i := 2 * k) (j := 2 * k + 1) (c := 2 * nth hi k) hlen (by omega) (by omega) (by rw [e1]; omega) (by rw [e2]; omega) (a := a) (b := b) hb
    rw [cl_boundM (by rw [boundM_len]; exact hlen) (by omega) (by omega) (by rw [e2]; omega) (by rw [e1]; omega) hb, e1, e2]
    simp only [e1, e2] at B
    rw [B _ _ hb, B _ _ (show 2 * k < 2 * n by omega), i1, asB_small (by omega), asB_small (by omega), if_neg (show ¬ ((2 * k + 1 = 2 * k ∧ 2 * k = 2 * k + 1) ∨ (2 * k + 1 = 2 * k ∧ 2 * k = 2 * k + 1)) by omega), i2, ih a ha b hb]
    by_cases c1 : a = 2 * k
    · subst c1
      by_cases c2 : b = 2 * k + 1
      · subst c2
        rw [if_neg (by omega), if_pos (by omega), if_pos (by rw [e1]; omega)]
        unfold mostV
        rw [if_pos (by omega), show 2 * k / 2 = k by omega]
        omega
      · rw [if_neg (by omega), if_neg (by omega), e1, if_neg (show ¬ (b = 2 * k + 1 ∧ 2 * k / 2 < k) by omega), if_neg (show ¬ (b = 2 * k + 1 ∧ 2 * k / 2 < k + 1) by omega)]
    · by_cases c3 : a = 2 * k + 1
      · subst c3
        by_cases c2 : b = 2 * k
        · subst c2
          rw [if_pos (by omega), if_pos (by rw [e2]; omega)]
          unfold mostV
          rw [if_neg (by omega), show (2 * k + 1) / 2 = k by omega]
          omega
        · rw [if_neg (by omega), if_neg (by omega), e2, if_neg (show ¬ (b = 2 * k ∧ (2 * k + 1) / 2 < k) by omega), if_neg (show ¬ (b = 2 * k ∧ (2 * k + 1) / 2 < k + 1) by omega)]
      · rw [if_neg (by omega), if_neg (by omega)]
        by_cases c4 : b = ac a ∧ a / 2 < k
        · rw [if_pos c4, if_pos ⟨c4.1, by omega⟩]
        · rw [if_neg c4, if_neg (show ¬ (b = ac a ∧ a / 2 < k + 1) by omega)]
theorem boxE_iff {lo hi : List Int} {k : Nat} : boxE lo hi k = true ↔ ∃ v, v < k ∧ nth hi v < nth lo v := by
  have key := lp_inv (fun v e => e || decide (nth hi v < nth lo v)) (fun i e => e = true ↔ ∃ v, v < i ∧ nth hi v < nth lo v) k false (by simp) (by
    rintro i hi' e h
    rw [Bool.or_eq_true, h, decide_eq_true_eq]
    constructor
    · rintro (⟨a, h1, h2⟩ | h1)
      · exact ⟨a, by omega, h2⟩
      · exact ⟨i, by omega, h1⟩
    · rintro ⟨a, h1, h2⟩
      by_cases h3 : a = i
      · subst h3; exact .inr h2
      · exact .inl ⟨a, by omega, h2⟩)
  exact key
/-- A row by its numbers. -/
def rowOf (n : Nat) (f : Nat → Int) : List Int := (List.range n).map f
theorem rowOf_len (n : Nat) (f : Nat → Int) : (rowOf n f).length = n := by simp [rowOf]
theorem nth_rowOf {n : Nat} {f : Nat → Int} {v : Nat} (h : v < n) : nth (rowOf n f) v = f v := by simp [rowOf, nth, h]
section
variable {n : Nat} {lo hi : List Int}
theorem mostV_small (hl : ∀ v, small (nth lo v)) (hh : ∀ v, small (nth hi v)) (i : Nat) : -2147483647 ≤ mostV lo hi i + 1 ∧ mostV lo hi i ≤ 2147483648 := by
  have h1 := hl (i / 2)
  have h2 := hh (i / 2)
  unfold small at h1 h2
  unfold mostV
  split <;> omega
theorem mostV_ac (a : Nat) : (mostV lo hi a = nth hi (a / 2) ∧ mostV lo hi (ac a) = -(nth lo (a / 2))) ∨ (mostV lo hi a = -(nth lo (a / 2)) ∧ mostV lo hi (ac a) = nth hi (a / 2)) := by
  unfold mostV
  rw [ac_div]
  by_cases h : a % 2 = 1
  · right; rw [if_neg (by omega), if_pos (by have := (ac_mod a).1; have := mt (ac_mod a).1; omega)]; exact ⟨rfl, rfl⟩
  · left; rw [if_pos (by omega), if_neg (by have := (ac_mod a).2 h; omega)]; exact ⟨rfl, rfl⟩
theorem okM_box (hl : ∀ v, small (nth lo v)) (hh : ∀ v, small (nth hi v)) : okM (2 * n) (boxM n lo hi n) := fun a ha b hb => by
  have F := cl_boxM hl hh n (Nat.le_refl _)
  have ha2 : a / 2 < n := by omega
  have hb2 : b / 2 < n := by omega
  have s := mostV_small hl hh a
  refine ⟨(isB_iff _).2 ?_, fun e => ?_, ?_⟩
  · rw [F a ha b hb]
    split
    · unfold Bd; omega
    · split <;> (unfold Bd; omega)
  · subst e
    rw [F a ha a ha, if_neg (fun h => ac_ne a h.1.symm), if_pos rfl]
  · rw [F a ha b hb, F _ (ac_lt hb) _ (ac_lt ha), ac_ac, ac_div]
    by_cases h : b = ac a
    · subst h
      rw [if_pos ⟨rfl, ha2⟩, if_pos (by rw [ac_div]; exact ⟨rfl, by omega⟩), ac_ac]
    · rw [if_neg (show ¬ (b = ac a ∧ a / 2 < n) from fun k => h k.1), if_neg (show ¬ (ac a = b ∧ b / 2 < n) from fun k => h k.1.symm)]
      by_cases e : a = b
      · subst e; rw [if_pos rfl, if_pos rfl]
      · rw [if_neg e, if_neg (show ¬ (ac b = ac a) from fun k => e (ac_inj k).symm)]
theorem box_empty (hl : ∀ v, small (nth lo v)) (hh : ∀ v, small (nth hi v)) (h : boxE lo hi n = true) : (closeM (2 * n) (boxM n lo hi n)).1 = none := by
  obtain ⟨v, hv, hlt⟩ := boxE_iff.1 h
  rcases hA : closeM (2 * n) (boxM n lo hi n) with ⟨_ | Z, s⟩
  · rfl
  · exfalso
    obtain ⟨c⟩ := closeM_some hA
    have len := boxM_len n lo hi n
    have hok := okM_box (n := n) hl hh
    have hB := allB_of len hok
    have F := cl_boxM hl hh n (Nat.le_refl _)
    have ha : 2 * v < 2 * n := by omega
    have e1 : ac (2 * v) = 2 * v + 1 := ac_even v
    have e2 : ac (2 * v + 1) = 2 * v := ac_odd v
    have y1 := (c.leYM len hB).2 ((2 * v) * (2 * n) + (2 * v + 1))
    have y2 := (c.leYM len hB).2 ((2 * v + 1) * (2 * n) + 2 * v)
    have f1 := F (2 * v) ha (2 * v + 1) (by omega)
    have f2 := F (2 * v + 1) (by omega) (2 * v) ha
    rw [if_pos (by rw [e1]; omega)] at f1
    rw [if_pos (by rw [e2]; omega)] at f2
    unfold cl at f1 f2
    rw [f1] at y1
    rw [f2] at y2
    have hD := (sides_iff (m := 2 * n) (X := c.Y) (s := c.sp)).1
    rw [c.hD] at hD
    have := hD.2 ⟨2 * v, ha, by
      refine Int.lt_of_le_of_lt (plus_mono2 (show cl (2 * n) c.Y (2 * v) (ac (2 * v)) ≤ 2 * mostV lo hi (2 * v) by rw [e1]; exact y1) (show cl (2 * n) c.Y (ac (2 * v)) (2 * v) ≤ 2 * mostV lo hi (2 * v + 1) by rw [e1]; exact y2)) ?_
      have h1 := hl v
      have h2 := hh v
      unfold small at h1 h2
      unfold mostV
      rw [if_pos (by omega), if_neg (by omega), show 2 * v / 2 = v by omega, show (2 * v + 1) / 2 = v by omega]
      unfold plus
      rw [asB_small (by omega), asB_small (by omega), if_neg (by omega), asB_small (by omega)]
      omega⟩
    cases this
/-- A point within the bounds. -/
theorem box_has (hl : ∀ v, small (nth lo v)) (hh : ∀ v, small (nth hi v)) {x : List Int} (hx : ∀ v, v < n → nth lo v ≤ nth x v ∧ nth x v ≤ nth hi v) : hasM (2 * n) (boxM n lo hi n) x := fun a ha b hb => by
  unfold okP
  rw [cl_boxM hl hh n (Nat.le_refl _) a ha b hb]
  have h1 := hx (a / 2) (by omega)
  split
  · rename_i h; rw [h.1, side_twice]
    right
    unfold sideV mostV
    split <;> split <;> omega
  · split
    · rename_i h; subst h; right; rw [apartV_self]; omega
    · exact .inl rfl
/-- The answer: each sum and difference by the bounds. -/
def boxW (n : Nat) (lo hi : List Int) : List Int := mat (2 * n) fun i j => if i = j then 0 else mostV lo hi i + mostV lo hi (ac j)
theorem box_close (hl : ∀ v, small (nth lo v)) (hh : ∀ v, small (nth hi v)) (h : boxE lo hi n = false) : (closeM (2 * n) (boxM n lo hi n)).1 = some (boxW n lo hi) := by
  have hle : ∀ v, v < n → nth lo v ≤ nth hi v := fun v hv => by
    rcases Int.lt_or_le (nth hi v) (nth lo v) with h1 | h1
    · have := boxE_iff.2 ⟨v, hv, h1⟩; rw [h] at this; cases this
    · exact h1
  have len := boxM_len n lo hi n
  have hok := okM_box (n := n) hl hh
  have hB := allB_of len hok
  have F := cl_boxM hl hh n (Nat.le_refl _)
  obtain ⟨Z, s, hA, _⟩ := close_point (n := n) (x := lo) len hB (box_has hl hh fun v hv => ⟨Int.le_refl _, hle v hv⟩)
  rw [hA]
  obtain ⟨c⟩ := closeM_some hA
  refine congrArg some (eq_mat (c.fZ len hB).1 fun a ha b hb => ?_)
  by_cases hab : a = b
  · rw [if_pos hab]; subst hab; exact c.dZ len hok ha
  · rw [if_neg hab]
    have s1 := mostV_small hl hh a
    have s2 := mostV_small hl hh (ac b)
    have up : cl (2 * n) Z a b ≤ mostV lo hi a + mostV lo hi (ac b) := by
      rw [c.cZ len hB ha hb, if_neg hab, less_eq (cl_bd (c.fY len hB).2 _ _) (half_bd _)]
      have y1 := (c.leYM len hB).2 (a * (2 * n) + ac a)
      have y2 := (c.leYM len hB).2 (ac b * (2 * n) + b)
      have f1 := F a ha (ac a) (ac_lt ha)
      have f2 := F (ac b) (ac_lt hb) b hb
      rw [if_pos ⟨rfl, by omega⟩] at f1
      rw [ac_ac, ac_div, if_pos ⟨rfl, by omega⟩] at f2
      have h3 := half_mono (plus_mono2 (show cl (2 * n) c.Y a (ac a) ≤ 2 * mostV lo hi a by rw [← f1]; exact y1) (show cl (2 * n) c.Y (ac b) b ≤ 2 * mostV lo hi (ac b) by rw [← f2]; exact y2))
      have h4 : half (plus (2 * mostV lo hi a) (2 * mostV lo hi (ac b))) = mostV lo hi a + mostV lo hi (ac b) := by
        unfold plus
        rw [asB_small (by omega), asB_small (by omega), if_neg (by omega)]
        unfold half
        rw [asB_idem, asB_of (by unfold Bd; omega), if_neg (by omega)]
        omega
      rw [h4] at h3
      omega
    have low : ok (cl (2 * n) Z a b) (mostV lo hi a + mostV lo hi (ac b)) := by
      obtain ⟨x, hxd⟩ : ∃ x, x = rowOf n (fun v => if v = a / 2 then (if a % 2 = 0 then nth hi v else nth lo v) else if v = b / 2 then (if b % 2 = 0 then nth lo v else nth hi v) else nth lo v) := ⟨_, rfl⟩
      have hx : ∀ v, v < n → nth x v = if v = a / 2 then (if a % 2 = 0 then nth hi v else nth lo v) else if v = b / 2 then (if b % 2 = 0 then nth lo v else nth hi v) else nth lo v := fun v hv => by rw [hxd, nth_rowOf hv]
      have hin := box_has (n := n) hl hh (x := x) fun v hv => by
        have := hle v hv
        rw [hx v hv]
        repeat' split
        all_goals omega
      have := (close_hasM (x := x) len hok hA).2 hin a ha b hb
      have e : apartV x a b = mostV lo hi a + mostV lo hi (ac b) := by
        have m1 := ac_mod b
        have m2 : (ac b % 2 = 0 ∧ b % 2 = 1) ∨ (ac b % 2 = 1 ∧ b % 2 = 0) := by omega
        have q1 : b / 2 = a / 2 → nth hi (b / 2) = nth hi (a / 2) := fun h => by rw [h]
        have q2 : b / 2 = a / 2 → nth lo (b / 2) = nth lo (a / 2) := fun h => by rw [h]
        unfold apartV sideV mostV
        rw [ac_div, hx _ (show a / 2 < n by omega), hx _ (show b / 2 < n by omega)]
        clear hx hxd hin up s1 s2 F hok hB c hA m1 this hle
        generalize nth hi (b / 2) = hb' at *
        generalize nth lo (b / 2) = lb' at *
        generalize nth hi (a / 2) = ha' at *
        generalize nth lo (a / 2) = la' at *
        repeat' split
        all_goals omega
      have h5 : ok (cl (2 * n) Z a b) (apartV x a b) := this
      rwa [e] at h5
    unfold ok at low
    omega
end
/-- What closing makes of a box. -/
theorem boxes_law {n : Nat} {lo hi : List Int} (hn : n ≤ 64) (hl : ∀ v, small (nth lo v)) (hh : ∀ v, small (nth hi v)) {Q : ((Int × Bool × List Int) × Bool) × Int} (hQ : closeP n false (boxM n lo hi n) = Q) :
    Q.2 = 0 ∧ Q.1.1.1 = n ∧ (boxE lo hi n = true → Q.1.1.2.1 = true) ∧ (boxE lo hi n = false → Q.1.1.2.1 = false ∧ Q.1.1.2.2 = boxW n lo hi) := by
  have hc : chk n false (boxM n lo hi n) = 0 := chk_ok hn (by rw [boxM_len, sq2]) (okM_box hl hh)
  subst hQ
  rw [closeP_ok hc]
  rcases hA : closeM (2 * n) (boxM n lo hi n) with ⟨_ | Z, s⟩
  · refine ⟨rfl, rfl, fun _ => rfl, fun h => ?_⟩
    have := box_close (n := n) hl hh h
    rw [hA] at this
    cases this
  · refine ⟨rfl, rfl, fun h => ?_, fun h => ?_⟩
    · have := box_empty (n := n) hl hh h
      rw [hA] at this
      cases this
    · have := box_close (n := n) hl hh h
      rw [hA] at this
      injection this with this
      exact ⟨rfl, this⟩
theorem i16_small {x : Int} (h : (Lit.int .i16 x).wf = true) : small x := by
  simp [Lit.wf, IntKind.min, IntKind.max, IntKind.signed, IntKind.bits] at h
  exact ⟨by omega, by omega⟩
theorem i32_small {x : Int} (h : (Lit.int .i32 x).wf = true) : small x := by
  simp [Lit.wf, IntKind.min, IntKind.max, IntKind.signed, IntKind.bits] at h
  exact ⟨by omega, by omega⟩
theorem small_nth {xs : List Int} (h : ∀ x ∈ xs, small x) (v : Nat) : small (nth xs v) := by
  by_cases hv : v < xs.length
  · exact h _ (nth_mem hv)
  · unfold nth
    rw [List.getD_eq_getElem?_getD, List.getElem?_eq_none (by omega)]
    exact ⟨by decide, by decide⟩
end Gn
end Go.Proofs.Ytkogplnleiapfaa

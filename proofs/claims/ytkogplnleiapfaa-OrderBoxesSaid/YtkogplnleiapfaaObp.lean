/- Plain: the order of boxes. No program in sight. -/
import Derived.Test.YtkogplnleiapfaaCbz
import Derived.Test.YtkogplnleiapfaaOrd
namespace Go.Proofs.Ytkogplnleiapfaa
open Go.RowKit
set_option linter.unusedVariables false
set_option linter.unusedSimpArgs false
namespace Gn
section
variable {n : Nat} {a b c d : List Int}
theorem nth_box {M : List Int} {p q : Nat} : nth M (p * (2 * n) + q) = cl (2 * n) M p q := rfl
theorem sm_nth_rowOf {f : Nat → Int} (h : ∀ v, small (f v)) : ∀ v, small (nth (rowOf n f) v) := small_nth (by
  intro x hx
  simp [rowOf] at hx
  obtain ⟨v, -, rfl⟩ := hx
  exact h v)
theorem small_max {x y : Int} (hx : small x) (hy : small y) : small (max x y) := by unfold small at *; omega
theorem small_min {x y : Int} (hx : small x) (hy : small y) : small (min x y) := by unfold small at *; omega
/-- Does one box lie within the other? -/
def wthn (a b c d : List Int) (k : Nat) : Bool := lp (fun v e => (e && decide (nth c v ≤ nth a v)) && decide (nth b v ≤ nth d v)) k true
theorem wthn_iff {k : Nat} : wthn a b c d k = true ↔ ∀ v, v < k → nth c v ≤ nth a v ∧ nth b v ≤ nth d v := by
  have key := lp_inv (fun v e => (e && decide (nth c v ≤ nth a v)) && decide (nth b v ≤ nth d v)) (fun i e => e = true ↔ ∀ v, v < i → nth c v ≤ nth a v ∧ nth b v ≤ nth d v) k true (by simp) (by
    rintro i hi' e h
    rw [Bool.and_eq_true, Bool.and_eq_true, h, decide_eq_true_eq, decide_eq_true_eq]
    constructor
    · rintro ⟨⟨h1, h2⟩, h3⟩ v hv
      by_cases e : v = i
      · subst e; exact ⟨h2, h3⟩
      · exact h1 v (by omega)
    · intro h1
      exact ⟨⟨fun v hv => h1 v (by omega), (h1 i (by omega)).1⟩, (h1 i (by omega)).2⟩)
  exact key
theorem box_chk (hn : n ≤ 64) (hl : ∀ v, small (nth a v)) (hh : ∀ v, small (nth b v)) : chk n false (boxM n a b n) = 0 := chk_ok hn (by rw [boxM_len, sq2]) (okM_box hl hh)
/-- What closing makes of a box, told by the three parts. -/
theorem box_clo (hn : n ≤ 64) (hl : ∀ v, small (nth a v)) (hh : ∀ v, small (nth b v)) :
    (clo n false (boxM n a b n)).2.1 = boxE a b n ∧ (boxE a b n = false → clo n false (boxM n a b n) = ((n : Int), false, boxW n a b)) := by
  obtain ⟨q1, q2, q3, q4⟩ := boxes_law (n := n) hn hl hh rfl
  unfold clo
  cases k : boxE a b n
  · obtain ⟨q5, q6⟩ := q4 k
    exact ⟨q5, fun _ => Prod.ext q2 (Prod.ext q5 q6)⟩
  · exact ⟨q3 k, fun h => by cases h⟩
theorem all_cells {X Y : List Int} (hX : X.length = (2 * n) * (2 * n)) : (∀ i, i < X.length → nth X i ≤ nth Y i) ↔ ∀ p, p < 2 * n → ∀ q, q < 2 * n → cl (2 * n) X p q ≤ cl (2 * n) Y p q := by
  constructor
  · intro h p hp q hq
    exact h (p * (2 * n) + q) (by rw [hX]; exact idx_lt hp hq)
  · intro h i hi
    rw [hX] at hi
    have hm : 0 < 2 * n := by
      rcases Nat.eq_zero_or_pos (2 * n) with h0 | h0
      · rw [h0] at hi; omega
      · exact h0
    have h1 : i / (2 * n) < 2 * n := Nat.div_lt_of_lt_mul hi
    have h2 : i % (2 * n) < 2 * n := Nat.mod_lt _ hm
    have h3 : i / (2 * n) * (2 * n) + i % (2 * n) = i := by rw [Nat.mul_comm]; exact Nat.div_add_mod i (2 * n)
    have := h _ h1 _ h2
    unfold cl at this
    rwa [h3] at this
theorem box_ent (hn : n ≤ 64) (ha : ∀ v, small (nth a v)) (hb : ∀ v, small (nth b v)) (hc : ∀ v, small (nth c v)) (hd : ∀ v, small (nth d v)) :
    entP n false (boxM n a b n) false (boxM n c d n) = (boxE a b n || (wthn a b c d n && !boxE c d n)) := by
  obtain ⟨k1, k2⟩ := box_clo (n := n) hn ha hb
  unfold entP above
  rw [k1]
  cases k : boxE a b n
  · rw [k2 k]
    simp only [Bool.false_or, Bool.not_false, Bool.true_and]
    have hE : wthn a b c d n = true → boxE c d n = false := fun h => by
      cases e : boxE c d n
      · rfl
      · obtain ⟨v, hv, hlt⟩ := boxE_iff.1 e
        have h1 := wthn_iff.1 h v hv
        have h2 : ¬ nth b v < nth a v := fun q => by have := boxE_iff.2 ⟨v, hv, q⟩; rw [k] at this; cases this
        omega
    have hW : (boxW n a b).length = (2 * n) * (2 * n) := by unfold boxW; exact mat_len _ _
    have key : (∀ i, i < (boxW n a b).length → nth (boxW n a b) i ≤ nth (boxM n c d n) i) ↔ wthn a b c d n = true := by
      rw [all_cells hW, wthn_iff]
      have F := cl_boxM (n := n) hc hd n (Nat.le_refl _)
      have G : ∀ p, p < 2 * n → ∀ q, q < 2 * n → cl (2 * n) (boxW n a b) p q = if p = q then 0 else mostV a b p + mostV a b (ac q) := fun p hp q hq => by unfold boxW; rw [cl_mat hp hq]
      constructor
      · intro h v hv
        have h1 := h (2 * v) (by omega) (2 * v + 1) (by omega)
        have h2 := h (2 * v + 1) (by omega) (2 * v) (by omega)
        rw [G _ (by omega) _ (by omega), F _ (by omega) _ (by omega), if_neg (by omega), if_pos ⟨(ac_even v).symm, by omega⟩, ac_odd] at h1
        rw [G _ (by omega) _ (by omega), F _ (by omega) _ (by omega), if_neg (by omega), if_pos ⟨(ac_odd v).symm, by omega⟩, ac_even] at h2
        unfold mostV at h1 h2
        rw [if_pos (by omega), if_pos (by omega), show 2 * v / 2 = v by omega] at h1
        rw [if_neg (by omega), if_neg (by omega), show (2 * v + 1) / 2 = v by omega] at h2
        omega
      · intro h p hp q hq
        rw [G p hp q hq, F p hp q hq]
        by_cases e : p = q
        · subst e
          rw [if_pos rfl, if_neg (fun h => ac_ne p h.1.symm), if_pos rfl]
          omega
        · rw [if_neg e]
          by_cases e2 : q = ac p ∧ p / 2 < n
          · rw [if_pos e2, e2.1, ac_ac]
            have := h (p / 2) (by omega)
            unfold mostV
            split <;> omega
          · rw [if_neg e2, if_neg e]
            have s1 := mostV_small ha hb p
            have s2 := mostV_small ha hb (ac q)
            omega
    rw [show (decide (∀ i, i < (boxW n a b).length → nth (boxW n a b) i ≤ nth (boxM n c d n) i)) = wthn a b c d n by rw [Bool.eq_iff_iff, decide_eq_true_eq]; exact key]
    cases h : wthn a b c d n
    · rfl
    · rw [hE h]; rfl
  · simp
/-- The lesser of two boxes is a box. -/
theorem box_less (ha : ∀ v, small (nth a v)) (hb : ∀ v, small (nth b v)) (hc : ∀ v, small (nth c v)) (hd : ∀ v, small (nth d v)) :
    zip2 less (boxM n a b n) (boxM n c d n) = boxM n (rowOf n fun v => max (nth a v) (nth c v)) (rowOf n fun v => min (nth b v) (nth d v)) n := by
  have s1 := sm_nth_rowOf (n := n) (f := fun v => max (nth a v) (nth c v)) (fun v => small_max (ha v) (hc v))
  have s2 := sm_nth_rowOf (n := n) (f := fun v => min (nth b v) (nth d v)) (fun v => small_min (hb v) (hd v))
  have F1 := cl_boxM (n := n) ha hb n (Nat.le_refl _)
  have F2 := cl_boxM (n := n) hc hd n (Nat.le_refl _)
  have F3 := cl_boxM (n := n) s1 s2 n (Nat.le_refl _)
  have hl1 := boxM_len n a b n
  refine list_eq_nth (by rw [zip2_len, boxM_len, boxM_len]) fun i hi => ?_
  rw [zip2_len] at hi
  rw [nth_zip2 hi]
  rw [hl1] at hi
  have hm : 0 < 2 * n := by
    rcases Nat.eq_zero_or_pos (2 * n) with h0 | h0
    · rw [h0] at hi; omega
    · exact h0
  have h1 : i / (2 * n) < 2 * n := Nat.div_lt_of_lt_mul hi
  have h2 : i % (2 * n) < 2 * n := Nat.mod_lt _ hm
  have h3 : i / (2 * n) * (2 * n) + i % (2 * n) = i := by rw [Nat.mul_comm]; exact Nat.div_add_mod i (2 * n)
  have f1 := F1 _ h1 _ h2
  have f2 := F2 _ h1 _ h2
  have f3 := F3 _ h1 _ h2
  unfold cl at f1 f2 f3
  rw [h3] at f1 f2 f3
  rw [f1, f2, f3]
  generalize i / (2 * n) = p at *
  generalize i % (2 * n) = q at *
  by_cases e : q = ac p ∧ p / 2 < n
  · rw [if_pos e, if_pos e, if_pos e]
    have m1 := mostV_small ha hb p
    have m2 := mostV_small hc hd p
    unfold less
    rw [asB_small (by omega), asB_small (by omega)]
    unfold mostV
    split
    · rw [nth_rowOf e.2]; omega
    · rw [nth_rowOf e.2]; omega
  · rw [if_neg e, if_neg e, if_neg e]
    split <;> decide
theorem box_meet (hn : n ≤ 64) (ha : ∀ v, small (nth a v)) (hb : ∀ v, small (nth b v)) (hc : ∀ v, small (nth c v)) (hd : ∀ v, small (nth d v)) (lo hi : List Int) (hlo : lo = rowOf n fun v => max (nth a v) (nth c v)) (hhi : hi = rowOf n fun v => min (nth b v) (nth d v))
    (N : Int) (E : Bool) (M : List Int) (h : meetP n false (boxM n a b n) false (boxM n c d n) = (N, E, M)) :
    E = boxE lo hi n ∧ (E = false → M.length = (2 * n) * (2 * n) ∧ ∀ v, v < n → nth M (2 * v * (2 * n) + (2 * v + 1)) = 2 * nth hi v ∧ nth M ((2 * v + 1) * (2 * n) + 2 * v) = -2 * nth lo v) := by
  have s1 := sm_nth_rowOf (n := n) (f := fun v => max (nth a v) (nth c v)) (fun v => small_max (ha v) (hc v))
  have s2 := sm_nth_rowOf (n := n) (f := fun v => min (nth b v) (nth d v)) (fun v => small_min (hb v) (hd v))
  rw [← hlo] at s1
  rw [← hhi] at s2
  unfold meetP at h
  rw [if_neg (by simp), box_less ha hb hc hd, ← hlo, ← hhi] at h
  obtain ⟨k1, k2⟩ := box_clo (n := n) hn s1 s2
  rw [h] at k1 k2
  dsimp only at k1
  refine ⟨k1, fun hE => ?_⟩
  have k := k2 (k1.symm.trans hE)
  have kM : M = boxW n lo hi := congrArg (·.2.2) k
  rw [kM]
  refine ⟨by unfold boxW; exact mat_len _ _, fun v hv => ?_⟩
  rw [nth_box, nth_box]
  unfold boxW
  rw [cl_mat (by omega) (by omega), cl_mat (by omega) (by omega), if_neg (by omega), if_neg (by omega), ac_odd, ac_even]
  unfold mostV
  rw [if_pos (by omega), if_neg (by omega), show 2 * v / 2 = v by omega, show (2 * v + 1) / 2 = v by omega]
  omega
theorem box_join (hn : n ≤ 64) (ha : ∀ v, small (nth a v)) (hb : ∀ v, small (nth b v)) (hc : ∀ v, small (nth c v)) (hd : ∀ v, small (nth d v)) (least most : List Int) (hlo : least = rowOf n fun v => min (nth a v) (nth c v)) (hhi : most = rowOf n fun v => max (nth b v) (nth d v))
    (e1 : boxE a b n = false) (e2 : boxE c d n = false) (N : Int) (E : Bool) (M : List Int) (h : joinP n false (boxM n a b n) false (boxM n c d n) = (N, E, M)) :
    M.length = (2 * n) * (2 * n) ∧ ∀ v, v < n → nth M (2 * v * (2 * n) + (2 * v + 1)) = 2 * nth most v ∧ nth M ((2 * v + 1) * (2 * n) + 2 * v) = -2 * nth least v := by
  obtain ⟨k1, k2⟩ := box_clo (n := n) hn ha hb
  obtain ⟨k3, k4⟩ := box_clo (n := n) hn hc hd
  unfold joinP at h
  rw [k2 e1, k4 e2, if_neg (by simp), if_neg (by simp)] at h
  have kM : M = zip2 max (boxW n a b) (boxW n c d) := (congrArg (·.2.2) h).symm
  have hl : (boxW n a b).length = (2 * n) * (2 * n) := by unfold boxW; exact mat_len _ _
  rw [kM]
  refine ⟨by rw [zip2_len]; exact hl, fun v hv => ?_⟩
  rw [nth_zip2 (by rw [hl]; exact idx_lt (by omega) (by omega)), nth_zip2 (by rw [hl]; exact idx_lt (by omega) (by omega)), nth_box, nth_box, nth_box, nth_box]
  unfold boxW
  rw [cl_mat (by omega) (by omega), cl_mat (by omega) (by omega), cl_mat (by omega) (by omega), cl_mat (by omega) (by omega), if_neg (by omega), if_neg (by omega), if_neg (by omega), if_neg (by omega), ac_odd, ac_even]
  unfold mostV
  have e3 : (2 * v) % 2 = 0 := by omega
  have e4 : ¬ (2 * v + 1) % 2 = 0 := by omega
  simp only [if_pos e3, if_neg e4]
  rw [show 2 * v / 2 = v by omega, show (2 * v + 1) / 2 = v by omega, hlo, hhi, nth_rowOf hv, nth_rowOf hv]
  omega
end
end Gn
end Go.Proofs.Ytkogplnleiapfaa

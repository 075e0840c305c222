/- Plain: chains and rounds of differences, closed. No program in sight. -/
import Derived.Test.YtgganboepfikiaaCfn
import Derived.Test.YtgganboepfikiaaCbx
namespace Go.Proofs.Ytgganboepfikiaa
open Go.RowKit
set_option linter.unusedVariables false
set_option linter.unusedSimpArgs false
namespace Gn
/-- Differences of a side and of its next one, bounded. -/
def chnM (n : Nat) (w : List Int) (t : Nat → Nat) : Nat → List Int := fun k => lp (fun k X => boundM (2 * n) X (2 * k) (2 * t k) (nth w k)) k (topM (2 * n))
def sumW (w : List Int) (k : Nat) : Int := lp (fun k s => s + nth w k) k 0
theorem chnM_len (n : Nat) (w : List Int) (t : Nat → Nat) (k : Nat) : (chnM n w t k).length = (2 * n) * (2 * n) :=
  lp_keep _ (fun X : List Int => X.length = (2 * n) * (2 * n)) _ _ (topM_len _) fun v X h => by rw [boundM_len, h]
theorem sumW_succ (w : List Int) (k : Nat) : sumW w (k + 1) = sumW w k + nth w k := rfl
theorem sumW_bd {w : List Int} (hw : ∀ v, small (nth w v)) : ∀ k : Nat, -(32768 * (k : Int)) ≤ sumW w k ∧ sumW w k ≤ 32768 * (k : Int)
  | 0 => ⟨by show _ ≤ (0 : Int); omega, by show (0 : Int) ≤ _; omega⟩
  | k + 1 => by
    have := sumW_bd hw k
    have h := hw k
    unfold small at h
    rw [sumW_succ]
    push_cast
    exact ⟨by omega, by omega⟩
section
variable {n K : Nat} {w : List Int} {t : Nat → Nat}
theorem cl_chn (hw : ∀ v, small (nth w v)) (hK : K ≤ n) (ht : ∀ k, k < K → t k < n ∧ t k ≠ k) : ∀ k, k ≤ K → ∀ a, a < 2 * n → ∀ b, b < 2 * n →
    cl (2 * n) (chnM n w t k) a b = if a % 2 = 0 ∧ b = 2 * t (a / 2) ∧ a / 2 < k then nth w (a / 2) else if b % 2 = 1 ∧ a = 2 * t (b / 2) + 1 ∧ b / 2 < k then nth w (b / 2) else if a = b then 0 else 9223372036854775807
  | 0, _, a, ha, b, hb => by
    rw [if_neg (by omega), if_neg (by omega)]
    exact cl_topM ha hb
  | k + 1, hk, a, ha, b, hb => by
    have ih := cl_chn hw hK ht k (by omega)
    obtain ⟨t1, t2⟩ := ht k (by omega)
    have e1 : ac (2 * k) = 2 * k + 1 := ac_even k
    have e2 : ac (2 * t k) = 2 * t k + 1 := ac_even (t k)
    have h1 := hw k
    unfold small at h1
    have i1 : cl (2 * n) (chnM n w t k) (2 * k) (2 * t k) = 9223372036854775807 := by
      rw [ih _ (by omega) _ (by omega), if_neg (by omega), if_neg (by omega), if_neg (by omega)]
    show cl (2 * n) (boundM (2 * n) (chnM n w t k) (2 * k) (2 * t k) (nth w k)) a b = _
    rw [cl_boundM (chnM_len _ _ _ _) (by omega) (by omega) (by rw [e1]; omega) (by rw [e2]; omega) hb, e1, e2, i1, asB_small (by omega)]
    by_cases c1 : a = 2 * k ∧ b = 2 * t k
    · rw [if_pos (.inl c1)]
      obtain ⟨rfl, rfl⟩ := c1
      have e : 2 * k / 2 = k := by omega
      rw [if_pos (by rw [e]; exact ⟨by omega, rfl, by omega⟩), e]
      omega
    · by_cases c2 : a = 2 * t k + 1 ∧ b = 2 * k + 1
      · rw [if_pos (.inr c2)]
        obtain ⟨rfl, rfl⟩ := c2
        have e : (2 * k + 1) / 2 = k := by omega
        rw [if_neg (show ¬ ((2 * t k + 1) % 2 = 0 ∧ 2 * k + 1 = 2 * t ((2 * t k + 1) / 2) ∧ (2 * t k + 1) / 2 < k + 1) by omega), if_pos (by rw [e]; exact ⟨by omega, rfl, by omega⟩), e]
        omega
      · rw [if_neg (fun h => h.elim c1 c2), ih a ha b hb]
        have g1 : (a % 2 = 0 ∧ b = 2 * t (a / 2) ∧ a / 2 < k) ↔ (a % 2 = 0 ∧ b = 2 * t (a / 2) ∧ a / 2 < k + 1) := by
          constructor
          · rintro ⟨x1, x2, x3⟩; exact ⟨x1, x2, by omega⟩
          · rintro ⟨x1, x2, x3⟩
            refine ⟨x1, x2, ?_⟩
            rcases Nat.lt_or_ge (a / 2) k with h | h
            · exact h
            · have : a / 2 = k := by omega
              rw [this] at x2
              exact absurd ⟨by omega, x2⟩ c1
        have g2 : (b % 2 = 1 ∧ a = 2 * t (b / 2) + 1 ∧ b / 2 < k) ↔ (b % 2 = 1 ∧ a = 2 * t (b / 2) + 1 ∧ b / 2 < k + 1) := by
          constructor
          · rintro ⟨x1, x2, x3⟩; exact ⟨x1, x2, by omega⟩
          · rintro ⟨x1, x2, x3⟩
            refine ⟨x1, x2, ?_⟩
            rcases Nat.lt_or_ge (b / 2) k with h | h
            · exact h
            · have : b / 2 = k := by omega
              rw [this] at x2
              exact absurd ⟨x2, by omega⟩ c2
        simp only [g1, g2]
theorem chn_ok (hw : ∀ v, small (nth w v)) (hK : K ≤ n) (ht : ∀ k, k < K → t k < n ∧ t k ≠ k) : okM (2 * n) (chnM n w t K) := fun a ha b hb => by
  have F := cl_chn hw hK ht K (Nat.le_refl _)
  have a1 := ac_mod a
  have b1 := ac_mod b
  have a2 := ac_div a
  have b2 := ac_div b
  have s1 := hw (a / 2)
  have s2 := hw (b / 2)
  unfold small at s1 s2
  refine ⟨(isB_iff _).2 ?_, fun e => ?_, ?_⟩
  · rw [F a ha b hb]
    unfold Bd
    repeat' split
    all_goals omega
  · subst e
    have h1 : a / 2 < K → t (a / 2) ≠ a / 2 := fun h => (ht _ h).2
    rw [F a ha a ha, if_neg (by rintro ⟨x1, x2, x3⟩; have := h1 x3; omega), if_neg (by rintro ⟨x1, x2, x3⟩; have := h1 x3; omega), if_pos rfl]
  · rw [F a ha b hb, F _ (ac_lt hb) _ (ac_lt ha), ac_div, ac_div]
    have x0 : (ac b = ac a) ↔ (a = b) := ⟨fun h => (ac_inj h).symm, fun h => by rw [h]⟩
    by_cases c1 : a % 2 = 0 ∧ b = 2 * t (a / 2) ∧ a / 2 < K
    · rw [if_pos c1, if_neg (show ¬ (ac b % 2 = 0 ∧ ac a = 2 * t (b / 2) ∧ b / 2 < K) by omega), if_pos (show ac a % 2 = 1 ∧ ac b = 2 * t (a / 2) + 1 ∧ a / 2 < K by omega)]
    · rw [if_neg c1]
      by_cases c2 : b % 2 = 1 ∧ a = 2 * t (b / 2) + 1 ∧ b / 2 < K
      · rw [if_pos c2, if_pos (show ac b % 2 = 0 ∧ ac a = 2 * t (b / 2) ∧ b / 2 < K by omega)]
      · rw [if_neg c2, if_neg (show ¬ (ac b % 2 = 0 ∧ ac a = 2 * t (b / 2) ∧ b / 2 < K) by omega), if_neg (show ¬ (ac a % 2 = 1 ∧ ac b = 2 * t (a / 2) + 1 ∧ a / 2 < K) by omega)]
        by_cases e : a = b
        · rw [if_pos e, if_pos (x0.2 e)]
        · rw [if_neg e, if_neg (fun h => e (x0.1 h))]
theorem chn_fin (hw : ∀ v, small (nth w v)) (hK : K ≤ n) (ht : ∀ k, k < K → t k < n ∧ t k ≠ k) : allF (2 * n) 32768 (chnM n w t K) := fun a ha b hb => by
  have s1 := hw (a / 2)
  have s2 := hw (b / 2)
  unfold small at s1 s2
  rw [cl_chn hw hK ht K (Nat.le_refl _) a ha b hb]
  unfold Fn
  repeat' split
  all_goals omega
theorem chn_pt (hw : ∀ v, small (nth w v)) (hK : K ≤ n) (ht : ∀ k, k < K → t k < n ∧ t k ≠ k) {r : Nat} {x : List Int} (hr : r ≤ n) (hx : ∀ u, u < K → u < r → t u < r → nth x u - nth x (t u) ≤ nth w u) : Pt (2 * r) (2 * n) (chnM n w t K) x := fun a ha b hb => by
  rw [cl_chn hw hK ht K (Nat.le_refl _) a (by omega) b (by omega)]
  unfold apartV sideV ok
  split
  · rename_i h
    obtain ⟨h1, h2, h3⟩ := h
    have := hx _ h3 (by omega) (by omega)
    rw [if_neg (show ¬ a % 2 = 1 by omega), if_neg (show ¬ b % 2 = 1 by omega), show b / 2 = t (a / 2) by omega]
    exact .inr this
  · split
    · rename_i h
      obtain ⟨h1, h2, h3⟩ := h
      have := hx _ h3 (by omega) (by omega)
      rw [if_pos (show a % 2 = 1 by omega), if_pos (show b % 2 = 1 by omega), show a / 2 = t (b / 2) by omega]
      right; omega
    · split
      · rename_i h; subst h; right; omega
      · exact .inl rfl
theorem plus_small {a b : Int} (ha : -1000000 ≤ a ∧ a ≤ 1000000) (hb : -1000000 ≤ b ∧ b ≤ 1000000) : plus a b = a + b := by
  unfold plus
  rw [asB_small ha, asB_small hb, if_neg (by omega), asB_of (by unfold Bd; omega)]
/-- The next one's bound, closed. -/
theorem chn_le {Z : List Int} {s : Bool} (hw : ∀ v, small (nth w v)) (hK : K ≤ n) (ht : ∀ k, k < K → t k < n ∧ t k ≠ k) (h : closeM (2 * n) (chnM n w t K) = (some Z, s)) {u : Nat} (hu : u < K) : cl (2 * n) Z (2 * u) (2 * t u) ≤ nth w u := by
  obtain ⟨c⟩ := closeM_some h
  have hl := chnM_len n w t K
  have hB := allB_of hl (chn_ok hw hK ht)
  have := (c.leZM hl hB).2 ((2 * u) * (2 * n) + 2 * t u)
  have e := cl_chn hw hK ht K (Nat.le_refl _) (2 * u) (by omega) (2 * t u) (by have := (ht u hu).1; omega)
  have e2 : 2 * u / 2 = u := by omega
  rw [if_pos (by rw [e2]; exact ⟨by omega, rfl, hu⟩), e2] at e
  unfold cl at *
  omega
/-- Along neighbours. -/
theorem chn_sum {Z : List Int} (hw : ∀ v, small (nth w v)) (hK : K ≤ n) (hn : n ≤ 13) (ht : ∀ k, k < K → t k < n ∧ t k ≠ k) (h : closeM (2 * n) (chnM n w t K) = (some Z, false)) (i : Nat) (hi : i < n) : ∀ d, i + d < n → (∀ u, u < i + d → u < K ∧ t u = u + 1) → cl (2 * n) Z (2 * i) (2 * (i + d)) ≤ sumW w (i + d) - sumW w i
  | 0, h1, h2 => by
    obtain ⟨c⟩ := closeM_some h
    have hl := chnM_len n w t K
    have := c.dZ hl (chn_ok hw hK ht) (a := 2 * i) (by omega)
    rw [Nat.add_zero, this]; omega
  | d + 1, h1, h2 => by
    have ih := chn_sum hw hK hn ht h i hi d (by omega) fun u hu => h2 u (by omega)
    obtain ⟨c⟩ := closeM_some h
    have hl := chnM_len n w t K
    obtain ⟨k1, k2⟩ := h2 (i + d) (by omega)
    have tri := c.triZ hl (chn_ok hw hK ht) rfl (2 * i) (by omega) (2 * (i + d)) (by omega) (2 * (i + (d + 1))) (by omega)
    have le := chn_le hw hK ht h k1
    rw [k2] at le
    have b1 := sumW_bd hw (i + d)
    have b2 := sumW_bd hw i
    have b3 := hw (i + d)
    unfold small at b3
    refine Int.le_trans tri (Int.le_trans (plus_mono2 ih le) ?_)
    rw [plus_small (by omega) (by omega), show i + (d + 1) = (i + d) + 1 by omega, sumW_succ]
    omega
theorem tw26 {r : Nat} (h : r ≤ 26) : tw r 32768 ≤ 2199023255552 := by
  have := tw_le (B := 32768) (by omega) r (26 - r)
  rw [show r + (26 - r) = 26 by omega] at this
  exact Int.le_trans this (by decide +kernel)
/-- No sum saturates where all but the last one have a point. -/
theorem chn_nosat (hw : ∀ v, small (nth w v)) (hK : K ≤ n) (hn : n ≤ 13) (ht : ∀ k, k < K → t k < n ∧ t k ≠ k) {r : Nat} {x : List Int} (hr : r = n ∨ r + 1 = n) (hx : ∀ u, u < K → u < r → t u < r → nth x u - nth x (t u) ≤ nth w u) : (closeM (2 * n) (chnM n w t K)).2 = false := by
  have hl := chnM_len n w t K
  have hok := chn_ok hw hK ht
  have hB := allB_of hl hok
  have t0 := tw_pos (B := 32768) (by omega) (2 * r)
  have t1 := tw26 (r := 2 * r) (by omega)
  have P := paths_fin (B := 32768) hl hB (by omega) (chn_pt hw hK ht (r := r) (by omega) hx) (fun a ha => (hok a ha a ha).2.1 rfl) (chn_fin hw hK ht) (by omega) (by omega) (2 * r) (Nat.le_refl _)
  rcases hr with rfl | rfl
  · exact closeM_nosat hl hB P.1 P.2 (by omega)
  · have P1 := paths_fin6 hl hB (by omega) t0 (by omega) P
    have P2 := paths_fin6 hl hB (by omega) (by omega) (by omega) P1
    exact closeM_nosat hl hB P2.1 P2.2 (by omega)
end
/-- The law of CloseChains. -/
theorem chains_law {n : Nat} {w : List Int} (hn : n + 1 ≤ 13) (hw : ∀ v, small (nth w v)) {Q : ((Int × Bool × List Int) × Bool) × Int} (hQ : closeP ((n + 1 : Nat) : Int) false (chnM (n + 1) w Nat.succ n) = Q) :
    Q.2 = 0 ∧ Q.1.2 = false ∧ Q.1.1.1 = ((n + 1 : Nat) : Int) ∧ Q.1.1.2.1 = false ∧ Q.1.1.2.2.length = (2 * (n + 1)) * (2 * (n + 1)) ∧
    (∀ i j, i ≤ j → j < n + 1 → cl (2 * (n + 1)) Q.1.1.2.2 (2 * i) (2 * j) = sumW w j - sumW w i) ∧ (∀ i j, i < j → j < n + 1 → cl (2 * (n + 1)) Q.1.1.2.2 (2 * j) (2 * i) = 9223372036854775807) := by
  have ht : ∀ k, k < n → Nat.succ k < n + 1 ∧ Nat.succ k ≠ k := fun k hk => ⟨by omega, by omega⟩
  have hl := chnM_len (n + 1) w Nat.succ n
  have hok := chn_ok (n := n + 1) hw (by omega) ht
  have hB := allB_of hl hok
  have hc : chk ((n + 1 : Nat) : Int) false (chnM (n + 1) w Nat.succ n) = 0 := chk_ok (by omega) (by rw [hl, sq2]) hok
  have hpts : ∀ (N : Int) (c : Nat), 0 ≤ N → hasM (2 * (n + 1)) (chnM (n + 1) w Nat.succ n) (rowOf (n + 1) fun v => -(sumW w v) + if c ≤ v then N else 0) := fun N c hN =>
    chn_pt (n := n + 1) (r := n + 1) hw (by omega) ht (Nat.le_refl _) fun u hu h1 h2 => by
      rw [nth_rowOf (by omega), nth_rowOf (by omega), sumW_succ]
      split <;> split <;> omega
  have hns := chn_nosat (n := n + 1) hw (by omega) hn ht (.inl rfl) (x := rowOf (n + 1) fun v => -(sumW w v)) fun u hu h1 h2 => by
    rw [nth_rowOf (by omega), nth_rowOf (by omega), sumW_succ]
    omega
  obtain ⟨Z, s, hA, _⟩ := close_point hl hB (hpts 0 0 (Int.le_refl _))
  have hs : s = false := by rw [hA] at hns; exact hns
  subst hs
  obtain ⟨c⟩ := closeM_some hA
  have hp := fun N d hN => (close_hasM hl hok hA).2 (hpts N d hN)
  subst hQ
  rw [closeP_ok hc, hA]
  refine ⟨rfl, rfl, rfl, rfl, (c.fZ hl hB).1, fun i j hij hj => ?_, fun i j hij hj => ?_⟩
  · have up := chn_sum (n := n + 1) hw (by omega) hn ht hA i (by omega) (j - i) (by omega) fun u hu => ⟨by omega, rfl⟩
    rw [show i + (j - i) = j by omega] at up
    have b1 := sumW_bd hw i
    have b2 := sumW_bd hw j
    have low := hp 0 0 (Int.le_refl _) (2 * i) (by omega) (2 * j) (by omega)
    unfold okP apartV sideV at low
    rw [if_neg (show ¬ 2 * i % 2 = 1 by omega), if_neg (show ¬ 2 * j % 2 = 1 by omega), show 2 * i / 2 = i by omega, show 2 * j / 2 = j by omega, nth_rowOf (by omega), nth_rowOf (by omega)] at low
    show cl (2 * (n + 1)) Z (2 * i) (2 * j) = _
    split at low <;> split at low <;> omega
  · have low := hp 4611686018430000000 j (by omega) (2 * j) (by omega) (2 * i) (by omega)
    have b1 := sumW_bd hw i
    have b2 := sumW_bd hw j
    have bz := cl_bd (m := 2 * (n + 1)) (c.fZ hl hB).2 (2 * j) (2 * i)
    unfold okP apartV sideV at low
    rw [if_neg (show ¬ 2 * i % 2 = 1 by omega), if_neg (show ¬ 2 * j % 2 = 1 by omega), show 2 * i / 2 = i by omega, show 2 * j / 2 = j by omega, nth_rowOf (by omega), nth_rowOf (by omega), if_pos (Nat.le_refl _), if_neg (by omega)] at low
    show cl (2 * (n + 1)) Z (2 * j) (2 * i) = _
    unfold Bd at bz
    omega
/-- The law of CloseRounds. -/
theorem rounds_law {n : Nat} {w : List Int} (h2 : 2 ≤ n) (hn : n ≤ 12) (hw : ∀ v, small (nth w v)) {Q : ((Int × Bool × List Int) × Bool) × Int} (hQ : closeP (n : Int) false (chnM n w (fun k => (k + 1) % n) n) = Q) :
    Q.2 = 0 ∧ Q.1.2 = false ∧ Q.1.1.1 = (n : Int) ∧ Q.1.1.2.1 = decide (sumW w n < 0) := by
  have tn : ∀ k, k + 1 < n → (k + 1) % n = k + 1 := fun k hk => Nat.mod_eq_of_lt hk
  have tz : (n - 1 + 1) % n = 0 := by rw [show n - 1 + 1 = n by omega, Nat.mod_self]
  have ht : ∀ k, k < n → (fun k => (k + 1) % n) k < n ∧ (fun k => (k + 1) % n) k ≠ k := fun k hk => by
    dsimp only
    by_cases h : k + 1 < n
    · rw [tn k h]; omega
    · have : k = n - 1 := by omega
      subst this; rw [tz]; omega
  have hl := chnM_len n w (fun k => (k + 1) % n) n
  have hok := chn_ok (n := n) hw (Nat.le_refl _) ht
  have hB := allB_of hl hok
  have hc : chk (n : Int) false (chnM n w (fun k => (k + 1) % n) n) = 0 := chk_ok (by omega) (by rw [hl, sq2]) hok
  have hns := chn_nosat (n := n) hw (Nat.le_refl _) (by omega) ht (r := n - 1) (.inr (by omega)) (x := rowOf n fun v => -(sumW w v)) fun u hu h1 h2 => by
    have h3 : (u + 1) % n < n - 1 := h2
    show nth _ u - nth _ ((u + 1) % n) ≤ _
    rw [tn u (by omega), nth_rowOf (by omega), nth_rowOf (by omega), sumW_succ]
    omega
  have hsn : sumW w n = sumW w (n - 1) + nth w (n - 1) := by
    have := sumW_succ w (n - 1)
    rwa [show n - 1 + 1 = n by omega] at this
  subst hQ
  rw [closeP_ok hc]
  by_cases hneg : sumW w n < 0
  · rw [decide_eq_true hneg]
    rcases hA : closeM (2 * n) (chnM n w (fun k => (k + 1) % n) n) with ⟨_ | Z, s⟩
    · rw [hA] at hns
      exact ⟨rfl, hns, rfl, rfl⟩
    · exfalso
      rw [hA] at hns
      have hs : s = false := hns
      subst hs
      obtain ⟨c⟩ := closeM_some hA
      have s1 := chn_sum (n := n) hw (Nat.le_refl _) (by omega) ht hA 0 (by omega) (n - 1) (by omega) fun u hu => ⟨by omega, tn u (by omega)⟩
      rw [Nat.zero_add] at s1
      have s0 : sumW w 0 = 0 := rfl
      have le := chn_le hw (Nat.le_refl _) ht hA (show n - 1 < n by omega)
      rw [tz] at le
      have tri := c.triZ hl hok rfl (2 * 0) (by omega) (2 * (n - 1)) (by omega) (2 * 0) (by omega)
      have d := c.dZ hl hok (a := 2 * 0) (by omega)
      rw [d] at tri
      have b1 := sumW_bd hw (n - 1)
      have b3 := hw (n - 1)
      unfold small at b3
      have := Int.le_trans tri (plus_mono2 s1 le)
      rw [plus_small (by omega) (by omega)] at this
      omega
  · rw [decide_eq_false hneg]
    have hp : hasM (2 * n) (chnM n w (fun k => (k + 1) % n) n) (rowOf n fun v => -(sumW w v)) := chn_pt (n := n) (r := n) hw (Nat.le_refl _) ht (Nat.le_refl _) fun u hu h1 h2 => by
      show nth _ u - nth _ ((u + 1) % n) ≤ _
      by_cases h : u + 1 < n
      · rw [tn u h, nth_rowOf (by omega), nth_rowOf (by omega), sumW_succ]
        omega
      · have : u = n - 1 := by omega
        subst this
        rw [tz, nth_rowOf (by omega), nth_rowOf (by omega)]
        have s0 : sumW w 0 = 0 := rfl
        omega
    obtain ⟨Z, s, hA, _⟩ := close_point hl hB hp
    rw [hA] at hns ⊢
    exact ⟨rfl, hns, rfl, rfl⟩
end Gn
end Go.Proofs.Ytgganboepfikiaa

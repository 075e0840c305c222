/- Plain: the reference's octagons, and the walk of the reference's reader's oct. -/
import Derived.Test.YtghpiofjejhegaaCeu
import Derived.Test.YtghpiofjejhegaaOctB
import Derived.Test.YtghpiofjejhegaaOctR
namespace Go.Proofs.Ytghpiofjejhegaa
open Go.RowKit
set_option maxRecDepth 100000
set_option linter.unusedVariables false
set_option linter.unusedSimpArgs false
open Gn
namespace Gn
theorem rowP_pw (i k : Nat) : (rowP i k).Pairwise (fun p q => p ≠ q) := by
  unfold rowP
  rw [List.pairwise_map]
  refine List.Pairwise.imp ?_ (List.Pairwise.filter _ List.pairwise_lt_range)
  intro a b h e
  injection e with e1 e2
  omega
theorem pairs_pw (n : Nat) : (pairs n).Pairwise (fun p q => p ≠ q) := by
  unfold pairs pairsTo
  rw [List.pairwise_flatMap]
  refine ⟨fun i _ => rowP_pw i _, List.Pairwise.imp ?_ List.pairwise_lt_range⟩
  intro a b h x hx y hy e
  unfold rowP at hx hy
  simp only [List.mem_map] at hx hy
  obtain ⟨_, _, rfl⟩ := hx
  obtain ⟨_, _, rfl⟩ := hy
  injection e with e1 e2
  omega
theorem pairs_ne {n t q : Nat} (h : t < q) (hq : q < (pairs n).length) : ¬ (pfst (pairs n) q = pfst (pairs n) t ∧ psnd (pairs n) q = psnd (pairs n) t) := by
  intro ⟨e1, e2⟩
  have := List.pairwise_iff_getElem.1 (pairs_pw n) t q (by omega) hq h
  unfold pfst at e1
  unfold psnd at e2
  rw [List.getD_eq_getElem?_getD, List.getD_eq_getElem?_getD, List.getElem?_eq_getElem hq, List.getElem?_eq_getElem (by omega : t < (pairs n).length)] at e1 e2
  exact this (Prod.ext e1.symm e2.symm)
theorem isP_across {i j : Nat} (h : isP i j = true) (h' : isP (ac j) (ac i) = true) : ac j = i ∧ ac i = j := by
  unfold isP fst2 at h h'
  simp only [Bool.and_eq_true, decide_eq_true_eq, ac_ac] at h h'
  have e1 := ac_ac i
  have e2 := ac_ac j
  refine ⟨by omega, ?_⟩
  have : ac j = i := by omega
  rw [← this, ac_ac]
theorem cl_putM {m : Nat} {M : List Int} {i j : Nat} {v : Int} (h : M.length = m * m) (hi : i < m) (hj : j < m) (hi' : ac i < m) (hj' : ac j < m) {a b : Nat} (hb : b < m) :
    cl m (putM m M i j v) a b = if (a = i ∧ b = j) ∨ (a = ac j ∧ b = ac i) then v else cl m M a b := by
  unfold putM
  rw [cl_set (by rw [List.length_set]; exact h) hj' hi' hb, cl_set h hi hj hb]
  by_cases h1 : a = ac j ∧ b = ac i
  · rw [if_pos h1, if_pos (.inr h1)]
  · rw [if_neg h1]
    by_cases h2 : a = i ∧ b = j
    · rw [if_pos h2, if_pos (.inl h2)]
    · rw [if_neg h2, if_neg (fun h => h.elim h2 h1)]
theorem putM_len (m : Nat) (M : List Int) (i j : Nat) (v : Int) : (putM m M i j v).length = M.length := by simp [putM]
/-- The places from one on are open. -/
def Fresh (n nx : Nat) (M : List Int) : Prop := ∀ q, nx ≤ q → q < (pairs n).length → cl (2 * n) M (pfst (pairs n) q) (psnd (pairs n) q) = 9223372036854775807
theorem fresh_top (n : Nat) : Fresh n 0 (topM (2 * n)) := fun q _ hq => by
  obtain ⟨h1, h2, h3⟩ := pairs_mem.1 (pget_mem hq)
  unfold topM
  rw [cl_mat h1 h2]
  unfold isP at h3
  simp only [Bool.and_eq_true, decide_eq_true_eq] at h3
  exact if_neg h3.1
theorem fresh_put {n nx t : Nat} {M : List Int} {v : Int} (h : Fresh n nx M) (hl : M.length = (2 * n) * (2 * n)) (ht : nx ≤ t) (htl : t < (pairs n).length) : Fresh n (t + 1) (putM (2 * n) M (pfst (pairs n) t) (psnd (pairs n) t) v) := fun q hq hql => by
  obtain ⟨h1, h2, h3⟩ := pairs_mem.1 (pget_mem htl)
  obtain ⟨g1, g2, g3⟩ := pairs_mem.1 (pget_mem hql)
  have hne := pairs_ne (show t < q by omega) hql
  rw [cl_putM hl h1 h2 (ac_lt h1) (ac_lt h2) g2, if_neg ?_]
  · exact h q (by omega) hql
  · rintro (⟨e1, e2⟩ | ⟨e1, e2⟩)
    · exact hne ⟨e1, e2⟩
    · dsimp only at *
      rw [e1, e2] at g3
      obtain ⟨a1, a2⟩ := isP_across h3 g3
      exact hne ⟨e1.trans a1, e2.trans a2⟩
theorem bound_put {n nx t : Nat} {M : List Int} {v : Int} (h : Fresh n nx M) (ht : nx ≤ t) (htl : t < (pairs n).length) (hv : isB v = true) :
    boundM (2 * n) M (pfst (pairs n) t) (psnd (pairs n) t) v = putM (2 * n) M (pfst (pairs n) t) (psnd (pairs n) t) v := by
  have e : asB v = v := by
    unfold isB at hv
    unfold asB
    simp only [Bool.or_eq_true, Bool.and_eq_true, decide_eq_true_eq] at hv
    split
    · omega
    · split <;> omega
  have e2 : min (9223372036854775807 : Int) v = v := by
    unfold isB at hv
    simp only [Bool.or_eq_true, Bool.and_eq_true, decide_eq_true_eq] at hv
    omega
  unfold boundM putM
  rw [h t ht htl, e, e2]
/-- An octagon of what the reader has left. -/
def loct (n : Nat) : PR Unit → PR OC
  | .bad e => .bad e
  | .ok _ b => octP n (pairs n) b
theorem lkind (n : Nat) (S : PR Unit) (hb : ∀ u r, S = .ok u r → Bts r) :
    (∃ x, lsize (decide ((lbyte S).1 ≤ 1)) (lbyte S).2 = .bad x ∧ loct n S = .bad x) ∨ (∃ r, lsize (decide ((lbyte S).1 ≤ 1)) (lbyte S).2 = .ok () r ∧ (lbyte S).1 = 0 ∧ loct n S = .ok ⟨n, true, []⟩ r) ∨
      (∃ r, lsize (decide ((lbyte S).1 ≤ 1)) (lbyte S).2 = .ok () r ∧ (lbyte S).1 = 1 ∧ loct n S = octP n (pairs n) (1 :: r)) := by
  cases S with
  | bad e => exact .inl ⟨e, rfl, rfl⟩
  | ok u r =>
    cases r with
    | nil => exact .inl ⟨192, rfl, rfl⟩
    | cons x r =>
      obtain ⟨h0, h1⟩ := hb u _ rfl x List.mem_cons_self
      by_cases hx : 1 < x
      · refine .inl ⟨194, ?_, octP_kind hx⟩
        show lsize (decide (x ≤ 1)) (.ok () r) = _
        rw [decide_eq_false (by omega)]; rfl
      · right
        have hd : decide (x ≤ 1) = true := decide_eq_true (by omega)
        by_cases hz : x = 0
        · subst hz; exact .inl ⟨r, rfl, rfl, octP_empty n (pairs n) r⟩
        · obtain rfl : x = 1 := by omega
          exact .inr ⟨r, rfl, rfl, rfl⟩
theorem lbyte_rng (S : PR Unit) (hb : ∀ u r, S = .ok u r → Bts r) : 0 ≤ (lbyte S).1 ∧ (lbyte S).1 ≤ 255 := by
  cases S with
  | bad e => exact ⟨Int.le_refl 0, show (0 : Int) ≤ 255 by omega⟩
  | ok u r =>
    cases r with
    | nil => exact ⟨Int.le_refl 0, show (0 : Int) ≤ 255 by omega⟩
    | cons x r => exact hb u _ rfl x List.mem_cons_self
theorem numberP_ok' {b : List Int} {v : Nat} {r : List Int} (h : numberP b = .ok v r) : (v : Int) ≤ 18446744073709551615 ∨ ¬ Bts b := by
  by_cases hb : Bts b
  · left
    unfold numberP at h
    split at h
    · cases h
    · split at h
      · cases h
      · rename_i h1 h2
        injection h with h3 h4
        rcases take_err_or b with he | he | he
        · have := (take_cnt hb he).2.2.2
          rw [← h3]; exact this
        · exact absurd (by rw [he]) h1
        · exact absurd (by rw [he]) h2
  · exact .inr hb
theorem lnum_rng {S S' : PR Unit} {v : Nat} (hb : ∀ u r, S = .ok u r → Bts r) (h : lnum S = (v, S')) : (v : Int) ≤ 18446744073709551615 := by
  cases S with
  | bad e => injection h with h1 h2; subst h1; decide
  | ok u r =>
    have h' : lnumP (numberP r) = (v, S') := h
    cases hN : numberP r with
    | bad e => rw [hN] at h'; injection h' with h1 h2; subst h1; decide
    | ok v' r' =>
      rw [hN] at h'
      injection h' with h1 h2
      subst h1
      exact (numberP_ok' hN).resolve_right (fun x => x (hb u r rfl))
/-- A loop over places, under way. -/
def lPl (n k : Nat) (nx : Nat) (M : List Int) : PR Unit → PR OC
  | .bad e => .bad e
  | .ok _ r => octEnd n (placesP n (pairs n) k nx M r)
/-- The number of places. -/
theorem loct_one (n : Nat) (r : List Int) {v : Nat} {S1 : PR Unit} (h1 : lnum (.ok () r) = (v, S1)) : octP n (pairs n) (1 :: r) = lPl n v 0 (topM (2 * n)) (lsize (decide (v ≤ (pairs n).length)) S1) := by
  have e1 : lnumP (numberP r) = (v, S1) := h1
  cases hN : numberP r with
  | bad e =>
    rw [hN] at e1
    injection e1 with e2 e3
    subst e3
    rw [octP_one_bad (show upToP 0 ((pairs n).length : Int) r = .bad e by unfold upToP; rw [hN])]
    rfl
  | ok g' r' =>
    rw [hN] at e1
    injection e1 with e2 e3
    subst e2 e3
    by_cases h : g' ≤ (pairs n).length
    · rw [octP_one_ok (show upToP 0 ((pairs n).length : Int) r = .ok g' r' by unfold upToP; rw [hN]; exact if_neg (by omega)), decide_eq_true h]; rfl
    · rw [octP_one_bad (show upToP 0 ((pairs n).length : Int) r = .bad 194 by unfold upToP; rw [hN]; exact if_pos (by omega)), decide_eq_false h]; rfl
/-- One place. -/
theorem lPl_step (n k nx : Nat) (M r : List Int) {g : Nat} {S1 S2 S3 : PR Unit} {v : Nat} (h1 : lnum (.ok () r) = (g, S1)) (hk : S2 = lsize (decide (g < (pairs n).length) && decide (nx + g < (pairs n).length)) S1) (h2 : lnum S2 = (v, S3)) :
    (∀ x, S3 = .bad x → lPl n (k + 1) nx M (.ok () r) = .bad x) ∧
    (∀ r3, S3 = .ok () r3 → nx + g < (pairs n).length ∧
      lPl n (k + 1) nx M (.ok () r) = lPl n k (nx + g + 1) (putM (2 * n) M (pfst (pairs n) (nx + g)) (psnd (pairs n) (nx + g)) (unfold' v)) (lsize (isB (unfold' v) && (unfold' v != 9223372036854775807)) (.ok () r3))) := by
  have e0 : lPl n (k + 1) nx M (.ok () r) = octEnd n (placesNext n (pairs n) k (placeP n (pairs n) nx M r)) := by
    show octEnd n (placesP n (pairs n) (k + 1) nx M r) = _
    rw [placesP_succ]
  have e1 : lnumP (numberP r) = (g, S1) := h1
  cases hN : numberP r with
  | bad e =>
    rw [hN] at e1
    injection e1 with e2 e3
    subst e3
    have hS2 : S2 = .bad e := hk
    rw [hS2] at h2
    injection h2 with e4 e5
    subst e5
    have eU : upToP 0 (((pairs n).length : Int) - (nx : Int) - 1) r = .bad e := by unfold upToP; rw [hN]
    refine ⟨fun x hx => ?_, fun r3 hx => by cases hx⟩
    injection hx with hx
    subst hx
    rw [e0, placeP_bad1 eU]; rfl
  | ok g' r' =>
    rw [hN] at e1
    injection e1 with e2 e3
    subst e2 e3
    by_cases hg : nx + g' < (pairs n).length
    · have hS2 : S2 = .ok () r' := by rw [hk, decide_eq_true (by omega), decide_eq_true (by omega)]; rfl
      have eU : upToP 0 (((pairs n).length : Int) - (nx : Int) - 1) r = .ok g' r' := by unfold upToP; rw [hN]; exact if_neg (by omega)
      rw [hS2] at h2
      have h3 : lnumP (numberP r') = (v, S3) := h2
      cases hV : numberP r' with
      | bad e =>
        rw [hV] at h3
        injection h3 with e4 e5
        subst e5
        refine ⟨fun x hx => ?_, fun r3 hx => by cases hx⟩
        injection hx with hx
        subst hx
        rw [e0, placeP_bad2 eU hV]; rfl
      | ok v' r'' =>
        rw [hV] at h3
        injection h3 with e4 e5
        subst e4 e5
        refine ⟨fun x hx => by (cases hx), fun r3 hx => ⟨hg, ?_⟩⟩
        injection hx with _ hx
        subst hx
        by_cases hu : unfold' v' = 9223372036854775807 ∨ ¬ isB (unfold' v')
        · rw [e0, placeP_bad3 eU hV hu]
          have : (isB (unfold' v') && (unfold' v' != 9223372036854775807)) = false := by
            rcases hu with hu | hu
            · rw [hu]; simp
            · rw [show isB (unfold' v') = false by simpa using hu]; rfl
          rw [this]; rfl
        · rw [e0, placeP_ok eU hV hu]
          have hu' := not_or.1 hu
          have : (isB (unfold' v') && (unfold' v' != 9223372036854775807)) = true := by
            rw [show isB (unfold' v') = true by simpa using hu'.2]; simpa using hu'.1
          rw [this]; rfl
    · have eU : upToP 0 (((pairs n).length : Int) - (nx : Int) - 1) r = .bad 194 := by unfold upToP; rw [hN]; exact if_pos (by omega)
      have hS2 : S2 = .bad 194 := by
        rw [hk]
        by_cases hgl : g' < (pairs n).length
        · rw [decide_eq_false (p := nx + g' < (pairs n).length) (by omega), Bool.and_false]; rfl
        · rw [decide_eq_false hgl]; rfl
      rw [hS2] at h2
      injection h2 with e4 e5
      subst e5
      refine ⟨fun x hx => ?_, fun r3 hx => by cases hx⟩
      injection hx with hx
      subst hx
      rw [e0, placeP_bad1 eU]; rfl
end Gn
end Go.Proofs.Ytghpiofjejhegaa

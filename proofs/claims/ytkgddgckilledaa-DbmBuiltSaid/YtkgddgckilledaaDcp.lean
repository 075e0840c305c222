/- Plain: an octagon is what its cells, laid on the octagon of all points, give; the octagon of a list of points has them. No program in sight. -/
import Derived.Test.YtkgddgckilledaaPtp
import Derived.Test.YtkgddgckilledaaDbp
import Derived.Test.YtkgddgckilledaaCef
namespace Go.Proofs.Ytkgddgckilledaa
open Go.RowKit
set_option linter.unusedVariables false
set_option linter.unusedSimpArgs false
namespace Gn
theorem cl_top' {m a b : Nat} (ha : a < m) (hb : b < m) : cl m (topM m) a b = if a = b then 0 else 9223372036854775807 := cl_mat ha hb
theorem okM_top' (n : Nat) : okM (2 * n) (topM (2 * n)) := by
  intro i hi j hj
  have hi' := ac_lt hi
  have hj' := ac_lt hj
  unfold okC topM
  rw [cl_mat hi hj, cl_mat hj' hi']
  refine ⟨?_, ?_, ?_⟩
  · unfold isB; split <;> simp
  · intro e; rw [if_pos e]
  · by_cases e : i = j
    · rw [if_pos e, if_pos (by rw [e])]
    · rw [if_neg e, if_neg (fun x => e (by rw [← ac_ac i, ← x, ac_ac]))]
theorem chk_top' {n : Nat} (h : n ≤ 64) : chk n false (topM (2 * n)) = 0 := chk_ok h (by rw [topM_len, sq2]) (okM_top' n)
/-- The cells laid one after the other. -/
def built (m : Nat) (M : List Int) (ps : List (Nat × Nat)) : List Int := ps.foldl (fun T p => boundM m T p.1 p.2 (cl m M p.1 p.2)) (topM m)
theorem built_snoc (m : Nat) (M : List Int) (ps : List (Nat × Nat)) (p : Nat × Nat) : built m M (ps ++ [p]) = boundM m (built m M ps) p.1 p.2 (cl m M p.1 p.2) := by simp [built]
theorem cells_in {n : Nat} {M : List Int} {p : Nat × Nat} (h : chk n false M = 0) (hp : p ∈ cellsL n false M) : p.1 < 2 * n ∧ p.2 < 2 * n ∧ p.1 ≠ p.2 ∧ cl (2 * n) M p.1 p.2 ≠ 9223372036854775807 := by
  rw [cellsL_ok h] at hp
  obtain ⟨h1, h2⟩ := List.mem_filter.1 hp
  obtain ⟨a, b, c⟩ := pairs_mem.1 h1
  refine ⟨a, b, ?_, by unfold fin2 at h2; exact of_decide_eq_true h2⟩
  unfold isP at c
  rw [Bool.and_eq_true, decide_eq_true_eq] at c
  exact c.1
theorem cells_all {n : Nat} {M : List Int} {a b : Nat} (h : chk n false M = 0) (ha : a < 2 * n) (hb : b < 2 * n) (hab : a ≠ b) (hc : cl (2 * n) M a b ≠ 9223372036854775807) : (a, b) ∈ cellsL n false M ∨ (ac b, ac a) ∈ cellsL n false M := by
  obtain ⟨m, hm, hn, _, h0⟩ := chk_zero h
  obtain rfl : n = m := by omega
  obtain ⟨_, hok⟩ := h0 rfl
  have hs := (hok a ha b hb).2.2
  rw [cellsL_ok h]
  have key : fst2 a b = true ∨ fst2 (ac b) (ac a) = true := by
    unfold fst2
    rw [decide_eq_true_eq, decide_eq_true_eq, ac_ac, ac_ac]
    omega
  rcases key with k | k
  · left
    refine List.mem_filter.2 ⟨pairs_mem.2 ⟨ha, hb, ?_⟩, by unfold fin2; exact decide_eq_true hc⟩
    show isP a b = true
    unfold isP; rw [decide_eq_true hab, k]; rfl
  · right
    refine List.mem_filter.2 ⟨pairs_mem.2 ⟨ac_lt hb, ac_lt ha, ?_⟩, by unfold fin2; exact decide_eq_true (by rw [← hs]; exact hc)⟩
    show isP (ac b) (ac a) = true
    unfold isP; rw [decide_eq_true (show ac b ≠ ac a from fun e => hab (ac_inj e).symm), k]; rfl
/-- What holds of the cells laid so far. -/
structure Bu (n : Nat) (M : List Int) (ps : List (Nat × Nat)) (T : List Int) : Prop where
  len : T.length = (2 * n) * (2 * n)
  chk : chk n false T = 0
  cells : ∀ a, a < 2 * n → ∀ b, b < 2 * n → cl (2 * n) T a b = if a = b then 0 else if (a, b) ∈ ps ∨ (ac b, ac a) ∈ ps then cl (2 * n) M a b else 9223372036854775807
theorem Bu.start {n : Nat} (hn : n ≤ 64) (M : List Int) : Bu n M [] (topM (2 * n)) :=
  ⟨topM_len _, chk_top' hn, fun a ha b hb => by rw [cl_top' ha hb]; simp⟩
theorem Bu.step {n : Nat} {M : List Int} {ps : List (Nat × Nat)} {T : List Int} {p : Nat × Nat} (h : Bu n M ps T) (hM : Gn.chk n false M = 0) (hp : p ∈ cellsL n false M) : Bu n M (ps ++ [p]) (boundM (2 * n) T p.1 p.2 (cl (2 * n) M p.1 p.2)) := by
  obtain ⟨m, hm, hn, _, h0⟩ := chk_zero hM
  obtain rfl : n = m := by omega
  obtain ⟨_, hok⟩ := h0 rfl
  obtain ⟨h1, h2, h3, h4⟩ := cells_in hM hp
  obtain ⟨i, j⟩ := p
  dsimp only at *
  have hs := (hok i h1 j h2).2.2
  have hbd := (isB_iff _).1 (hok i h1 j h2).1
  refine ⟨by rw [boundM_len, h.len], chk_bound h.chk h1 h2 h3, fun a ha b hb => ?_⟩
  rw [cl_boundM h.len h1 h2 (ac_lt h1) (ac_lt h2) hb, asB_of hbd, h.cells i h1 j h2, if_neg h3]
  have hmin : min (if (i, j) ∈ ps ∨ (ac j, ac i) ∈ ps then cl (2 * n) M i j else 9223372036854775807) (cl (2 * n) M i j) = cl (2 * n) M i j := by
    split
    · exact Int.min_self _
    · unfold Bd at hbd; omega
  rw [hmin]
  by_cases hab : a = b
  · rw [if_pos hab, if_neg (by
      rintro (⟨e1, e2⟩ | ⟨e1, e2⟩)
      · exact h3 (by rw [← e1, ← e2, hab])
      · exact h3 (ac_inj (by rw [← e1, ← e2, hab]))), h.cells a ha b hb, if_pos hab]
  · rw [if_neg hab]
    by_cases hk : (a = i ∧ b = j) ∨ (a = ac j ∧ b = ac i)
    · rw [if_pos hk, if_pos (by
        rcases hk with ⟨rfl, rfl⟩ | ⟨rfl, rfl⟩
        · left; simp
        · right; rw [ac_ac, ac_ac]; simp)]
      rcases hk with ⟨rfl, rfl⟩ | ⟨rfl, rfl⟩
      · rfl
      · exact hs
    · rw [if_neg hk, h.cells a ha b hb, if_neg hab]
      have e1 : ((a, b) ∈ ps ++ [(i, j)] ∨ (ac b, ac a) ∈ ps ++ [(i, j)]) ↔ ((a, b) ∈ ps ∨ (ac b, ac a) ∈ ps) := by
        simp only [List.mem_append, List.mem_singleton, Prod.mk.injEq]
        constructor
        · rintro ((h | ⟨rfl, rfl⟩) | (h | ⟨e1, e2⟩))
          · exact .inl h
          · exact absurd (.inl ⟨rfl, rfl⟩) hk
          · exact .inr h
          · exact absurd (.inr ⟨by rw [← e2, ac_ac], by rw [← e1, ac_ac]⟩) hk
        · rintro (h | h)
          · exact .inl (.inl h)
          · exact .inr (.inl h)
      by_cases e : (a, b) ∈ ps ∨ (ac b, ac a) ∈ ps
      · rw [if_pos e, if_pos (e1.2 e)]
      · rw [if_neg e, if_neg (fun k => e (e1.1 k))]
theorem Bu.all {n : Nat} {M T : List Int} (h : Bu n M (cellsL n false M) T) (hM : Gn.chk n false M = 0) : T = M := by
  obtain ⟨m, hm, hn, _, h0⟩ := chk_zero hM
  obtain rfl : n = m := by omega
  obtain ⟨hl, hok⟩ := h0 rfl
  refine mat_ext h.len (by rw [hl, sq2]) fun a ha b hb => ?_
  rw [h.cells a ha b hb]
  by_cases hab : a = b
  · rw [if_pos hab, (hok a ha b hb).2.1 hab]
  · rw [if_neg hab]
    by_cases hc : cl (2 * n) M a b = 9223372036854775807
    · rw [hc]; split <;> rfl
    · rw [if_pos (cells_all hM ha hb hab hc)]
theorem Bu.with {n : Nat} {M : List Int} {ps : List (Nat × Nat)} {T : List Int} {p : Nat × Nat} (h : Bu n M ps T) (hM : Gn.chk n false M = 0) (hp : p ∈ cellsL n false M) :
    withP n false T p.1 p.2 (cl (2 * n) M p.1 p.2) = (((n : Int), false, boundM (2 * n) T p.1 p.2 (cl (2 * n) M p.1 p.2)), 0) := by
  obtain ⟨h1, h2, h3, h4⟩ := cells_in hM hp
  exact withP_in h.chk (inM_iff.2 ⟨p.1, p.2, rfl, rfl, h1, h2⟩) h3
/-! ### The octagon of a list of points -/
theorem bestV_ac (ls : List RowV) (i j : Nat) : bestV ls (ac j) (ac i) = bestV ls i j := by
  unfold bestV
  congr 1
  funext m r
  rw [apartV_ac]
theorem bestV_le {ls : List RowV} {r : RowV} (h : r ∈ ls) (i j : Nat) : countV (apartV r.x i j) ≤ bestV ls i j := by
  have mono : ∀ (ls : List RowV) (m : Int), m ≤ ls.foldl (fun m r => max m (countV (apartV r.x i j))) m := fun ls => by
    induction ls with
    | nil => exact fun m => Int.le_refl _
    | cons r ls ih => exact fun m => Int.le_trans (Int.le_max_left _ _) (ih _)
  have key : ∀ (ls : List RowV) (m : Int), r ∈ ls → countV (apartV r.x i j) ≤ ls.foldl (fun m r => max m (countV (apartV r.x i j))) m := fun ls => by
    induction ls with
    | nil => intro m h; cases h
    | cons q ls ih =>
      intro m h
      rcases List.mem_cons.1 h with rfl | h
      · exact Int.le_trans (Int.le_max_right _ _) (mono _ _)
      · exact ih _ h
  exact key ls _ h
theorem okM_best {n : Nat} {ls : List RowV} (h : ls ≠ []) : okM (2 * n) (tabM (2 * n) (bestV ls)) := by
  intro i hi j hj
  unfold okC
  rw [cl_tabM hi hj, cl_tabM (ac_lt hj) (ac_lt hi), bestV_ac]
  refine ⟨(isB_iff _).2 (bestV_bd _ _ _), fun e => ?_, rfl⟩
  subst e
  exact bestV_self h i
theorem points_has {N : Int} {ls : List RowV} (he : pointsE N ls = 0) {i : Nat} (hi : i < ls.length) :
    ∃ n : Nat, N = n ∧ n ≤ 64 ∧ hasO (pointsR N ls).1 (pointsR N ls).2.1 (pointsR N ls).2.2 (rvAt ls i).x = true ∧ hasO n false (topM (2 * n)) (rvAt ls i).x = true ∧ hasO n true [] (rvAt ls i).x = false := by
  have he' := he
  unfold pointsE at he
  split at he
  · cases he
  rename_i hg
  have hN : 0 ≤ N ∧ N ≤ 64 := by omega
  have hb : badL N ls = false := by
    cases e : badL N ls
    · rfl
    · exact absurd (.inr e) hg
  obtain ⟨n, rfl⟩ := Int.eq_ofNat_of_zero_le hN.1
  have hn : n ≤ 64 := by omega
  have hne : ls ≠ [] := fun e => by rw [e] at hi; simp at hi
  have hx : ((rvAt ls i).x.length : Int) = n := badL_false hb hi
  have hx' : (rvAt ls i).x.length = n := by omega
  have hok := okM_best (n := n) hne
  have hR : pointsR n ls = ((n : Int), false, tabM (2 * n) (bestV ls)) := by
    unfold pointsR pointsP
    rw [if_pos he', if_neg (by intro e; exact hne (List.length_eq_zero_iff.1 e))]
    simp
  refine ⟨n, rfl, hn, ?_, ?_, hasO_no (fun k => by cases k.2.1)⟩
  · rw [hR]
    dsimp only
    rw [hasO_eq (chk_ok hn (by rw [tabM_len, sq2]) hok) hx', decide_eq_true_eq]
    intro a ha b hb
    unfold okP
    rw [cl_tabM ha hb]
    have h1 := bestV_le (rvAt_mem hi) a b
    have h2 := bestV_bd ls a b
    unfold countV at h1
    unfold Bd at h2
    split at h1 <;> (try split at h1) <;> omega
  · rw [hasO_eq (chk_top' hn) hx', decide_eq_true_eq]
    intro a ha b hb
    unfold okP
    rw [cl_top' ha hb]
    by_cases e : a = b
    · right; subst e; rw [if_pos rfl, apartV_self]; exact Int.le_refl _
    · left; rw [if_neg e]
end Gn
end Go.Proofs.Ytkgddgckilledaa

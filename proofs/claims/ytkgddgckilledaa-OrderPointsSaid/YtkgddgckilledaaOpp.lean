/- Plain: points go where octagons go: closing, Meet, Join, entailment, forgetting. No program in sight. -/
import Derived.Test.YtkgddgckilledaaOrt
import Derived.Test.YtkgddgckilledaaFrg
import Derived.Test.YtkgddgckilledaaCpt
import Derived.Test.YtkgddgckilledaaHat
namespace Go.Proofs.Ytkgddgckilledaa
open Go.RowKit
set_option linter.unusedVariables false
set_option linter.unusedSimpArgs false
namespace Gn
theorem hasO_empty {N : Int} {M x : List Int} : hasO N true M x = false := decide_eq_false (fun k => by cases k.2.1)
theorem has_clo {n : Nat} {E : Bool} {M x : List Int} (hc : chk n E M = 0) (hl : x.length = n) : hasO n (clo n E M).2.1 (clo n E M).2.2 x = hasO n E M x := by
  rcases E with _ | _
  · have hk := clo_chk hc
    obtain ⟨m, hm, hn, _, h0⟩ := chk_zero hc
    obtain rfl : n = m := by omega
    obtain ⟨hlen, hok⟩ := h0 rfl
    rw [hasO_eq hc hl]
    unfold clo at hk ⊢
    rw [closeP_ok hc] at hk ⊢
    rcases hA : closeM (2 * n) M with ⟨_ | Z, s⟩
    · rw [hasO_empty]
      exact (decide_eq_false (close_none (by rw [hlen, sq2]) hok hA)).symm
    · rw [hA] at hk
      have hk2 : chk n false Z = 0 := hk.2
      show hasO n false Z x = _
      rw [hasO_eq hk2 hl]
      exact decide_eq_decide.2 (close_hasM (by rw [hlen, sq2]) hok hA)
  · unfold clo; rw [closeP_empty hc, hasO_empty, hasO_empty]
theorem okP_less {a b p : Int} (ha : Bd a) (hb : Bd b) : (less a b = 9223372036854775807 ∨ p ≤ less a b) ↔ ((a = 9223372036854775807 ∨ p ≤ a) ∧ (b = 9223372036854775807 ∨ p ≤ b)) := by
  rw [less_eq ha hb]
  unfold Bd at ha hb
  omega
theorem okP_max {a b p : Int} (ha : Bd a) (hb : Bd b) (h : (a = 9223372036854775807 ∨ p ≤ a) ∨ (b = 9223372036854775807 ∨ p ≤ b)) : max a b = 9223372036854775807 ∨ p ≤ max a b := by
  unfold Bd at ha hb
  omega
theorem has_less {n : Nat} {Ma Mb x : List Int} (ha : chk n false Ma = 0) (hb : chk n false Mb = 0) (hl : x.length = n) : hasO n false (zip2 less Ma Mb) x = (hasO n false Ma x && hasO n false Mb x) := by
  obtain ⟨m, hm, hn, _, h0⟩ := chk_zero ha
  obtain rfl : n = m := by omega
  have hla : Ma.length = (2 * n) * (2 * n) := by rw [(h0 rfl).1, sq2]
  rw [hasO_eq (chk_less ha hb) hl, hasO_eq ha hl, hasO_eq hb hl, Bool.eq_iff_iff, Bool.and_eq_true, decide_eq_true_eq, decide_eq_true_eq, decide_eq_true_eq]
  have key : ∀ i, i < 2 * n → ∀ j, j < 2 * n → (okP (2 * n) (zip2 less Ma Mb) x i j ↔ okP (2 * n) Ma x i j ∧ okP (2 * n) Mb x i j) := fun i hi j hj => by
    unfold okP
    rw [cl_zip hla hi hj]
    exact okP_less (cl_bd (chk_allB ha) _ _) (cl_bd (chk_allB hb) _ _)
  exact ⟨fun h => ⟨fun i hi j hj => ((key i hi j hj).1 (h i hi j hj)).1, fun i hi j hj => ((key i hi j hj).1 (h i hi j hj)).2⟩, fun h i hi j hj => (key i hi j hj).2 ⟨h.1 i hi j hj, h.2 i hi j hj⟩⟩
theorem has_max {n : Nat} {Ma Mb x : List Int} (ha : chk n false Ma = 0) (hb : chk n false Mb = 0) (hl : x.length = n) (h : (hasO n false Ma x || hasO n false Mb x) = true) : hasO n false (zip2 max Ma Mb) x = true := by
  obtain ⟨m, hm, hn, _, h0⟩ := chk_zero ha
  obtain rfl : n = m := by omega
  have hla : Ma.length = (2 * n) * (2 * n) := by rw [(h0 rfl).1, sq2]
  rw [hasO_eq ha hl, hasO_eq hb hl, Bool.or_eq_true, decide_eq_true_eq, decide_eq_true_eq] at h
  rw [hasO_eq (chk_max ha hb) hl, decide_eq_true_eq]
  intro i hi j hj
  unfold okP
  rw [cl_zip hla hi hj]
  exact okP_max (cl_bd (chk_allB ha) _ _) (cl_bd (chk_allB hb) _ _) (h.imp (fun h => h i hi j hj) (fun h => h i hi j hj))
theorem has_meet {n : Nat} {Ea Eb : Bool} {Ma Mb x : List Int} (ha : chk n Ea Ma = 0) (hb : chk n Eb Mb = 0) (hl : x.length = n) :
    hasO n (meetP n Ea Ma Eb Mb).2.1 (meetP n Ea Ma Eb Mb).2.2 x = (hasO n Ea Ma x && hasO n Eb Mb x) := by
  unfold meetP
  split
  · rename_i h
    rw [hasO_empty]
    rw [Bool.or_eq_true] at h
    rcases h with rfl | rfl
    · rw [hasO_empty]; rfl
    · rw [hasO_empty, Bool.and_false]
  · rename_i h
    rw [Bool.or_eq_true, not_or, Bool.not_eq_true, Bool.not_eq_true] at h
    obtain ⟨rfl, rfl⟩ := h
    rw [has_clo (chk_less ha hb) hl, has_less ha hb hl]
theorem has_join {n : Nat} {Ea Eb : Bool} {Ma Mb x : List Int} (ha : chk n Ea Ma = 0) (hb : chk n Eb Mb = 0) (hl : x.length = n) (h : (hasO n Ea Ma x || hasO n Eb Mb x) = true) :
    hasO n (joinP n Ea Ma Eb Mb).2.1 (joinP n Ea Ma Eb Mb).2.2 x = true := by
  have ca := clo_chk ha
  have cb := clo_chk hb
  rw [← has_clo ha hl, ← has_clo hb hl] at h
  unfold joinP
  split
  · rename_i g1
    rw [g1, hasO_empty, Bool.false_or] at h
    exact h
  · split
    · rename_i g2
      rw [g2, hasO_empty, Bool.or_false] at h
      exact h
    · rename_i g1 g2
      rw [Bool.not_eq_true] at g1 g2
      have q1 := ca.2
      have q2 := cb.2
      rw [g1] at q1 h
      rw [g2] at q2 h
      exact has_max q1 q2 hl h
theorem has_ent {n : Nat} {Ea Eb : Bool} {Ma Mb x : List Int} (ha : chk n Ea Ma = 0) (hb : chk n Eb Mb = 0) (hl : x.length = n) (he : entP n Ea Ma Eb Mb = true) (h : hasO n Ea Ma x = true) : hasO n Eb Mb x = true := by
  have ca := clo_chk ha
  unfold entP at he
  rw [above_iff ca.2 hb] at he
  rw [← has_clo ha hl] at h
  rcases he with he | ⟨rfl, he⟩
  · rw [he, hasO_empty] at h; cases h
  · rcases hE : (clo n Ea Ma).2.1 with _ | _
    · have q1 := ca.2
      rw [hE] at q1 h
      rw [hasO_eq q1 hl, decide_eq_true_eq] at h
      rw [hasO_eq hb hl, decide_eq_true_eq]
      exact hasM_le he (chk_allB hb) h
    · rw [hE, hasO_empty] at h; cases h
/-- A variable of a point set to whatever number. -/
theorem apartV_set {x : List Int} {v : Nat} {m : Int} {i j : Nat} (hi : i / 2 ≠ v) (hj : j / 2 ≠ v) : apartV (x.set v m) i j = apartV x i j := by
  unfold apartV sideV
  rw [nth_set_ne (fun e => hi e.symm), nth_set_ne (fun e => hj e.symm)]
theorem has_drop {n : Nat} {M x y : List Int} {v : Nat} (hc : chk n false M = 0) (hl : x.length = n) (hy : y.length = n) (hxy : ∀ u, u ≠ v → nth y u = nth x u) (h : hasO n false M x = true) : hasO n false (dropM (2 * n) (fun u => decide ((u : Int) = v)) M) y = true := by
  obtain ⟨m, hm, hn, _, h0⟩ := chk_zero hc
  obtain rfl : n = m := by omega
  obtain ⟨hlen, hok⟩ := h0 rfl
  have hk : chk n false (dropM (2 * n) (fun u => decide ((u : Int) = v)) M) = 0 := chk_ok hn (by rw [dropM_len, sq2]) (dropM_ok hok)
  rw [hasO_eq hc hl, decide_eq_true_eq] at h
  rw [hasO_eq hk hy, decide_eq_true_eq]
  intro i hi j hj
  have hij := h i hi j hj
  unfold okP at hij ⊢
  rw [cl_dropM hi hj]
  by_cases c : i ≠ j ∧ (decide (((i / 2 : Nat) : Int) = v) || decide (((j / 2 : Nat) : Int) = v)) = true
  · rw [if_pos c]; exact .inl rfl
  · rw [if_neg c]
    by_cases e : i = j
    · subst e
      right
      rw [(hok i hi i hi).2.1 rfl]
      unfold apartV
      omega
    · have e1 : i / 2 ≠ v := fun k => c ⟨e, by simp [k]⟩
      have e2 : j / 2 ≠ v := fun k => c ⟨e, by simp [k]⟩
      have : apartV y i j = apartV x i j := by
        unfold apartV sideV
        rw [hxy _ e1, hxy _ e2]
      rw [this]; exact hij
theorem has_forget {n : Nat} {E : Bool} {M x y : List Int} {v : Nat} (hc : chk n E M = 0) (hl : x.length = n) (hy : y.length = n) (hxy : ∀ u, u ≠ v → nth y u = nth x u) (h : hasO n E M x = true) :
    hasO n (forgetP n E M (fun u => decide ((u : Int) = (v : Int)))).2.1 (forgetP n E M (fun u => decide ((u : Int) = (v : Int)))).2.2 y = true := by
  have ca := clo_chk hc
  rw [← has_clo hc hl] at h
  unfold forgetP
  rcases hq : clo n E M with ⟨a, b, c⟩
  rw [hq] at ca h
  dsimp only at ca h
  obtain ⟨rfl, ca⟩ := ca
  rcases b with _ | _
  · have := has_drop ca hl hy hxy h
    unfold dropO
    simp only [Bool.false_eq_true, if_false]
    rw [show ((n : Int).toNat) = n by omega]
    exact this
  · rw [hasO_empty] at h; cases h
/-- In range, Forget tells what is forgotten. -/
theorem forgetR_at {n : Nat} {E : Bool} {M : List Int} {v : Int} (hc : chk n E M = 0) (h0 : 0 ≤ v) (h1 : v < n) : forgetE n E M v = 0 ∧ forgetR n E M v = forgetP n E M (fun u => decide ((u : Int) = v)) := by
  have e : forgetE n E M v = 0 := by unfold forgetE; rw [if_neg (fun k => k hc), if_neg (by omega)]
  exact ⟨e, by unfold forgetR; rw [if_pos e]⟩
end Gn
end Go.Proofs.Ytkgddgckilledaa

/- Close in words for the statements: lengths, and what may be. -/
import Derived.Test.YtkgddgckilledaaKno
import Derived.Test.YtkgddgckilledaaCpt
namespace Go.Proofs.Ytkgddgckilledaa
open Go.RowKit
set_option linter.unusedVariables false
set_option linter.unusedSimpArgs false
open Gn
namespace Gn
theorem closeP_len {N : Int} {E : Bool} {M : List Int} : (closeP N E M).1.1.2.2.length ≤ M.length := by
  by_cases hc : chk N E M = 0
  · obtain ⟨n, rfl, hn, hE1, hE0⟩ := chk_zero hc
    rcases E with _ | _
    · rw [closeP_ok hc]
      rcases hA : closeM (2 * n) M with ⟨_ | A, s⟩
      · simp
      · have := clSt_len (2 * n) M 6
        unfold closeM at hA
        dsimp only at hA
        split at hA
        · simp at hA
        split at hA
        · simp at hA
        · simp only [Prod.mk.injEq, Option.some.injEq] at hA
          rw [← hA.1]
          exact Nat.le_of_eq this
    · rw [closeP_empty hc]; simp
  · unfold closeP; rw [if_pos hc]; simp
theorem chk_ints {N : Int} {E : Bool} {M : List Int} (h : chk N E M = 0) : ∀ v ∈ M, I64 v := by
  obtain ⟨n, rfl, hn, hE1, hE0⟩ := chk_zero h
  rcases E with _ | _
  · obtain ⟨hl, hok⟩ := hE0 rfl
    have hB := allB_of (by rw [hl, sq2]) hok
    intro v hv
    obtain ⟨i, hi, rfl⟩ := List.getElem_of_mem hv
    have := (hB i).i64
    unfold nth at this
    rwa [List.getD_eq_getElem?_getD, List.getElem?_eq_getElem hi] at this
  · rw [hE1 rfl]; simp
theorem closeP_err {N : Int} {E : Bool} {M : List Int} : (closeP N E M).2 = chk N E M := by
  unfold closeP
  split
  · rfl
  · rename_i h
    have h0 : chk N E M = 0 := by omega
    rw [h0]
    split
    · rfl
    · rcases closeM (2 * N.toNat) M with ⟨_ | X, s⟩ <;> rfl
/-- What closing makes may be. -/
theorem closeP_chk {N : Int} {E : Bool} {M : List Int} (hc : chk N E M = 0) : (closeP N E M).1.1.1 = N ∧ chk N (closeP N E M).1.1.2.1 (closeP N E M).1.1.2.2 = 0 := by
  obtain ⟨n, rfl, hn, hE1, hE0⟩ := chk_zero hc
  rcases E with _ | _
  · obtain ⟨hl, hok⟩ := hE0 rfl
    have hl' : M.length = (2 * n) * (2 * n) := by rw [hl, sq2]
    rw [closeP_ok hc]
    rcases hA : closeM (2 * n) M with ⟨_ | Z, s⟩
    · exact ⟨rfl, chk_empty hn⟩
    · obtain ⟨c⟩ := closeM_some hA
      exact ⟨rfl, chk_ok hn (by rw [(c.fZ hl' (allB_of hl' hok)).1, sq2]) (c.okZ hl' hok)⟩
  · rw [closeP_empty hc]; exact ⟨rfl, chk_empty hn⟩
end Gn
theorem close_CloseW (N : Int) (E : Bool) (A : Option Addr) (c : Nat) (M : List Int) (w : World) (h : OctIn w w.heap.size A c N M) (hM : (M.length : Int) ≤ 17592186043904) (P : ((Int × Bool × List Int) × Bool) × Int) (hP : closeP N E M = P) :
    Calls Try.prog 74 #[.agg #[.int .i64 N, .bool E, .slice A M.length c]] w (TellsCl w P) := by
  subst hP; exact close_Close N E A c M w h hM
end Go.Proofs.Ytkgddgckilledaa

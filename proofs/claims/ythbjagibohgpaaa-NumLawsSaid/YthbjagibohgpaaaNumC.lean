/- Walks: comparisons and their contraries, of the packages num and gnomonref7. -/
import Derived.Test.YthbjagibohgpaaaNumW
import Derived.Laws.EntriesVeiled
namespace Go.Proofs.Ythbjagibohgpaaa
open Go.RowKit
open Gn
theorem num_Not (op : Int) (w : World) :
    Calls Try.prog 41 #[.int .i64 op] w fun e w' => e = .returned (.int .i64 (notOp op)) ∧ w = w' := by
  by_cases h1 : op < 1
  · have f : notOp op = 0 := by unfold notOp; repeat' (first | rw [if_neg (by omega)])
    rw [f]; clear f
    go_enter Try.func41, Try.ntmps41
    go_wp2
    go_ret
    exact ⟨rfl, rfl⟩
  · by_cases h2 : 6 < op
    · have f : notOp op = 0 := by unfold notOp; repeat' (first | rw [if_neg (by omega)])
      rw [f]; clear f
      go_enter Try.func41, Try.ntmps41
      go_wp2
      go_ret
      exact ⟨rfl, rfl⟩
    · have h : op = 1 ∨ op = 2 ∨ op = 3 ∨ op = 4 ∨ op = 5 ∨ op = 6 := by omega
      clear h1 h2
      have i1 : ∀ w, (Instr.index 57 (.agg #[.int .i64 0, .int .i64 6, .int .i64 5, .int .i64 4, .int .i64 3, .int .i64 2, .int .i64 1]) (.int .i64 1)).run Try.prog w = .ok (.int .i64 6) w := fun _ => by kernel_rfl
      have i2 : ∀ w, (Instr.index 57 (.agg #[.int .i64 0, .int .i64 6, .int .i64 5, .int .i64 4, .int .i64 3, .int .i64 2, .int .i64 1]) (.int .i64 2)).run Try.prog w = .ok (.int .i64 5) w := fun _ => by kernel_rfl
      have i3 : ∀ w, (Instr.index 57 (.agg #[.int .i64 0, .int .i64 6, .int .i64 5, .int .i64 4, .int .i64 3, .int .i64 2, .int .i64 1]) (.int .i64 3)).run Try.prog w = .ok (.int .i64 4) w := fun _ => by kernel_rfl
      have i4 : ∀ w, (Instr.index 57 (.agg #[.int .i64 0, .int .i64 6, .int .i64 5, .int .i64 4, .int .i64 3, .int .i64 2, .int .i64 1]) (.int .i64 4)).run Try.prog w = .ok (.int .i64 3) w := fun _ => by kernel_rfl
      have i5 : ∀ w, (Instr.index 57 (.agg #[.int .i64 0, .int .i64 6, .int .i64 5, .int .i64 4, .int .i64 3, .int .i64 2, .int .i64 1]) (.int .i64 5)).run Try.prog w = .ok (.int .i64 2) w := fun _ => by kernel_rfl
      have i6 : ∀ w, (Instr.index 57 (.agg #[.int .i64 0, .int .i64 6, .int .i64 5, .int .i64 4, .int .i64 3, .int .i64 2, .int .i64 1]) (.int .i64 6)).run Try.prog w = .ok (.int .i64 1) w := fun _ => by kernel_rfl
      rcases h with rfl | rfl | rfl | rfl | rfl | rfl
      all_goals
        go_enter Try.func41, Try.ntmps41
        go_wp2
        try go_ret
        try exact ⟨rfl, rfl⟩
def cmpTab : Value := .agg #[.func (.func 70) #[] #[], .func (.func 71) #[] #[], .func (.func 72) #[] #[], .func (.func 73) #[] #[], .func (.func 74) #[] #[], .func (.func 75) #[] #[], .func (.func 76) #[] #[]]
theorem num_compares (w : World) : Calls Try.prog 66 #[] w fun e w' => e = .returned cmpTab ∧ Below w.heap.size w w' := by
  unfold cmpTab
  go_enter Try.func66, Try.ntmps66
  go_wp2
  refine bodyPost_ret (v := .agg #[.func (.func 70) #[] #[], .func (.func 71) #[] #[], .func (.func 72) #[] #[], .func (.func 73) #[] #[], .func (.func 74) #[] #[], .func (.func 75) #[] #[], .func (.func 76) #[] #[]]) (by simp [results, Try.results66, go_sem]) rfl ⟨rfl, ?_⟩
  exact (Below.refl _ _).alloc (Nat.le_refl _) _
theorem num_Cmp (op a b : Int) (w : World) :
    Calls Try.prog 42 #[.int .i64 op, .int .i64 a, .int .i64 b] w fun e w' => e = .returned (.bool (cmp op a b)) ∧ Below w.heap.size w w' := by
  by_cases h1 : op < 1
  · have f : cmp op a b = false := by unfold cmp; repeat' (first | rw [if_neg (by omega)])
    rw [f]; clear f
    go_enter Try.func42, Try.ntmps42
    go_wp2
    go_ret
    exact ⟨rfl, Below.refl _ _⟩
  · by_cases h2 : 6 < op
    · have f : cmp op a b = false := by unfold cmp; repeat' (first | rw [if_neg (by omega)])
      rw [f]; clear f
      go_enter Try.func42, Try.ntmps42
      go_wp2
      go_ret
      exact ⟨rfl, Below.refl _ _⟩
    · have h : op = 1 ∨ op = 2 ∨ op = 3 ∨ op = 4 ∨ op = 5 ∨ op = 6 := by omega
      clear h1 h2
      have c := num_compares w
      have i1 : ∀ w, (Instr.index 58 cmpTab (.int .i64 1)).run Try.prog w = .ok (.func (.func 71) #[] #[]) w := fun _ => by kernel_rfl
      have i2 : ∀ w, (Instr.index 58 cmpTab (.int .i64 2)).run Try.prog w = .ok (.func (.func 72) #[] #[]) w := fun _ => by kernel_rfl
      have i3 : ∀ w, (Instr.index 58 cmpTab (.int .i64 3)).run Try.prog w = .ok (.func (.func 73) #[] #[]) w := fun _ => by kernel_rfl
      have i4 : ∀ w, (Instr.index 58 cmpTab (.int .i64 4)).run Try.prog w = .ok (.func (.func 74) #[] #[]) w := fun _ => by kernel_rfl
      have i5 : ∀ w, (Instr.index 58 cmpTab (.int .i64 5)).run Try.prog w = .ok (.func (.func 75) #[] #[]) w := fun _ => by kernel_rfl
      have i6 : ∀ w, (Instr.index 58 cmpTab (.int .i64 6)).run Try.prog w = .ok (.func (.func 76) #[] #[]) w := fun _ => by kernel_rfl
      rcases h with rfl | rfl | rfl | rfl | rfl | rfl
      all_goals
        go_enter Try.func42, Try.ntmps42
        go_wp2_with (first | (go_at_call 66; refine c.mono ?_; rintro e w1 ⟨rfl, hb⟩) | go_in)
        go_ret
        exact ⟨by simp [cmp] <;> rfl, hb⟩
theorem ref_Not (op : Int) (w : World) :
    Calls Try.prog 44 #[.int .i64 op] w fun e w' => e = .returned (.int .i64 (notOp op)) ∧ w = w' := by
  by_cases h : op = 1 ∨ op = 2 ∨ op = 3 ∨ op = 4 ∨ op = 5 ∨ op = 6
  · rcases h with rfl | rfl | rfl | rfl | rfl | rfl
    all_goals
      go_enter Try.func44, Try.ntmps44
      go_wp2
      go_ret
      exact ⟨rfl, rfl⟩
  · have f : notOp op = 0 := by unfold notOp; repeat' (first | rw [if_neg (by omega)])
    have e1 : (op == 1) = false := beq_eq_false_iff_ne.2 (by omega)
    have e2 : (op == 2) = false := beq_eq_false_iff_ne.2 (by omega)
    have e3 : (op == 3) = false := beq_eq_false_iff_ne.2 (by omega)
    have e4 : (op == 4) = false := beq_eq_false_iff_ne.2 (by omega)
    have e5 : (op == 5) = false := beq_eq_false_iff_ne.2 (by omega)
    have e6 : (op == 6) = false := beq_eq_false_iff_ne.2 (by omega)
    rw [f]; clear f h
    go_enter Try.func44, Try.ntmps44
    go_wp2
    go_ret
    exact ⟨rfl, rfl⟩
theorem ref_Cmp (op a b : Int) (w : World) :
    Calls Try.prog 43 #[.int .i64 op, .int .i64 a, .int .i64 b] w fun e w' => e = .returned (.bool (cmp op a b)) ∧ w = w' := by
  by_cases h : op = 1 ∨ op = 2 ∨ op = 3 ∨ op = 4 ∨ op = 5 ∨ op = 6
  · rcases h with rfl | rfl | rfl | rfl | rfl | rfl
    all_goals
      go_enter Try.func43, Try.ntmps43
      go_wp2
      go_ret
      exact ⟨by simp [cmp] <;> rfl, rfl⟩
  · have f : cmp op a b = false := by unfold cmp; repeat' (first | rw [if_neg (by omega)])
    have e1 : (op == 1) = false := beq_eq_false_iff_ne.2 (by omega)
    have e2 : (op == 2) = false := beq_eq_false_iff_ne.2 (by omega)
    have e3 : (op == 3) = false := beq_eq_false_iff_ne.2 (by omega)
    have e4 : (op == 4) = false := beq_eq_false_iff_ne.2 (by omega)
    have e5 : (op == 5) = false := beq_eq_false_iff_ne.2 (by omega)
    have e6 : (op == 6) = false := beq_eq_false_iff_ne.2 (by omega)
    rw [f]; clear f h
    go_enter Try.func43, Try.ntmps43
    go_wp2
    go_ret
    exact ⟨rfl, rfl⟩
end Go.Proofs.Ythbjagibohgpaaa

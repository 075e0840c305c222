/- Plain: what is let go of what is closed is closed; variables let go twice, and one after the other. No program in sight. -/
import Derived.Test.YtkgddgckilledaaOtg
import Derived.Test.YtkgddgckilledaaFrg
namespace Go.Proofs.Ytkgddgckilledaa
open Go.RowKit
set_option linter.unusedVariables false
set_option linter.unusedSimpArgs false
namespace Gn
theorem plus_inf_l (b : Int) : plus 9223372036854775807 b = 9223372036854775807 := by unfold plus; rw [if_pos (.inl (by decide))]
theorem plus_inf_r (a : Int) : plus a 9223372036854775807 = 9223372036854775807 := by rw [plus_comm]; exact plus_inf_l a
theorem half_inf' : half 9223372036854775807 = 9223372036854775807 := by decide
theorem even_inf' : even 9223372036854775807 = 9223372036854775807 := by decide
theorem Shut.drop {n : Nat} {X : List Int} (h : Shut n X) (g : Nat → Bool) : Shut n (dropM (2 * n) g X) := by
  have e := @cl_dropM (2 * n) g X
  have hB := allB_of h.len h.ok
  have d : ∀ i, ac i / 2 = i / 2 := fun i => by unfold ac; split <;> omega
  have hle : ∀ a, a < 2 * n → ∀ b, b < 2 * n → cl (2 * n) X a b ≤ cl (2 * n) (dropM (2 * n) g X) a b := fun a ha b hb => by
    rw [e ha hb]
    have := cl_bd (m := 2 * n) hB a b
    unfold Bd at this
    split <;> omega
  refine ⟨dropM_len _ _ _, dropM_ok h.ok, fun a ha k hk b hb => ?_, fun a ha => ?_, fun a ha b hb hab => ?_⟩
  · have t := Int.le_trans (h.tri a ha k hk b hb) (plus_mono2 (hle a ha k hk) (hle k hk b hb))
    by_cases c : a ≠ b ∧ (g (a / 2) || g (b / 2)) = true
    · rw [e ha hb, if_pos c]
      rw [Bool.or_eq_true] at c
      rcases c with ⟨hab, hg | hg⟩
      · by_cases hak : a = k
        · subst hak
          rw [e ha hb, if_pos ⟨hab, by simp [hg]⟩, plus_inf_r]; exact Int.le_refl _
        · rw [e ha hk, if_pos ⟨hak, by simp [hg]⟩, plus_inf_l]; exact Int.le_refl _
      · by_cases hkb : k = b
        · subst hkb
          rw [e ha hk, if_pos ⟨hab, by simp [hg]⟩, plus_inf_l]; exact Int.le_refl _
        · rw [e hk hb, if_pos ⟨hkb, by simp [hg]⟩, plus_inf_r]; exact Int.le_refl _
    · rw [e ha hb, if_neg c]; exact t
  · rw [e ha (ac_lt ha)]
    split
    · exact even_inf'
    · exact h.ev a ha
  · have t := Int.le_trans (h.st a ha b hb hab) (half_mono (plus_mono2 (hle a ha (ac a) (ac_lt ha)) (hle (ac b) (ac_lt hb) b hb)))
    by_cases c : a ≠ b ∧ (g (a / 2) || g (b / 2)) = true
    · rw [e ha hb, if_pos c]
      rw [Bool.or_eq_true] at c
      rcases c with ⟨_, hg | hg⟩
      · rw [e ha (ac_lt ha), if_pos ⟨(ac_ne a).symm, by simp [hg]⟩, plus_inf_l, half_inf']; exact Int.le_refl _
      · rw [e (ac_lt hb) hb, if_pos ⟨ac_ne b, by simp [hg]⟩, plus_inf_r, half_inf']; exact Int.le_refl _
    · rw [e ha hb, if_neg c]; exact t
theorem dropM_twice (m : Nat) (g : Nat → Bool) (X : List Int) : dropM m g (dropM m g X) = dropM m g X :=
  mat_ext (dropM_len _ _ _) (dropM_len _ _ _) fun a ha b hb => by
    rw [cl_dropM ha hb, cl_dropM ha hb]
    split <;> rfl
theorem dropM_comm (m : Nat) (g h : Nat → Bool) (X : List Int) : dropM m h (dropM m g X) = dropM m g (dropM m h X) :=
  mat_ext (dropM_len _ _ _) (dropM_len _ _ _) fun a ha b hb => by
    rw [cl_dropM ha hb, cl_dropM ha hb, cl_dropM ha hb, cl_dropM ha hb]
    split <;> split <;> rfl
theorem dropO_twice (P : Int × Bool × List Int) (g : Nat → Bool) : dropO (dropO P g) g = dropO P g := by
  obtain ⟨N, E, M⟩ := P
  cases E
  · unfold dropO; simp only [Bool.false_eq_true, if_false]; rw [dropM_twice]
  · rfl
theorem dropO_comm (P : Int × Bool × List Int) (g h : Nat → Bool) : dropO (dropO P g) h = dropO (dropO P h) g := by
  obtain ⟨N, E, M⟩ := P
  cases E
  · unfold dropO; simp only [Bool.false_eq_true, if_false]; rw [dropM_comm]
  · rfl
theorem shutO_drop {n : Nat} {E : Bool} {M : List Int} (h : ShutO n E M) (g : Nat → Bool) : ShutO n (dropO (n, E, M) g).2.1 (dropO (n, E, M) g).2.2 := by
  rcases h with ⟨rfl, rfl⟩ | ⟨rfl, h⟩
  · exact .inl ⟨rfl, rfl⟩
  · unfold dropO
    simp only [Bool.false_eq_true, if_false]
    rw [show ((n : Int).toNat) = n by omega]
    exact .inr ⟨rfl, h.drop g⟩
/-- What is forgotten of what nothing saturates in, closed: itself. -/
theorem clo_forget {n : Nat} {E : Bool} {M : List Int} (hc : chk n E M = 0) (hs : (closeP n E M).1.2 = false) (g : Nat → Bool) : clo n (forgetP n E M g).2.1 (forgetP n E M g).2.2 = forgetP n E M g := by
  obtain ⟨m, hm, hn, _⟩ := chk_zero hc
  have h1 := clo_shut hc hs
  have h2 := (clo_chk hc).1
  have h3 := (forgetP_chk (g := g) hc).1
  unfold forgetP at h3 ⊢
  rcases hq : clo n E M with ⟨a, b, c⟩
  rw [hq] at h1 h2 h3
  dsimp only at h1 h2
  subst h2
  have h4 := shutO_clo (by omega) (shutO_drop h1 g)
  rw [h4]
  exact Prod.ext h3.symm rfl
theorem forget_twice {n : Nat} {E : Bool} {M : List Int} (hc : chk n E M = 0) (hs : (closeP n E M).1.2 = false) (g : Nat → Bool) : forgetP n (forgetP n E M g).2.1 (forgetP n E M g).2.2 g = forgetP n E M g := by
  show dropO (clo n (forgetP n E M g).2.1 (forgetP n E M g).2.2) g = _
  rw [clo_forget hc hs]
  exact dropO_twice _ _
theorem forget_comm {n : Nat} {E : Bool} {M : List Int} (hc : chk n E M = 0) (hs : (closeP n E M).1.2 = false) (g h : Nat → Bool) : forgetP n (forgetP n E M g).2.1 (forgetP n E M g).2.2 h = forgetP n (forgetP n E M h).2.1 (forgetP n E M h).2.2 g := by
  show dropO (clo n (forgetP n E M g).2.1 (forgetP n E M g).2.2) h = dropO (clo n (forgetP n E M h).2.1 (forgetP n E M h).2.2) g
  rw [clo_forget hc hs, clo_forget hc hs]
  exact dropO_comm _ _ _
/-- In range, Forget tells what is forgotten. -/
theorem forgetR_in {n : Nat} {E : Bool} {M : List Int} {v : Int} (hc : chk n E M = 0) (h0 : 0 ≤ v) (h1 : v < n) : forgetE n E M v = 0 ∧ forgetR n E M v = forgetP n E M (fun u => decide ((u : Int) = v)) := by
  have e : forgetE n E M v = 0 := by unfold forgetE; rw [if_neg (fun k => k hc), if_neg (by omega)]
  exact ⟨e, by unfold forgetR; rw [if_pos e]⟩
end Gn
open Gn
/-- One octagon laid into a slice. -/
theorem law_calm1 (a : OV) (X : World) (ha : OctIn X X.heap.size a.A a.c a.N a.M) (la : (a.M.length : Int) ≤ 17592186043904) (r : Bool) (hr : calmO a = r) :
    Calls Try.prog 23 #[.slice (some ⟨X.heap.size, 0, none⟩) 1 1] (X.alloc (.cells #[.int .i64 a.N, .bool a.E, .slice a.A a.M.length a.c] 24)) fun e w' => e = .returned (.bool r) ∧ Below X.heap.size X w' := by
  have h := fun (x : Obj) => (Below.refl X.heap.size X).alloc (Nat.le_refl _) x
  have ho : Octs (X.alloc (.cells #[.int .i64 a.N, .bool a.E, .slice a.A a.M.length a.c] 24)) (X.alloc (.cells #[.int .i64 a.N, .bool a.E, .slice a.A a.M.length a.c] 24)).heap.size X.heap.size 0 [a] := by
    refine ⟨by simp, fun i o ho => ?_, fun o ho => ?_⟩
    · match i, ho with
      | 0, ho => simp only [List.getElem?_cons_zero, Option.some.injEq] at ho; subst ho; simp [World.cell?_alloc_new]
      | i + 1, ho => simp at ho
    · simp only [List.mem_cons, List.not_mem_nil, or_false] at ho
      subst ho
      exact ⟨ha.go (h _), la⟩
  refine (law_calm X.heap.size 0 1 [a] _ ho (by simp) r (by unfold calmB; simp [hr])).mono fun e w' ⟨he, hb⟩ => ⟨he, (h _).trans (hb.mono (by simp))⟩
end Go.Proofs.Ytkgddgckilledaa

/- Walks: Size, the known values, and the statement CodePuts. -/
import Derived.Test.YtghpiofjejhegaaCodX
import Derived.Test.YtghpiofjejhegaaMem
import Derived.Lib.Hide
namespace Go.Proofs.Ytghpiofjejhegaa
open Go.RowKit
open Gn
theorem code_Size (n : Nat) (w : World) (hn : (n : Int) ≤ 18446744073709551615) :
    Calls Try.prog 15 #[.int .u64 n] w fun e w' => e = .returned (.int .i64 (put n).length) ∧ Below w.heap.size w w' := by
  have c := code_Put n w hn
  go_enter Try.func15, Try.ntmps15
  go_wp2_with (go_at_call 14; refine c.mono ?_; rintro e w1 ⟨A, c, rfl, _, hb⟩)
  go_ret
  exact ⟨rfl, hb⟩
/-- The literal []byte{0x80, 0}: a new block of two cells. -/
theorem code_known (w : World) : Calls Try.prog 11 #[] w fun e w' => e = .returned (.bool true) ∧ Below w.heap.size w w' := by
  have c2 := fun W => code_Put 300 W (by omega)
  have c3 := fun W => fold_any (-1) W (by unfold I64; omega)
  rw [show fold (-1) = 1 by decide] at c3
  go_enter Try.func11, Try.ntmps11
  go_wp2_with fail
  have c1 := code_Take (some ⟨w.heap.size, 0, none⟩) 2 [128, 0] (w.alloc (.cells #[.int .u8 128, .int .u8 0] /-T-/5)) (by intro x hx; simp at hx; omega) (fun _ => ⟨w.heap.size, 0, rfl, by simp, fun i hi => by
    match i, hi with
    | 0, _ => simp [World.cell?_alloc_new, nth]
    | 1, _ => simp [World.cell?_alloc_new, nth]⟩) (by simp)
  rw [show take [128, 0] = (0, 0, 181) by decide] at c1
  refine c1.mono ?_
  rintro e w' ⟨rfl, rfl⟩
  go_wp2_with fail
  refine (c2 _).mono ?_
  rintro e w1 ⟨A, c, rfl, hown, hb⟩
  have k := conv_rd (c := c) /-T-/23 /-T-/5 /-T-/9 Try.underlying23 Try.underlying5 Try.underlying9 hown.rd
  have e2 : (strOfNums (put 300)).toList = [172, 2] := by
    rw [ByteArray.toList_eq, strOfNums_data, show put 300 = [172, 2] by rw [put_big (by omega), put_small (by omega)]; rfl]; rfl
  generalize strOfNums (put 300) = s at *
  clear hown
  go_wp2_with (go_at_call 16; refine (c3 _).mono ?_; rintro e w' ⟨rfl, rfl⟩)
  go_ret
  exact ⟨rfl, ((Below.refl _ _).alloc (Nat.le_refl _) _).trans (hb.mono (by simp))⟩
end Go.Proofs.Ytghpiofjejhegaa

/- Walks: Size, the known values, and the statement CodePuts. -/
import Derived.Test.YthbjagibohgpaaaCodX
import Derived.Test.YthbjagibohgpaaaMemS
import Derived.Lib.Hide
namespace Go.Proofs.Ythbjagibohgpaaa
open Go.RowKit
open Gn
theorem code_Size (n : Nat) (w : World) (hn : (n : Int) ≤ 18446744073709551615) :
    Calls Try.prog 17 #[.int .u64 n] w fun e w' => e = .returned (.int .i64 (put n).length) ∧ Below w.heap.size w w' := by
  have c := code_Put n w hn
  go_enter Try.func17, Try.ntmps17
  go_wp2_with (go_at_call 15; refine c.mono ?_; rintro e w1 ⟨A, c, rfl, _, hb⟩)
  go_ret
  exact ⟨rfl, hb⟩
/-- The literal []byte{0x80, 0}: a new block of two cells. -/
theorem code_known (w : World) : Calls Try.prog 13 #[] w fun e w' => e = .returned (.bool true) ∧ Below w.heap.size w w' := by
  have c2 := fun W => code_Put 300 W (by omega)
  have c3 := fun W => fold_any (-1) W (by unfold I64; omega)
  rw [show fold (-1) = 1 by decide] at c3
  go_enter Try.func13, Try.ntmps13
  go_wp2_with fail
  have c1 := code_Take (some ⟨w.heap.size, 0, none⟩) 2 [128, 0] (w.alloc (.cells #[.int .u8 128, .int .u8 0] /-T-/5)) (by intro x hx; simp at hx; omega) (fun _ => ⟨w.heap.size, 0, rfl, by simp, fun i hi => by
    match i, hi with
    | 0, _ => simp [World.cell?_alloc_new, nth]
    | 1, _ => simp [World.cell?_alloc_new, nth]⟩) (by simp)
  rw [show take [128, 0] = (0, 0, 181) by decide] at c1
  refine c1.mono ?_
  rintro e w' ⟨rfl, rfl⟩
  go_wp2_with fail
  refine (c2 _).mono ?_
  rintro e w1 ⟨A, c, rfl, hown, hb⟩
  have k := conv_rd (c := c) /-T-/24 /-T-/5 /-T-/9 Try.underlying24 Try.underlying5 Try.underlying9 hown.rd
  have e2 : (strOfNums (put 300)).toList = [172, 2] := by
    rw [ByteArray.toList_eq, strOfNums_data, show put 300 = [172, 2] by rw [put_big (by omega), put_small (by omega)]; rfl]; rfl
  generalize strOfNums (put 300) = s at *
  clear hown
  go_wp2_with (go_at_call 18; refine (c3 _).mono ?_; rintro e w' ⟨rfl, rfl⟩)
  go_ret
  exact ⟨rfl, ((Below.refl _ _).alloc (Nat.le_refl _) _).trans (hb.mono (by simp))⟩
set_option maxHeartbeats 800000 in
theorem law_CodePuts (n : Nat) (m : Int) (w : World) (hn : (n : Int) ≤ 18446744073709551615) (hm : I64 m) :
    Calls Try.prog 3 #[.int .u64 n, .int .i64 m] w fun e w' => e = .returned (.bool true) ∧ Below w.heap.size w w' := by
  have hp := put_bts n
  have hl := put_len10 hn
  go_enter Try.func3, Try.ntmps3
  go_wp2_with fail
  refine (code_known w).mono ?_
  rintro e w1 ⟨rfl, hb1⟩
  go_wp2_with fail
  refine (ref_Put n w1 hn).mono ?_
  rintro e w2 ⟨A, c, rfl, ho2, hb2⟩
  go_wp2_with fail
  refine (code_Put n w2 hn).mono ?_
  rintro e w3 ⟨A', c', rfl, ho3, hb3⟩
  have ho2' := ho2.below hb3
  have hd : decide (put n = put n) = true := by simp
  have cB := help_Bytes A' A c' c (put n) (put n) w3 _ _ hp hp ho3.rd ho2'.rd
  rw [hd] at cB
  clear hd
  go_wp2_with fail
  refine cB.mono ?_
  clear cB
  rintro e w' ⟨rfl, rfl⟩
  go_wp2_with fail
  refine (code_Size n w3 hn).mono ?_
  rintro e w4 ⟨rfl, hb4⟩
  have ho4 := ho3.below hb4
  have ho2'' := ho2'.below hb4
  have c1 := fold_any m w4 hm
  have c2 := rfold_any m w4 hm
  have c3 := unfold_any n w4 (by omega) hn
  have c4 := runfold_any n w4 (by omega) hn
  go_wp2_with (first | (go_at_call 18; refine c1.mono ?_; rintro e w' ⟨rfl, rfl⟩) | (go_at_call 19; refine c2.mono ?_; rintro e w' ⟨rfl, rfl⟩) | (go_at_call 20; refine c3.mono ?_; rintro e w' ⟨rfl, rfl⟩) | (go_at_call 21; refine c4.mono ?_; rintro e w' ⟨rfl, rfl⟩))
  clear c1 c2 c3 c4
  have hr2 : Rd w4 w2.heap.size .u8 A (put n).length (nth (put n)) := (ho2.rd.below hb3).below (hb4.mono hb3.size)
  have hbig : w.heap.size ≤ w2.heap.size := Nat.le_trans hb1.size hb2.size
  have hB : Below w.heap.size w w4 := ((hb1.trans (hb2.mono hb1.size)).trans (hb3.mono hbig)).trans (hb4.mono (Nat.le_trans hbig hb3.size))
  have hz4 := Nat.le_trans hb3.size hb4.size
  clear ho2 ho2' ho2'' ho3 hb1 hb2 hb3 hb4
  go_loopw [7] (fun i wr => ∃ k : Nat, i = .int .i64 k ∧ k ≤ (put n).length ∧ ∃ xs : List Int, xs.length = (put n).length ∧ Ow wr w2.heap.size 5 .u8 A' c' xs ∧ Below w.heap.size w wr ∧ Rd wr w2.heap.size .u8 A (put n).length (nth (put n)) ∧ w2.heap.size ≤ wr.heap.size)
    (fun i _ => (put n).length - (intOf i).toNat)
  case atStart => exact ⟨0, rfl, Nat.zero_le _, put n, rfl, ho4, hB, hr2, hz4⟩
  case round =>
    obtain ⟨k, rfl, hk, xs, hxl, ho, hb, hr, h2⟩ := hrel
    clear hz4 hB hr2 ho4
    rcases Nat.lt_or_ge k (put n).length with hlt | hge
    · obtain ⟨g, hA, _⟩ : ∃ g, A' = some ⟨g, 0, none⟩ ∧ True := by
        rcases ho.form with ⟨_, _, h⟩ | ⟨g, h, _⟩
        · rw [h] at hxl; simp at hxl; omega
        · exact ⟨g, h, trivial⟩
      subst hA
      have hc := ho.cellAt (i := k) (by omega)
      have hf := ho.frozenAt k
      have hg := ho.blockGe
      have ho' := ho.set k 238
      have hr' := hr.setCell (p := ⟨g, k, none⟩) hg.1 (.int .u8 238)
      have hb' := hb.setCell (p := ⟨g, k, none⟩) (by simp; omega) (.int .u8 238)
      have HX := Lib.hid hxl
      clear hxl ho hr hb hg
      go_wp2_with fail
      go_roundw
      case rel => exact ⟨k + 1, by go_num, by omega, xs.set k 238, by rw [List.length_set]; exact HX.out, ho', hb', hr', by simpa using h2⟩
      case measure => simp [intOf]; omega
    · have cP := code_Put n wr hn
      clear hxl
      go_wp2_with fail
      refine cP.mono ?_
      rintro e w5 ⟨A5, c5, rfl, ho5, hb5⟩
      have hbw := hb.size
      have hr5 := hr.below (hb5.mono h2)
      have hd : decide (put n = put n) = true := by simp
      have cB := help_Bytes A5 A c5 c (put n) (put n) w5 _ _ hp hp ho5.rd hr5
      rw [hd] at cB
      clear hd
      go_wp2_with fail
      refine cB.mono ?_
      rintro e w' ⟨rfl, rfl⟩
      go_wp2_with fail
      go_ret
      exact ⟨rfl, hb.trans (hb5.mono hbw)⟩
end Go.Proofs.Ythbjagibohgpaaa

/- The walk of the statement CodeBack, by the contracts of the functions that it calls. -/
import Derived.Test.YtghpiofjejhegaaCodQ
import Derived.Test.YtghpiofjejhegaaQb
namespace Go.Proofs.Ytghpiofjejhegaa
open Go.RowKit
open Gn
set_option linter.unusedVariables false
set_option linter.unusedSimpArgs false
theorem unfold_I64 {n : Int} (h0 : 0 ≤ n) (h : n ≤ 18446744073709551615) : I64 (unfold' n) := by
  unfold unfold' I64; split <;> omega
theorem fold_rng {m : Int} (h : I64 m) : 0 ≤ fold m ∧ fold m ≤ 18446744073709551615 := by
  unfold I64 at h; unfold fold; split <;> omega
theorem putAll_len_succ (l : List Nat) (i : Nat) (h : i < l.length) : (putAll (l.take (i + 1))).length = (putAll (l.take i)).length + (put (l.getD i 0)).length := by
  rw [putAll_take_succ l i h, List.length_append]
theorem takeAll_rngN (n : Nat) : ∀ b : List Int, b.length ≤ n → Bts b → ∀ m ∈ (takeAll b).1, (m : Int) ≤ 18446744073709551615 := by
  induction n with
  | zero =>
    intro b h _ m hm
    obtain rfl : b = [] := List.eq_nil_of_length_eq_zero (by omega)
    simp [takeAll_nil] at hm
  | succ n ih =>
    intro b h hb m hm
    by_cases h0 : b = []
    · subst h0; simp [takeAll_nil] at hm
    · by_cases he : (take b).2.2 = 0
      · have hc := take_cnt hb he
        rw [takeAll_ok hb h0 he] at hm
        split at hm
        · rcases List.mem_cons.1 hm with rfl | hm
          · exact hc.2.2.2
          · exact ih (b.drop (take b).2.1) (by rw [List.length_drop]; omega) (fun x hx => hb x (List.mem_of_mem_drop hx)) m hm
        · simp at hm
      · rw [takeAll_err h0 he] at hm; simp at hm
theorem takeAll_rng (b : List Int) (hb : Bts b) : ∀ m ∈ (takeAll b).1, (m : Int) ≤ 18446744073709551615 := takeAll_rngN b.length b (Nat.le_refl _) hb
set_option maxRecDepth 100000 in
set_option maxHeartbeats 4000000 in
theorem law_CodeBack (A : Option Addr) (c : Nat) (l : List Nat) (A1 : Option Addr) (c1 : Nat) (more : List Int) (m : Int) (A3 : Option Addr) (c3 : Nat) (b : List Int) (w : World)
    (hl : ∀ n ∈ l, (n : Int) ≤ 18446744073709551615) (hr : Rd w w.heap.size .u64 A l.length (nth (nats l))) (hlen : (l.length : Int) ≤ 1048576)
    (hmb : Bts more) (hmr : Rd w w.heap.size .u8 A1 more.length (nth more)) (hml : (more.length : Int) ≤ 1048576)
    (hm : I64 m)
    (hb : Bts b) (hbr : Rd w w.heap.size .u8 A3 b.length (nth b)) (hbc : b.length ≤ c3) (hbm : c3 ≤ maxLen) (hbl : (b.length : Int) ≤ 1048576) :
    Calls Try.prog 3 #[.slice A l.length c, .slice A1 more.length c1, .int .i64 m, .slice A3 b.length c3] w fun e w' => e = .returned (.bool true) ∧ Below w.heap.size w w' := by
  have hE := Try.elU8
  go_enter Try.func3, Try.ntmps3
  go_wp2_with fail
  refine (code_known w).mono ?_
  rintro e w1 ⟨rfl, hb1⟩
  have hs1 := hb1.size
  have cP := code_PutAll A c l w1 hl ((hr.below hb1).more hs1) (by omega)
  go_wp2_with fail
  refine cP.mono ?_
  clear cP
  rintro e w2 ⟨Aa, ca, rfl, hoa, hb2⟩
  have hs2 := hb2.size
  have hB2 : Below w.heap.size w w2 := hb1.trans (hb2.mono hs1)
  have hL := putAll_len10 l hl
  clear hb1 hb2
  go_wp2_with fail
  go_loopw [10, 11] (fun n s wr => ∃ i : Nat, s = .int .i64 i ∧ i ≤ l.length ∧ n = .int .i64 (putAll (l.take i)).length ∧ Below w.heap.size w wr ∧ Below w2.heap.size w2 wr)
    (fun _ s _ => l.length - (intOf s).toNat)
  case atStart => exact ⟨0, rfl, by omega, rfl, hB2, Below.refl _ _⟩
  case round =>
    obtain ⟨i, rfl, hi, rfl, hB, hBa⟩ := hrel
    have hBs := hB.size
    rcases Nat.lt_or_ge i l.length with hlt | hge
    · have hrr := hr.below hB
      obtain ⟨g, off, rfl, hg, hcell⟩ := hrr (by omega)
      have hc1 := hcell i hlt
      rw [nth_nats] at hc1
      have hn := hl _ (getD_mem hlt)
      have hp10 := put_len10 hn
      have hs := putAll_len_succ l i hlt
      have hL2 := putAll_len10 (l.take i) (fun m hm => hl m (List.mem_of_mem_take hm))
      rw [List.length_take] at hL2
      have hL2 : (putAll (l.take i)).length ≤ 10 * l.length := by omega
      have hprev : 0 < i → wr.cell? ⟨g, off + (i - 1), none⟩ = some (.int .u64 ((l.getD (i - 1) 0 : Nat) : Int)) := fun h => by
        rw [← nth_nats]; exact hcell (i - 1) (by omega)
      have hp2 : 0 < i → ((l.getD (i - 1) 0 : Nat) : Int) ≤ 18446744073709551615 := fun h => hl _ (getD_mem (by omega))
      generalize l.getD i 0 = n at *
      generalize l.getD (i - 1) 0 = q at *
      have cP := code_Put n wr hn
      have hmr1 := hmr.below hB
      clear hcell hr hrr
      go_wp2_with fail
      refine cP.mono ?_
      clear cP
      rintro e w3 ⟨A4, c4, rfl, ho4, hb4⟩
      have hs4 := hb4.size
      have hsz : ((put n).length + more.length) * 1 ≤ 140737488355328 := by omega
      have hmr2 := hmr1.below (hb4.mono hBs)
      have hbs : wr.heap.size ≤ w3.heap.size := by omega
      go_wp2_with (at_builtin; refine wpList_appN hE w3 rfl _ _ rfl wr.heap.size .u8 A4 c4 _ rfl ho4 _ A1 c1 more rfl hmr2 hsz hbs ?_; intro A5 c5 w4 ho5 hb5)
      have hbts : Bts (put n ++ more) := fun x hx => by
        rcases List.mem_append.1 hx with h | h
        · exact put_bts n x h
        · exact hmb x h
      have cT := code_Take A5 c5 (put n ++ more) w4 hbts ho5.rd (by simp; omega)
      rw [take_put more hn, List.length_append] at cT
      have hs5 := hb5.size
      have hB5 : Below wr.heap.size wr w4 := (hb4.trans hb5)
      have hs45 := hB5.size
      clear hbts ho5 ho4 hb4 hb5 hmr1 hmr2
      go_wp2_with fail
      refine cT.mono ?_
      clear cT
      rintro e w' ⟨rfl, rfl⟩
      have hc4 := (hB5.cell (p := ⟨g, off + i, none⟩) (by simp; omega)).trans hc1
      have hprev4 : 0 < i → w4.cell? ⟨g, off + (i - 1), none⟩ = some (.int .u64 (q : Int)) := fun h => (hB5.cell (p := ⟨g, off + (i - 1), none⟩) (by simp; omega)).trans (hprev h)
      clear hc1 hprev
      have cU := fun W => unfold_any (n : Int) W (by omega) hn
      have cF := fun W => fold_any (unfold' (n : Int)) W (unfold_I64 (by omega) hn)
      have e0 : fold (unfold' (n : Int)) = n := fold_unfold (by omega)
      rw [e0] at cF
      clear e0
      generalize unfold' (n : Int) = un at *
      have hpp := put_pos n
      have HS := Lib.hid hs
      clear hs
      go_wp2_with fail
      have q1 : decide (((put n).length : Int) < 1) = false := decide_eq_false (by omega)
      have q2 : decide ((10 : Int) < ((put n).length : Int)) = false := decide_eq_false (by omega)
      have q3 : ((i : Int)) < (l.length : Int) := by omega
      have q4 : (0 : Int) ≤ i := by omega
      have a1 := After.cell hc4
      refine wp_region_after (by kernel_rfl) (by kernel_rfl) ?_
      repeat (go_big_quiet_step (first | (go_at_call 15; exact after_of (code_Size n _ hn)) | (go_at_call 17; exact after_same (cU _)) | (go_at_call 16; exact after_same (cF _))))
      refine wpQuiet_nil ?_
      intro w' hB6
      have hc5 := below_cell hB6 hc4
      clear a1
      have hBw5 : Below w.heap.size w w' := hB.trans ((hB5.trans (hB6.mono hs45)).mono hBs)
      have hBa5 : Below w2.heap.size w2 w' := hBa.trans ((hB5.trans (hB6.mono hs45)).mono hBa.size)
      have hp5 : 0 < i → w'.cell? ⟨g, off + (i - 1), none⟩ = some (.int .u64 (q : Int)) := fun h => (hB6.cell (p := ⟨g, off + (i - 1), none⟩) (by simp; omega)).trans (hprev4 h)
      clear cU cF q1 q2 hprev4 hc4 hB6 hB5 hB hBa
      have hgs5 : g < w'.heap.size := Nat.lt_of_lt_of_le hg hBw5.size
      rcases Nat.eq_zero_or_pos i with hi00 | hi0
      · clear hp5 hp2
        have q5 : decide ((0 : Int) < (i : Int)) = false := decide_eq_false (by omega)
        have q5' : decide (0 < i) = false := decide_eq_false (by omega)
        clear hi00
        go_wp2_with fail
        refine wp_region_after (by kernel_rfl) (by kernel_rfl) ?_
        repeat (go_big_quiet_step (fail))
        refine wpQuiet_nil ?_
        intro wx hBx
        have hBw6 := hBw5.trans (hBx.mono hBw5.size)
        have hBa6 := hBa5.trans (hBx.mono hBa5.size)
        go_wp2
        have hs := HS.out
        go_roundw
        case rel => exact ⟨i + 1, by go_num, by omega, by rw [hs]; go_num, hBw6, hBa6⟩
        case measure => simp [intOf]; omega
      · have hp5 := hp5 hi0
        have hp2 := hp2 hi0
        have q7 : ((i : Int) - 1) < (l.length : Int) := by omega
        have q8 : (0 : Int) ≤ (i : Int) - 1 := by omega
        have q9 : decide ((0 : Int) < (i : Int)) = true := decide_eq_true (by omega)
        have q9' : decide (0 < i) = true := decide_eq_true (by omega)
        have cQ := fun W => code_Size q W hp2
        have cN := fun W => code_Size n W hn
        by_cases hqn : q ≤ n
        · have hm := put_len_mono hqn
          have t1 : decide ((q : Int) ≤ (n : Int)) = true := decide_eq_true (by omega)
          have t1' : decide (q ≤ n) = true := decide_eq_true (by omega)
          have t2' : decide ((put n).length < (put q).length) = false := decide_eq_false (by omega)
          have t2 : decide (((put n).length : Int) < ((put q).length : Int)) = false := decide_eq_false (by omega)
          clear hqn hm
          go_wp2_with fail
          have a1 := After.cell hc5
          have a2 := After.cell hp5
          refine wp_region_after (by kernel_rfl) (by kernel_rfl) ?_
          repeat (go_big_quiet_step (first | (go_at_call 15; exact after_of (cN _)) | (go_at_call 15; exact after_of (cQ _))))
          refine wpQuiet_nil ?_
          intro wx hBx
          have hBw6 := hBw5.trans (hBx.mono hBw5.size)
          have hBa6 := hBa5.trans (hBx.mono hBa5.size)
          go_wp2
          have hs := HS.out
          go_roundw
          case rel => exact ⟨i + 1, by go_num, by omega, by rw [hs]; go_num, hBw6, hBa6⟩
          case measure => simp [intOf]; omega
        · have t1 : decide ((q : Int) ≤ (n : Int)) = false := decide_eq_false (by omega)
          have t1' : decide (q ≤ n) = false := decide_eq_false (by omega)
          clear hqn
          go_wp2_with fail
          have a1 := After.cell hc5
          have a2 := After.cell hp5
          refine wp_region_after (by kernel_rfl) (by kernel_rfl) ?_
          repeat (go_big_quiet_step (fail))
          refine wpQuiet_nil ?_
          intro wx hBx
          have hBw6 := hBw5.trans (hBx.mono hBw5.size)
          have hBa6 := hBa5.trans (hBx.mono hBa5.size)
          go_wp2
          have hs := HS.out
          go_roundw
          case rel => exact ⟨i + 1, by go_num, by omega, by rw [hs]; go_num, hBw6, hBa6⟩
          case measure => simp [intOf]; omega
    · obtain rfl : i = l.length := by omega
      rw [List.take_length]
      have hoa' := hoa.below hBa
      have hlr := hr.below hB
      have hbr' := hbr.below hB
      have cT := code_TakeAll Aa ca (putAll l) wr (putAll_bts l) hoa'.rd hoa'.cap hoa'.capMax (by omega)
      rw [takeAll_putAll l hl] at cT
      simp only [nats_len] at cT
      have HB := Lib.hid hB
      clear hB hBa hoa hoa' hr hmr
      go_wp2_with fail
      refine cT.mono ?_
      clear cT
      rintro e w3 ⟨A5, c5, rfl, ho5, hb5⟩
      have hs5 := hb5.size
      have HB3 := Lib.hid (HB.out.trans (hb5.mono hBs))
      have hlr3 := hlr.below (hb5.mono hBs)
      have hbr3 := hbr'.below (hb5.mono hBs)
      have hor := ho5.rd
      rw [nats_len] at hor
      have cF := fun W => fold_any m W hm
      have cU := fun W => unfold_any (fold m) W (fold_rng hm).1 (fold_rng hm).2
      rw [unfold_fold] at cU
      clear hb5 ho5 HB hlr hbr'
      generalize fold m = fm at *
      go_wp2_with (first | (go_at_call 16; with_reducible refine (cF _).mono ?_; rintro e w' ⟨rfl, rfl⟩) | (go_at_call 17; with_reducible refine (cU _).mono ?_; rintro e w' ⟨rfl, rfl⟩))
      go_loopw [17] (fun s wy => ∃ i : Nat, s = .int .i64 i ∧ i ≤ l.length ∧ Below w3.heap.size w3 wy) (fun s _ => l.length - (intOf s).toNat)
      case atStart => exact ⟨0, rfl, by omega, Below.refl _ _⟩
      case round =>
        obtain ⟨i, rfl, hi, hBy⟩ := hrel
        have hsy := hBy.size
        have hs3 := HB3.out.size
        rename_i wy _
        rcases Nat.lt_or_ge i l.length with hlt | hge
        · obtain ⟨g, off, rfl, hg, hcell⟩ := hlr3 (by omega)
          obtain ⟨g', off', rfl, hg', hcell'⟩ := hor (by omega)
          have k1 := (hBy.cell (p := ⟨g, off + i, none⟩) (by simp; omega)).trans (hcell i hlt)
          have k2 := (hBy.cell (p := ⟨g', off' + i, none⟩) (by simp; omega)).trans (hcell' i hlt)
          have q3 : ((i : Int)) < (l.length : Int) := by omega
          have q4 : (0 : Int) ≤ i := by omega
          clear hcell hcell'
          go_wp2_with fail
          go_quiet (fail)
          go_wp2_with fail
          go_roundw
          case rel => exact ⟨i + 1, by go_num, by omega, ⟨hBy.os, hBy.tape, hBy.output, hBy.size, hBy.block⟩⟩
          case measure => simp [intOf]; omega
        · obtain rfl : i = l.length := by omega
          have HBy := Lib.hid (HB3.out.trans (hBy.mono hs3))
          have hsz := HBy.out.size
          have hbr3 := hbr3.below (hBy.mono hs3)
          clear hlr3 hor hBy
          have cT := code_TakeAll A3 c3 b _ hb (hbr3.more hsz) hbc hbm (by omega)
          have tl := takeAll_len b.length b (Nat.le_refl _) hb
          have tE : (takeAll b).2 = 0 → putAll (takeAll b).1 = b := putAll_takeAll b.length b (Nat.le_refl _) hb
          have tR := takeAll_rng b hb
          go_wp2_with fail
          refine cT.mono ?_
          clear cT
          rintro e w4 ⟨A6, c6, rfl, ho6, hb6⟩
          have HB4 := Lib.hid (HBy.out.trans (hb6.mono hsz))
          have hbr4 := hbr3.below (hb6.mono hsz)
          have hs6 := hb6.size
          have ho6r := ho6.rd
          generalize (takeAll b).1 = bl at *
          generalize (takeAll b).2 = be at *
          rw [nats_len] at ho6r
          rw [nats_len]
          have hs4 := HB4.out.size
          clear ho6 hb6
          by_cases hbe : be = 0
          · subst hbe
            have tE := tE rfl
            have cP := code_PutAll A6 c6 bl w4 tR ho6r (by omega)
            rw [tE] at cP
            go_wp2_with fail
            refine cP.mono ?_
            clear cP
            rintro e w5 ⟨A7, c7, rfl, ho7, hb7⟩
            have cB := help_Bytes A7 A3 c7 c3 b b w5 _ _ hb hb ho7.rd (hbr4.below (hb7.mono hs4))
            rw [show decide (b = b) = true by simp] at cB
            go_wp2_with fail
            refine cB.mono ?_
            rintro e w' ⟨rfl, rfl⟩
            go_wp2
            go_ret
            exact ⟨rfl, HB4.out.trans (hb7.mono hs4)⟩
          · have hbe' : (be == 0) = false := beq_eq_false_iff_ne.2 hbe
            have hbe2 : (be != 0) = true := by rw [bne, hbe']; rfl
            clear hbe hbe'
            go_wp2_with fail
            go_ret
            exact ⟨rfl, HB4.out⟩
end Go.Proofs.Ytghpiofjejhegaa

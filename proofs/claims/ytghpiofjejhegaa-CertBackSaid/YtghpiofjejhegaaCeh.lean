/- The walk of gnomonref19.Check. -/
import Derived.Test.YtghpiofjejhegaaCeg
namespace Go.Proofs.Ytghpiofjejhegaa
open Go.RowKit
set_option linter.unusedVariables false
set_option linter.unusedSimpArgs false
open Gn
set_option maxRecDepth 100000 in
set_option maxHeartbeats 2000000 in
theorem ref_CertCheck (D N : Int) (A : Option Addr) (c : Nat) (os : List OC) (w : World) (h : OctsIn w A os) (hN : I64 N) (hcm : (os.length : Int) ≤ 9223372036854775807) :
    Calls Try.prog 25 #[.agg #[.int .u64 D, .int .i64 N, .slice A os.length c]] w fun e w' => e = .returned (.int .i64 (chkC N os)) ∧ Below w.heap.size w w' := by
  obtain ⟨W, hW, h1, hB, hs⟩ := cert_box w 40 D N (.slice A os.length c)
  have h2 := h.go hB
  have HB := Lib.hid hB
  have HH : Hid ((headOk N os.length → allGood N os os.length → chkC N os = 0) ∧ (¬ headOk N os.length → chkC N os = 190) ∧ (∀ i, i < os.length → ¬ goodO N (ocAt os i) → chkC N os = 190)) := Lib.hid ⟨chkC_ok, chkC_head, fun i hi h => chkC_oct hi h⟩
  obtain ⟨L, hL⟩ : ∃ L, L = os.length := ⟨_, rfl⟩
  rw [← hL] at h1 hW hcm HH ⊢
  have HL := Lib.hid hL
  clear hL h hs hB
  obtain ⟨r, hr⟩ : ∃ r, r = chkC N os := ⟨_, rfl⟩
  rw [← hr] at HH ⊢
  clear hr
  have hlt := h1.lt
  obtain ⟨k0, k1, k2⟩ := h1
  by_cases hn : 0 ≤ N ∧ N ≤ 64
  · have p0 : decide (N < 0) = false := decide_eq_false (by omega)
    have p1 : decide (64 < N) = false := decide_eq_false (by omega)
    by_cases hl1 : (L : Int) < 1
    · obtain rfl : L = 0 := by omega
      have HR := Lib.hid (HH.out.2.1 (fun x => by unfold headOk at x; omega))
      clear HH hl1 hn
      go_enter Try.func25, Try.ntmps25
      go_wp2_with fail
      rw [← hW]
      go_ret
      rw [HR.out]
      exact ⟨rfl, HB.out⟩
    · have q1 : decide ((L : Int) < 1) = false := decide_eq_false hl1
      by_cases hl2 : 4096 < (L : Int)
      · have q2 : decide (4096 < (L : Int)) = true := decide_eq_true hl2
        have HR := Lib.hid (HH.out.2.1 (fun x => by unfold headOk at x; omega))
        clear HH hn
        go_enter Try.func25, Try.ntmps25
        go_wp2_with fail
        rw [← hW]
        go_ret
        rw [HR.out]
        exact ⟨rfl, HB.out⟩
      · have q2 : decide (4096 < (L : Int)) = false := decide_eq_false hl2
        obtain ⟨b1, b2, b3⟩ := head_mul hn (show L ≤ 4096 by omega)
        have cF := fun W => ref_few N L W b1 b2 b3
        obtain ⟨hn0, hn1⟩ := hn
        clear b1 b2
        by_cases hm : 4 * N * N * (L : Int) ≤ 4194304
        · rw [decide_eq_true hm] at cF
          have HK := Lib.hid (show headOk N L by unfold headOk; omega)
          clear hl1 hl2 hm b3
          go_enter Try.func25, Try.ntmps25
          go_wp2_with fail
          rw [← hW]
          clear hW
          (with_reducible refine (cF _).mono ?_)
          rintro e w' ⟨rfl, rfl⟩
          clear cF
          go_wp2_with fail
          clear q1 q2 p0 p1
          go_loopw [3] (fun s wr => ∃ k : Nat, s = .int .i64 k ∧ k ≤ L ∧ Hid (allGood N os k) ∧ Below W.heap.size W wr) (fun s _ => L - (intOf s).toNat)
          case atStart => exact ⟨0, rfl, by omega, Lib.hid (fun i hi => absurd hi (by omega)), Below.refl _ _⟩
          case round =>
            obtain ⟨k, rfl, hk, HG, hBr⟩ := hrel
            rename_i wr _
            have m1 := below_cell hBr k1
            have m2 := below_cell hBr k2
            rcases Nat.lt_or_ge k L with hlk | hge
            · have q0 : decide (k < L) = true := decide_eq_true hlk
              have h3 := h2.go hBr
              obtain ⟨b, off, rfl, hlb, hcell⟩ := h3 (by rw [← HL.out]; omega)
              obtain ⟨Ai, ci, e0, e1, e2, hoct⟩ := hcell k (by rw [← HL.out]; omega)
              clear hcell h3
              have HS : Hid (∀ i, i < k → goodO N (ocAt os i)) := HG
              have HGK : Hid (goodO N (ocAt os k) ↔ (ocAt os k).n = N ∧ chk (ocAt os k).n (ocAt os k).e (ocAt os k).m = 0) := Lib.hid Iff.rfl
              have HBad : Hid (¬ goodO N (ocAt os k) → r = 190) := Lib.hid (HH.out.2.2 k hlk)
              have HGood : Hid (goodO N (ocAt os k) → allGood N os (k + 1)) := Lib.hid (fun g i hi => by
                rcases Nat.lt_or_ge i k with h | h
                · exact HS.out i h
                · obtain rfl : i = k := by omega
                  exact g)
              generalize goodO N (ocAt os k) = G at *
              obtain ⟨o, ho⟩ : ∃ o, o = ocAt os k := ⟨_, rfl⟩
              rw [← ho] at e0 e1 e2 hoct HGK
              clear ho
              obtain ⟨on, oe, om⟩ := o
              dsimp only at e0 e1 e2 hoct HGK
              clear HS h2
              have cC := fun x : After wr => ref_Check Ai ci on oe om x.w (hoct.go x.below)
              have a1 := After.cell m1
              have a2 := After.cell m2
              have a3 := After.cell e0
              have a4 := After.cell e1
              have a5 := After.cell e2
              have q3 : (0 : Int) ≤ (k : Int) := by omega
              have q4 : (k : Int) < (L : Int) := by omega
              have HBR := Lib.hid hBr
              clear hBr hoct
              by_cases he : on = N
              · have q5 : (on != N) = false := bne_eq_false_iff_eq.2 he
                by_cases hv : chk on oe om = 0
                · have HX := Lib.hid (HGood.out (HGK.out.2 ⟨he, hv⟩))
                  rw [hv] at cC
                  clear he hv
                  go_wp2_with fail
                  refine wp_region_after (by kernel_rfl) (by kernel_rfl) ?_
                  repeat (go_big_quiet_step ((go_at_call 48; with_reducible exact after_of (cC _))))
                  refine wpQuiet_nil ?_
                  intro w5 hb5
                  have HB5 := Lib.hid (HBR.out.trans (hb5.mono HBR.out.size))
                  clear hb5 cC a1 a2 a3 a4 a5
                  go_wp2_with fail
                  go_roundw
                  case rel => exact ⟨k + 1, by go_num, by omega, HX, HB5.out⟩
                  case measure => simp [intOf]; omega
                · have HX := Lib.hid (HBad.out (fun g => hv (HGK.out.1 g).2))
                  have q6 : (chk on oe om != 0) = true := bne_iff_ne.2 hv
                  clear he hv
                  generalize chk on oe om = cc at *
                  go_wp2_with fail
                  refine wp_region_after (by kernel_rfl) (by kernel_rfl) ?_
                  repeat (go_big_quiet_step ((go_at_call 48; with_reducible exact after_of (cC _))))
                  refine wpQuiet_nil ?_
                  intro w5 hb5
                  have HB5 := Lib.hid (HBR.out.trans (hb5.mono HBR.out.size))
                  clear hb5 cC a1 a2 a3 a4 a5
                  go_wp2_with fail
                  go_ret
                  rw [HX.out]
                  exact ⟨rfl, HB.out.trans (HB5.out.mono HB.out.size)⟩
              · have q5 : (on != N) = true := bne_iff_ne.2 he
                have HX := Lib.hid (HBad.out (fun g => he (HGK.out.1 g).1))
                clear he cC
                go_wp2_with fail
                refine wp_region_after (by kernel_rfl) (by kernel_rfl) ?_
                repeat (go_big_quiet_step (fail))
                refine wpQuiet_nil ?_
                intro w5 hb5
                have HB5 := Lib.hid (HBR.out.trans (hb5.mono HBR.out.size))
                clear hb5 a1 a2 a3 a4 a5
                go_wp2_with fail
                go_ret
                rw [HX.out]
                exact ⟨rfl, HB.out.trans (HB5.out.mono HB.out.size)⟩
            · obtain rfl : k = L := by omega
              have q0 : decide (k < k) = false := by simp
              have HR := Lib.hid (HH.out.1 HK.out HG.out)
              clear hge hk
              go_wp2_with fail
              go_ret
              rw [HR.out]
              exact ⟨rfl, HB.out.trans (hBr.mono HB.out.size)⟩
        · rw [decide_eq_false hm] at cF
          have HR := Lib.hid (HH.out.2.1 (fun x => by unfold headOk at x; omega))
          clear HH hl1 hl2 hm b3
          go_enter Try.func25, Try.ntmps25
          go_wp2_with fail
          rw [← hW]
          clear hW
          (with_reducible refine (cF _).mono ?_)
          rintro e w' ⟨rfl, rfl⟩
          clear cF
          go_wp2_with fail
          go_ret
          rw [HR.out]
          exact ⟨rfl, HB.out⟩
  · have HR := Lib.hid (HH.out.2.1 (fun x => hn x.1))
    clear HH
    by_cases h0 : N < 0
    · have p0 : decide (N < 0) = true := decide_eq_true h0
      clear hn
      go_enter Try.func25, Try.ntmps25
      go_wp2_with fail
      rw [← hW]
      go_ret
      rw [HR.out]
      exact ⟨rfl, HB.out⟩
    · have p0 : decide (N < 0) = false := decide_eq_false h0
      have p1 : decide (64 < N) = true := decide_eq_true (by omega)
      clear hn
      go_enter Try.func25, Try.ntmps25
      go_wp2_with fail
      rw [← hW]
      go_ret
      rw [HR.out]
      exact ⟨rfl, HB.out⟩
end Go.Proofs.Ytghpiofjejhegaa

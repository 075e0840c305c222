/- Certificates: octagons in a row of memory; gnomonlaw19.light and both Check's. -/
import Derived.Test.YtghpiofjejhegaaCef
import Derived.Test.YtghpiofjejhegaaQb
namespace Go.Proofs.Ytghpiofjejhegaa
open Go.RowKit
set_option linter.unusedVariables false
set_option linter.unusedSimpArgs false
open Gn
namespace Gn
/-- An octagon of a certificate. -/
structure OC where
  n : Int
  e : Bool
  m : List Int
def ocAt (os : List OC) (i : Nat) : OC := os.getD i ⟨0, false, []⟩
def goodO (N : Int) (o : OC) : Prop := o.n = N ∧ chk o.n o.e o.m = 0
instance (N : Int) (o : OC) : Decidable (goodO N o) := by unfold goodO; infer_instance
def headOk (N : Int) (L : Nat) : Prop := (0 ≤ N ∧ N ≤ 64) ∧ 1 ≤ L ∧ L ≤ 4096 ∧ 4 * N * N * (L : Int) ≤ 4194304
instance (N : Int) (L : Nat) : Decidable (headOk N L) := by unfold headOk; infer_instance
def allGood (N : Int) (os : List OC) (k : Nat) : Prop := ∀ i, i < k → goodO N (ocAt os i)
instance (N : Int) (os : List OC) (k : Nat) : Decidable (allGood N os k) := by unfold allGood; infer_instance
/-- What is wrong with a certificate. -/
def chkC (N : Int) (os : List OC) : Int := if headOk N os.length ∧ allGood N os os.length then 0 else 190
theorem chkC_ok {N : Int} {os : List OC} (h : headOk N os.length) (h' : allGood N os os.length) : chkC N os = 0 := by unfold chkC; rw [if_pos ⟨h, h'⟩]
theorem chkC_head {N : Int} {os : List OC} (h : ¬ headOk N os.length) : chkC N os = 190 := by unfold chkC; rw [if_neg (fun x => h x.1)]
theorem chkC_oct {N : Int} {os : List OC} {i : Nat} (hi : i < os.length) (h : ¬ goodO N (ocAt os i)) : chkC N os = 190 := by unfold chkC; rw [if_neg (fun x => h (x.2 i hi))]
theorem chkC_zero {N : Int} {os : List OC} (h : chkC N os = 0) : headOk N os.length ∧ allGood N os os.length := by
  unfold chkC at h
  split at h
  · assumption
  · omega
theorem head_mul {N : Int} {L : Nat} (h : 0 ≤ N ∧ N ≤ 64) (h2 : L ≤ 4096) : (0 ≤ 4 * N ∧ 4 * N ≤ 256) ∧ (0 ≤ 4 * N * N ∧ 4 * N * N ≤ 16384) ∧ (0 ≤ 4 * N * N * (L : Int) ∧ 4 * N * N * (L : Int) ≤ 67108864) := by
  obtain ⟨n, rfl⟩ := Int.eq_ofNat_of_zero_le h.1
  have a : 4 * n ≤ 256 := by omega
  have b : 4 * n * n ≤ 256 * 64 := Nat.mul_le_mul a (by omega)
  have c : 4 * n * n * L ≤ (256 * 64) * 4096 := Nat.mul_le_mul b h2
  have e1 : (4 : Int) * n = ((4 * n : Nat) : Int) := by push_cast; rfl
  have e2 : (4 : Int) * n * n = ((4 * n * n : Nat) : Int) := by push_cast; rfl
  have e3 : (4 : Int) * n * n * L = ((4 * n * n * L : Nat) : Int) := by push_cast; rfl
  rw [e3, e2]
  omega
end Gn
/-- Octagons in a row of memory. -/
def OctsIn (w : World) (A : Option Addr) (os : List OC) : Prop :=
  0 < os.length → ∃ b off, A = some ⟨b, off, none⟩ ∧ b < w.heap.size ∧ ∀ i, i < os.length → ∃ Ai ci,
    w.cell? ⟨b, off + i * 3, none⟩ = some (.int .i64 (ocAt os i).n) ∧ w.cell? ⟨b, off + i * 3 + 1, none⟩ = some (.bool (ocAt os i).e) ∧ w.cell? ⟨b, off + i * 3 + 2, none⟩ = some (.slice Ai (ocAt os i).m.length ci) ∧
    OctIn w w.heap.size Ai ci (ocAt os i).n (ocAt os i).m
theorem OctsIn.go {w w' : World} {A : Option Addr} {os : List OC} (h : OctsIn w A os) (hb : Below w.heap.size w w') : OctsIn w' A os := fun hn => by
  obtain ⟨b, off, e, hlt, hc⟩ := h hn
  refine ⟨b, off, e, Nat.lt_of_lt_of_le hlt hb.size, fun i hi => ?_⟩
  obtain ⟨Ai, ci, h0, h1, h2, ho⟩ := hc i hi
  exact ⟨Ai, ci, below_cell hb h0, below_cell hb h1, below_cell hb h2, ho.go hb⟩
/-- A certificate in a variable. -/
structure CertAt (w : World) (b : Nat) (D N : Int) (v : Value) : Prop where
  c0 : w.cell? ⟨b, 0, none⟩ = some (.int .u64 D)
  c1 : w.cell? ⟨b, 1, none⟩ = some (.int .i64 N)
  c2 : w.cell? ⟨b, 2, none⟩ = some v
theorem CertAt.lt {w : World} {b : Nat} {D N : Int} {v : Value} (h : CertAt w b D N v) : b < w.heap.size := World.block_lt_of_cell? w ⟨b, 0, none⟩ h.c0
theorem CertAt.go {w w' : World} {b : Nat} {D N : Int} {v : Value} (h : CertAt w b D N v) (hb : Below w.heap.size w w') : CertAt w' b D N v := ⟨below_cell hb h.c0, below_cell hb h.c1, below_cell hb h.c2⟩
theorem cert_box (w : World) (t : TypeId) (D N : Int) (v : Value) : ∃ W, W = w.alloc (.cells #[.int .u64 D, .int .i64 N, v] t) ∧ CertAt W w.heap.size D N v ∧ Below w.heap.size w W ∧ W.heap.size = w.heap.size + 1 :=
  ⟨_, rfl, ⟨by simp [World.cell?_alloc_new], by simp [World.cell?_alloc_new], by simp [World.cell?_alloc_new]⟩, (Below.refl _ _).alloc (Nat.le_refl _) _, by simp⟩
def SomeBool (w : World) (e : Ending) (w' : World) : Prop := ∃ b, e = .returned (.bool b) ∧ Below w.heap.size w w'
set_option maxHeartbeats 1000000 in
theorem law_light (D N : Int) (A : Option Addr) (c : Nat) (os : List OC) (w : World) (h : OctsIn w A os) (hc : os.length ≤ c) (hcm : c ≤ maxLen) (hz : ∀ i, i < os.length → ((ocAt os i).m.length : Int) ≤ 17592186043904) :
    Calls Try.prog 21 #[.agg #[.int .u64 D, .int .i64 N, .slice A os.length c]] w (SomeBool w) := by
  obtain ⟨W, hW, h1, hB, hs⟩ := cert_box w 40 D N (.slice A os.length c)
  have h2 := h.go hB
  obtain ⟨L, hL⟩ : ∃ L, L = os.length := ⟨_, rfl⟩
  rw [← hL] at h1 hW hc ⊢
  have HZ : Hid (∀ i, i < L → ((ocAt os i).m.length : Int) ≤ 17592186043904) := Lib.hid (by rw [hL]; exact hz)
  have HL := Lib.hid hL
  have hlm : (L : Int) ≤ 9223372036854775807 := by unfold maxLen at hcm; omega
  clear hz hL h hs
  obtain ⟨k0, k1, k2⟩ := h1
  go_enter Try.func21, Try.ntmps21
  go_wp2_with fail
  rw [← hW]
  clear hW
  go_loop [3, 4] (fun s3 s4 => ∃ k : Nat, s4 = .int .i64 k ∧ k ≤ L ∧ ∃ n : Int, s3 = .int .i64 n ∧ 0 ≤ n ∧ n ≤ 17592186143904) (fun _ s => L - (intOf s).toNat)
  case atStart => exact ⟨0, rfl, by omega, 0, rfl, by omega, by omega⟩
  case round =>
    obtain ⟨k, rfl, hk, n, rfl, hn0, hn1⟩ := hrel
    rcases Nat.lt_or_ge k L with hlt | hge
    · have q0 : decide (k < L) = true := decide_eq_true hlt
      by_cases hn : 100000 < n
      · have q1 : decide (100000 < n) = true := decide_eq_true hn
        go_wp2_with fail
        go_ret
        exact ⟨_, rfl, hB⟩
      · have q1 : decide (100000 < n) = false := decide_eq_false hn
        obtain ⟨b, off, rfl, hlb, hcell⟩ := h2 (by rw [← HL.out]; omega)
        obtain ⟨Ai, ci, e0, e1, e2, _⟩ := hcell k (by rw [← HL.out]; omega)
        have hml := HZ.out k hlt
        clear hcell
        generalize (ocAt os k).m.length = ml at *
        have q3 : (0 : Int) ≤ (k : Int) := by omega
        have q4 : (k : Int) < (L : Int) := by omega
        have q5 : n ≤ 100000 := by omega
        clear hn
        go_wp2_with fail
        go_round
        case rel => exact ⟨k + 1, by go_num, by omega, _, rfl, by omega, by omega⟩
        case measure => simp [intOf]; omega
    · obtain rfl : k = L := by omega
      have q0 : decide (k < k) = false := by simp
      by_cases hn : n ≤ 100000
      · have q1 : decide (n ≤ 100000) = true := decide_eq_true hn
        clear hge hk
        by_cases hk : (k : Int) ≤ 5000
        · have q2 : decide ((k : Int) ≤ 5000) = true := decide_eq_true hk
          go_wp2_with fail
          go_ret
          exact ⟨_, rfl, hB⟩
        · have q2 : decide ((k : Int) ≤ 5000) = false := decide_eq_false hk
          go_wp2_with fail
          go_ret
          exact ⟨_, rfl, hB⟩
      · have q1 : decide (n ≤ 100000) = false := decide_eq_false hn
        clear hge hk
        go_wp2_with fail
        go_ret
        exact ⟨_, rfl, hB⟩
set_option maxRecDepth 100000 in
set_option maxHeartbeats 2000000 in
theorem cert_Check (D N : Int) (A : Option Addr) (c : Nat) (os : List OC) (w : World) (h : OctsIn w A os) (hN : I64 N) (hcm : (os.length : Int) ≤ 9223372036854775807) :
    Calls Try.prog 24 #[.agg #[.int .u64 D, .int .i64 N, .slice A os.length c]] w fun e w' => e = .returned (.int .i64 (chkC N os)) ∧ Below w.heap.size w w' := by
  obtain ⟨W, hW, h1, hB, hs⟩ := cert_box w 40 D N (.slice A os.length c)
  have h2 := h.go hB
  have cR := cert_right N W
  have HB := Lib.hid hB
  have HH : Hid ((headOk N os.length → allGood N os os.length → chkC N os = 0) ∧ (¬ headOk N os.length → chkC N os = 190) ∧ (∀ i, i < os.length → ¬ goodO N (ocAt os i) → chkC N os = 190)) := Lib.hid ⟨chkC_ok, chkC_head, fun i hi h => chkC_oct hi h⟩
  obtain ⟨L, hL⟩ : ∃ L, L = os.length := ⟨_, rfl⟩
  rw [← hL] at h1 hW hcm HH ⊢
  have HL := Lib.hid hL
  clear hL h hs hB
  obtain ⟨r, hr⟩ : ∃ r, r = chkC N os := ⟨_, rfl⟩
  rw [← hr] at HH ⊢
  clear hr
  have hlt := h1.lt
  obtain ⟨k0, k1, k2⟩ := h1
  by_cases hn : 0 ≤ N ∧ N ≤ 64
  · rw [decide_eq_true hn] at cR
    by_cases hl1 : (L : Int) < 1
    · obtain rfl : L = 0 := by omega
      have HR := Lib.hid (HH.out.2.1 (fun x => by unfold headOk at x; omega))
      clear HH hl1
      go_enter Try.func24, Try.ntmps24
      go_wp2_with fail
      rw [← hW]
      clear hW
      (with_reducible refine cR.mono ?_)
      rintro e w' ⟨rfl, rfl⟩
      clear cR
      go_wp2_with fail
      go_ret
      rw [HR.out]
      exact ⟨rfl, HB.out⟩
    · have q1 : decide ((L : Int) < 1) = false := decide_eq_false hl1
      by_cases hl2 : 4096 < (L : Int)
      · have q2 : decide (4096 < (L : Int)) = true := decide_eq_true hl2
        have HR := Lib.hid (HH.out.2.1 (fun x => by unfold headOk at x; omega))
        clear HH hn
        go_enter Try.func24, Try.ntmps24
        go_wp2_with fail
        rw [← hW]
        clear hW
        (with_reducible refine cR.mono ?_)
        rintro e w' ⟨rfl, rfl⟩
        clear cR
        go_wp2_with fail
        go_ret
        rw [HR.out]
        exact ⟨rfl, HB.out⟩
      · have q2 : decide (4096 < (L : Int)) = false := decide_eq_false hl2
        obtain ⟨⟨b1, b2⟩, ⟨b3, b4⟩, b5, b6⟩ := head_mul hn (show L ≤ 4096 by omega)
        obtain ⟨hn0, hn1⟩ := hn
        by_cases hm : 4194304 < 4 * N * N * (L : Int)
        · have q3 : decide (4194304 < 4 * N * N * (L : Int)) = true := decide_eq_true hm
          have HR := Lib.hid (HH.out.2.1 (fun x => by unfold headOk at x; omega))
          clear HH hl1 hl2 hm
          go_enter Try.func24, Try.ntmps24
          go_wp2_with fail
          rw [← hW]
          clear hW
          (with_reducible refine cR.mono ?_)
          rintro e w' ⟨rfl, rfl⟩
          clear cR
          go_wp2_with fail
          go_ret
          rw [HR.out]
          exact ⟨rfl, HB.out⟩
        · have q3 : decide (4194304 < 4 * N * N * (L : Int)) = false := decide_eq_false hm
          have HK := Lib.hid (show headOk N L by unfold headOk; omega)
          clear hl1 hl2 hm
          go_enter Try.func24, Try.ntmps24
          go_wp2_with fail
          rw [← hW]
          clear hW
          (with_reducible refine cR.mono ?_)
          rintro e w' ⟨rfl, rfl⟩
          clear cR
          go_wp2_with fail
          clear b1 b2 b3 b4 b5 b6 q1 q2 q3
          go_loopw [37] (fun s wr => ∃ k : Nat, s = .int .i64 k ∧ k ≤ L ∧ Hid (allGood N os k) ∧ Below W.heap.size W wr) (fun s _ => L - (intOf s).toNat)
          case atStart => exact ⟨0, rfl, by omega, Lib.hid (fun i hi => absurd hi (by omega)), Below.refl _ _⟩
          case round =>
            obtain ⟨k, rfl, hk, HG, hBr⟩ := hrel
            rename_i wr _
            rcases Nat.lt_or_ge k L with hlk | hge
            · have q0 : decide (k < L) = true := decide_eq_true hlk
              have m1 := below_cell hBr k1
              have h3 := h2.go hBr
              obtain ⟨b, off, rfl, hlb, hcell⟩ := h3 (by rw [← HL.out]; omega)
              obtain ⟨Ai, ci, e0, e1, e2, hoct⟩ := hcell k (by rw [← HL.out]; omega)
              clear hcell h3
              have HS : Hid (∀ i, i < k → goodO N (ocAt os i)) := HG
              have HGK : Hid (goodO N (ocAt os k) ↔ (ocAt os k).n = N ∧ chk (ocAt os k).n (ocAt os k).e (ocAt os k).m = 0) := Lib.hid Iff.rfl
              have HBad : Hid (¬ goodO N (ocAt os k) → r = 190) := Lib.hid (HH.out.2.2 k hlk)
              have HGood : Hid (goodO N (ocAt os k) → allGood N os (k + 1)) := Lib.hid (fun g i hi => by
                rcases Nat.lt_or_ge i k with h | h
                · exact HS.out i h
                · obtain rfl : i = k := by omega
                  exact g)
              generalize goodO N (ocAt os k) = G at *
              obtain ⟨o, ho⟩ : ∃ o, o = ocAt os k := ⟨_, rfl⟩
              rw [← ho] at e0 e1 e2 hoct HGK
              clear ho
              obtain ⟨on, oe, om⟩ := o
              dsimp only at e0 e1 e2 hoct HGK
              clear HS
              obtain ⟨W3, hW3, hb3, hB3, hs3⟩ := one_box wr 55 on oe (.slice Ai om.length ci)
              have hoct3 := hoct.go hB3
              have cC := dbm_Check Ai ci on oe om W3 hoct3
              have n1 := below_cell hB3 m1
              obtain ⟨l0, l1, l2⟩ := id hb3
              have hbw : Below W.heap.size W W3 := hBr.trans (hB3.mono hBr.size)
              clear hs3 hoct hoct3 h2
              by_cases he : on = N
              · have q4 : (on != N) = false := bne_eq_false_iff_eq.2 he
                by_cases hv : chk on oe om = 0
                · have HX := Lib.hid (HGood.out (HGK.out.2 ⟨he, hv⟩))
                  rw [hv] at cC
                  have HBW := Lib.hid hbw
                  clear he hv hbw
                  rw [hW3] at l0 l1 l2 n1
                  go_wp2_with fail
                  rw [← hW3]
                  rw [← hW3] at l0 l1 l2 n1
                  clear hW3
                  (with_reducible refine cC.mono ?_)
                  rintro e w5 ⟨rfl, hb5⟩
                  have HB5 := Lib.hid (HBW.out.trans (hb5.mono HBW.out.size))
                  clear hb5 cC hB3 hBr
                  go_wp2_with fail
                  go_roundw
                  case rel => exact ⟨k + 1, by go_num, by omega, HX, HB5.out⟩
                  case measure => simp [intOf]; omega
                · have HX := Lib.hid (HBad.out (fun g => hv (HGK.out.1 g).2))
                  have q5 : (chk on oe om != 0) = true := bne_iff_ne.2 hv
                  have HBW := Lib.hid hbw
                  clear he hv hbw
                  generalize chk on oe om = cc at *
                  rw [hW3] at l0 l1 l2 n1
                  go_wp2_with fail
                  rw [← hW3]
                  rw [← hW3] at l0 l1 l2 n1
                  clear hW3
                  (with_reducible refine cC.mono ?_)
                  rintro e w5 ⟨rfl, hb5⟩
                  have HB5 := Lib.hid (HBW.out.trans (hb5.mono HBW.out.size))
                  clear hb5 cC hB3 hBr
                  go_wp2_with fail
                  go_ret
                  rw [HX.out]
                  exact ⟨rfl, HB.out.trans (HB5.out.mono HB.out.size)⟩
              · have q4 : (on != N) = true := bne_iff_ne.2 he
                have HX := Lib.hid (HBad.out (fun g => he (HGK.out.1 g).1))
                have HBW := Lib.hid hbw
                clear he hbw cC
                rw [hW3] at l0 l1 l2 n1
                go_wp2_with fail
                rw [← hW3]
                go_ret
                rw [HX.out]
                exact ⟨rfl, HB.out.trans (HBW.out.mono HB.out.size)⟩
            · obtain rfl : k = L := by omega
              have q0 : decide (k < k) = false := by simp
              have HR := Lib.hid (HH.out.1 HK.out HG.out)
              clear hge hk
              go_wp2_with fail
              go_ret
              rw [HR.out]
              exact ⟨rfl, HB.out.trans (hBr.mono HB.out.size)⟩
  · rw [decide_eq_false hn] at cR
    have HR := Lib.hid (HH.out.2.1 (fun x => hn x.1))
    clear HH hn
    go_enter Try.func24, Try.ntmps24
    go_wp2_with fail
    rw [← hW]
    clear hW
    (with_reducible refine cR.mono ?_)
    rintro e w' ⟨rfl, rfl⟩
    clear cR
    go_wp2_with fail
    go_ret
    rw [HR.out]
    exact ⟨rfl, HB.out⟩
end Go.Proofs.Ytghpiofjejhegaa

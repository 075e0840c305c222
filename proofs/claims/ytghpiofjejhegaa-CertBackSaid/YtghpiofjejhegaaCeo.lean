/- Certificates alike: the walks of slices.EqualFunc, cert.Equal, gnomonref19.Equal, CertPlaces. -/
import Derived.Test.YtghpiofjejhegaaCel
namespace Go.Proofs.Ytghpiofjejhegaa
open Go.RowKit
set_option linter.unusedVariables false
set_option linter.unusedSimpArgs false
open Gn
namespace Gn
def sameO (o o' : OC) : Prop := o.n = o'.n ∧ o.e = o'.e ∧ o.m = o'.m
instance (o o' : OC) : Decidable (sameO o o') := by unfold sameO; infer_instance
def sameL (os os' : List OC) : Prop := os.length = os'.length ∧ ∀ i, i < os.length → sameO (ocAt os i) (ocAt os' i)
instance (os os' : List OC) : Decidable (sameL os os') := by unfold sameL; infer_instance
/-- Are two certificates the same, and may they be? -/
def eqC (D N : Int) (os : List OC) (D' N' : Int) (os' : List OC) : Bool := decide (chkC N os = 0 ∧ chkC N' os' = 0 ∧ D = D' ∧ N = N' ∧ sameL os os')
theorem eqO_same {o o' : OC} (h : chk o.n o.e o.m = 0) (h' : chk o'.n o'.e o'.m = 0) : eqO o.n o'.n o.e o'.e o.m o'.m = decide (sameO o o') := by
  unfold eqO
  by_cases hs : sameO o o'
  · rw [decide_eq_true hs]; exact decide_eq_true ⟨h, h', hs⟩
  · rw [decide_eq_false hs]; exact decide_eq_false (fun x => hs x.2.2)
theorem eqC_a {D N D' N' : Int} {os os' : List OC} (h : chkC N os ≠ 0) : eqC D N os D' N' os' = false := decide_eq_false (fun x => h x.1)
theorem eqC_b {D N D' N' : Int} {os os' : List OC} (h : chkC N' os' ≠ 0) : eqC D N os D' N' os' = false := decide_eq_false (fun x => h x.2.1)
theorem eqC_d {D N D' N' : Int} {os os' : List OC} (h : D ≠ D') : eqC D N os D' N' os' = false := decide_eq_false (fun x => h x.2.2.1)
theorem eqC_n {D N D' N' : Int} {os os' : List OC} (h : N ≠ N') : eqC D N os D' N' os' = false := decide_eq_false (fun x => h x.2.2.2.1)
theorem eqC_o {D N : Int} {os os' : List OC} (h : chkC N os = 0) (h' : chkC N os' = 0) : eqC D N os D N os' = decide (sameL os os') := by
  unfold eqC
  by_cases hs : sameL os os'
  · rw [decide_eq_true hs]; exact decide_eq_true ⟨h, h', rfl, rfl, hs⟩
  · rw [decide_eq_false hs]; exact decide_eq_false (fun x => hs x.2.2.2.2)
theorem sameL_of {os os' : List OC} (hl : os.length = os'.length) (h : ∀ i, i < os.length → sameO (ocAt os i) (ocAt os' i)) : decide (sameL os os') = true := decide_eq_true ⟨hl, h⟩
theorem sameL_no {os os' : List OC} {i : Nat} (hi : i < os.length) (h : ¬ sameO (ocAt os i) (ocAt os' i)) : decide (sameL os os') = false := decide_eq_false (fun x => h (x.2 i hi))
theorem sameL_len {os os' : List OC} (hl : os.length ≠ os'.length) : decide (sameL os os') = false := decide_eq_false (fun x => hl x.1)
end Gn
theorem ret_b {b c : Bool} {w w' : World} (h : c = b) (hb : Below w.heap.size w w') : Ending.returned (.bool b) = .returned (.bool c) ∧ Below w.heap.size w w' := by rw [h]; exact ⟨rfl, hb⟩
set_option maxRecDepth 100000 in
set_option maxHeartbeats 1000000 in
theorem slices_EqualOcts (A A' : Option Addr) (c c' : Nat) (os os' : List OC) (N N' : Int) (w : World) (h : OctsIn w A os) (h' : OctsIn w A' os') (hg : allGood N os os.length) (hg' : allGood N' os' os'.length) (hm : (os.length : Int) ≤ 4096) (hm' : (os'.length : Int) ≤ 4096) :
    Calls Try.prog 54 #[.slice A os.length c, .slice A' os'.length c', .func (.func 55) #[] #[]] w fun e w' => e = .returned (.bool (decide (sameL os os'))) ∧ Below w.heap.size w w' := by
  by_cases hl : os.length = os'.length
  · have hl' : ((os.length : Int) != os'.length) = false := bne_eq_false_iff_eq.2 (by omega)
    have HG : Hid (∀ i, i < os.length → chk (ocAt os i).n (ocAt os i).e (ocAt os i).m = 0 ∧ chk (ocAt os' i).n (ocAt os' i).e (ocAt os' i).m = 0) := Lib.hid (fun i hi => ⟨(hg i hi).2, (hg' i (by omega)).2⟩)
    have HL := Lib.hid hl
    have HM : Hid ((∀ i, i < os.length → sameO (ocAt os i) (ocAt os' i)) → decide (sameL os os') = true) := Lib.hid (sameL_of hl)
    have HN : Hid (∀ i, i < os.length → ¬ sameO (ocAt os i) (ocAt os' i) → decide (sameL os os') = false) := Lib.hid (fun i hi h => sameL_no hi h)
    obtain ⟨r, hr⟩ : ∃ r, r = decide (sameL os os') := ⟨_, rfl⟩
    rw [← hr] at HM HN ⊢
    clear hl hg hg' hr
    go_enter Try.func54, Try.ntmps54
    go_wp2_with fail
    go_loopw [17] (fun s wr => ∃ i : Nat, s = .int .i64 i ∧ i ≤ os.length ∧ Hid (∀ k, k < i → sameO (ocAt os k) (ocAt os' k)) ∧ Below w.heap.size w wr) (fun s _ => os.length - (intOf s).toNat)
    case atStart => exact ⟨0, rfl, by omega, Lib.hid (fun k hk => absurd hk (by omega)), Below.refl _ _⟩
    case round =>
      obtain ⟨i, rfl, hi, HK, hB⟩ := hrel
      rename_i wr _
      rcases Nat.lt_or_ge i os.length with hlt | hge
      · have q0 : decide (i < os.length) = true := decide_eq_true hlt
        have q1 : (i : Int) < (os.length : Int) := by omega
        have q2 : (i : Int) < (os'.length : Int) := by have := HL.out; omega
        have q3 : (0 : Int) ≤ (i : Int) := by omega
        obtain ⟨b, off, rfl, hlb, hcell⟩ := (h.go hB) (by omega)
        obtain ⟨Ai, ci, e0, e1, e2, hoct⟩ := hcell i hlt
        obtain ⟨b', off', rfl, hlb', hcell'⟩ := (h'.go hB) (by rw [← HL.out]; omega)
        obtain ⟨Ai', ci', e0', e1', e2', hoct'⟩ := hcell' i (by rw [← HL.out]; omega)
        clear hcell hcell' h h'
        obtain ⟨g1, g2⟩ := HG.out i hlt
        have HE := Lib.hid (eqO_same g1 g2)
        have HN2 := Lib.hid (HN.out i hlt)
        obtain ⟨o, ho⟩ : ∃ o, o = ocAt os i := ⟨_, rfl⟩
        obtain ⟨o', ho'⟩ : ∃ o', o' = ocAt os' i := ⟨_, rfl⟩
        have HS : Hid (sameO o o' → ∀ k, k < i + 1 → sameO (ocAt os k) (ocAt os' k)) := Lib.hid (fun s k hk => by
          rcases Nat.lt_or_ge k i with h1 | h1
          · exact HK.out k h1
          · obtain rfl : k = i := by omega
            rw [← ho, ← ho']; exact s)
        rw [← ho] at e0 e1 e2 hoct HE HN2
        rw [← ho'] at e0' e1' e2' hoct' HE HN2
        clear ho ho' g1 g2
        obtain ⟨W3, hW3, hb3, hb4, hB3, hs3⟩ := two_boxes wr 55 o.n o'.n o.e o'.e (.slice Ai o.m.length ci) (.slice Ai' o'.m.length ci')
        have cD := dbm_Equal o.n o'.n o.e o'.e Ai Ai' ci ci' o.m o'.m W3 (hoct.go hB3) (hoct'.go hB3)
        rw [HE.out] at cD
        obtain ⟨l0, l1, l2⟩ := id hb3
        obtain ⟨j0, j1, j2⟩ := id hb4
        have HB3 := Lib.hid (hB.trans (hB3.mono hB.size))
        clear hb3 hb4 hB3 hs3 hB hoct hoct'
        rw [hW3] at l0 l1 l2 j0 j1 j2
        by_cases hso : sameO o o'
        · rw [decide_eq_true hso] at cD
          have HX := Lib.hid (HS.out hso)
          clear hso HE HN2
          go_wp2_with fail
          rw [← hW3]
          rw [← hW3] at l0 l1 l2 j0 j1 j2
          clear hW3
          (with_reducible refine cD.mono ?_)
          clear cD
          rintro e w5 ⟨rfl, hb5⟩
          have HB5 := Lib.hid (HB3.out.trans (hb5.mono HB3.out.size))
          clear hb5 l0 l1 l2 j0 j1 j2
          go_wp2_with fail
          go_roundw
          case rel => exact ⟨i + 1, by go_num, by omega, HX, HB5.out⟩
          case measure => simp [intOf]; omega
        · rw [decide_eq_false hso] at cD
          have HX := Lib.hid (HN2.out hso)
          clear hso HE HN2
          go_wp2_with fail
          rw [← hW3]
          rw [← hW3] at l0 l1 l2 j0 j1 j2
          clear hW3
          (with_reducible refine cD.mono ?_)
          clear cD
          rintro e w5 ⟨rfl, hb5⟩
          have HB5 := Lib.hid (HB3.out.trans (hb5.mono HB3.out.size))
          clear hb5 l0 l1 l2 j0 j1 j2
          go_wp2_with fail
          go_ret
          exact ret_b HX.out HB5.out
      · obtain rfl : i = os.length := by omega
        have q0 : decide (os.length < os.length) = false := by simp
        have HX := Lib.hid (HM.out HK.out)
        have HB := Lib.hid hB
        clear hB hge hi
        go_wp2_with fail
        go_ret
        exact ret_b HX.out HB.out
  · have hl' : ((os.length : Int) != os'.length) = true := bne_iff_ne.2 (by omega)
    have HX := Lib.hid (sameL_len hl)
    clear hl
    go_enter Try.func54, Try.ntmps54
    go_wp2_with fail
    go_ret
    exact ret_b HX.out (Below.refl _ _)
/-- Two certificates in variables. -/
structure Cert2 (w W : World) (D N : Int) (v : Value) (D' N' : Int) (v' : Value) : Prop where
  a : CertAt W w.heap.size D N v
  b : CertAt W (w.heap.size + 1) D' N' v'
  below : Below w.heap.size w W
theorem Cert2.go {w W W' : World} {D N D' N' : Int} {v v' : Value} (h : Cert2 w W D N v D' N' v') (hb : Below W.heap.size W W') : Cert2 w W' D N v D' N' v' := ⟨h.a.go hb, h.b.go hb, h.below.trans (hb.mono h.below.size)⟩
theorem cert2 (w : World) (t : TypeId) (D N D' N' : Int) (v v' : Value) : ∃ W, W = (w.alloc (.cells #[.int .u64 D, .int .i64 N, v] t)).alloc (.cells #[.int .u64 D', .int .i64 N', v'] t) ∧ Cert2 w W D N v D' N' v' := by
  obtain ⟨W1, h1, c1, b1, s1⟩ := cert_box w t D N v
  obtain ⟨W2, h2, c2, b2, s2⟩ := cert_box W1 t D' N' v'
  refine ⟨W2, by rw [h2, h1], c1.go b2, ?_, b1.trans (b2.mono b1.size)⟩
  rw [s1] at c2; exact c2
set_option maxRecDepth 100000 in
set_option maxHeartbeats 2000000 in
theorem cert_Equal (D N : Int) (A : Option Addr) (c : Nat) (os : List OC) (D' N' : Int) (A' : Option Addr) (c' : Nat) (os' : List OC) (w : World) (h : OctsIn w A os) (h' : OctsIn w A' os') (hN : I64 N) (hN' : I64 N') (hcm : (os.length : Int) ≤ 9223372036854775807) (hcm' : (os'.length : Int) ≤ 9223372036854775807) :
    Calls Try.prog 33 #[.agg #[.int .u64 D, .int .i64 N, .slice A os.length c], .agg #[.int .u64 D', .int .i64 N', .slice A' os'.length c']] w fun e w' => e = .returned (.bool (eqC D N os D' N' os')) ∧ Below w.heap.size w w' := by
  obtain ⟨W, hW, h2⟩ := cert2 w 40 D N D' N' (.slice A os.length c) (.slice A' os'.length c')
  have o1 := h.go h2.below
  have o2 := h'.go h2.below
  have cA := cert_Check D N A c os W o1 hN hcm
  have cB := fun W h => cert_Check D' N' A' c' os' W h hN' hcm'
  have HE1 := Lib.hid (fun x => eqC_a (D := D) (N := N) (os := os) (D' := D') (N' := N') (os' := os') x)
  have HE2 := Lib.hid (fun x => eqC_b (D := D) (D' := D') (N := N) (os := os) (N' := N') (os' := os') x)
  have HOK : Hid (chkC N os = 0 → (os.length : Int) ≤ 4096 ∧ allGood N os os.length) := Lib.hid (fun x => ⟨by have := (chkC_zero x).1.2.2.1; omega, (chkC_zero x).2⟩)
  have HOK' : Hid (chkC N' os' = 0 → (os'.length : Int) ≤ 4096 ∧ allGood N' os' os'.length) := Lib.hid (fun x => ⟨by have := (chkC_zero x).1.2.2.1; omega, (chkC_zero x).2⟩)
  obtain ⟨⟨k0, k1, k2⟩, ⟨l0, l1, l2⟩, hB⟩ := id h2
  clear h h' hB
  go_enter Try.func33, Try.ntmps33
  rw [hW] at k0 k1 k2 l0 l1 l2
  go_wp2_with fail
  rw [← hW]
  rw [← hW] at k0 k1 k2 l0 l1 l2
  clear hW
  (with_reducible refine cA.mono ?_)
  clear cA k0 k1 k2 l0 l1 l2
  rintro e w3 ⟨rfl, hb3⟩
  have h3 := h2.go hb3
  have o3 := o1.go hb3
  have o4 := o2.go hb3
  clear hb3 h2 o1 o2
  obtain ⟨⟨k0, k1, k2⟩, ⟨l0, l1, l2⟩, hB⟩ := id h3
  by_cases ha : chkC N os = 0
  · have HA := Lib.hid ha
    rw [ha]
    clear ha
    go_wp2_with fail
    (with_reducible refine (cB _ o4).mono ?_)
    clear cB k0 k1 k2 l0 l1 l2 hB
    rintro e w5 ⟨rfl, hb5⟩
    have h5 := h3.go hb5
    have o5 := o3.go hb5
    have o6 := o4.go hb5
    clear hb5 h3 o3 o4
    obtain ⟨⟨k0, k1, k2⟩, ⟨l0, l1, l2⟩, hB⟩ := id h5
    by_cases hb : chkC N' os' = 0
    · have HBB := Lib.hid hb
      rw [hb]
      clear hb
      by_cases hd : D = D'
      · subst hd
        have q1 : (D == D) = true := beq_iff_eq.2 rfl
        by_cases hn : N = N'
        · subst hn
          have q2 : (N == N) = true := beq_iff_eq.2 rfl
          have HX := Lib.hid (eqC_o (D := D) HA.out HBB.out)
          have ho1 := HOK.out HA.out
          have ho2 := HOK'.out HBB.out
          have cF := slices_EqualOcts A A' c c' os os' N N w5 o5 o6 ho1.2 ho2.2 ho1.1 ho2.1
          generalize decide (sameL os os') = r at *
          clear ho1 ho2 o5 o6
          go_wp2_with fail
          (with_reducible refine cF.mono ?_)
          clear cF
          rintro e w7 ⟨rfl, hb7⟩
          go_wp2_with fail
          go_ret
          exact ret_b HX.out (hB.trans (hb7.mono hB.size))
        · have q2 : (N == N') = false := beq_eq_false_iff_ne.2 hn
          have HX := Lib.hid (eqC_n (D := D) (D' := D) (os := os) (os' := os') hn)
          clear hn
          go_wp2_with fail
          go_ret
          exact ret_b HX.out hB
      · have q1 : (D == D') = false := beq_eq_false_iff_ne.2 hd
        have HX := Lib.hid (eqC_d (N := N) (N' := N') (os := os) (os' := os') hd)
        clear hd
        go_wp2_with fail
        go_ret
        exact ret_b HX.out hB
    · have HX := Lib.hid (HE2.out hb)
      have q4 : (chkC N' os' == 0) = false := beq_eq_false_iff_ne.2 hb
      clear hb
      generalize chkC N' os' = cb at *
      go_wp2_with fail
      go_ret
      exact ret_b HX.out hB
  · have HX := Lib.hid (HE1.out ha)
    have q4 : (chkC N os == 0) = false := beq_eq_false_iff_ne.2 ha
    clear ha cB
    generalize chkC N os = ca at *
    go_wp2_with fail
    go_ret
    exact ret_b HX.out hB
set_option maxRecDepth 100000 in
set_option maxHeartbeats 2000000 in
theorem ref_CertEqual (D N : Int) (A : Option Addr) (c : Nat) (os : List OC) (D' N' : Int) (A' : Option Addr) (c' : Nat) (os' : List OC) (w : World) (h : OctsIn w A os) (h' : OctsIn w A' os') (hN : I64 N) (hN' : I64 N') (hcm : (os.length : Int) ≤ 9223372036854775807) (hcm' : (os'.length : Int) ≤ 9223372036854775807) :
    Calls Try.prog 34 #[.agg #[.int .u64 D, .int .i64 N, .slice A os.length c], .agg #[.int .u64 D', .int .i64 N', .slice A' os'.length c']] w fun e w' => e = .returned (.bool (eqC D N os D' N' os')) ∧ Below w.heap.size w w' := by
  obtain ⟨W, hW, h2⟩ := cert2 w 40 D N D' N' (.slice A os.length c) (.slice A' os'.length c')
  have o1 := h.go h2.below
  have o2 := h'.go h2.below
  have cA := ref_CertCheck D N A c os W o1 hN hcm
  have cB := fun W h => ref_CertCheck D' N' A' c' os' W h hN' hcm'
  have HE1 := Lib.hid (fun x => eqC_a (D := D) (N := N) (os := os) (D' := D') (N' := N') (os' := os') x)
  have HE2 := Lib.hid (fun x => eqC_b (D := D) (D' := D') (N := N) (os := os) (N' := N') (os' := os') x)
  have HOK : Hid (chkC N os = 0 → (os.length : Int) ≤ 4096 ∧ allGood N os os.length) := Lib.hid (fun x => ⟨by have := (chkC_zero x).1.2.2.1; omega, (chkC_zero x).2⟩)
  have HOK' : Hid (chkC N' os' = 0 → (os'.length : Int) ≤ 4096 ∧ allGood N' os' os'.length) := Lib.hid (fun x => ⟨by have := (chkC_zero x).1.2.2.1; omega, (chkC_zero x).2⟩)
  obtain ⟨⟨k0, k1, k2⟩, ⟨l0, l1, l2⟩, hB⟩ := id h2
  clear h h' hB
  go_enter Try.func34, Try.ntmps34
  rw [hW] at k0 k1 k2 l0 l1 l2
  go_wp2_with fail
  rw [← hW]
  rw [← hW] at k0 k1 k2 l0 l1 l2
  clear hW
  (with_reducible refine cA.mono ?_)
  clear cA k0 k1 k2 l0 l1 l2
  rintro e w3 ⟨rfl, hb3⟩
  have h3 := h2.go hb3
  have o3 := o1.go hb3
  have o4 := o2.go hb3
  clear hb3 h2 o1 o2
  obtain ⟨⟨k0, k1, k2⟩, ⟨l0, l1, l2⟩, hB⟩ := id h3
  by_cases ha : chkC N os = 0
  · have HA := Lib.hid ha
    rw [ha]
    clear ha
    go_wp2_with fail
    (with_reducible refine (cB _ o4).mono ?_)
    clear cB k0 k1 k2 l0 l1 l2 hB
    rintro e w5 ⟨rfl, hb5⟩
    have h5 := h3.go hb5
    have o5 := o3.go hb5
    have o6 := o4.go hb5
    clear hb5 h3 o3 o4
    obtain ⟨⟨k0, k1, k2⟩, ⟨l0, l1, l2⟩, hB⟩ := id h5
    by_cases hb : chkC N' os' = 0
    · have HBB := Lib.hid hb
      rw [hb]
      clear hb
      by_cases hd : D = D'
      · subst hd
        have q1 : (D != D) = false := bne_eq_false_iff_eq.2 rfl
        by_cases hn : N = N'
        · subst hn
          have q2 : (N != N) = false := bne_eq_false_iff_eq.2 rfl
          have HX := Lib.hid (eqC_o (D := D) HA.out HBB.out)
          have ho1 := HOK.out HA.out
          have ho2 := HOK'.out HBB.out
          obtain ⟨ho1, ho3⟩ := ho1
          obtain ⟨ho2, ho4⟩ := ho2
          have HG : Hid (∀ i, i < os.length → chk (ocAt os i).n (ocAt os i).e (ocAt os i).m = 0) := Lib.hid (fun i hi => (ho3 i hi).2)
          clear ho3 ho4
          by_cases hl : os.length = os'.length
          · have q3 : ((os.length : Int) != os'.length) = false := bne_eq_false_iff_eq.2 (by omega)
            have HL := Lib.hid hl
            have HM : Hid ((∀ i, i < os.length → sameO (ocAt os i) (ocAt os' i)) → decide (sameL os os') = true) := Lib.hid (sameL_of hl)
            have HN : Hid (∀ i, i < os.length → ¬ sameO (ocAt os i) (ocAt os' i) → decide (sameL os os') = false) := Lib.hid (fun i hi h => sameL_no hi h)
            obtain ⟨r, hr⟩ : ∃ r, r = decide (sameL os os') := ⟨_, rfl⟩
            rw [← hr] at HM HN HX
            clear hl hr
            go_wp2_with fail
            clear k0 k1 k2 l0 l1 l2
            go_loopw [5] (fun s wr => ∃ i : Nat, s = .int .i64 i ∧ i ≤ os.length ∧ Hid (∀ k, k < i → sameO (ocAt os k) (ocAt os' k)) ∧ Below w5.heap.size w5 wr) (fun s _ => os.length - (intOf s).toNat)
            case atStart => exact ⟨0, rfl, by omega, Lib.hid (fun k hk => absurd hk (by omega)), Below.refl _ _⟩
            case round =>
              obtain ⟨i, rfl, hi, HK, hBr⟩ := hrel
              rename_i wr _
              have hr5 := h5.go hBr
              obtain ⟨⟨k0, k1, k2⟩, ⟨l0, l1, l2⟩, hBw⟩ := id hr5
              rcases Nat.lt_or_ge i os.length with hlt | hge
              · have q0 : decide (i < os.length) = true := decide_eq_true hlt
                have q5 : (i : Int) < (os.length : Int) := by omega
                have q6 : (i : Int) < (os'.length : Int) := by have := HL.out; omega
                have q7 : (0 : Int) ≤ (i : Int) := by omega
                obtain ⟨b, off, rfl, hlb, hcell⟩ := (o5.go hBr) (by omega)
                obtain ⟨Ai, ci, e0, e1, e2, hoct⟩ := hcell i hlt
                obtain ⟨b', off', rfl, hlb', hcell'⟩ := (o6.go hBr) (by rw [← HL.out]; omega)
                obtain ⟨Ai', ci', e0', e1', e2', hoct'⟩ := hcell' i (by rw [← HL.out]; omega)
                clear hcell hcell' o5 o6
                have HN2 := Lib.hid (HN.out i hlt)
                obtain ⟨o, ho⟩ : ∃ o, o = ocAt os i := ⟨_, rfl⟩
                obtain ⟨o', ho'⟩ : ∃ o', o' = ocAt os' i := ⟨_, rfl⟩
                have HS : Hid (sameO o o' → ∀ k, k < i + 1 → sameO (ocAt os k) (ocAt os' k)) := Lib.hid (fun s k hk => by
                  rcases Nat.lt_or_ge k i with h1 | h1
                  · exact HK.out k h1
                  · obtain rfl : k = i := by omega
                    rw [← ho, ← ho']; exact s)
                rw [← ho] at e0 e1 e2 hoct HN2
                rw [← ho'] at e0' e1' e2' hoct' HN2
                clear ho ho'
                have cS : ∀ x : After wr, Calls Try.prog 56 #[.agg #[.int .i64 o.n, .bool o.e, .slice Ai o.m.length ci], .agg #[.int .i64 o'.n, .bool o'.e, .slice Ai' o'.m.length ci']] x.w fun e w' => e = .returned (.bool (decide (sameO o o'))) ∧ Below x.w.heap.size x.w w' := fun x => by
                  have := ref_Same o.n o'.n o.e o'.e Ai Ai' ci ci' o.m o'.m x.w (hoct.go x.below).rd (hoct'.go x.below).rd hoct.len hoct'.len
                  rw [show decide (o.n = o'.n ∧ o.e = o'.e ∧ o.m = o'.m) = decide (sameO o o') by
                    by_cases hs : sameO o o'
                    · rw [decide_eq_true hs]; exact decide_eq_true hs
                    · rw [decide_eq_false hs]; exact decide_eq_false hs] at this
                  exact this
                have a2 := After.cell k2
                have a3 := After.cell l2
                have a4 := After.cell e0
                have a5 := After.cell e1
                have a6 := After.cell e2
                have a7 := After.cell e0'
                have a8 := After.cell e1'
                have a9 := After.cell e2'
                have HBR := Lib.hid hBr
                clear hBr hoct hoct' hBw k0 k1 l0 l1 e0 e1 e2 e0' e1' e2'
                by_cases hso : sameO o o'
                · rw [decide_eq_true hso] at cS
                  have HX2 := Lib.hid (HS.out hso)
                  clear hso HN2
                  go_wp2_with fail
                  refine wp_region_after (by kernel_rfl) (by kernel_rfl) ?_
                  repeat (go_big_quiet_step ((go_at_call 56; with_reducible exact after_of (cS _))))
                  refine wpQuiet_nil ?_
                  intro w7 hb7
                  have HB7 := Lib.hid (HBR.out.trans (hb7.mono HBR.out.size))
                  clear hb7 cS a2 a3 a4 a5 a6 a7 a8 a9
                  go_wp2_with fail
                  go_roundw
                  case rel => exact ⟨i + 1, by go_num, by omega, HX2, HB7.out⟩
                  case measure => simp [intOf]; omega
                · rw [decide_eq_false hso] at cS
                  have HX2 := Lib.hid (HN2.out hso)
                  clear hso HN2
                  go_wp2_with fail
                  refine wp_region_after (by kernel_rfl) (by kernel_rfl) ?_
                  repeat (go_big_quiet_step ((go_at_call 56; with_reducible exact after_of (cS _))))
                  refine wpQuiet_nil ?_
                  intro w7 hb7
                  have HB7 := Lib.hid (HBR.out.trans (hb7.mono HBR.out.size))
                  clear hb7 cS a2 a3 a4 a5 a6 a7 a8 a9
                  go_wp2_with fail
                  go_ret
                  exact ret_b (by rw [HX.out, HX2.out]) (hB.trans (HB7.out.mono hB.size))
              · obtain rfl : i = os.length := by omega
                have q0 : decide (os.length < os.length) = false := by simp
                have HX2 := Lib.hid (HM.out HK.out)
                clear hge hi hBr hr5
                go_wp2_with fail
                go_ret
                exact ret_b (by rw [HX.out, HX2.out]) hBw
          · have q3 : ((os.length : Int) != os'.length) = true := bne_iff_ne.2 (by omega)
            have HX2 := Lib.hid (sameL_len hl)
            clear hl
            go_wp2_with fail
            go_ret
            exact ret_b (by rw [HX.out, HX2.out]) hB
        · have q2 : (N != N') = true := bne_iff_ne.2 hn
          have HX := Lib.hid (eqC_n (D := D) (D' := D) (os := os) (os' := os') hn)
          clear hn
          go_wp2_with fail
          go_ret
          exact ret_b HX.out hB
      · have q1 : (D != D') = true := bne_iff_ne.2 hd
        have HX := Lib.hid (eqC_d (N := N) (N' := N') (os := os) (os' := os') hd)
        clear hd
        go_wp2_with fail
        go_ret
        exact ret_b HX.out hB
    · have HX := Lib.hid (HE2.out hb)
      have q4 : (chkC N' os' != 0) = true := bne_iff_ne.2 hb
      clear hb
      generalize chkC N' os' = cb at *
      go_wp2_with fail
      go_ret
      exact ret_b HX.out hB
  · have HX := Lib.hid (HE1.out ha)
    have q4 : (chkC N os != 0) = true := bne_iff_ne.2 ha
    clear ha cB
    generalize chkC N os = ca at *
    go_wp2_with fail
    go_ret
    exact ret_b HX.out hB
theorem cert_Number (n i j : Int) (w : World) : Calls Try.prog 27 #[.int .i64 n, .int .i64 i, .int .i64 j] w (TellsNum w (numP n i j).1 (numP n i j).2) := by
  by_cases h : 0 ≤ n ∧ n ≤ 64 ∧ 0 ≤ i ∧ i < 2 * n ∧ 0 ≤ j ∧ j < 2 * n ∧ i ≠ j
  · obtain ⟨m, rfl⟩ := Int.eq_ofNat_of_zero_le h.1
    obtain ⟨a, rfl⟩ := Int.eq_ofNat_of_zero_le h.2.2.1
    obtain ⟨b, rfl⟩ := Int.eq_ofNat_of_zero_le h.2.2.2.2.1
    rw [numP_ok (by omega) (by omega) (by omega) (by omega)]
    exact cert_Number_ok m a b w (by omega) (by omega) (by omega) (by omega)
  · rw [numP_bad h]
    exact cert_Number_bad n i j w h
theorem ref_Number (n i j : Int) (w : World) : Calls Try.prog 31 #[.int .i64 n, .int .i64 i, .int .i64 j] w (TellsNum w (numP n i j).1 (numP n i j).2) := by
  by_cases h : 0 ≤ n ∧ n ≤ 64 ∧ 0 ≤ i ∧ i < 2 * n ∧ 0 ≤ j ∧ j < 2 * n ∧ i ≠ j
  · obtain ⟨m, rfl⟩ := Int.eq_ofNat_of_zero_le h.1
    obtain ⟨a, rfl⟩ := Int.eq_ofNat_of_zero_le h.2.2.1
    obtain ⟨b, rfl⟩ := Int.eq_ofNat_of_zero_le h.2.2.2.2.1
    rw [numP_ok (by omega) (by omega) (by omega) (by omega)]
    exact ref_Number_ok m a b w (by omega) (by omega) (by omega) (by omega)
  · rw [numP_bad h]
    exact ref_Number_bad n i j w h
set_option maxRecDepth 100000 in
set_option maxHeartbeats 1000000 in
theorem law_CertPlaces (n i j : Int) (D N : Int) (A : Option Addr) (c : Nat) (os : List OC) (D' N' : Int) (A' : Option Addr) (c' : Nat) (os' : List OC) (w : World) (h : OctsIn w A os) (h' : OctsIn w A' os') (hN : I64 N) (hN' : I64 N')
    (hc : os.length ≤ c) (hcm : c ≤ maxLen) (hc' : os'.length ≤ c') (hcm' : c' ≤ maxLen) (hz : ∀ i, i < os.length → ((ocAt os i).m.length : Int) ≤ 17592186043904) (hz' : ∀ i, i < os'.length → ((ocAt os' i).m.length : Int) ≤ 17592186043904) :
    Calls Try.prog 7 #[.int .i64 n, .int .i64 i, .int .i64 j, .agg #[.int .u64 D, .int .i64 N, .slice A os.length c], .agg #[.int .u64 D', .int .i64 N', .slice A' os'.length c']] w fun e w' => e = .returned (.bool true) ∧ Below w.heap.size w w' := by
  obtain ⟨W, hW, h2⟩ := cert2 w 40 D N D' N' (.slice A os.length c) (.slice A' os'.length c')
  have o1 := h.go h2.below
  have o2 := h'.go h2.below
  have hl1 : (os.length : Int) ≤ 9223372036854775807 := by unfold maxLen at hcm; omega
  have hl2 : (os'.length : Int) ≤ 9223372036854775807 := by unfold maxLen at hcm'; omega
  have cN := fun W => cert_Number n i j W
  have cR := fun W => ref_Number n i j W
  have cC := fun W => cert_Cells n W
  have cD := fun W => ref_CellsNum n W
  generalize (numP n i j).1 = x at *
  generalize (numP n i j).2 = y at *
  generalize cellsP n = z at *
  have q1 : (x != x) = false := by simp
  have q2 : (y != y) = false := by simp
  have q3 : (z != z) = false := by simp
  clear h h'
  go_enter Try.func7, Try.ntmps7
  go_wp2_with fail
  rw [← hW]
  clear hW
  (with_reducible refine (known19 _).mono ?_)
  rintro e w3 ⟨rfl, hb3⟩
  have h3 := h2.go hb3
  have o3 := o1.go hb3
  have o4 := o2.go hb3
  clear hb3 h2 o1 o2
  go_wp2_with fail
  (with_reducible refine (cN _).mono ?_)
  clear cN
  rintro e w4 ⟨rfl, hb4⟩
  have h4 := h3.go hb4
  have o5 := o3.go hb4
  have o6 := o4.go hb4
  clear hb4 h3 o3 o4
  go_wp2_with fail
  (with_reducible refine (cR _).mono ?_)
  clear cR
  rintro e w5 ⟨rfl, hb5⟩
  have h5 := h4.go hb5
  have o7 := o5.go hb5
  have o8 := o6.go hb5
  clear hb5 h4 o5 o6
  go_wp2_with fail
  (with_reducible refine (cC _).mono ?_)
  clear cC
  rintro e w' ⟨rfl, rfl⟩
  go_wp2_with fail
  (with_reducible refine (cD _).mono ?_)
  clear cD
  rintro e w' ⟨rfl, rfl⟩
  have cL := law_light D N A c os w5 o7 hc hcm hz
  obtain ⟨⟨k0, k1, k2⟩, ⟨l0, l1, l2⟩, hB⟩ := id h5
  go_wp2_with fail
  (with_reducible refine cL.mono ?_)
  clear cL k0 k1 k2 l0 l1 l2 hB
  rintro e w6 ⟨b1, rfl, hb6⟩
  have h6 := h5.go hb6
  have o9 := o7.go hb6
  have o10 := o8.go hb6
  clear hb6 h5 o7 o8
  obtain ⟨⟨k0, k1, k2⟩, ⟨l0, l1, l2⟩, hB⟩ := id h6
  rcases b1 with _ | _
  · go_wp2_with fail
    go_ret
    exact ⟨rfl, hB⟩
  · have cL := law_light D' N' A' c' os' w6 o10 hc' hcm' hz'
    go_wp2_with fail
    (with_reducible refine cL.mono ?_)
    clear cL k0 k1 k2 l0 l1 l2 hB
    rintro e w7 ⟨b2, rfl, hb7⟩
    have h7 := h6.go hb7
    have o11 := o9.go hb7
    have o12 := o10.go hb7
    clear hb7 h6 o9 o10
    obtain ⟨⟨k0, k1, k2⟩, ⟨l0, l1, l2⟩, hB⟩ := id h7
    rcases b2 with _ | _
    · go_wp2_with fail
      go_ret
      exact ⟨rfl, hB⟩
    · have cE := fun y : After w7 => cert_Equal D N A c os D' N' A' c' os' y.w (o11.go y.below) (o12.go y.below) hN hN' hl1 hl2
      have cF := fun y : After w7 => ref_CertEqual D N A c os D' N' A' c' os' y.w (o11.go y.below) (o12.go y.below) hN hN' hl1 hl2
      generalize eqC D N os D' N' os' = r at *
      have q4 : (r == r) = true := by simp
      have a0 := After.cell k0
      have a1 := After.cell k1
      have a2 := After.cell k2
      have a3 := After.cell l0
      have a4 := After.cell l1
      have a5 := After.cell l2
      have HB := Lib.hid hB
      clear o11 o12 h7 hB k0 k1 k2 l0 l1 l2
      go_wp2_with fail
      refine wp_region_after (by kernel_rfl) (by kernel_rfl) ?_
      repeat (go_big_quiet_step (first | (go_at_call 33; with_reducible exact after_of (cE _)) | (go_at_call 34; with_reducible exact after_of (cF _))))
      refine wpQuiet_nil ?_
      intro w9 hb9
      have HB9 := Lib.hid (HB.out.trans (hb9.mono HB.out.size))
      clear hb9 a0 a1 a2 a3 a4 a5 cE cF
      go_wp2_with fail
      go_ret
      exact ⟨rfl, HB9.out⟩
end Go.Proofs.Ytghpiofjejhegaa

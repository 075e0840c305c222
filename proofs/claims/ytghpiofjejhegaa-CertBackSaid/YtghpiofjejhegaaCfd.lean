/- CertBack: what Encode wrote comes back. -/
import Derived.Test.YtghpiofjejhegaaCfb
import Derived.Test.YtghpiofjejhegaaCfa
namespace Go.Proofs.Ytghpiofjejhegaa
open Go.RowKit
set_option maxRecDepth 100000
set_option linter.unusedVariables false
set_option linter.unusedSimpArgs false
open Gn
theorem i64_octs {w : World} {A : Option Addr} {os : List OC} (h : OctsIn w A os) : ∀ o ∈ os, ∀ x ∈ o.m, I64 x := fun o ho => by
  obtain ⟨i, hi, rfl⟩ := List.getElem_of_mem ho
  obtain ⟨b, off, _, _, hc⟩ := h (by omega)
  obtain ⟨Ai, ci, _, _, _, hoct⟩ := hc i hi
  have := hoct.i64
  unfold ocAt at this
  rw [List.getD_eq_getElem?_getD, List.getElem?_eq_getElem hi] at this
  exact this
set_option maxHeartbeats 2000000 in
theorem law_CertBack (D N : Int) (A : Option Addr) (c : Nat) (os : List OC) (cut mb : Int) (Ab : Option Addr) (cb : Nat) (b : List Int) (w : World) (h : OctsIn w A os) (hD : 0 ≤ D ∧ D ≤ 18446744073709551615) (hN : I64 N) (hc : os.length ≤ c) (hcm : c ≤ maxLen) (hz : ∀ i, i < os.length → ((ocAt os i).m.length : Int) ≤ 17592186043904)
    (hct : I64 cut) (hmb : 0 ≤ mb ∧ mb ≤ 255) (hb : Bts b) (hr : Rd w w.heap.size .u8 Ab b.length (nth b)) (hbc : b.length ≤ cb) (hbm : cb ≤ maxLen) (hbz : (b.length : Int) ≤ 140737488351232) :
    Calls Try.prog 10 #[.agg #[.int .u64 D, .int .i64 N, .slice A os.length c], .int .i64 cut, .int .u8 mb, .slice Ab b.length cb] w fun e w' => e = .returned (.bool true) ∧ Below w.heap.size w w' := by
  have hU8 := Try.elU8
  obtain ⟨W, hW, h1, hB, hs⟩ := cert_box w 40 D N (.slice A os.length c)
  have h2 := h.go hB
  have hlm : (os.length : Int) ≤ 9223372036854775807 := by unfold maxLen at hcm; omega
  have HB := Lib.hid hB
  obtain ⟨k0, k1, k2⟩ := h1
  have HRM := Lib.hid hr
  have HI64 := Lib.hid (i64_octs h)
  clear hB h hs hr
  go_enter Try.func10, Try.ntmps10
  go_wp2_with fail
  rw [← hW]
  clear hW
  (with_reducible refine (known19 _).mono ?_)
  rintro e w1 ⟨rfl, hb1⟩
  have h3 := h2.go hb1
  have HB1 := Lib.hid (HB.out.trans (hb1.mono HB.out.size))
  have m0 := below_cell hb1 k0
  have m1 := below_cell hb1 k1
  have m2 := below_cell hb1 k2
  clear k0 k1 k2 h2 hb1
  go_upto_region 3 with fail
  go_cut [25] (fun s25 wx => (∃ z, s25 = .bool z ∧ Hid (z = true → chkC N os = 0)) ∧ Below w1.heap.size w1 wx)
  case first =>
    have cL := law_light D N A c os w1 h3 hc hcm hz
    go_wp2_with fail
    (with_reducible refine cL.mono ?_)
    clear cL
    rintro e w2 ⟨bz, rfl, hb2⟩
    have h4 := h3.go hb2
    have n0 := below_cell hb2 m0
    have n1 := below_cell hb2 m1
    have n2 := below_cell hb2 m2
    have HB2 := Lib.hid hb2
    have cK := cert_Check D N A c os w2 h4 hN hlm
    clear m0 m1 m2 h3 hb2
    rcases bz with _ | _
    · clear cK
      go_wp2_with fail
      go_meet
      exact ⟨⟨false, rfl, Lib.hid (fun h => by cases h)⟩, HB2.out⟩
    · have HC : Hid ((chkC N os == 0) = true → chkC N os = 0) := Lib.hid (fun h => beq_iff_eq.1 h)
      generalize chkC N os = cc at *
      go_wp2_with fail
      (with_reducible refine cK.mono ?_)
      clear cK
      rintro e w3 ⟨rfl, hb3⟩
      have HB3 := Lib.hid (HB2.out.trans (hb3.mono HB2.out.size))
      clear hb3
      go_wp2_with fail
      go_meet
      exact ⟨⟨_, rfl, HC⟩, HB3.out⟩
  case rest =>
    obtain ⟨⟨z, rfl, HZ⟩, hbw⟩ := hcut
    have hB2 := HB1.out.trans (hbw.mono HB1.out.size)
    have h4 := h3.go hbw
    have n0 := below_cell hbw m0
    have n1 := below_cell hbw m1
    have n2 := below_cell hbw m2
    have HB2 := Lib.hid hB2
    clear m0 m1 m2 h3 hbw hB2
    go_upto_if 25 with fail
    go_cut [] (fun wx => Below wc.heap.size wc wx)
    case first =>
      cases z with
      | false =>
        go_wp2_with fail
        go_meet
        exact Below.refl _ _
      | true =>
        have hcc := HZ.out rfl
        have hn0 := (chkC_zero hcc).1.1
        have HCC := Lib.hid hcc
        obtain ⟨n, rfl⟩ := Int.eq_ofNat_of_zero_le hn0.1
        have cE := cert_Encode D n A c os wc h4 hD hN hlm
        clear hcc hn0
        go_wp2_with fail
        (with_reducible refine cE.mono ?_)
        clear cE
        rintro e w4 ⟨A4, c4, rfl, ho4, hb4⟩
        have hbt := encP_bts D n os
        obtain ⟨P, hP⟩ : ∃ P, P = encP D n os := ⟨_, rfl⟩
        have HP := Lib.hid hP.symm
        rw [← hP] at ho4 hbt
        rw [← hP]
        clear hP
        obtain ⟨bs, x⟩ := P
        dsimp only at ho4 hbt ⊢
        by_cases hx : x = 0
        · subst hx
          obtain ⟨hk1, hk2, hk3⟩ := back_ok hD HI64.out HP.out
          have hsmall : bs.length ≤ 4194304 := by have := encP_small D n os; rw [HP.out] at this; exact this
          have hO4 := ho4
          have cD := cert_Decode A4 c4 bs w4 hbt hO4.rd hO4.cap hO4.capMax (by omega)
          rw [hk1] at cD
          have h5 := h4.go hb4
          have HB4 := Lib.hid hb4
          have m0 := below_cell hb4 n0
          have m1 := below_cell hb4 n1
          have m2 := below_cell hb4 n2
          have HK2 := Lib.hid hk2
          have HK3 := Lib.hid hk3
          clear hk1 hk2 hk3 h4 hb4 n0 n1 n2 ho4
          go_wp2_with fail
          (with_reducible refine cD.mono ?_)
          clear cD
          rintro e w5 ⟨⟨Ao, co, rs, rfl, hG5, hrs⟩, hb5⟩
          dsimp only at hrs ⊢
          have hl : rs.length = os.length := by rw [← hrs, List.length_map]
          have hos : OctsIn w5 Ao os := by rw [← hrs]; exact hG5.octs
          rw [hl]
          have h6 := h5.go hb5
          have n0 := below_cell hb5 m0
          have n1 := below_cell hb5 m1
          have n2 := below_cell hb5 m2
          have HB5 := Lib.hid (HB4.out.trans (hb5.mono HB4.out.size))
          have HO5 := Lib.hid (hO4.below hb5)
          clear hl hrs hG5 hb5 m0 m1 m2 h5 hO4
          have hb6 : Below w5.heap.size w5 (w5.alloc (.cells #[.int .u64 D, .int .i64 n, .slice Ao os.length co] 40)) := (Below.refl _ _).alloc (Nat.le_refl _) _
          obtain ⟨l0, l1, l2⟩ := (CertBox.new w5 40 D n (.slice Ao os.length co)).at'
          obtain ⟨w6, hw6⟩ : ∃ w6, w6 = w5.alloc (.cells #[.int .u64 D, .int .i64 n, .slice Ao os.length co] 40) := ⟨_, rfl⟩
          rw [← hw6] at hb6 l0 l1 l2
          have h7 := h6.go hb6
          have hos7 := hos.go hb6
          have m0 := below_cell hb6 n0
          have m1 := below_cell hb6 n1
          have m2 := below_cell hb6 n2
          have HB6 := Lib.hid (HB5.out.trans (hb6.mono HB5.out.size))
          have HO6 := Lib.hid (HO5.out.below hb6)
          have cQ := cert_Equal D n A c os D n Ao co os w6 h7 hos7 hN hN hlm hlm
          rw [eqC_o HCC.out HCC.out, sameL_of rfl (fun i _ => ⟨rfl, rfl, rfl⟩)] at cQ
          clear hb6 n0 n1 n2 h6 hos
          go_upto_region 7 with fail
          rw [← hw6]
          clear hw6
          generalize w5.heap.size = ba at *
          go_wp2_with fail
          (with_reducible refine cQ.mono ?_)
          clear cQ
          rintro e w7 ⟨rfl, hb7⟩
          have cS := law_same D n A Ao c co os w7 (h7.go hb7) (hos7.go hb7) hlm
          have n0 := below_cell hb7 m0
          have n1 := below_cell hb7 m1
          have n2 := below_cell hb7 m2
          have p0 := below_cell hb7 l0
          have p1 := below_cell hb7 l1
          have p2 := below_cell hb7 l2
          have HB7 := Lib.hid (HB6.out.trans (hb7.mono HB6.out.size))
          have HO7 := Lib.hid (HO6.out.below hb7)
          clear hb7 m0 m1 m2 l0 l1 l2 h7 hos7
          go_wp2_with fail
          (with_reducible refine cS.mono ?_)
          clear cS
          rintro e w8 ⟨rfl, hb8⟩
          have HB8 := Lib.hid (HB7.out.trans (hb8.mono HB7.out.size))
          have HO8 := Lib.hid (HO7.out.below hb8)
          clear hb8 n0 n1 n2 p0 p1 p2
          go_upto_region 9 with fail
          obtain ⟨z2, hz28⟩ : ∃ z2, z2 = decide (0 ≤ cut ∧ cut < (bs.length : Int)) := ⟨_, rfl⟩
          have HZ8 := Lib.hid hz28
          clear hz28
          go_cut [59] (fun s59 wx => s59 = .bool z2 ∧ w8 = wx)
          case first =>
            by_cases hp0 : 0 ≤ cut
            · have q3 : decide (0 ≤ cut) = true := decide_eq_true hp0
              have HZ9 : Hid (z2 = decide (cut < (bs.length : Int))) := Lib.hid (by rw [HZ8.out, decide_eq_decide]; exact ⟨fun h => h.2, fun h => ⟨hp0, h⟩⟩)
              clear hp0
              go_wp2_with fail
              all_goals (go_meet; exact ⟨by rw [HZ9.out], rfl⟩)
            · have q3 : decide (0 ≤ cut) = false := decide_eq_false hp0
              have HZ9 : Hid (z2 = false) := Lib.hid (by rw [HZ8.out]; exact decide_eq_false (fun h => hp0 h.1))
              clear hp0
              go_wp2_with fail
              all_goals (go_meet; exact ⟨by rw [HZ9.out], rfl⟩)
          case rest =>
            obtain ⟨rfl, rfl⟩ := hcut
            go_upto_if 59 with fail
            go_cut [] (fun wx => Below w8.heap.size w8 wx)
            case first =>
              cases z2 with
              | false =>
                go_wp2_with fail
                go_meet
                exact Below.refl _ _
              | true =>
                obtain ⟨hp0, hp1⟩ : 0 ≤ cut ∧ cut < (bs.length : Int) := of_decide_eq_true HZ8.out.symm
                obtain ⟨m, rfl⟩ := Int.eq_ofNat_of_zero_le hp0
                have HF := Lib.hid (HK2.out m (by omega))
                have hcap := HO8.out.cap
                have hcapm := HO8.out.capMax
                have hyo := HO8.out.take m (by omega)
                have hyb : Bts (bs.take m) := fun y hy => hbt y (List.mem_of_mem_take hy)
                obtain ⟨ys, hys⟩ : ∃ ys, ys = bs.take m := ⟨_, rfl⟩
                have hyl : m = ys.length := by rw [hys, List.length_take]; omega
                rw [← hys] at HF hyo hyb
                clear hys
                subst hyl
                have q4 : (ys.length : Int) ≤ (c4 : Int) := by omega
                have q5 : (c4 : Int) ≤ 9223372036854775807 := by unfold maxLen at hcapm; omega
                have hyr := hyo.rd
                have hsz : (([] : List Int).length + ys.length) * 1 ≤ 140737488355328 := by simp; omega
                clear HZ8
                go_wp2_with (at_builtin; refine wpList_appN hU8 w8 rfl _ _ rfl w8.heap.size .u8 none 0 [] rfl (Ow.nil _ _ _ _) _ A4 c4 ys rfl hyr hsz (Nat.le_refl _) ?_; intro A9 c9 w9 ho9 hb9)
                rw [List.nil_append] at ho9
                have cD := cert_Decode A9 c9 ys w9 hyb ho9.rd ho9.cap ho9.capMax (by omega)
                (with_reducible refine cD.mono ?_)
                clear cD
                rintro e w10 ⟨⟨Ao', co', rs', rfl, hG10, hrs10⟩, hb10⟩
                rw [HF.out]
                have HB10 := Lib.hid (hb9.trans (hb10.mono hb9.size))
                clear hb9 hb10 hG10 hrs10 ho9
                go_wp2_with fail
                go_meet
                exact HB10.out
            case rest =>
              have HB9 := Lib.hid (HB8.out.trans (hcut.mono HB8.out.size))
              have HO9 := Lib.hid (HO8.out.below hcut)
              have hsz : (([] : List Int).length + bs.length) * 1 ≤ 140737488355328 := by simp; omega
              have hsz2 : (bs.length + 1) * 1 ≤ 140737488355328 := by omega
              have hrd9 := HO9.out.rd
              clear hcut HZ8
              go_wp2_with (at_builtin; first | (refine wpList_appN hU8 wc rfl _ _ rfl wc.heap.size .u8 none 0 [] rfl (Ow.nil _ _ _ _) _ A4 c4 bs rfl hrd9 hsz (Nat.le_refl _) ?_; intro A9 c9 w9 ho9 hb9; rw [List.nil_append] at ho9; have hbs9 := hb9.size) | (refine wpList_app1 hU8 w9 rfl _ _ rfl wc.heap.size .u8 A9 c9 bs rfl ho9 mb rfl hsz2 hbs9 ?_; intro A10 c10 w10 ho10 hb10))
              have hxb : Bts (bs ++ [mb]) := fun y hy => (List.mem_append.1 hy).elim (hbt y) (fun h => by rw [List.mem_singleton.1 h]; exact hmb)
              have cD := cert_Decode A10 c10 (bs ++ [mb]) w10 hxb (ho10.rd.more (Nat.le_refl _)) ho10.cap ho10.capMax (by rw [List.length_append, List.length_singleton]; omega)
              rw [List.length_append, List.length_singleton] at cD
              have HB10 := Lib.hid (HB9.out.trans ((hb9.trans hb10).mono HB9.out.size))
              clear ho9 hb9 ho10 hb10 hrd9
              (with_reducible refine cD.mono ?_)
              clear cD
              rintro e w11 ⟨⟨Ao', co', rs', rfl, hG11, hrs11⟩, hb11⟩
              have HB11 := Lib.hid (HB10.out.trans (hb11.mono HB10.out.size))
              clear hb11 hG11 hrs11
              rcases HK3.out mb with hE | ⟨hE, hbig⟩
              · rw [hE]
                clear hE
                go_wp2_with fail
                go_meet
                exact HB11.out
              · rw [hE]
                have q8 : decide ((bs.length : Int) < 4194304) = false := decide_eq_false (by omega)
                have q9 : decide (bs.length < 4194304) = false := decide_eq_false (by omega)
                clear hE hbig
                go_wp2_with fail
                go_meet
                exact HB11.out
        · have q1 : (x == 0) = false := beq_eq_false_iff_ne.2 hx
          clear hx ho4
          go_wp2_with fail
          go_meet
          exact hb4
    case rest =>
      have hB3 := HB2.out.trans (hcut.mono HB2.out.size)
      have hrb := HRM.out.below hB3
      have HB3 := Lib.hid hB3
      have hrb2 := hrb.more hB3.size
      clear h4 n0 n1 n2 hcut hB3 hrb
      by_cases hlong : 3000 < b.length
      · have q1 : decide ((3000 : Int) < (b.length : Int)) = true := decide_eq_true (by omega)
        have q2 : decide (3000 < b.length) = true := decide_eq_true hlong
        clear hlong hrb2
        go_wp2_with fail
        go_ret
        exact ⟨rfl, HB3.out⟩
      · have q1 : decide ((3000 : Int) < (b.length : Int)) = false := decide_eq_false (by omega)
        have q2 : decide (3000 < b.length) = false := decide_eq_false hlong
        have cD := cert_Decode Ab cb b wc hb hrb2 hbc hbm (by omega)
        have HRB := Lib.hid hrb2
        have HLN := Lib.hid hlong
        clear hlong hrb2
        go_wp2_with fail
        (with_reducible refine cD.mono ?_)
        clear cD
        rintro e w5 ⟨⟨Ao, co, rs, rfl, hG5, hrs⟩, hb5⟩
        have hl : rs.length = (decP b).1.2.2.length := by rw [← hrs, List.length_map]
        have hos : OctsIn w5 Ao (decP b).1.2.2 := by rw [← hrs]; exact hG5.octs
        have hol : ((decP b).1.2.2.length : Int) ≤ 9223372036854775807 := by rw [← hl]; exact hG5.len
        have HB5 := Lib.hid (HB3.out.trans (hb5.mono HB3.out.size))
        have HR5 := Lib.hid ((HRB.out.below hb5).more hb5.size)
        rw [hl]
        clear hl hrs hG5 hb5
        obtain ⟨P, hP⟩ : ∃ P, P = decP b := ⟨_, rfl⟩
        have HP := Lib.hid hP.symm
        rw [← hP] at hos hol
        rw [← hP]
        clear hP
        obtain ⟨⟨D', N', os'⟩, x⟩ := P
        dsimp only at hos hol ⊢
        by_cases hx : x = 0
        · subst hx
          obtain ⟨t1, t2, t3, t4, t5⟩ := taken_back hb HP.out
          have hb6 : Below w5.heap.size w5 (w5.alloc (.cells #[.int .u64 D', .int .i64 N', .slice Ao os'.length co] 40)) := (Below.refl _ _).alloc (Nat.le_refl _) _
          obtain ⟨k0, k1, k2⟩ := (CertBox.new w5 40 D' N' (.slice Ao os'.length co)).at'
          obtain ⟨w6, hw6⟩ : ∃ w6, w6 = w5.alloc (.cells #[.int .u64 D', .int .i64 N', .slice Ao os'.length co] 40) := ⟨_, rfl⟩
          rw [← hw6] at hb6 k0 k1 k2
          have cE := cert_Encode D' N' Ao co os' w6 (hos.go hb6) t3 t4 hol
          rw [t1] at cE
          have HB6 := Lib.hid (HB5.out.trans (hb6.mono HB5.out.size))
          have HR6 := Lib.hid ((HR5.out.below hb6).more hb6.size)
          have HT2 := Lib.hid t2
          clear t1 t2 t3 t4 t5 hos hb6
          go_upto_region 19 with fail
          rw [← hw6]
          clear hw6
          generalize w5.heap.size = ba at *
          go_wp2_with fail
          (with_reducible refine cE.mono ?_)
          clear cE
          rintro e w7 ⟨A7, c7, rfl, ho7, hb7⟩
          dsimp only at ho7 ⊢
          have HB7 := Lib.hid (HB6.out.trans (hb7.mono HB6.out.size))
          have hr7 := (HR6.out.below hb7).more hb7.size
          have cB := help_Bytes A7 Ab c7 cb b b w7 _ _ hb hb ho7.rd hr7
          rw [show decide (b = b) = true by simp] at cB
          have l0 := below_cell hb7 k0
          have l1 := below_cell hb7 k1
          have l2 := below_cell hb7 k2
          have q5 : decide ((os'.length : Int) ≤ (b.length : Int)) = true := decide_eq_true (by have := HT2.out; omega)
          have q6 : decide (os'.length ≤ b.length) = true := decide_eq_true HT2.out
          clear k0 k1 k2 hb7 hr7 ho7
          go_wp2_with fail
          (with_reducible refine cB.mono ?_)
          clear cB
          rintro e w8 ⟨rfl, rfl⟩
          go_wp2_with fail
          go_ret
          exact ⟨rfl, HB7.out⟩
        · have q5 : (x != 0) = true := bne_iff_ne.2 hx
          clear hx hos
          go_wp2_with fail
          go_ret
          exact ⟨rfl, by have := HB5.out; exact this.alloc (by exact this.size) _⟩
end Go.Proofs.Ytghpiofjejhegaa

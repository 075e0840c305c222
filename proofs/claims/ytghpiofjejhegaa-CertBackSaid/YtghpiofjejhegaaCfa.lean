/- CertTurned: what Encode wrote, turned. -/
import Derived.Test.YtghpiofjejhegaaCez
namespace Go.Proofs.Ytghpiofjejhegaa
open Go.RowKit
set_option maxRecDepth 100000
set_option linter.unusedVariables false
set_option linter.unusedSimpArgs false
open Gn
/-- A row that a call made, cut. -/
theorem Ow.take {w : World} {base c : Nat} {e : TypeId} {k : IntKind} {A : Option Addr} {xs : List Int} (h : Ow w base e k A c xs) (m : Nat) (hm : m ≤ xs.length) : Ow w base e k A c (xs.take m) := by
  have hl : (xs.take m).length = m := by rw [List.length_take]; omega
  refine ⟨by simp, ?_⟩
  rcases h.2 with ⟨hv, h0⟩ | ⟨g, cap, cur, hv, hb, hh, hnc, hcm, hcs, hx⟩
  · left
    injection hv with h1 h2 h3
    refine ⟨by rw [h1, h3, show (xs.take m).length = 0 by omega], by omega⟩
  · right
    injection hv with h1 h2 h3
    refine ⟨g, cap, cur, by rw [h1, h3], hb, hh, by omega, hcm, hcs, ?_⟩
    rw [hl, Nat.mul_one, List.map_take, ← hx, List.take_take, Nat.mul_one, Nat.min_eq_left hm]
theorem xor_bts {x y : Int} (hx : 0 ≤ x ∧ x ≤ 255) (hy : 0 ≤ y ∧ y ≤ 255) : 0 ≤ bits .xor .u8 x y ∧ bits .xor .u8 x y ≤ 255 := by
  unfold bits
  simp only [IntKind.wrap_u8]
  omega
theorem encP_small (D N : Int) (os : List OC) : (encP D N os).1.length ≤ 4194304 := by
  unfold encP
  split
  · simp
  · split
    · simp
    · simp only; omega
/-- Bytes under way. -/
structure TB (w w' : World) (Am : Option Addr) (more : List Int) (A : Option Addr) (c : Nat) (ys : List Int) : Prop where
  row : Ow w' w.heap.size 5 .u8 A c ys
  bts : Bts ys
  below : Below w.heap.size w w'
  rd : Rd w' w.heap.size .u8 Am more.length (nth more)
  len : ys.length ≤ 4194304
theorem TB.go {w w' w'' : World} {Am A : Option Addr} {more ys : List Int} {c : Nat} (h : TB w w' Am more A c ys) (hb : Below w'.heap.size w' w'') : TB w w'' Am more A c ys :=
  ⟨h.row.below hb, h.bts, h.below.trans (hb.mono h.below.size), h.rd.below (hb.mono h.below.size), h.len⟩
set_option maxHeartbeats 2000000 in
theorem law_CertTurned (D N : Int) (A : Option Addr) (c : Nat) (os : List OC) (pat by' cut : Int) (Am : Option Addr) (cm : Nat) (more : List Int) (w : World) (h : OctsIn w A os) (hD : 0 ≤ D ∧ D ≤ 18446744073709551615) (hN : I64 N) (hc : os.length ≤ c) (hcm : c ≤ maxLen) (hz : ∀ i, i < os.length → ((ocAt os i).m.length : Int) ≤ 17592186043904)
    (hpat : I64 pat) (hby : 0 ≤ by' ∧ by' ≤ 255) (hcut : I64 cut) (hm : Bts more) (hr : Rd w w.heap.size .u8 Am more.length (nth more)) (hmz : (more.length : Int) ≤ 140737488351232) :
    Calls Try.prog 9 #[.agg #[.int .u64 D, .int .i64 N, .slice A os.length c], .int .i64 pat, .int .u8 by', .int .i64 cut, .slice Am more.length cm] w fun e w' => e = .returned (.bool true) ∧ Below w.heap.size w w' := by
  have hU8 := Try.elU8
  obtain ⟨W, hW, h1, hB, hs⟩ := cert_box w 40 D N (.slice A os.length c)
  have h2 := h.go hB
  have hlm : (os.length : Int) ≤ 9223372036854775807 := by unfold maxLen at hcm; omega
  have HB := Lib.hid hB
  obtain ⟨k0, k1, k2⟩ := h1
  have HRM := Lib.hid hr
  clear hB h hs hr
  go_enter Try.func9, Try.ntmps9
  go_wp2_with fail
  rw [← hW]
  clear hW
  (with_reducible refine (known19 _).mono ?_)
  rintro e w1 ⟨rfl, hb1⟩
  have h3 := h2.go hb1
  have HB1 := Lib.hid (HB.out.trans (hb1.mono HB.out.size))
  have m0 := below_cell hb1 k0
  have m1 := below_cell hb1 k1
  have m2 := below_cell hb1 k2
  clear k0 k1 k2 h2 hb1
  have cL := law_light D N A c os w1 h3 hc hcm hz
  go_wp2_with fail
  (with_reducible refine cL.mono ?_)
  clear cL
  rintro e w2 ⟨bz, rfl, hb2⟩
  have h4 := h3.go hb2
  have HB2 := Lib.hid (HB1.out.trans (hb2.mono HB1.out.size))
  have n0 := below_cell hb2 m0
  have n1 := below_cell hb2 m1
  have n2 := below_cell hb2 m2
  clear m0 m1 m2 h3 hb2
  rcases bz with _ | _
  · go_wp2_with fail
    go_ret
    exact ⟨rfl, HB2.out⟩
  · have cE := ref_Encode D N A c os w2 h4 hD hN hlm
    have hbt := encP_bts D N os
    go_wp2_with fail
    (with_reducible refine cE.mono ?_)
    clear cE
    rintro e w3 ⟨A3, c3, rfl, ho3, hb3⟩
    have hB3 := HB2.out.trans (hb3.mono HB2.out.size)
    have hT : TB w w3 Am more A3 c3 (encP D N os).1 := ⟨ho3.lower HB2.out.size, hbt, hB3, HRM.out.below hB3, encP_small D N os⟩
    have HB3 := Lib.hid hB3
    clear ho3 hb3 h4 n0 n1 n2 hbt hB3
    generalize encP D N os = P at *
    obtain ⟨bs, x⟩ := P
    dsimp only at hT ⊢
    by_cases hx : x = 0
    · subst hx
      by_cases hml : 100 < more.length
      · have q1 : decide ((100 : Int) < (more.length : Int)) = true := decide_eq_true (by omega)
        have q2 : decide (100 < more.length) = true := decide_eq_true (by omega)
        clear hT hml
        go_wp2_with fail
        go_ret
        exact ⟨rfl, HB3.out⟩
      · have q1 : decide ((100 : Int) < (more.length : Int)) = false := decide_eq_false (by omega)
        have q2 : decide (100 < more.length) = false := decide_eq_false (by omega)
        have HML := Lib.hid hml
        clear hml
        go_upto_region 8 with fail
        obtain ⟨z, hz8⟩ : ∃ z, z = decide (0 ≤ pat ∧ pat < (bs.length : Int)) := ⟨_, rfl⟩
        have HZ8 := Lib.hid hz8
        clear hz8
        go_cut [41] (fun s41 wx => s41 = .bool z ∧ w3 = wx)
        case first =>
          by_cases hp0 : 0 ≤ pat
          · have q3 : decide (0 ≤ pat) = true := decide_eq_true hp0
            have HZ9 : Hid (z = decide (pat < (bs.length : Int))) := Lib.hid (by rw [HZ8.out, decide_eq_decide]; exact ⟨fun h => h.2, fun h => ⟨hp0, h⟩⟩)
            clear hp0
            go_wp2_with fail
            all_goals (go_meet; exact ⟨by rw [HZ9.out], rfl⟩)
          · have q3 : decide (0 ≤ pat) = false := decide_eq_false hp0
            have HZ9 : Hid (z = false) := Lib.hid (by rw [HZ8.out]; exact decide_eq_false (fun h => hp0 h.1))
            clear hp0
            go_wp2_with fail
            all_goals (go_meet; exact ⟨by rw [HZ9.out], rfl⟩)
        case rest =>
          obtain ⟨rfl, rfl⟩ := hcut
          go_upto_if 41 with fail
          go_cut [] (fun wx => ∃ ys, Hid (ys.length = bs.length) ∧ TB w wx Am more A3 c3 ys)
          case first =>
            cases z with
            | false =>
              go_wp2_with fail
              go_meet
              exact ⟨bs, Lib.hid rfl, hT⟩
            | true =>
              obtain ⟨hp0, hp1⟩ : 0 ≤ pat ∧ pat < (bs.length : Int) := of_decide_eq_true HZ8.out.symm
              obtain ⟨at', rfl⟩ := Int.eq_ofNat_of_zero_le hp0
              have hat : at' < bs.length := by omega
              obtain ⟨g, rfl, hg1, hg2⟩ := hT.row.blockOf (by omega)
              have k1 := hT.row.cellAt hat
              have f1 := hT.row.frozenAt at'
              have hbx := xor_bts (hT.bts _ (nth_mem hat)) hby
              have hrow := hT.row.set' at' (bits .xor .u8 (nth bs at') by')
              have HT2 : Hid (TB w (w3.setCell ⟨g, at', none⟩ (.int .u8 (bits .xor .u8 (nth bs at') by'))) Am more (some ⟨g, 0, none⟩) c3 (bs.set at' (bits .xor .u8 (nth bs at') by'))) :=
                Lib.hid ⟨hrow, fun y hy => (List.mem_or_eq_of_mem_set hy).elim (fun h => hT.bts y h) (fun h => h ▸ hbx), hT.below.setCell (p := ⟨g, at', none⟩) hg1 _, hT.rd.setCell (p := ⟨g, at', none⟩) hg1 _, by rw [List.length_set]; exact hT.len⟩
              obtain ⟨y0, hy0⟩ : ∃ y0, y0 = nth bs at' := ⟨_, rfl⟩
              rw [← hy0] at k1 HT2
              have HL2 : Hid ((bs.set at' (bits .xor .u8 y0 by')).length = bs.length) := Lib.hid (by simp)
              obtain ⟨hb0, hb1⟩ := (show 0 ≤ y0 ∧ y0 ≤ 255 by rw [hy0]; exact hT.bts _ (nth_mem hat))
              rw [← hy0] at hbx
              obtain ⟨hx0, hx1⟩ := hbx
              clear hrow hT hy0 HZ8
              go_wp2_with fail
              go_meet
              exact ⟨_, HL2, HT2.out⟩
          case rest =>
            clear hT HZ8
            obtain ⟨ys, HYL, hT⟩ := hcut
            rw [← HYL.out]
            clear HYL
            obtain ⟨z2, hz28⟩ : ∃ z2, z2 = decide (0 ≤ cut ∧ cut < (ys.length : Int)) := ⟨_, rfl⟩
            have HZ8 := Lib.hid hz28
            clear hz28
            go_upto_region 10 with fail
            go_cut [58] (fun s58 wx => s58 = .bool z2 ∧ wc = wx)
            case first =>
              by_cases hp0 : 0 ≤ cut
              · have q3 : decide (0 ≤ cut) = true := decide_eq_true hp0
                have HZ9 : Hid (z2 = decide (cut < (ys.length : Int))) := Lib.hid (by rw [HZ8.out, decide_eq_decide]; exact ⟨fun h => h.2, fun h => ⟨hp0, h⟩⟩)
                clear hp0
                go_wp2_with fail
                all_goals (go_meet; exact ⟨by rw [HZ9.out], rfl⟩)
              · have q3 : decide (0 ≤ cut) = false := decide_eq_false hp0
                have HZ9 : Hid (z2 = false) := Lib.hid (by rw [HZ8.out]; exact decide_eq_false (fun h => hp0 h.1))
                clear hp0
                go_wp2_with fail
                all_goals (go_meet; exact ⟨by rw [HZ9.out], rfl⟩)
            case rest =>
              obtain ⟨rfl, rfl⟩ := hcut
              go_upto_if 58 with fail
              go_cut [11] (fun s11 wx => ∃ zs, s11 = .slice A3 zs.length c3 ∧ TB w wx Am more A3 c3 zs)
              case first =>
                cases z2 with
                | false =>
                  go_wp2_with fail
                  go_meet
                  exact ⟨ys, rfl, hT⟩
                | true =>
                  obtain ⟨hp0, hp1⟩ : 0 ≤ cut ∧ cut < (ys.length : Int) := of_decide_eq_true HZ8.out.symm
                  obtain ⟨m, rfl⟩ := Int.eq_ofNat_of_zero_le hp0
                  have hat : m ≤ ys.length := by omega
                  have hcap := hT.row.cap
                  have hcapm := hT.row.capMax
                  obtain ⟨g, rfl, hg1, hg2⟩ := hT.row.blockOf (by omega)
                  have HT2 : Hid (TB w wc Am more (some ⟨g, 0, none⟩) c3 (ys.take m)) := Lib.hid ⟨hT.row.take m hat, fun y hy => hT.bts y (List.mem_of_mem_take hy), hT.below, hT.rd, by rw [List.length_take]; have := hT.len; omega⟩
                  have HL2 : Hid ((ys.take m).length = m) := Lib.hid (by rw [List.length_take]; omega)
                  have q4 : (m : Int) ≤ (c3 : Int) := by omega
                  have q5 : (c3 : Int) ≤ 9223372036854775807 := by unfold maxLen at hcapm; omega
                  clear hT HZ8
                  go_wp2_with fail
                  go_meet
                  exact ⟨_, by rw [HL2.out], HT2.out⟩
              case rest =>
                clear hT HZ8
                obtain ⟨zs, rfl, hT⟩ := hcut
                have hzl := hT.len
                have hsz : (zs.length + more.length) * 1 ≤ 140737488355328 := by have := HML.out; omega
                have hbs := hT.below.size
                go_wp2_with (at_builtin; refine wpList_appN hU8 wc rfl _ _ rfl w.heap.size .u8 A3 c3 zs rfl hT.row _ Am cm more rfl hT.rd hsz hbs ?_; intro A2 c2 w2 ho2 hb2)
                have hb : Bts (zs ++ more) := fun y hy => (List.mem_append.1 hy).elim (hT.bts y) (hm y)
                have hlen : (zs ++ more).length = zs.length + more.length := List.length_append
                have hsmall : (zs ++ more).length ≤ 5000000 := by have := HML.out; omega
                obtain ⟨b, hbb⟩ : ∃ b, b = zs ++ more := ⟨_, rfl⟩
                rw [← hbb] at ho2 hb hlen hsmall
                rw [← hlen]
                clear hbb hlen
                have HO2 := Lib.hid ho2
                have HB2 := Lib.hid (hT.below.trans hb2)
                have cD := cert_Decode A2 c2 b w2 hb HO2.out.rd HO2.out.cap HO2.out.capMax (by omega)
                clear ho2 hb2 hT HML hsz hbs hzl
                (with_reducible refine cD.mono ?_)
                clear cD
                rintro e w3 ⟨⟨Ao, co, rs, rfl, hG3, hrs⟩, hb3⟩
                have HCD := Lib.hid (fun W (hW : Below w3.heap.size w3 W) => ref_Decode A2 c2 b W hb ((HO2.out.below hb3).below hW).rd (by omega))
                have HB3' := Lib.hid (HB2.out.trans (hb3.mono HB2.out.size))
                have hl : rs.length = (decP b).1.2.2.length := by rw [← hrs, List.length_map]
                have hos : OctsIn w3 Ao (decP b).1.2.2 := by rw [← hrs]; exact hG3.octs
                rw [hl]
                clear hl hrs hG3 hb3
                obtain ⟨P, hP⟩ : ∃ P, P = decP b := ⟨_, rfl⟩
                have HP := Lib.hid hP
                rw [← hP] at hos
                rw [← hP]
                clear hP
                obtain ⟨⟨D', N', os'⟩, x⟩ := P
                dsimp only at hos ⊢
                have hb4 : Below w3.heap.size w3 (w3.alloc (.cells #[.int .u64 D', .int .i64 N', .slice Ao os'.length co] 40)) := (Below.refl _ _).alloc (Nat.le_refl _) _
                obtain ⟨k0, k1, k2⟩ := (CertBox.new w3 40 D' N' (.slice Ao os'.length co)).at'
                obtain ⟨w4, hw4⟩ : ∃ w4, w4 = w3.alloc (.cells #[.int .u64 D', .int .i64 N', .slice Ao os'.length co] 40) := ⟨_, rfl⟩
                rw [← hw4] at hb4 k0 k1 k2
                have cD2 := HCD.out w4 hb4
                rw [← HP.out] at cD2
                have hos4 := hos.go hb4
                have HB4 := Lib.hid (HB3'.out.trans (hb4.mono HB3'.out.size))
                clear hb4 hos
                go_wp2_with fail
                rw [← hw4]
                clear hw4
                generalize w3.heap.size = ba at *
                (with_reducible refine cD2.mono ?_)
                clear cD2
                rintro e w5 ⟨⟨Ao', co', rs', rfl, hG5, hrs⟩, hb5⟩
                dsimp only at hrs ⊢
                have hl : rs'.length = os'.length := by rw [← hrs, List.length_map]
                have hol : (os'.length : Int) ≤ 9223372036854775807 := by rw [← hl]; exact hG5.len
                have hos5 : OctsIn w5 Ao' os' := by rw [← hrs]; exact hG5.octs
                rw [hl]
                have hos4' := hos4.go hb5
                have k0' := below_cell hb5 k0
                have k1' := below_cell hb5 k1
                have k2' := below_cell hb5 k2
                have HB5 := Lib.hid (HB4.out.trans (hb5.mono HB4.out.size))
                clear hl hrs hG5 hb5 k0 k1 k2 hos4
                have hb6 : Below w5.heap.size w5 (w5.alloc (.cells #[.int .u64 D', .int .i64 N', .slice Ao' os'.length co'] 40)) := (Below.refl _ _).alloc (Nat.le_refl _) _
                obtain ⟨l0, l1, l2⟩ := (CertBox.new w5 40 D' N' (.slice Ao' os'.length co')).at'
                obtain ⟨w6, hw6⟩ : ∃ w6, w6 = w5.alloc (.cells #[.int .u64 D', .int .i64 N', .slice Ao' os'.length co'] 40) := ⟨_, rfl⟩
                rw [← hw6] at hb6 l0 l1 l2
                have m0 := below_cell hb6 k0'
                have m1 := below_cell hb6 k1'
                have m2 := below_cell hb6 k2'
                have hg1 := hos4'.go hb6
                have hg2 := hos5.go hb6
                have HB6 := Lib.hid (HB5.out.trans (hb6.mono HB5.out.size))
                have cS := law_same D' N' Ao Ao' co co' os' w6 hg1 hg2 hol
                have q5 : (x == x) = true := by simp
                clear hb6 hos4' hos5 k0' k1' k2' hg1 hg2
                go_upto_region 15 with fail
                rw [← hw6]
                clear hw6
                generalize w5.heap.size = bd at *
                go_wp2_with fail
                (with_reducible refine cS.mono ?_)
                clear cS
                rintro e w7 ⟨rfl, hb7⟩
                have HB7 := Lib.hid (HB6.out.trans (hb7.mono HB6.out.size))
                clear hb7
                go_wp2_with fail
                go_ret
                exact ⟨rfl, HB7.out⟩
    · have q1 : (x != 0) = true := bne_iff_ne.2 hx
      have q2 : (x == 0) = false := beq_eq_false_iff_ne.2 hx
      clear hT hx
      go_wp2_with fail
      go_ret
      exact ⟨rfl, HB3.out⟩
end Go.Proofs.Ytghpiofjejhegaa

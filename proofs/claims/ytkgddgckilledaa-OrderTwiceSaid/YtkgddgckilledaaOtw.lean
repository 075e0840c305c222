/- The law OrderTwice. -/
import Derived.Test.YtkgddgckilledaaOtp
import Derived.Test.YtkgddgckilledaaFgl
namespace Go.Proofs.Ytkgddgckilledaa
open Go.RowKit
set_option linter.unusedVariables false
set_option linter.unusedSimpArgs false
open Gn
theorem Oh.inn {W : World} {b base : Nat} {P : Int × Bool × List Int} {A : Option Addr} {c : Nat} (h : Oh b base P A c W) (hc : chk P.1 P.2.1 P.2.2 = 0) : OctIn W W.heap.size A c P.1 P.2.2 :=
  h.row.oct (by obtain ⟨n, hn, h64, _⟩ := chk_zero hc; rw [hn]; unfold I64; omega) (chk_ints hc)
set_option maxRecDepth 100000 in
set_option maxHeartbeats 16000000 in
theorem law_OrderTwice (N : Int) (E : Bool) (A : Option Addr) (c : Nat) (M : List Int) (u v : Int) (w : World) (ha : OctIn w w.heap.size A c N M) (hma : (M.length : Int) ≤ 17592186043904) (hu : I64 u) (hv : I64 v) :
    Calls Try.prog 6 #[.agg #[.int .i64 N, .bool E, .slice A M.length c], .int .i64 u, .int .i64 v] w fun e w' => e = .returned (.bool true) ∧ Below w.heap.size w w' := by
  obtain ⟨W, hW, h1, hB, hs⟩ := one_box w 24 N E (.slice A M.length c)
  have hL : Lh w N E A c M W := ⟨h1, ha.go hB, hB⟩
  have cK := known14 W
  obtain ⟨k0, k1, k2⟩ := id h1
  clear ha h1 hB hs
  go_enter Try.func6, Try.ntmps6
  go_wp2_with fail
  rw [← hW]
  clear hW
  refine cK.mono ?_
  clear cK
  rintro e w1 ⟨rfl, hb1⟩
  have hL1 := hL.go hb1
  clear hL hb1 k0 k1 k2
  have cC := ref_Check A c N E M w1 hL1.oin
  obtain ⟨x1, hx1⟩ : ∃ x, x = chk N E M := ⟨_, rfl⟩
  rw [← hx1] at cC
  obtain ⟨k0, k1, k2⟩ := id hL1.box
  go_wp2_with fail
  refine cC.mono ?_
  clear cC
  rintro e w2 ⟨rfl, hb2⟩
  have hL2 := hL1.go hb2
  clear hL1 hb2 k0 k1 k2
  have hend := Lib.hid hL2.below
  obtain ⟨k0, k1, k2⟩ := id hL2.box
  by_cases hx0 : x1 = 0
  · have hd : (x1 != 0) = false := bne_eq_false_iff_eq.2 hx0
    have hc : chk N E M = 0 := by rw [← hx1]; exact hx0
    clear hx0
    obtain ⟨n, rfl, hn, _⟩ := chk_zero hc
    have HC := Lib.hid hc
    clear hx1 hc
    by_cases hu0 : u < 0
    · clear hL2
      go_wp2_with fail
      go_ret
      exact ⟨rfl, hend.out⟩
    · by_cases hv0 : v < 0
      · clear hL2
        go_wp2_with fail
        go_ret
        exact ⟨rfl, hend.out⟩
      · by_cases hu1 : u ≥ (n : Int)
        · clear hL2
          go_wp2_with fail
          go_ret
          exact ⟨rfl, hend.out⟩
        · by_cases hv1 : v ≥ (n : Int)
          · clear hL2
            go_wp2_with fail
            go_ret
            exact ⟨rfl, hend.out⟩
          · obtain ⟨r, hr⟩ : ∃ r, calmO ⟨n, E, A, c, M⟩ = r := ⟨_, rfl⟩
            have cM := law_calm1 ⟨n, E, A, c, M⟩ w2 hL2.oin hma r hr
            dsimp only at cM
            go_wp2_with fail
            refine cM.mono ?_
            clear cM
            rintro e w3 ⟨rfl, hb3⟩
            have hL3 := hL2.go hb3
            clear hL2 hb3 hend k0 k1 k2
            have hend := Lib.hid hL3.below
            obtain ⟨k0, k1, k2⟩ := id hL3.box
            rcases r with _ | _
            · clear hL3
              go_wp2_with fail
              go_ret
              exact ⟨rfl, hend.out⟩
            · have hs : (closeP n E M).1.2 = false := by
                unfold calmO at hr
                rw [Bool.and_eq_true] at hr
                simpa using hr.2
              have HS := Lib.hid hs
              obtain ⟨gu, hgu⟩ : ∃ g : Nat → Bool, g = fun x : Nat => decide ((x : Int) = u) := ⟨_, rfl⟩
              obtain ⟨gv, hgv⟩ : ∃ g : Nat → Bool, g = fun x : Nat => decide ((x : Int) = v) := ⟨_, rfl⟩
              have fu := fun (E : Bool) (M : List Int) (h : chk n E M = 0) => forgetR_in (v := u) h (by omega) (by omega)
              have fv := fun (E : Bool) (M : List Int) (h : chk n E M = 0) => forgetR_in (v := v) h (by omega) (by omega)
              rw [← hgu] at fu
              rw [← hgv] at fv
              obtain ⟨Pa, hPa⟩ : ∃ P, P = forgetP n E M gu := ⟨_, rfl⟩
              obtain ⟨Pc, hPc⟩ : ∃ P, P = forgetP n E M gv := ⟨_, rfl⟩
              have ka := forgetP_chk (g := gu) HC.out
              have kc := forgetP_chk (g := gv) HC.out
              have tw := forget_twice HC.out hs gu
              have cm := forget_comm HC.out hs gu gv
              rw [← hPa] at ka tw cm
              rw [← hPc] at kc cm
              have cA := order_Forget n E A c M u w3 hL3.oin hu hma 0 (fu E M HC.out).1 Pa ((fu E M HC.out).2.trans hPa.symm)
              have cCf := fun X (hX : Lh w n E A c M X) => order_Forget n E A c M v X hX.oin hv hma 0 (fv E M HC.out).1 Pc ((fv E M HC.out).2.trans hPc.symm)
              unfold TellsE at cA cCf
              clear hs hr hPa hPc
              obtain ⟨Na, Ea, Ma⟩ := Pa
              obtain ⟨Nc, Ec, Mc⟩ := Pc
              dsimp only at ka kc tw cm
              obtain ⟨rfl, ka⟩ := ka
              obtain ⟨rfl, kc⟩ := kc
              have la : (Ma.length : Int) ≤ 16384 := len_of_chk ka
              have lc : (Mc.length : Int) ≤ 16384 := len_of_chk kc
              obtain ⟨Pd, hPd⟩ : ∃ P, P = forgetP n Ea Ma gv := ⟨_, rfl⟩
              have kd := forgetP_chk (g := gv) ka
              rw [← hPd] at kd cm
              have cB := fun X A' c' (hX : OctIn X X.heap.size A' c' n Ma) => order_Forget n Ea A' c' Ma u X hX hu (by omega) 0 (fu Ea Ma ka).1 (n, Ea, Ma) ((fu Ea Ma ka).2.trans tw)
              have cD := fun X A' c' (hX : OctIn X X.heap.size A' c' n Ma) => order_Forget n Ea A' c' Ma v X hX hv (by omega) 0 (fv Ea Ma ka).1 Pd ((fv Ea Ma ka).2.trans hPd.symm)
              have cE := fun X A' c' (hX : OctIn X X.heap.size A' c' n Mc) => order_Forget n Ec A' c' Mc u X hX hu (by omega) 0 (fu Ec Mc kc).1 Pd ((fu Ec Mc kc).2.trans cm.symm)
              unfold TellsE at cB cD cE
              obtain ⟨Nd, Ed, Md⟩ := Pd
              dsimp only at kd
              obtain ⟨rfl, kd⟩ := kd
              have ld : (Md.length : Int) ≤ 16384 := len_of_chk kd
              have Ka := Lib.hid ka
              have Kc := Lib.hid kc
              clear hPd cm tw fu fv hgu hgv ka kc kd HS
              go_wp2_with fail
              with_reducible refine cA.mono ?_
              clear cA
              rintro e w4 ⟨A1, c1, rfl, ho1, hb4⟩
              dsimp only at ho1 ⊢
              obtain ⟨w5, hw5, hQ5, hb5⟩ := Oh.new (N := n) (E := Ea) ho1
              have hL5 := hL3.go (hb4.trans (hb5.mono hb4.size))
              clear hL3 hb4 hb5 ho1 k0 k1 k2 hend
              have hend := Lib.hid hL5.below
              obtain ⟨r2, hr2⟩ : ∃ r, calmO ⟨n, Ea, A1, c1, Ma⟩ = r := ⟨_, rfl⟩
              have cM := law_calm1 ⟨n, Ea, A1, c1, Ma⟩ w5 (hQ5.inn Ka.out) (by dsimp only; omega) r2 hr2
              dsimp only at cM
              obtain ⟨m0, m1, m2⟩ := id hQ5.box
              rw [hw5] at m0 m1 m2
              go_upto_region 6 with fail
              rw [← hw5]
              rw [← hw5] at m0 m1 m2
              clear hw5
              generalize w4.heap.size = b4 at *
              go_wp2_with fail
              refine cM.mono ?_
              clear cM hr2
              rintro e w6 ⟨rfl, hb6⟩
              have hL6 := hL5.go hb6
              have hQ6 := hQ5.go hb6
              clear hL5 hQ5 hb6 m0 m1 m2 hend
              have hend := Lib.hid hL6.below
              generalize w3.heap.size = e3 at *
              rcases r2 with _ | _
              · clear hL6 hQ6
                go_wp2_with fail
                go_ret
                exact ⟨rfl, hend.out⟩
              · obtain ⟨m0, m1, m2⟩ := id hQ6.box
                go_wp2_with fail
                with_reducible refine (cB _ _ _ (hQ6.inn Ka.out)).mono ?_
                clear cB
                rintro e w7 ⟨A2, c2, rfl, ho2, hb7⟩
                dsimp only at ho2 ⊢
                obtain ⟨w8, hw8, hQb, hb8⟩ := Oh.new (N := n) (E := Ea) ho2
                have hb78 := hb7.trans (hb8.mono hb7.size)
                have hL8 := hL6.go hb78
                have hQ8 := hQ6.go hb78
                clear hL6 hQ6 hb7 hb8 hb78 ho2 m0 m1 m2 hend
                have hend := Lib.hid hL8.below
                have cO := help_Oct n n Ea Ea A1 A2 c1 c2 Ma Ma w8 hQ8.row.rd hQb.row.rd (by omega) (by omega)
                rw [decide_eq_true ⟨rfl, rfl, rfl⟩] at cO
                obtain ⟨m0, m1, m2⟩ := id hQ8.box
                obtain ⟨n0, n1, n2⟩ := id hQb.box
                rw [hw8] at m0 m1 m2 n0 n1 n2
                go_upto_region 9 with fail
                rw [← hw8]
                rw [← hw8] at m0 m1 m2 n0 n1 n2
                clear hw8
                generalize w7.heap.size = b7 at *
                generalize w6.heap.size = e6 at *
                go_wp2_with fail
                refine cO.mono ?_
                clear cO
                rintro e w9 ⟨rfl, hb9⟩
                have hL9 := hL8.go hb9
                have hQ9 := hQ8.go hb9
                clear hL8 hQ8 hQb hb9 m0 m1 m2 n0 n1 n2 hend
                obtain ⟨k0, k1, k2⟩ := id hL9.box
                go_wp2_with fail
                with_reducible refine (cCf _ hL9).mono ?_
                clear cCf
                rintro e w10 ⟨A3, c3, rfl, ho3, hb10⟩
                dsimp only at ho3 ⊢
                obtain ⟨w11, hw11, hQc, hb11⟩ := Oh.new (N := n) (E := Ec) ho3
                have hb1011 := hb10.trans (hb11.mono hb10.size)
                have hL11 := hL9.go hb1011
                have hQ11 := hQ9.go hb1011
                clear hL9 hQ9 hb10 hb11 hb1011 ho3 k0 k1 k2
                have hend := Lib.hid hL11.below
                obtain ⟨r3, hr3⟩ : ∃ r, calmO ⟨n, Ec, A3, c3, Mc⟩ = r := ⟨_, rfl⟩
                have cM := law_calm1 ⟨n, Ec, A3, c3, Mc⟩ w11 (hQc.inn Kc.out) (by dsimp only; omega) r3 hr3
                dsimp only at cM
                obtain ⟨n0, n1, n2⟩ := id hQc.box
                rw [hw11] at n0 n1 n2
                go_upto_region 12 with fail
                rw [← hw11]
                rw [← hw11] at n0 n1 n2
                clear hw11
                generalize w10.heap.size = b10 at *
                generalize w9.heap.size = e9 at *
                go_wp2_with fail
                refine cM.mono ?_
                clear cM hr3
                rintro e w12 ⟨rfl, hb12⟩
                have hL12 := hL11.go hb12
                have hQ12 := hQ11.go hb12
                have hQc12 := hQc.go hb12
                clear hL11 hQ11 hQc hb12 n0 n1 n2 hend
                have hend := Lib.hid hL12.below
                rcases r3 with _ | _
                · clear hL12 hQ12 hQc12
                  go_wp2_with fail
                  go_ret
                  exact ⟨rfl, hend.out⟩
                · obtain ⟨m0, m1, m2⟩ := id hQ12.box
                  clear hend
                  go_wp2_with fail
                  with_reducible refine (cD _ _ _ (hQ12.inn Ka.out)).mono ?_
                  clear cD
                  rintro e w13 ⟨A4, c4, rfl, ho4, hb13⟩
                  dsimp only at ho4 ⊢
                  obtain ⟨w14, hw14, hQd, hb14⟩ := Oh.new (N := n) (E := Ed) ho4
                  have hb1314 := hb13.trans (hb14.mono hb13.size)
                  have hL14 := hL12.go hb1314
                  have hQc14 := hQc12.go hb1314
                  clear hL12 hQ12 hQc12 hb13 hb14 hb1314 ho4 m0 m1 m2
                  obtain ⟨n0, n1, n2⟩ := id hQc14.box
                  rw [hw14] at n0 n1 n2
                  go_upto_region 15 with fail
                  rw [← hw14]
                  rw [← hw14] at n0 n1 n2
                  clear hw14
                  generalize w13.heap.size = b13 at *
                  generalize w12.heap.size = e12 at *
                  go_wp2_with fail
                  with_reducible refine (cE _ _ _ (hQc14.inn Kc.out)).mono ?_
                  clear cE
                  rintro e w15 ⟨A5, c5, rfl, ho5, hb15⟩
                  dsimp only at ho5 ⊢
                  obtain ⟨w16, hw16, hQe, hb16⟩ := Oh.new (N := n) (E := Ed) ho5
                  have hb1516 := hb15.trans (hb16.mono hb15.size)
                  have hL16 := hL14.go hb1516
                  have hQd16 := hQd.go hb1516
                  clear hL14 hQc14 hQd hb15 hb16 hb1516 ho5 n0 n1 n2
                  have cO := help_Oct n n Ed Ed A4 A5 c4 c5 Md Md w16 hQd16.row.rd hQe.row.rd (by omega) (by omega)
                  rw [decide_eq_true ⟨rfl, rfl, rfl⟩] at cO
                  obtain ⟨m0, m1, m2⟩ := id hQd16.box
                  obtain ⟨n0, n1, n2⟩ := id hQe.box
                  rw [hw16] at m0 m1 m2 n0 n1 n2
                  go_upto_region 16 with fail
                  rw [← hw16]
                  rw [← hw16] at m0 m1 m2 n0 n1 n2
                  clear hw16
                  go_wp2_with fail
                  refine cO.mono ?_
                  clear cO
                  rintro e w17 ⟨rfl, hb17⟩
                  have hend := Lib.hid (hL16.go hb17).below
                  clear hb17 hL16 hQd16 hQe m0 m1 m2 n0 n1 n2
                  go_wp2_with fail
                  go_ret
                  exact ⟨rfl, hend.out⟩
  · have hd : (x1 != 0) = true := bne_iff_ne.2 hx0
    clear hL2 hx0 hx1
    go_wp2_with fail
    go_ret
    exact ⟨rfl, hend.out⟩
end Go.Proofs.Ytkgddgckilledaa

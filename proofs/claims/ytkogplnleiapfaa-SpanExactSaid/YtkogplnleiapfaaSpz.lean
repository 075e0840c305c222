/- The walk of the statement SpanExact. -/
import Derived.Test.YtkogplnleiapfaaSpe
namespace Go.Proofs.Ytkogplnleiapfaa
open Go.RowKit
set_option linter.unusedVariables false
set_option linter.unusedSimpArgs false
open Gn
set_option maxRecDepth 100000 in
set_option maxHeartbeats 16000000 in
theorem law_SpanExact (N : Int) (E : Bool) (A : Option Addr) (c : Nat) (M : List Int) (u v : Int) (l0 u0 : Int) (w : World) (ho : OctIn w w.heap.size A c N M) (hM : (M.length : Int) ≤ 17592186043904) :
    Calls Try.prog 8 #[.agg #[.int .i64 N, .bool E, .slice A M.length c], .int .i64 u, .int .i64 v, .agg #[.int .i64 l0, .int .i64 u0]] w fun e w' => e = .returned (.bool true) ∧ Below w.heap.size w w' := by
  obtain ⟨P, hP⟩ : ∃ P, closeP N E M = P := ⟨_, rfl⟩
  obtain ⟨W, hW, k, o0, o1, hL, hs⟩ := oct_op w 24 57 N E (.slice A M.length c) l0 u0
  have F : Fo w ⟨N, E, A, c, M⟩ l0 u0 W := ⟨k, ho.go hL, o0, o1, hL⟩
  obtain ⟨f, hf⟩ : ∃ f, askE N E M [u] = f := ⟨_, rfl⟩
  obtain ⟨g, hg⟩ : ∃ g, askE N E M [v] = g := ⟨_, rfl⟩
  obtain ⟨b, hb⟩ : ∃ b, askE N E M [u, v] = b := ⟨_, rfl⟩
  obtain ⟨h, hh⟩ : ∃ h, opE N E M l0 = h := ⟨_, rfl⟩
  have cK := known15 W
  have cF := fun (X : World) (F : Fo w ⟨N, E, A, c, M⟩ l0 u0 X) => ref15_There N E A c M u X F.oin f hf
  have cG := fun (X : World) (F : Fo w ⟨N, E, A, c, M⟩ l0 u0 X) => ref15_There N E A c M v X F.oin g hg
  have cC := fun (X : World) (F : Fo w ⟨N, E, A, c, M⟩ l0 u0 X) => ref13_Close N E A c M X F.oin hM P hP
  obtain ⟨a1, ha1⟩ : ∃ a, ansP half N E M [u] (2 * u).toNat (2 * u + 1).toNat = a := ⟨_, rfl⟩
  obtain ⟨a2, ha2⟩ : ∃ a, ansP (fun a => a) N E M [u, v] (2 * u).toNat (2 * v + 1).toNat = a := ⟨_, rfl⟩
  obtain ⟨a3, ha3⟩ : ∃ a, ansP (fun a => a) N E M [u, v] (2 * u).toNat (2 * v).toNat = a := ⟨_, rfl⟩
  obtain ⟨a4, ha4⟩ : ∃ a, opP N E M l0 u0 = a := ⟨_, rfl⟩
  have d1 := fun (X : World) (F : Fo w ⟨N, E, A, c, M⟩ l0 u0 X) => span_Var ⟨N, E, A, c, M⟩ u X F.oin hM a1 ha1
  have d2 := fun (X : World) (F : Fo w ⟨N, E, A, c, M⟩ l0 u0 X) => span_Sum ⟨N, E, A, c, M⟩ u v X F.oin hM a2 ha2
  have d3 := fun (X : World) (F : Fo w ⟨N, E, A, c, M⟩ l0 u0 X) => span_Diff ⟨N, E, A, c, M⟩ u v X F.oin hM a3 ha3
  have d4 := fun (X : World) (F : Fo w ⟨N, E, A, c, M⟩ l0 u0 X) => span_Operand ⟨N, E, A, c, M⟩ l0 u0 X F.oin hM a4 ha4
  obtain ⟨⟨⟨Nc, Ec, Mc⟩, sc⟩, ec⟩ := P
  unfold TellsCl at cC
  dsimp only at cC d1 d2 d3 d4
  obtain ⟨i, hi⟩ : ∃ i, innB ec Ec = i := ⟨_, rfl⟩
  obtain ⟨x, hx⟩ : ∃ x, (if i = true ∧ f = 0 then sidesR (half (cl (2 * N.toNat) Mc (2 * u).toNat (2 * u + 1).toNat)) (half (cl (2 * N.toNat) Mc (ac (2 * u).toNat) (ac (2 * u + 1).toNat))) else Rg.none) = x := ⟨_, rfl⟩
  obtain ⟨s, hs'⟩ : ∃ s, (if i = true ∧ b = 0 then sidesR (cl (2 * N.toNat) Mc (2 * u).toNat (2 * v + 1).toNat) (cl (2 * N.toNat) Mc (ac (2 * u).toNat) (ac (2 * v + 1).toNat)) else Rg.none) = s := ⟨_, rfl⟩
  obtain ⟨d, hd'⟩ : ∃ d, (if i = true ∧ b = 0 then sidesR (cl (2 * N.toNat) Mc (2 * u).toNat (2 * v).toNat) (cl (2 * N.toNat) Mc (ac (2 * u).toNat) (ac (2 * v).toNat)) else Rg.none) = d := ⟨_, rfl⟩
  obtain ⟨p, hp⟩ : ∃ p, (if i = true ∧ h = 0 then opR N Mc l0 u0 else Rg.none) = p := ⟨_, rfl⟩
  have t1 := fun X => told_ans a1 x i f X (fun k => by rw [← ha1, ansP_no hP (by rw [hf, hi]; exact k), hf]) (fun k1 k2 => by rw [← ha1, ansP_yes hP (by rw [hf]; exact k1) (by rw [hi]; exact k2), ← hx, if_pos ⟨k2, k1⟩])
  have t2 := fun X => told_ans a2 s i b X (fun k => by rw [← ha2, ansP_no hP (by rw [hb, hi]; exact k), hb]) (fun k1 k2 => by rw [← ha2, ansP_yes hP (by rw [hb]; exact k1) (by rw [hi]; exact k2), ← hs', if_pos ⟨k2, k1⟩])
  have t3 := fun X => told_ans a3 d i b X (fun k => by rw [← ha3, ansP_no hP (by rw [hb, hi]; exact k), hb]) (fun k1 k2 => by rw [← ha3, ansP_yes hP (by rw [hb]; exact k1) (by rw [hi]; exact k2), ← hd', if_pos ⟨k2, k1⟩])
  have t4 := fun X => told_ans a4 p i h X (fun k => by rw [← ha4, opP_no hP (by rw [hh, hi]; exact k), hh]) (fun k1 k2 => by rw [← ha4, opP_yes hP (by rw [hh]; exact k1) (by rw [hi]; exact k2), ← hp, if_pos ⟨k2, k1⟩])
  have HB : Hid (b = if f = 0 then g else f) := Lib.hid (by rw [← hb, ← hf, ← hg]; exact both_ask)
  have HH : Hid (h = if ec = 0 ∧ N ≤ l0 then 122 else ec) := Lib.hid (by rw [← hh]; unfold opE; rw [closeP_chkE hP])
  have HI := Lib.hid hi
  have HC : Hid (i = true → Nc = N ∧ Ec = false ∧ chk Nc Ec Mc = 0) := Lib.hid (fun k => by have := closeP_in hP (hi.trans k); exact this.2)
  have HF : Hid (f = 0 → 0 ≤ u ∧ u < N) := Lib.hid (fun k => inB_one (askE_zero (hf.trans k)).2)
  have HU : Hid (b = 0 → (0 ≤ u ∧ u < N) ∧ 0 ≤ v ∧ v < N) := Lib.hid (fun k => inB_two (askE_zero (hb.trans k)).2)
  have HO : Hid (h = 0 → l0 < N) := Lib.hid (fun k => opE_lt (hh.trans k))
  have HX := Lib.hid hx
  have HS := Lib.hid hs'
  have HD := Lib.hid hd'
  have HP := Lib.hid hp
  have HM := Lib.hid hM
  clear hP hf hg hb hh ha1 ha2 ha3 ha4 hi hx hs' hd' hp hM ho hL hs
  obtain ⟨k0, k1, k2⟩ := id k
  go_enter Try.func8, Try.ntmps8
  rw [hW] at k0 k1 k2 o0 o1
  go_wp2_with fail
  rw [← hW]
  clear hW k0 k1 k2 o0 o1 k
  with_reducible refine cK.mono ?_
  clear cK
  rintro e w1 ⟨rfl, hb1⟩
  replace F := F.go hb1
  clear hb1
  obtain ⟨k0, k1, k2⟩ := id F.ob
  go_wp2_with fail
  with_reducible refine (cF _ F).mono ?_
  clear cF k0 k1 k2
  rintro e w2 ⟨rfl, hb1⟩
  replace F := F.go hb1
  clear hb1
  obtain ⟨k0, k1, k2⟩ := id F.ob
  go_wp2_with fail
  with_reducible refine (cG _ F).mono ?_
  clear cG k0 k1 k2
  rintro e w3 ⟨rfl, hb1⟩
  replace F := F.go hb1
  clear hb1
  obtain ⟨k0, k1, k2⟩ := id F.ob
  go_wp2_with fail
  with_reducible refine (cC _ F).mono ?_
  clear cC k0 k1 k2
  rintro e w4 ⟨A2, c2, rfl, hOw, hb1⟩
  replace F := F.go hb1
  dsimp only at hOw ⊢
  clear hb1
  obtain ⟨w5, hw5⟩ : ∃ X, X = w4.alloc (.cells #[.int .i64 Nc, .bool Ec, .slice A2 Mc.length c2] 24) := ⟨_, rfl⟩
  have hb5 : Below w4.heap.size w4 w5 := by rw [hw5]; exact (Below.refl _ _).alloc (Nat.le_refl _) _
  have X5 : Fx w ⟨N, E, A, c, M⟩ l0 u0 i w4.heap.size ⟨Nc, Ec, A2, c2, Mc⟩ w5 := ⟨F.go hb5, by rw [hw5]; exact OctAt.box _ _ _ _ _, fun q => ((hOw.oct (chk_i64 (HC.out q).2.2) (chk_ints (HC.out q).2.2)).go hb5)⟩
  clear F hOw hb5
  obtain ⟨l0c, l1c, l2c⟩ := id X5.cb
  rw [hw5] at l0c l1c l2c
  go_upto_region 6 with fail
  rw [← hw5] at l0c l1c l2c ⊢
  clear hw5
  have HV : Hid (i = ((ec == 0) && !Ec)) := Lib.hid (by rw [← HI.out]; unfold innB; rw [Bool.eq_iff_iff]; simp)
  go_cut [14] (fun s14 wx => s14 = .bool i ∧ w5 = wx)
  case first =>
    clear d1 d2 d3 d4 t1 t2 t3 t4 HB HH HC HF HU HO HX HS HD HP X5 HI
    rcases Ec with _ | _ <;> rcases hq : (ec == 0) with _ | _
    all_goals
      go_wp2_with fail
      go_meet
      exact ⟨by rw [HV.out, hq]; rfl, rfl⟩
  case rest =>
    obtain ⟨rfl, rfl⟩ := hcut
    clear l0c l1c l2c HV HI
    go_upto_region 8 with fail
    obtain ⟨Y, hY, T⟩ := St.new 50 X5
    rw [← hY]
    clear hY
    go_upto_if 47 with fail
    go_cut [19] (fun s19 wx => s19 = .int .i64 b ∧ Y = wx)
    case first =>
      clear d1 d2 d3 d4 t1 t2 t3 t4 HH HC HF HU HO HX HS HD HP X5 T
      by_cases hf : f = 0
      · have q : (f == 0) = true := beq_iff_eq.2 hf
        have HV := Lib.hid (show b = g by rw [HB.out, if_pos hf])
        clear hf HB
        go_wp2_with fail
        go_meet
        exact ⟨by rw [HV.out], rfl⟩
      · have q : (f == 0) = false := beq_eq_false_iff_ne.2 hf
        have HV := Lib.hid (show b = f by rw [HB.out, if_neg hf])
        clear hf HB
        go_wp2_with fail
        go_meet
        exact ⟨by rw [HV.out], rfl⟩
    case rest =>
      obtain ⟨rfl, rfl⟩ := hcut
      clear HB
      obtain ⟨z, hz⟩ : ∃ z, (i && (f == 0)) = z := ⟨_, rfl⟩
      have HZ := Lib.hid hz
      clear hz
      go_upto_region 11 with fail
      go_cut [53] (fun s53 wx => s53 = .bool z ∧ Y = wx)
      case first =>
        clear d1 d2 d3 d4 t1 t2 t3 t4 HH HC HF HU HO HX HS HD HP X5 T
        rcases i with _ | _ <;> rcases hq : (f == 0) with _ | _
        all_goals
          go_wp2_with fail
          go_meet
          exact ⟨by rw [← HZ.out, hq]; rfl, rfl⟩
      case rest =>
        obtain ⟨rfl, rfl⟩ := hcut
        go_upto_if 53 with fail
        go_cut [] (fun wx => St w ⟨N, E, A, c, M⟩ l0 u0 i w4.heap.size ⟨Nc, Ec, A2, c2, Mc⟩ w5 x Rg.none Rg.none Rg.none wx)
        case first =>
          clear d1 d2 d3 d4 t1 t2 t3 t4 HH HU HO HS HD HP X5
          rcases z with _ | _
          · have HV := Lib.hid (show x = Rg.none by rw [← HX.out, if_neg (fun k => by have := HZ.out; rw [k.1, k.2] at this; cases this)])
            have HT := Lib.hid T
            clear HX HZ HC HF T
            go_wp2_with fail
            go_meet
            rw [HV.out]
            exact HT.out
          · have hi : i = true ∧ f = 0 := by simpa using HZ.out
            have e := HC.out hi.1
            have cX := ref15_VarI Nc Ec A2 c2 Mc u Y (T.fx.cin hi.1) e.2.1 e.2.2 (by rw [e.1]; exact HF.out hi.2) x (by rw [e.1]; have := HX.out; rw [if_pos hi] at this; exact this)
            obtain ⟨k0, k1, k2⟩ := id T.fx.cb
            dsimp only at k0 k1 k2
            clear hi e HX HZ HC HF
            go_wp2_with fail
            with_reducible refine cX.mono ?_
            clear cX
            rintro e wz ⟨rfl, hb1⟩
            have HT := Lib.hid ((T.go hb1).putx x)
            obtain ⟨r0, r1, r2, r3, rf⟩ := id (T.go hb1).bx
            clear k0 k1 k2 T hb1
            go_wp2_with fail
            go_meet
            exact HT.out
        case rest =>
          clear T HX HF
          have T := hcut
          clear hcut HZ
          obtain ⟨Y1, hYY⟩ : ∃ Y, Y = wc := ⟨_, rfl⟩
          subst hYY
          obtain ⟨z1, hz⟩ : ∃ z, (i && (b == 0)) = z := ⟨_, rfl⟩
          have HZ := Lib.hid hz
          clear hz
          go_upto_region 13 with fail
          go_cut [61] (fun s61 wx => s61 = .bool z1 ∧ Y1 = wx)
          case first =>
            clear d1 d2 d3 d4 t1 t2 t3 t4 HH HC HU HO HS HD HP X5 T
            rcases i with _ | _ <;> rcases hq : (b == 0) with _ | _
            all_goals
              go_wp2_with fail
              go_meet
              exact ⟨by rw [← HZ.out, hq]; rfl, rfl⟩
          case rest =>
            obtain ⟨rfl, rfl⟩ := hcut
            go_upto_if 61 with fail
            go_cut [] (fun wx => St w ⟨N, E, A, c, M⟩ l0 u0 i w4.heap.size ⟨Nc, Ec, A2, c2, Mc⟩ w5 x s d Rg.none wx)
            case first =>
              clear d1 d2 d3 d4 t1 t2 t3 t4 HH HO HP X5
              rcases z1 with _ | _
              · have HV := Lib.hid (show s = Rg.none by rw [← HS.out, if_neg (fun k => by have := HZ.out; rw [k.1, k.2] at this; cases this)])
                have HV2 := Lib.hid (show d = Rg.none by rw [← HD.out, if_neg (fun k => by have := HZ.out; rw [k.1, k.2] at this; cases this)])
                have HT := Lib.hid T
                clear HS HD HZ HC HU T
                go_wp2_with fail
                go_meet
                rw [HV.out, HV2.out]
                exact HT.out
              · have hi : i = true ∧ b = 0 := by simpa using HZ.out
                have e := HC.out hi.1
                have cS := ref15_SumI Nc Ec A2 c2 Mc u v Y1 (T.fx.cin hi.1) e.2.1 e.2.2 (by rw [e.1]; exact (HU.out hi.2).1) (by rw [e.1]; exact (HU.out hi.2).2) s (by rw [e.1]; have := HS.out; rw [if_pos hi] at this; exact this)
                have cD := fun X (T : St w ⟨N, E, A, c, M⟩ l0 u0 i w4.heap.size ⟨Nc, Ec, A2, c2, Mc⟩ w5 x s Rg.none Rg.none X) => ref15_DiffI Nc Ec A2 c2 Mc u v X (T.fx.cin hi.1) e.2.1 e.2.2 (by rw [e.1]; exact (HU.out hi.2).1) (by rw [e.1]; exact (HU.out hi.2).2) d (by rw [e.1]; have := HD.out; rw [if_pos hi] at this; exact this)
                obtain ⟨k0, k1, k2⟩ := id T.fx.cb
                dsimp only at k0 k1 k2
                clear hi e HS HD HZ HC HU
                go_wp2_with fail
                with_reducible refine cS.mono ?_
                clear cS
                rintro e wz ⟨rfl, hb1⟩
                have HT := Lib.hid ((T.go hb1).puts s)
                obtain ⟨r0, r1, r2, r3, rf⟩ := id (T.go hb1).bs
                clear k0 k1 k2 T hb1
                go_upto_region 15 with fail
                have T := HT.out
                clear HT r0 r1 r2 r3 rf
                generalize ((((wz.setCell ⟨w5.heap.size + 1, 0, none⟩ (.int .i64 s.lo)).setCell ⟨w5.heap.size + 1, 1, none⟩ (.int .i64 s.hi)).setCell ⟨w5.heap.size + 1, 2, none⟩ (.bool s.hl)).setCell ⟨w5.heap.size + 1, 3, none⟩ (.bool s.hh)) = wy at *
                obtain ⟨k0, k1, k2⟩ := id T.fx.cb
                dsimp only at k0 k1 k2
                go_wp2_with fail
                with_reducible refine (cD _ T).mono ?_
                clear cD
                rintro e wv ⟨rfl, hb1⟩
                have HT := Lib.hid ((T.go hb1).putd d)
                obtain ⟨r0, r1, r2, r3, rf⟩ := id (T.go hb1).bd
                clear k0 k1 k2 T hb1
                go_wp2_with fail
                go_meet
                exact HT.out
            case rest =>
              clear T HS HD HU
              have T := hcut
              clear hcut HZ
              obtain ⟨Y2, hYY⟩ : ∃ Y, Y = wc := ⟨_, rfl⟩
              subst hYY
              obtain ⟨z2, hz⟩ : ∃ z, ((ec == 0) && decide (l0 ≥ N)) = z := ⟨_, rfl⟩
              have HZ := Lib.hid hz
              clear hz
              go_upto_region 17 with fail
              go_cut [79] (fun s79 wx => s79 = .bool z2 ∧ Y2 = wx)
              case first =>
                obtain ⟨k0, k1, k2⟩ := id T.fx.fo.ob
                have q0 := T.fx.fo.p0
                dsimp only at k0 k1 k2
                clear d1 d2 d3 d4 t1 t2 t3 t4 HH HC HO HP X5 T
                rcases hq : (ec == 0) with _ | _ <;> rcases hq2 : (decide (l0 ≥ N)) with _ | _
                all_goals
                  go_wp2_with fail
                  go_meet
                  exact ⟨by rw [← HZ.out, hq, hq2]; rfl, rfl⟩
              case rest =>
                obtain ⟨rfl, rfl⟩ := hcut
                go_upto_if 79 with fail
                go_cut [20] (fun s20 wx => s20 = .int .i64 h ∧ Y2 = wx)
                case first =>
                  clear d1 d2 d3 d4 t1 t2 t3 t4 HC HO HP X5 T
                  rcases z2 with _ | _
                  · have HV := Lib.hid (show h = ec by rw [HH.out, if_neg (fun k => by have := HZ.out; rw [k.1] at this; simp at this; omega)])
                    clear HH HZ
                    go_wp2_with fail
                    go_meet
                    exact ⟨by rw [HV.out], rfl⟩
                  · have HV := Lib.hid (show h = 122 by rw [HH.out, if_pos (by have := HZ.out; simp at this; omega)])
                    clear HH HZ
                    go_wp2_with fail
                    go_meet
                    exact ⟨by rw [HV.out], rfl⟩
                case rest =>
                  obtain ⟨rfl, rfl⟩ := hcut
                  clear HH HZ
                  obtain ⟨z3, hz⟩ : ∃ z, (i && (h == 0)) = z := ⟨_, rfl⟩
                  have HZ := Lib.hid hz
                  clear hz
                  go_upto_region 19 with fail
                  go_cut [84] (fun s84 wx => s84 = .bool z3 ∧ Y2 = wx)
                  case first =>
                    clear d1 d2 d3 d4 t1 t2 t3 t4 HC HO HP X5 T
                    rcases i with _ | _ <;> rcases hq : (h == 0) with _ | _
                    all_goals
                      go_wp2_with fail
                      go_meet
                      exact ⟨by rw [← HZ.out, hq]; rfl, rfl⟩
                  case rest =>
                    obtain ⟨rfl, rfl⟩ := hcut
                    go_upto_if 84 with fail
                    go_cut [] (fun wx => St w ⟨N, E, A, c, M⟩ l0 u0 i w4.heap.size ⟨Nc, Ec, A2, c2, Mc⟩ w5 x s d p wx)
                    case first =>
                      clear d1 d2 d3 d4 t1 t2 t3 t4 X5
                      rcases z3 with _ | _
                      · have HV := Lib.hid (show p = Rg.none by rw [← HP.out, if_neg (fun k => by have := HZ.out; rw [k.1, k.2] at this; cases this)])
                        have HT := Lib.hid T
                        clear HP HZ HC HO T
                        go_wp2_with fail
                        go_meet
                        rw [HV.out]
                        exact HT.out
                      · have hi : i = true ∧ h = 0 := by simpa using HZ.out
                        have e := HC.out hi.1
                        have cO := ref15_OperandI Nc Ec A2 c2 Mc l0 u0 Y2 (T.fx.cin hi.1) e.2.1 e.2.2 (by rw [e.1]; exact HO.out hi.2) p (by rw [e.1]; have := HP.out; rw [if_pos hi] at this; exact this)
                        obtain ⟨k0, k1, k2⟩ := id T.fx.cb
                        have q0 := T.fx.fo.p0
                        have q1 := T.fx.fo.p1
                        dsimp only at k0 k1 k2
                        clear hi e HP HZ HC HO
                        go_wp2_with fail
                        with_reducible refine cO.mono ?_
                        clear cO
                        rintro e wz ⟨rfl, hb1⟩
                        have HT := Lib.hid ((T.go hb1).putp p)
                        obtain ⟨r0, r1, r2, r3, rf⟩ := id (T.go hb1).bp
                        clear k0 k1 k2 q0 q1 T hb1
                        go_wp2_with fail
                        go_meet
                        exact HT.out
                    case rest =>
                      clear T HP HC HO HZ X5
                      have T := hcut
                      clear hcut
                      obtain ⟨Y3, hYY⟩ : ∃ Y, Y = wc := ⟨_, rfl⟩
                      subst hYY
                      obtain ⟨k0, k1, k2⟩ := id T.fx.fo.ob
                      dsimp only at k0 k1 k2
                      go_wp2_with fail
                      with_reducible refine (d1 _ T.fx.fo).mono ?_
                      clear d1
                      rintro e w8 ⟨rfl, hb1⟩
                      replace T := T.go hb1
                      clear hb1 k0 k1 k2
                      have Hlt := Lib.hid T.bp.lt
                      obtain ⟨w9, hw9⟩ : ∃ X, X = w8.alloc (.cells #[.int .i64 a1.r.lo, .int .i64 a1.r.hi, .bool a1.r.hl, .bool a1.r.hh] 50) := ⟨_, rfl⟩
                      have hb9 : Below w8.heap.size w8 w9 := by rw [hw9]; exact (Below.refl _ _).alloc (Nat.le_refl _) _
                      have R : RgBox w9 w8.heap.size a1.r.lo a1.r.hi a1.r.hl a1.r.hh := by rw [hw9]; exact RgBox.new _ _ _ _ _ _
                      replace T := T.go hb9
                      clear hb9
                      go_upto_region 22 with fail
                      rw [← hw9]
                      clear hw9
                      obtain ⟨r0, r1, r2, r3, rf⟩ := id R
                      obtain ⟨q0, q1, q2, q3, qf⟩ := id T.bx
                      go_wp2_with fail
                      with_reducible refine (t1 _).mono ?_
                      clear t1 r0 r1 r2 r3 rf q0 q1 q2 q3 qf
                      rintro e w10 ⟨rfl, hb1⟩
                      replace T := T.go hb1
                      replace R := R.go hb1
                      clear hb1
                      obtain ⟨k0, k1, k2⟩ := id T.fx.fo.ob
                      dsimp only at k0 k1 k2
                      go_wp2_with fail
                      with_reducible refine (d2 _ T.fx.fo).mono ?_
                      clear d2 k0 k1 k2
                      rintro e v1 ⟨rfl, hb1⟩
                      replace T := (T.go hb1).puto Hlt.out (.int .i64 a2.r.lo) (.int .i64 a2.r.hi) (.bool a2.r.hl) (.bool a2.r.hh)
                      obtain ⟨r0, r1, r2, r3, rf⟩ := id (R.go hb1)
                      replace R := (R.go hb1).put a2.r.lo a2.r.hi a2.r.hl a2.r.hh
                      clear hb1
                      have HT := Lib.hid T
                      have HR := Lib.hid R
                      clear T R
                      go_upto_region 25 with fail
                      have T := HT.out
                      have R := HR.out
                      clear HT HR r0 r1 r2 r3 rf
                      generalize ((((v1.setCell ⟨w8.heap.size, 0, none⟩ (.int .i64 a2.r.lo)).setCell ⟨w8.heap.size, 1, none⟩ (.int .i64 a2.r.hi)).setCell ⟨w8.heap.size, 2, none⟩ (.bool a2.r.hl)).setCell ⟨w8.heap.size, 3, none⟩ (.bool a2.r.hh)) = x1 at *
                      obtain ⟨r0, r1, r2, r3, rf⟩ := id R
                      obtain ⟨q0, q1, q2, q3, qf⟩ := id T.bs
                      go_wp2_with fail
                      with_reducible refine (t2 _).mono ?_
                      clear t2 r0 r1 r2 r3 rf q0 q1 q2 q3 qf
                      rintro e y1 ⟨rfl, hb1⟩
                      replace T := T.go hb1
                      replace R := R.go hb1
                      clear hb1
                      obtain ⟨k0, k1, k2⟩ := id T.fx.fo.ob
                      dsimp only at k0 k1 k2
                      go_wp2_with fail
                      with_reducible refine (d3 _ T.fx.fo).mono ?_
                      clear d3 k0 k1 k2
                      rintro e v2 ⟨rfl, hb1⟩
                      replace T := (T.go hb1).puto Hlt.out (.int .i64 a3.r.lo) (.int .i64 a3.r.hi) (.bool a3.r.hl) (.bool a3.r.hh)
                      obtain ⟨r0, r1, r2, r3, rf⟩ := id (R.go hb1)
                      replace R := (R.go hb1).put a3.r.lo a3.r.hi a3.r.hl a3.r.hh
                      clear hb1
                      have HT := Lib.hid T
                      have HR := Lib.hid R
                      clear T R
                      go_upto_region 28 with fail
                      have T := HT.out
                      have R := HR.out
                      clear HT HR r0 r1 r2 r3 rf
                      generalize ((((v2.setCell ⟨w8.heap.size, 0, none⟩ (.int .i64 a3.r.lo)).setCell ⟨w8.heap.size, 1, none⟩ (.int .i64 a3.r.hi)).setCell ⟨w8.heap.size, 2, none⟩ (.bool a3.r.hl)).setCell ⟨w8.heap.size, 3, none⟩ (.bool a3.r.hh)) = x2 at *
                      obtain ⟨r0, r1, r2, r3, rf⟩ := id R
                      obtain ⟨q0, q1, q2, q3, qf⟩ := id T.bd
                      go_wp2_with fail
                      with_reducible refine (t3 _).mono ?_
                      clear t3 r0 r1 r2 r3 rf q0 q1 q2 q3 qf
                      rintro e y2 ⟨rfl, hb1⟩
                      replace T := T.go hb1
                      replace R := R.go hb1
                      clear hb1
                      obtain ⟨k0, k1, k2⟩ := id T.fx.fo.ob
                      have q0 := T.fx.fo.p0
                      have q1 := T.fx.fo.p1
                      dsimp only at k0 k1 k2
                      go_wp2_with fail
                      with_reducible refine (d4 _ T.fx.fo).mono ?_
                      clear d4 k0 k1 k2 q0 q1
                      rintro e v3 ⟨rfl, hb1⟩
                      replace T := (T.go hb1).puto Hlt.out (.int .i64 a4.r.lo) (.int .i64 a4.r.hi) (.bool a4.r.hl) (.bool a4.r.hh)
                      obtain ⟨r0, r1, r2, r3, rf⟩ := id (R.go hb1)
                      replace R := (R.go hb1).put a4.r.lo a4.r.hi a4.r.hl a4.r.hh
                      clear hb1
                      have HT := Lib.hid T
                      have HR := Lib.hid R
                      clear T R
                      go_upto_region 31 with fail
                      have T := HT.out
                      have R := HR.out
                      clear HT HR r0 r1 r2 r3 rf
                      generalize ((((v3.setCell ⟨w8.heap.size, 0, none⟩ (.int .i64 a4.r.lo)).setCell ⟨w8.heap.size, 1, none⟩ (.int .i64 a4.r.hi)).setCell ⟨w8.heap.size, 2, none⟩ (.bool a4.r.hl)).setCell ⟨w8.heap.size, 3, none⟩ (.bool a4.r.hh)) = x3 at *
                      obtain ⟨r0, r1, r2, r3, rf⟩ := id R
                      obtain ⟨q0, q1, q2, q3, qf⟩ := id T.bp
                      go_wp2_with fail
                      with_reducible refine (t4 _).mono ?_
                      clear t4 r0 r1 r2 r3 rf q0 q1 q2 q3 qf
                      rintro e y3 ⟨rfl, hb1⟩
                      replace T := T.go hb1
                      replace R := R.go hb1
                      clear hb1
                      go_wp2_with fail
                      go_ret
                      exact ⟨rfl, T.fx.fo.below⟩
end Go.Proofs.Ytkogplnleiapfaa

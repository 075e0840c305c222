/- The law OrderPoints. -/
import Derived.Test.YtkgddgckilledaaOpp
import Derived.Test.YtkgddgckilledaaFgl
import Derived.Deep.DeepCutAuto
namespace Go.Proofs.Ytkgddgckilledaa
open Go.RowKit
set_option linter.unusedVariables false
set_option linter.unusedSimpArgs false
open Gn
/-- What the law holds: two octagons in their boxes, and a point. -/
structure Lp (w : World) (Na : Int) (Ea : Bool) (A : Option Addr) (ca : Nat) (Ma : List Int) (Nb : Int) (Eb : Bool) (B : Option Addr) (cb : Nat) (Mb : List Int) (AX : Option Addr) (x : List Int) (W : World) : Prop where
  a : OctAt W w.heap.size Na Ea (.slice A Ma.length ca)
  b : OctAt W (w.heap.size + 1) Nb Eb (.slice B Mb.length cb)
  ia : OctIn W W.heap.size A ca Na Ma
  ib : OctIn W W.heap.size B cb Nb Mb
  rx : Rd W W.heap.size .i64 AX x.length (nth x)
  below : Below w.heap.size w W
theorem Lp.go {w W W' : World} {Na : Int} {Ea : Bool} {A : Option Addr} {ca : Nat} {Ma : List Int} {Nb : Int} {Eb : Bool} {B : Option Addr} {cb : Nat} {Mb : List Int} {AX : Option Addr} {x : List Int} (h : Lp w Na Ea A ca Ma Nb Eb B cb Mb AX x W) (hb : Below W.heap.size W W') : Lp w Na Ea A ca Ma Nb Eb B cb Mb AX x W' :=
  ⟨h.a.below hb, h.b.below hb, h.ia.go hb, h.ib.go hb, (h.rx.below hb).more hb.size, h.below.trans (hb.mono h.below.size)⟩
theorem Oh.oin {W : World} {b base : Nat} {P : Int × Bool × List Int} {A : Option Addr} {c : Nat} (h : Oh b base P A c W) (hc : chk P.1 P.2.1 P.2.2 = 0) : OctIn W W.heap.size A c P.1 P.2.2 :=
  h.row.oct (by obtain ⟨n, hn, h64, _⟩ := chk_zero hc; rw [hn]; unfold I64; omega) (chk_ints hc)
set_option maxRecDepth 100000 in
set_option maxHeartbeats 16000000 in
theorem law_OrderPoints (Na : Int) (Ea : Bool) (A : Option Addr) (ca : Nat) (Ma : List Int) (Nb : Int) (Eb : Bool) (B : Option Addr) (cb : Nat) (Mb : List Int) (AX : Option Addr) (cX : Nat) (x : List Int) (v m : Int) (w : World) (ha : OctIn w w.heap.size A ca Na Ma) (hb : OctIn w w.heap.size B cb Nb Mb) (hma : (Ma.length : Int) ≤ 17592186043904) (hmb : (Mb.length : Int) ≤ 17592186043904)
    (hr : Rd w w.heap.size .i64 AX x.length (nth x)) (hxi : ∀ u ∈ x, I64 u) (hxm : (x.length : Int) ≤ 9223372036854775807) (hv : I64 v) (hm : I64 m) :
    Calls Try.prog 8 #[.agg #[.int .i64 Na, .bool Ea, .slice A Ma.length ca], .agg #[.int .i64 Nb, .bool Eb, .slice B Mb.length cb], .slice AX x.length cX, .int .i64 v, .int .i64 m] w fun e w' => e = .returned (.bool true) ∧ Below w.heap.size w w' := by
  obtain ⟨W, hW, h1, h2, hB, hs⟩ := two_boxes w 24 Na Nb Ea Eb (.slice A Ma.length ca) (.slice B Mb.length cb)
  have hL : Lp w Na Ea A ca Ma Nb Eb B cb Mb AX x W := ⟨h1, h2, ha.go hB, hb.go hB, (hr.below hB).more hB.size, hB⟩
  have cK := known14 W
  obtain ⟨k0, k1, k2⟩ := id h1
  obtain ⟨l0, l1, l2⟩ := id h2
  clear ha hb hr h1 h2 hB hs
  go_enter Try.func8, Try.ntmps8
  rw [hW] at k0 k1 k2 l0 l1 l2
  go_wp2_with fail
  rw [← hW]
  clear hW
  refine cK.mono ?_
  clear cK
  rintro e w1 ⟨rfl, hb1⟩
  have hL1 := hL.go hb1
  clear hL hb1 k0 k1 k2 l0 l1 l2
  obtain ⟨p, hp⟩ : ∃ p, pairP Na Ea Ma Nb Eb Mb = p := ⟨_, rfl⟩
  obtain ⟨r, hr⟩ : ∃ r, (decide (p = 0) && entP Na Ea Ma Eb Mb) = r := ⟨_, rfl⟩
  have cE := order_Entails Na Ea A ca Ma Nb Eb B cb Mb w1 hL1.ia hL1.ib hma p hp r hr
  have HP := Lib.hid hp
  have HR := Lib.hid hr
  clear hp hr
  obtain ⟨k0, k1, k2⟩ := id hL1.a
  obtain ⟨l0, l1, l2⟩ := id hL1.b
  go_wp2_with fail
  with_reducible refine cE.mono ?_
  clear cE
  rintro e w2 ⟨rfl, hb2⟩
  have hL2 := hL1.go hb2
  clear hL1 hb2 k0 k1 k2 l0 l1 l2
  obtain ⟨k0, k1, k2⟩ := id hL2.a
  have hend := Lib.hid hL2.below
  by_cases hp0 : p = 0
  · subst hp0
    have hd0 : ((0 : Int) != 0) = false := rfl
    obtain ⟨hc1, hc2, hN⟩ := pairP_zero HP.out
    subst hN
    obtain ⟨n, hn1, hn, _⟩ := chk_zero hc1
    subst hn1
    have hrE : entP n Ea Ma Eb Mb = r := by rw [← HR.out]; simp
    by_cases hl : x.length = n
    · have hlb : ((x.length : Int) != (n : Int)) = false := bne_eq_false_iff_eq.2 (by omega)
      have HX := Lib.hid hl
      obtain ⟨Pm, hPm⟩ : ∃ P, P = meetP n Ea Ma Eb Mb := ⟨_, rfl⟩
      obtain ⟨Pj, hPj⟩ : ∃ P, P = joinP n Ea Ma Eb Mb := ⟨_, rfl⟩
      have km := meetP_chk hc1 hc2
      have kj := joinP_chk hc1 hc2
      have tm := has_meet hc1 hc2 hl
      have tj := has_join (x := x) hc1 hc2 hl
      have te := fun h1 h2 => has_ent (x := x) hc1 hc2 hl (hrE.trans h1) h2
      have tf := fun v (y : List Int) (h1 : y.length = n) h2 h3 => has_forget (x := x) (y := y) (v := v) hc1 hl h1 h2 h3
      rw [← hPm] at km tm
      rw [← hPj] at kj tj
      have cM := fun X (hX : Lp w n Ea A ca Ma n Eb B cb Mb AX x X) => order_Meet n Ea A ca Ma n Eb B cb Mb X hX.ia hX.ib hma 0 HP.out Pm (by unfold meetE; rw [if_pos rfl, hPm])
      have cJ := fun X (hX : Lp w n Ea A ca Ma n Eb B cb Mb AX x X) => order_Join n Ea A ca Ma n Eb B cb Mb X hX.ia hX.ib hma hmb 0 HP.out Pj (by unfold joinE; rw [if_pos rfl, hPj])
      have cF := fun X (hX : Lp w n Ea A ca Ma n Eb B cb Mb AX x X) => fun (h0 : 0 ≤ v) (h1 : v < n) => order_Forget n Ea A ca Ma v X hX.ia hv hma 0 (forgetR_at hc1 h0 h1).1 _ (forgetR_at hc1 h0 h1).2
      have kf := fun (g : Nat → Bool) => forgetP_chk (g := g) hc1
      unfold TellsE at cM cJ cF
      have KF := Lib.hid kf
      have TF := Lib.hid tf
      clear hPm hPj hrE HR HP hc1 hc2 hend kf tf hl
      obtain ⟨Nm, Em, Mm⟩ := Pm
      obtain ⟨Nj, Ej, Mj⟩ := Pj
      dsimp only at km kj tm tj
      obtain ⟨rfl, km⟩ := km
      obtain ⟨rfl, kj⟩ := kj
      have Km := Lib.hid km
      have Kj := Lib.hid kj
      obtain ⟨pa, hpa⟩ : ∃ p, p = hasO n Ea Ma x := ⟨_, rfl⟩
      obtain ⟨qa, hqa⟩ : ∃ p, p = hasO n Eb Mb x := ⟨_, rfl⟩
      have cHa := fun X (hX : Lp w n Ea A ca Ma n Eb B cb Mb AX x X) => dbm_Has n Ea A ca Ma AX cX x X hX.ia hX.rx hxi hxm
      have cHb := fun X (hX : Lp w n Ea A ca Ma n Eb B cb Mb AX x X) => dbm_Has n Eb B cb Mb AX cX x X hX.ib hX.rx hxi hxm
      rw [← hpa] at tm tj te TF
      rw [← hqa] at tm tj te
      simp only [← hpa] at cHa
      simp only [← hqa] at cHb
      have HPa := Lib.hid hpa
      clear km kj hpa hqa
      obtain ⟨l0, l1, l2⟩ := id hL2.b
      go_wp2_with fail
      with_reducible refine (cM _ hL2).mono ?_
      clear cM
      rintro e w3 ⟨A1, c1, rfl, ho1, hb3⟩
      dsimp only at ho1 ⊢
      obtain ⟨w4, hw4, hQ4, hb4⟩ := Oh.new (N := n) (E := Em) ho1
      have hL4 := hL2.go (hb3.trans (hb4.mono hb3.size))
      clear hL2 hb3 hb4 ho1 k0 k1 k2 l0 l1 l2
      obtain ⟨k0, k1, k2⟩ := id hL4.a
      obtain ⟨l0, l1, l2⟩ := id hL4.b
      rw [hw4] at k0 k1 k2 l0 l1 l2
      go_upto_region 7 with fail
      rw [← hw4]
      rw [← hw4] at k0 k1 k2 l0 l1 l2
      clear hw4
      generalize w3.heap.size = b3 at *
      go_wp2_with fail
      with_reducible refine (cJ _ hL4).mono ?_
      clear cJ
      rintro e w5 ⟨A2, c2, rfl, ho2, hb5⟩
      dsimp only at ho2 ⊢
      obtain ⟨w6, hw6, hQ6, hb6⟩ := Oh.new (N := n) (E := Ej) ho2
      have hb56 := hb5.trans (hb6.mono hb5.size)
      have hL6 := hL4.go hb56
      have hQm := hQ4.go hb56
      clear hL4 hQ4 hb5 hb6 hb56 ho2 k0 k1 k2 l0 l1 l2
      obtain ⟨k0, k1, k2⟩ := id hL6.a
      obtain ⟨l0, l1, l2⟩ := id hL6.b
      rw [hw6] at k0 k1 k2 l0 l1 l2
      go_upto_region 8 with fail
      rw [← hw6]
      rw [← hw6] at k0 k1 k2 l0 l1 l2
      clear hw6
      generalize w5.heap.size = b5 at *
      generalize w4.heap.size = e4 at *
      generalize w2.heap.size = e2 at *
      have a0 := After.cell k0
      have a1 := After.cell k1
      have a2 := After.cell k2
      have a3 := After.cell l0
      have a4 := After.cell l1
      have a5 := After.cell l2
      refine wp_region_after (by kernel_rfl) (by kernel_rfl) ?_
      repeat (go_big_quiet_step (first | (go_at_call 12; with_reducible exact after_of (cHa _ (hL6.go (After.below _)))) | (go_at_call 12; with_reducible exact after_of (cHb _ (hL6.go (After.below _))))))
      refine wpQuiet_nil ?_
      intro w7 hb7
      have hL7 := hL6.go hb7
      have hQm7 := hQm.go hb7
      have hQj7 := hQ6.go hb7
      clear hL6 hQm hQ6 hb7 a0 a1 a2 a3 a4 a5 k0 k1 k2 l0 l1 l2 cHa cHb
      have cHm := fun X (hX : Below w7.heap.size w7 X) => dbm_Has n Em A1 c1 Mm AX cX x X ((hQm7.go hX).oin Km.out) (hL7.go hX).rx hxi hxm
      have cHj := fun X (hX : Below w7.heap.size w7 X) => dbm_Has n Ej A2 c2 Mj AX cX x X ((hQj7.go hX).oin Kj.out) (hL7.go hX).rx hxi hxm
      simp only [tm] at cHm
      have TJ := Lib.hid tj
      have TE := Lib.hid te
      clear tm tj te Km Kj
      obtain ⟨m0, m1, m2⟩ := id hQm7.box
      obtain ⟨n0, n1, n2⟩ := id hQj7.box
      clear hQm7 hQj7
      go_upto_region 9 with fail
      go_cut [86] (fun s wx => s = .bool false ∧ Lp w n Ea A ca Ma n Eb B cb Mb AX x wx)
      case first =>
        clear cF KF TF HPa
        rcases pa with _ | _
        · rcases qa with _ | _
          · simp only [Bool.and_false] at cHm
            rcases r with _ | _
            · go_wp2_with fail
              with_reducible refine (cHm _ (Below.refl _ _)).mono ?_
              rintro e w8 ⟨rfl, hb8⟩
              have hL8 := Lib.hid (hL7.go hb8)
              clear hL7 cHm cHj m0 m1 m2 n0 n1 n2 hb8
              go_wp2_with fail
              go_meet
              exact ⟨rfl, hL8.out⟩
            · go_wp2_with fail
              with_reducible refine (cHm _ (Below.refl _ _)).mono ?_
              rintro e w8 ⟨rfl, hb8⟩
              have hL8 := Lib.hid (hL7.go hb8)
              clear hL7 cHm cHj m0 m1 m2 n0 n1 n2 hb8
              go_wp2_with fail
              go_meet
              exact ⟨rfl, hL8.out⟩
          · simp only [Bool.false_and] at cHm
            have hj := TJ.out rfl
            simp only [hj] at cHj
            rcases r with _ | _
            · go_wp2_with fail
              with_reducible refine (cHm _ (Below.refl _ _)).mono ?_
              rintro e w8 ⟨rfl, hb8⟩
              have hL8 := Lib.hid (hL7.go hb8)
              have p0 := below_cell hb8 n0
              have p1 := below_cell hb8 n1
              have p2 := below_cell hb8 n2
              have cJ := cHj _ hb8
              clear hL7 cHm cHj m0 m1 m2 n0 n1 n2 hb8
              go_wp2_with fail
              with_reducible refine cJ.mono ?_
              clear cJ
              rintro e w9 ⟨rfl, hb9⟩
              have hL9 := Lib.hid (hL8.out.go hb9)
              clear hL8 hb9 p0 p1 p2
              go_wp2_with fail
              go_meet
              exact ⟨rfl, hL9.out⟩
            · go_wp2_with fail
              with_reducible refine (cHm _ (Below.refl _ _)).mono ?_
              rintro e w8 ⟨rfl, hb8⟩
              have hL8 := Lib.hid (hL7.go hb8)
              have p0 := below_cell hb8 n0
              have p1 := below_cell hb8 n1
              have p2 := below_cell hb8 n2
              have cJ := cHj _ hb8
              clear hL7 cHm cHj m0 m1 m2 n0 n1 n2 hb8
              go_wp2_with fail
              with_reducible refine cJ.mono ?_
              clear cJ
              rintro e w9 ⟨rfl, hb9⟩
              have hL9 := Lib.hid (hL8.out.go hb9)
              clear hL8 hb9 p0 p1 p2
              go_wp2_with fail
              go_meet
              exact ⟨rfl, hL9.out⟩
        · have hj := TJ.out rfl
          simp only [hj] at cHj
          rcases qa with _ | _
          · simp only [Bool.and_false] at cHm
            rcases r with _ | _
            · go_wp2_with fail
              with_reducible refine (cHm _ (Below.refl _ _)).mono ?_
              rintro e w8 ⟨rfl, hb8⟩
              have hL8 := Lib.hid (hL7.go hb8)
              have p0 := below_cell hb8 n0
              have p1 := below_cell hb8 n1
              have p2 := below_cell hb8 n2
              have cJ := cHj _ hb8
              clear hL7 cHm cHj m0 m1 m2 n0 n1 n2 hb8
              go_wp2_with fail
              with_reducible refine cJ.mono ?_
              clear cJ
              rintro e w9 ⟨rfl, hb9⟩
              have hL9 := Lib.hid (hL8.out.go hb9)
              clear hL8 hb9 p0 p1 p2
              go_wp2_with fail
              go_meet
              exact ⟨rfl, hL9.out⟩
            · have := TE.out rfl rfl
              cases this
          · simp only [Bool.and_true] at cHm
            rcases r with _ | _
            · go_wp2_with fail
              with_reducible refine (cHm _ (Below.refl _ _)).mono ?_
              rintro e w8 ⟨rfl, hb8⟩
              have hL8 := Lib.hid (hL7.go hb8)
              have p0 := below_cell hb8 n0
              have p1 := below_cell hb8 n1
              have p2 := below_cell hb8 n2
              have cJ := cHj _ hb8
              clear hL7 cHm cHj m0 m1 m2 n0 n1 n2 hb8
              go_wp2_with fail
              with_reducible refine cJ.mono ?_
              clear cJ
              rintro e w9 ⟨rfl, hb9⟩
              have hL9 := Lib.hid (hL8.out.go hb9)
              clear hL8 hb9 p0 p1 p2
              go_wp2_with fail
              go_meet
              exact ⟨rfl, hL9.out⟩
            · go_wp2_with fail
              with_reducible refine (cHm _ (Below.refl _ _)).mono ?_
              rintro e w8 ⟨rfl, hb8⟩
              have hL8 := Lib.hid (hL7.go hb8)
              have p0 := below_cell hb8 n0
              have p1 := below_cell hb8 n1
              have p2 := below_cell hb8 n2
              have cJ := cHj _ hb8
              clear hL7 cHm cHj m0 m1 m2 n0 n1 n2 hb8
              go_wp2_with fail
              with_reducible refine cJ.mono ?_
              clear cJ
              rintro e w9 ⟨rfl, hb9⟩
              have hL9 := Lib.hid (hL8.out.go hb9)
              clear hL8 hb9 p0 p1 p2
              go_wp2_with fail
              go_meet
              exact ⟨rfl, hL9.out⟩
      case rest =>
        obtain ⟨rfl, hL8⟩ := hcut
        clear hL7 cHm cHj m0 m1 m2 n0 n1 n2 TJ TE
        obtain ⟨k0, k1, k2⟩ := id hL8.a
        have hend := Lib.hid hL8.below
        by_cases hv0 : v < 0
        · clear hL8
          go_wp2_with fail
          go_ret
          exact ⟨rfl, hend.out⟩
        · by_cases hv1 : v ≥ (n : Int)
          · clear hL8
            go_wp2_with fail
            go_ret
            exact ⟨rfl, hend.out⟩
          · rcases pa with _ | _
            · clear hL8
              go_wp2_with fail
              go_ret
              exact ⟨rfl, hend.out⟩
            · clear hend
              have cG := cF _ hL8 (by omega) (by omega)
              obtain ⟨v, rfl⟩ : ∃ v' : Nat, v = v' := ⟨v.toNat, by omega⟩
              have hvn : v < n := by omega
              have t1 := TF.out v x HX.out (fun u _ => rfl) rfl
              have t2 := TF.out v (x.set v m) (by rw [List.length_set]; exact HX.out) (fun u hu => nth_set_ne (fun e => hu e.symm)) rfl
              have kf := KF.out (fun u => decide ((u : Int) = (v : Int)))
              obtain ⟨R, hR⟩ : ∃ R, R = forgetP n Ea Ma (fun u => decide ((u : Int) = (v : Int))) := ⟨_, rfl⟩
              rw [← hR] at cG t1 t2 kf
              clear hR cF KF TF HPa
              obtain ⟨Nf, Ef, Mf⟩ := R
              dsimp only at cG t1 t2 kf
              obtain ⟨rfl, kf⟩ := kf
              have KF := Lib.hid kf
              clear kf
              have g1 : ¬ (v : Int) < 0 := hv0
              have g2 : (v : Int) < (n : Int) := by omega
              clear hv0 hv1
              go_wp2_with fail
              with_reducible refine cG.mono ?_
              clear cG
              rintro e w9 ⟨A3, c3, rfl, ho3, hb9⟩
              dsimp only at ho3 ⊢
              obtain ⟨w10, hw10, hQf, hb10⟩ := Oh.new (N := n) (E := Ef) ho3
              have hL10 := hL8.go (hb9.trans (hb10.mono hb9.size))
              clear hL8 hb9 hb10 ho3 k0 k1 k2
              have hQ10 := Lib.hid hQf
              have hl10 := Lib.hid hL10
              have hsz : (([] : List Int).length + x.length) * 8 ≤ 140737488355328 := by rw [List.length_nil, HX.out]; omega
              have hrx := hL10.rx
              go_upto_region 14 with fail
              rw [← hw10]
              clear hw10 hQf hL10
              generalize w9.heap.size = b9 at *
              generalize wc.heap.size = e9 at *
              go_upto_region 15 with (at_builtin; refine wpList_appN Try.elI64 w10 rfl _ _ rfl w10.heap.size .i64 none 0 [] rfl (Ow.nil _ _ _ _) _ AX cX x rfl hrx hsz (Nat.le_refl _) ?_; intro A9 c9 w11 ho9 hb11)
              rw [List.nil_append] at ho9
              obtain ⟨g9, rfl, hg91, hg92⟩ := ho9.blockOf (by rw [HX.out]; omega)
              have hvx : (v : Int) < (x.length : Int) := by rw [HX.out]; exact g2
              have kk := ho9.cellAt (i := v) (by rw [HX.out]; omega)
              have kf := ho9.frozenAt v
              have ho12 := Lib.hid (ho9.set' v m)
              have hb12 := Lib.hid (hb11.setCell (p := ⟨g9, v, none⟩) hg91 (.int .i64 m))
              clear ho9 hb11 hrx hsz
              go_upto_region 16 with fail
              obtain ⟨w12, hw12⟩ : ∃ w12, w12 = w11.setCell ⟨g9, v, none⟩ (.int .i64 m) := ⟨_, rfl⟩
              rw [← hw12] at ho12 hb12 ⊢
              clear hw12 kk kf
              have hL12 := hl10.out.go hb12.out
              have hQ12 := hQ10.out.go hb12.out
              have hyi : ∀ u ∈ x.set v m, I64 u := fun u hu => by
                rcases List.mem_or_eq_of_mem_set hu with h | rfl
                · exact hxi _ h
                · exact hm
              have cH1 := dbm_Has n Ef A3 c3 Mf AX cX x w12 (hQ12.oin KF.out) hL12.rx hxi hxm
              have cH2 := fun X (hX : Below w12.heap.size w12 X) => dbm_Has n Ef A3 c3 Mf (some ⟨g9, 0, none⟩) c9 (x.set v m) X ((hQ12.go hX).oin KF.out) (ho12.out.below hX).rd hyi (by rw [List.length_set]; exact hxm)
              rw [t1] at cH1
              simp only [t2, List.length_set] at cH2
              obtain ⟨p0, p1, p2⟩ := id hQ12.box
              clear hyi t1 t2 hQ12 hQ10 hl10 ho12 hb12 hvx
              go_wp2_with fail
              with_reducible refine cH1.mono ?_
              clear cH1
              rintro e w13 ⟨rfl, hb13⟩
              have hL13 := hL12.go hb13
              have q0 := below_cell hb13 p0
              have q1 := below_cell hb13 p1
              have q2 := below_cell hb13 p2
              have cH := cH2 _ hb13
              clear cH2 hb13 hL12 p0 p1 p2
              go_wp2_with fail
              with_reducible refine cH.mono ?_
              clear cH
              rintro e w14 ⟨rfl, hb14⟩
              have hend := Lib.hid (hL13.go hb14).below
              clear hb14 hL13 q0 q1 q2
              go_wp2_with fail
              go_ret
              exact ⟨rfl, hend.out⟩
    · have hlb : ((x.length : Int) != (n : Int)) = true := bne_iff_ne.2 (by omega)
      clear hL2 HR HP
      go_wp2_with fail
      go_ret
      exact ⟨rfl, hend.out⟩
  · have hd : (p != 0) = true := bne_iff_ne.2 hp0
    clear hL2 hp0 HR HP
    go_wp2_with fail
    go_ret
    exact ⟨rfl, hend.out⟩
end Go.Proofs.Ytkgddgckilledaa

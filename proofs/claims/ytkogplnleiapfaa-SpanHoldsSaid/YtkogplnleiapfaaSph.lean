/- Plain: a point of an octagon lies in what is told of it. -/
import Derived.Test.YtkogplnleiapfaaSpo
import Derived.Test.YtkogplnleiapfaaCpt
import Derived.Test.YtkogplnleiapfaaSpr
import Derived.Test.YtkogplnleiapfaaHat
import Derived.Test.YtkogplnleiapfaaNumM
import Derived.Deep.DeepCutAuto
namespace Go.Proofs.Ytkogplnleiapfaa
open Go.RowKit
namespace Gn
theorem hasO_true {N : Int} {E : Bool} {M x : List Int} (h : hasO N E M x = true) : chk N E M = 0 ∧ E = false ∧ (x.length : Int) = N ∧ hasM (2 * N.toNat) M x := of_decide_eq_true h
theorem has_clo {N : Int} {E : Bool} {M x : List Int} (h : hasO N E M x = true) : ∃ n : Nat, N = n ∧ n ≤ 64 ∧ x.length = n ∧ chk N E M = 0 ∧ ∃ Z, clo N E M = (N, false, Z) ∧ hasM (2 * n) Z x ∧ ∀ a b, Bd (cl (2 * n) Z a b) := by
  obtain ⟨hc, rfl, hx, hM⟩ := hasO_true h
  obtain ⟨n, rfl, hn, -, h0⟩ := chk_zero hc
  obtain ⟨hl, hok⟩ := h0 rfl
  rw [Int.toNat_natCast] at hM
  have hl' : M.length = (2 * n) * (2 * n) := by rw [hl, sq2]
  obtain ⟨Z, s, hZ, hH⟩ := close_point hl' (allB_of hl' hok) hM
  have e : clo n false M = ((n : Int), false, Z) := by
    unfold clo closeP
    rw [if_neg (by omega), if_neg (by simp), Int.toNat_natCast, hZ]
  have k := clo_chk hc
  rw [e] at k
  exact ⟨n, rfl, hn, by omega, hc, Z, e, hH, fun a b => cl_bd (chk_allB k.2) a b⟩
theorem has_sides {up down v : Int} (h1 : up = 9223372036854775807 ∨ v ≤ up) (h2 : down = 9223372036854775807 ∨ -v ≤ down) : hasR (sidesR up down) v = true := by
  rw [hasR_iff]
  unfold sidesR toR
  refine ⟨fun k => ?_, fun k => ?_⟩
  · have := of_decide_eq_true k
    dsimp only
    rw [if_pos k]
    rcases h2 with h2 | h2
    · exact absurd h2 this
    · omega
  · have := of_decide_eq_true k
    dsimp only
    rw [if_pos k]
    rcases h1 with h1 | h1
    · exact absurd h1 this
    · exact h1
theorem has_half {a v : Int} (hA : Bd a) (h : a = 9223372036854775807 ∨ 2 * v ≤ a) : half a = 9223372036854775807 ∨ v ≤ half a := by
  unfold half
  rw [asB_of hA]
  by_cases e : a = 9223372036854775807
  · rw [if_pos e]; exact .inl rfl
  · rw [if_neg e]
    rcases h with h | h
    · exact absurd h e
    · right; omega
theorem sideV_even (x : List Int) (i : Nat) : sideV x (2 * i) = nth x i := by
  unfold sideV; rw [if_neg (by omega), show 2 * i / 2 = i by omega]
theorem sideV_odd (x : List Int) (i : Nat) : sideV x (2 * i + 1) = -(nth x i) := by
  unfold sideV; rw [if_pos (by omega), show (2 * i + 1) / 2 = i by omega]
section
variable {N : Int} {E : Bool} {M x : List Int}
theorem ansP_some {Z : List Int} {f : Int → Int} {xs : List Int} {i j : Nat} (hc : chk N E M = 0) (hi : inB N xs = true) (e : clo N E M = (N, false, Z)) : ansP f N E M xs i j = ⟨sidesR (f (cl (2 * N.toNat) Z i j)) (f (cl (2 * N.toNat) Z (ac i) (ac j))), true, 0⟩ := by
  unfold ansP
  rw [if_neg (by rw [askE_in hc hi]; omega), e, if_neg (by simp)]
theorem var_has (h : hasO N E M x = true) {u : Int} (hu : 0 ≤ u ∧ u < N) :
    ∃ R, ansP half N E M [u] (2 * u).toNat (2 * u + 1).toNat = ⟨R, true, 0⟩ ∧ hasR R (nth x u.toNat) = true := by
  obtain ⟨n, rfl, hn, hx, hc, Z, e, hH, hB⟩ := has_clo h
  obtain ⟨k, rfl⟩ := Int.eq_ofNat_of_zero_le hu.1
  have hk : k < n := by omega
  refine ⟨_, ansP_some hc (by simp [inB]; omega) e, ?_⟩
  · rw [show (2 * (k : Int)).toNat = 2 * k by omega, show (2 * (k : Int) + 1).toNat = 2 * k + 1 by omega, Int.toNat_natCast, Int.toNat_natCast, ac_even, ac_odd]
    have p1 := hH (2 * k) (by omega) (2 * k + 1) (by omega)
    have p2 := hH (2 * k + 1) (by omega) (2 * k) (by omega)
    unfold okP apartV at p1 p2
    rw [sideV_even, sideV_odd] at p1 p2
    exact has_sides (has_half (hB _ _) (p1.imp id (by omega))) (has_half (hB _ _) (p2.imp id (by omega)))
theorem sum_has (h : hasO N E M x = true) {u v : Int} (hu : 0 ≤ u ∧ u < N) (hv : 0 ≤ v ∧ v < N) :
    ∃ R, ansP (fun a => a) N E M [u, v] (2 * u).toNat (2 * v + 1).toNat = ⟨R, true, 0⟩ ∧ hasR R (nth x u.toNat + nth x v.toNat) = true := by
  obtain ⟨n, rfl, hn, hx, hc, Z, e, hH, hB⟩ := has_clo h
  obtain ⟨a, rfl⟩ := Int.eq_ofNat_of_zero_le hu.1
  obtain ⟨k, rfl⟩ := Int.eq_ofNat_of_zero_le hv.1
  refine ⟨_, ansP_some hc (by simp [inB]; omega) e, ?_⟩
  · rw [show (2 * (a : Int)).toNat = 2 * a by omega, show (2 * (k : Int) + 1).toNat = 2 * k + 1 by omega, Int.toNat_natCast, Int.toNat_natCast, Int.toNat_natCast, ac_even, ac_odd]
    have p1 := hH (2 * a) (by omega) (2 * k + 1) (by omega)
    have p2 := hH (2 * a + 1) (by omega) (2 * k) (by omega)
    unfold okP apartV at p1 p2
    rw [sideV_even, sideV_odd] at p1 p2
    exact has_sides (p1.imp id (by omega)) (p2.imp id (by omega))
theorem diff_has (h : hasO N E M x = true) {u v : Int} (hu : 0 ≤ u ∧ u < N) (hv : 0 ≤ v ∧ v < N) :
    ∃ R, ansP (fun a => a) N E M [u, v] (2 * u).toNat (2 * v).toNat = ⟨R, true, 0⟩ ∧ hasR R (nth x u.toNat - nth x v.toNat) = true := by
  obtain ⟨n, rfl, hn, hx, hc, Z, e, hH, hB⟩ := has_clo h
  obtain ⟨a, rfl⟩ := Int.eq_ofNat_of_zero_le hu.1
  obtain ⟨k, rfl⟩ := Int.eq_ofNat_of_zero_le hv.1
  refine ⟨_, ansP_some hc (by simp [inB]; omega) e, ?_⟩
  · rw [show (2 * (a : Int)).toNat = 2 * a by omega, show (2 * (k : Int)).toNat = 2 * k by omega, Int.toNat_natCast, Int.toNat_natCast, Int.toNat_natCast, ac_even, ac_even]
    have p1 := hH (2 * a) (by omega) (2 * k) (by omega)
    have p2 := hH (2 * a + 1) (by omega) (2 * k + 1) (by omega)
    unfold okP apartV at p1 p2
    rw [sideV_even, sideV_even] at p1
    rw [sideV_odd, sideV_odd] at p2
    exact has_sides (p1.imp id (by omega)) (p2.imp id (by omega))
end
end Gn
end Go.Proofs.Ytkogplnleiapfaa
namespace Go.Proofs.Ytkogplnleiapfaa
open Go.RowKit
set_option linter.unusedVariables false
set_option linter.unusedSimpArgs false
namespace Gn
theorem fit_has {R : Rg} {v : Int} (h : hasR R v = true) : (fitW v = 0 ∧ hasR R (fitV v) = true) ∨ fitW v = 1 := by
  unfold fitW fitV
  by_cases k : I64 v
  · rw [if_pos k, if_pos k]; exact .inl ⟨rfl, h⟩
  · rw [if_neg k]; exact .inr rfl
theorem div_has {a b : Rg} {x y : Int} (ha : hasR a x = true) (hb : hasR b y = true) : (divW x y = 0 ∧ hasR (divR a b) (divV x y) = true) ∨ divW x y ≠ 0 := by
  by_cases k : divW x y = 0
  · left; unfold divV; rw [if_pos k]; exact ⟨k, has_div ha hb⟩
  · exact .inr k
theorem rem_has {a b : Rg} {x y : Int} (ha : hasR a x = true) (hb : hasR b y = true) : (divW x y = 0 ∧ hasR (remR a b) (remV x y) = true) ∨ divW x y ≠ 0 := by
  by_cases k : divW x y = 0
  · left; unfold remV; rw [if_pos k]; exact ⟨k, has_rem ha hb⟩
  · exact .inr k
end Gn
open Gn
/-- The law's own variables that stay. -/
structure Hs (w : World) (o : OV) (a b : Rg) (B : Option Addr) (xs : List Int) (Y : World) : Prop where
  ob : OctAt Y w.heap.size o.N o.E (.slice o.A o.M.length o.c)
  oin : OctIn Y Y.heap.size o.A o.c o.N o.M
  ba : RgBox Y (w.heap.size + 1) a.lo a.hi a.hl a.hh
  bb : RgBox Y (w.heap.size + 1 + 1) b.lo b.hi b.hl b.hh
  px : Rd Y Y.heap.size .i64 B xs.length (nth xs)
  below : Below w.heap.size w Y
theorem Hs.go {w : World} {o : OV} {a b : Rg} {B : Option Addr} {xs : List Int} {Y Z : World} (h : Hs w o a b B xs Y) (hb : Below Y.heap.size Y Z) : Hs w o a b B xs Z :=
  ⟨h.ob.below hb, h.oin.go hb, h.ba.go hb, h.bb.go hb, (h.px.below hb).more hb.size, h.below.trans (hb.mono h.below.size)⟩
theorem Hs.put {w : World} {o : OV} {a b : Rg} {B : Option Addr} {xs : List Int} {Y Z : World} (h : Hs w o a b B xs Y) (hb : Below Y.heap.size Y Z) {g : Nat} (hg : Y.heap.size ≤ g) (v0 v1 v2 v3 : Value) : Hs w o a b B xs ((((Z.setCell ⟨g, 0, none⟩ v0).setCell ⟨g, 1, none⟩ v1).setCell ⟨g, 2, none⟩ v2).setCell ⟨g, 3, none⟩ v3) :=
  h.go ((((hb.setCell hg _).setCell hg _).setCell hg _).setCell hg _)
theorem Hs.new (w : World) (t t1 : TypeId) (o : OV) (a b : Rg) (B : Option Addr) (xs : List Int) (ho : OctIn w w.heap.size o.A o.c o.N o.M) (hx : Rd w w.heap.size .i64 B xs.length (nth xs)) :
    ∃ W, W = ((w.alloc (.cells #[.int .i64 o.N, .bool o.E, .slice o.A o.M.length o.c] t)).alloc (.cells #[.int .i64 a.lo, .int .i64 a.hi, .bool a.hl, .bool a.hh] t1)).alloc (.cells #[.int .i64 b.lo, .int .i64 b.hi, .bool b.hl, .bool b.hh] t1) ∧ Hs w o a b B xs W := by
  obtain ⟨W1, h1⟩ : ∃ W, W = w.alloc (.cells #[.int .i64 o.N, .bool o.E, .slice o.A o.M.length o.c] t) := ⟨_, rfl⟩
  obtain ⟨W2, h2⟩ : ∃ W, W = W1.alloc (.cells #[.int .i64 a.lo, .int .i64 a.hi, .bool a.hl, .bool a.hh] t1) := ⟨_, rfl⟩
  obtain ⟨W3, h3⟩ : ∃ W, W = W2.alloc (.cells #[.int .i64 b.lo, .int .i64 b.hi, .bool b.hl, .bool b.hh] t1) := ⟨_, rfl⟩
  refine ⟨W3, by rw [h3, h2, h1], ?_⟩
  have b1 : Below w.heap.size w W1 := by rw [h1]; exact (Below.refl _ _).alloc (Nat.le_refl _) _
  have b2 : Below W1.heap.size W1 W2 := by rw [h2]; exact (Below.refl _ _).alloc (Nat.le_refl _) _
  have b3 : Below W2.heap.size W2 W3 := by rw [h3]; exact (Below.refl _ _).alloc (Nat.le_refl _) _
  have s1 : W1.heap.size = w.heap.size + 1 := by rw [h1]; simp
  have s2 : W2.heap.size = w.heap.size + 1 + 1 := by rw [h2]; simp [s1]
  have q : Below w.heap.size w W3 := (b1.trans (b2.mono (by omega))).trans (b3.mono (by omega))
  have o1 : OctAt W1 w.heap.size o.N o.E (.slice o.A o.M.length o.c) := by rw [h1]; exact OctAt.box _ _ _ _ _
  have r2 : RgBox W2 W1.heap.size a.lo a.hi a.hl a.hh := by rw [h2]; exact RgBox.new _ _ _ _ _ _
  have r3 : RgBox W3 W2.heap.size b.lo b.hi b.hl b.hh := by rw [h3]; exact RgBox.new _ _ _ _ _ _
  exact ⟨(o1.below b2).below b3, ho.go q, s1 ▸ r2.go b3, s2 ▸ r3, (hx.below q).more q.size, q⟩
theorem span_HasT (R : Rg) (x : Int) (w : World) (h : hasR R x = true) :
    Calls Try.prog 53 #[.agg #[.int .i64 R.lo, .int .i64 R.hi, .bool R.hl, .bool R.hh], .int .i64 x] w fun e w' => e = .returned (.bool true) ∧ Below w.heap.size w w' := by
  have := span_Has R.lo R.hi R.hl R.hh x w
  rwa [show hasR ⟨R.lo, R.hi, R.hl, R.hh⟩ x = true from h] at this
set_option maxRecDepth 100000 in
set_option maxHeartbeats 16000000 in
theorem law_SpanHolds (N : Int) (E : Bool) (A : Option Addr) (c : Nat) (M : List Int) (B : Option Addr) (cb : Nat) (xs : List Int) (u v : Int) (a b : Rg) (x y : Int) (w : World) (ho : OctIn w w.heap.size A c N M) (hM : (M.length : Int) ≤ 17592186043904)
    (hx : Rd w w.heap.size .i64 B xs.length (nth xs)) (hxi : ∀ z ∈ xs, I64 z) (hxm : (xs.length : Int) ≤ 9223372036854775807) (ha1 : I64 a.lo) (ha2 : I64 a.hi) (hb1 : I64 b.lo) (wx : I64 x) (wy : I64 y) :
    Calls Try.prog 12 #[.agg #[.int .i64 N, .bool E, .slice A M.length c], .slice B xs.length cb, .int .i64 u, .int .i64 v, .agg #[.int .i64 a.lo, .int .i64 a.hi, .bool a.hl, .bool a.hh], .agg #[.int .i64 b.lo, .int .i64 b.hi, .bool b.hl, .bool b.hh], .int .i64 x, .int .i64 y] w fun e w' => e = .returned (.bool true) ∧ Below w.heap.size w w' := by
  obtain ⟨W, hW, H⟩ := Hs.new w 24 50 ⟨N, E, A, c, M⟩ a b B xs ho hx
  have cK := known15 W
  have cH := fun (X : World) (H : Hs w ⟨N, E, A, c, M⟩ a b B xs X) => dbm_Has N E A c M B cb xs X H.oin H.px hxi hxm
  have HM := Lib.hid hM
  have HXI := Lib.hid hxi
  have HXM := Lib.hid hxm
  have HHO : Hid (hasO N E M xs = true → (xs.length : Int) = N) := Lib.hid (fun k => (hasO_true k).2.2.1)
  obtain ⟨hO, hhO⟩ : ∃ hO, hasO N E M xs = hO := ⟨_, rfl⟩
  rw [hhO] at cH
  have HO := Lib.hid hhO
  have cA := fun X => span_Has a.lo a.hi a.hl a.hh x X
  have cB := fun X => span_Has b.lo b.hi b.hl b.hh y X
  have m1 := fun X => num_Mul x y X wx wy
  have m2 := fun X => num_Div x y X wx
  have m3 := fun X => num_Rem x y X
  have n1 := fun X => span_Mul a b X
  have n2 := fun X => span_Div a b X ha1 ha2
  have n3 := fun X => span_Rem a b X hb1 ha2
  have HMul : Hid (hasR a x = true → hasR b y = true → (fitW (x * y) = 0 ∧ hasR (mulR a b) (fitV (x * y)) = true) ∨ fitW (x * y) = 1) := Lib.hid (fun k1 k2 => fit_has (has_mul k1 k2))
  have HDiv : Hid (hasR a x = true → hasR b y = true → (divW x y = 0 ∧ hasR (divR a b) (divV x y) = true) ∨ divW x y ≠ 0) := Lib.hid (fun k1 k2 => div_has k1 k2)
  have HRem : Hid (hasR a x = true → hasR b y = true → (divW x y = 0 ∧ hasR (remR a b) (remV x y) = true) ∨ divW x y ≠ 0) := Lib.hid (fun k1 k2 => rem_has k1 k2)
  rw [show (⟨a.lo, a.hi, a.hl, a.hh⟩ : Rg) = a from rfl] at cA
  rw [show (⟨b.lo, b.hi, b.hl, b.hh⟩ : Rg) = b from rfl] at cB
  generalize fitV (x * y) = mv at *
  generalize fitW (x * y) = mw at *
  generalize divV x y = dv at *
  generalize divW x y = dw at *
  generalize remV x y = rv at *
  generalize mulR a b = RM at *
  generalize divR a b = RD at *
  generalize remR a b = RR at *
  clear hM hxi hxm hhO ho hx ha1 ha2 hb1 wx wy
  obtain ⟨hA, hhA⟩ : ∃ hA, hasR a x = hA := ⟨_, rfl⟩
  obtain ⟨hB, hhB⟩ : ∃ hB, hasR b y = hB := ⟨_, rfl⟩
  rw [hhA] at cA HMul HDiv HRem
  rw [hhB] at cB HMul HDiv HRem
  clear hhA hhB
  go_enter Try.func12, Try.ntmps12
  go_wp2_with fail
  rw [← hW]
  clear hW
  with_reducible refine cK.mono ?_
  clear cK
  rintro e w1 ⟨rfl, hb1⟩
  replace H := H.go hb1
  clear hb1
  obtain ⟨z, hz⟩ : ∃ z, (hO && decide (u ≥ 0) && decide (v ≥ 0) && decide (u < N) && decide (v < N)) = z := ⟨_, rfl⟩
  have HZ := Lib.hid hz
  clear hz
  go_upto_region 3 with fail
  go_cut [51] (fun s51 wx => s51 = .bool z ∧ Hs w ⟨N, E, A, c, M⟩ a b B xs wx)
  case first =>
    as_aux_lemma =>
      clear cA cB m1 m2 m3 n1 n2 n3 HMul HDiv HRem HM HXI HXM HHO HO
      obtain ⟨k0, k1, k2⟩ := id H.ob
      dsimp only at k0 k1 k2
      go_wp2_with fail
      with_reducible refine (cH _ H).mono ?_
      clear cH
      rintro e w3 ⟨rfl, hb1⟩
      replace H := H.go hb1
      clear hb1 k0 k1 k2
      obtain ⟨k0, k1, k2⟩ := id H.ob
      dsimp only at k0 k1 k2
      have HH := Lib.hid H
      clear H
      rcases hO with _ | _
      · go_wp2_with fail
        go_meet
        exact ⟨by rw [← HZ.out]; rfl, HH.out⟩
      · rcases q1 : (decide (u ≥ 0)) with _ | _
        · go_wp2_with fail
          go_meet
          exact ⟨by rw [← HZ.out, q1]; rfl, HH.out⟩
        · rcases q2 : (decide (v ≥ 0)) with _ | _
          · go_wp2_with fail
            go_meet
            exact ⟨by rw [← HZ.out, q1, q2]; rfl, HH.out⟩
          · rcases q3 : (decide (u < N)) with _ | _
            · go_wp2_with fail
              go_meet
              exact ⟨by rw [← HZ.out, q1, q2, q3]; rfl, HH.out⟩
            · rcases q4 : (decide (v < N)) with _ | _
              all_goals
                go_wp2_with fail
                go_meet
                exact ⟨by rw [← HZ.out, q1, q2, q3, q4]; rfl, HH.out⟩
  case rest =>
    clear H cH
    obtain ⟨rfl, H⟩ := hcut
    obtain ⟨Y1, hYY⟩ : ∃ Y, Y = wc := ⟨_, rfl⟩
    subst hYY
    go_upto_if 51 with fail
    go_cut [] (fun wx => Hs w ⟨N, E, A, c, M⟩ a b B xs wx)
    case first =>
      as_aux_lemma =>
        clear cA cB m1 m2 m3 n1 n2 n3 HMul HDiv HRem
        rcases z with _ | _
        · clear HM HXI HXM HHO HO HZ
          have HH := Lib.hid H
          clear H
          go_wp2_with fail
          go_meet
          exact HH.out
        · have hz := HZ.out
          simp only [Bool.and_eq_true, decide_eq_true_eq] at hz
          obtain ⟨⟨⟨⟨hz1, hu0⟩, hv0⟩, hu1⟩, hv1⟩ := hz
          have hO' := HO.out.trans hz1
          obtain ⟨R1, hR1, hh1⟩ := var_has hO' ⟨hu0, hu1⟩
          obtain ⟨R2, hR2, hh2⟩ := sum_has hO' ⟨hu0, hu1⟩ ⟨hv0, hv1⟩
          obtain ⟨R3, hR3, hh3⟩ := diff_has hO' ⟨hu0, hu1⟩ ⟨hv0, hv1⟩
          have hlen := HHO.out hO'
          obtain ⟨i, rfl⟩ := Int.eq_ofNat_of_zero_le hu0
          obtain ⟨j, rfl⟩ := Int.eq_ofNat_of_zero_le hv0
          rw [Int.toNat_natCast] at hh1 hh2 hh3
          rw [Int.toNat_natCast] at hh2 hh3
          have hi : i < xs.length := by omega
          have hj : j < xs.length := by omega
          have d1 := fun (X : World) (H : Hs w ⟨N, E, A, c, M⟩ a b B xs X) => span_Var ⟨N, E, A, c, M⟩ i X H.oin HM.out _ hR1
          have d2 := fun (X : World) (H : Hs w ⟨N, E, A, c, M⟩ a b B xs X) => span_Sum ⟨N, E, A, c, M⟩ i j X H.oin HM.out _ hR2
          have d3 := fun (X : World) (H : Hs w ⟨N, E, A, c, M⟩ a b B xs X) => span_Diff ⟨N, E, A, c, M⟩ i j X H.oin HM.out _ hR3
          dsimp only at d1 d2 d3
          have e1 := fun X => span_HasT R1 (nth xs i) X hh1
          have HS := Lib.hid (fit_has hh2)
          have HD := Lib.hid (fit_has hh3)
          have p1 := fun X => num_Add (nth xs i) (nth xs j) X (HXI.out _ (nth_mem hi)) (HXI.out _ (nth_mem hj))
          have p2 := fun X => num_Sub (nth xs i) (nth xs j) X (HXI.out _ (nth_mem hi)) (HXI.out _ (nth_mem hj))
          obtain ⟨g, off, rfl, hg, hcell⟩ := H.px (by omega)
          have kI : ∀ X, Below Y1.heap.size Y1 X → X.cell? ⟨g, off + i, none⟩ = some (.int .i64 (nth xs i)) := fun X hb => (hb.cell (p := ⟨g, off + i, none⟩) hg).trans (hcell i hi)
          have kJ : ∀ X, Below Y1.heap.size Y1 X → X.cell? ⟨g, off + j, none⟩ = some (.int .i64 (nth xs j)) := fun X hb => (hb.cell (p := ⟨g, off + j, none⟩) hg).trans (hcell j hj)
          generalize fitV (nth xs i + nth xs j) = sv at *
          generalize fitW (nth xs i + nth xs j) = sw at *
          generalize fitV (nth xs i - nth xs j) = tv at *
          generalize fitW (nth xs i - nth xs j) = tw at *
          generalize nth xs i = xi at *
          generalize nth xs j = xj at *
          have qi : (i : Int) < (xs.length : Int) := by omega
          have qj : (j : Int) < (xs.length : Int) := by omega
          clear hR1 hR2 hR3 hh1 hh2 hh3 hlen hi hj hu0 hu1 hv0 hv1 hz1 hO' HZ HO HHO HM HXI HXM hcell hg
          have HB := Lib.hid (Below.refl Y1.heap.size Y1)
          obtain ⟨k0, k1, k2⟩ := id H.ob
          dsimp only at k0 k1 k2
          go_wp2_with fail
          with_reducible refine (d1 _ H).mono ?_
          clear d1 k0 k1 k2
          rintro e y1 ⟨rfl, hb1⟩
          have H1 := Lib.hid (H.go hb1)
          replace kI : ∀ X, Below y1.heap.size y1 X → X.cell? ⟨g, off + i, none⟩ = some (.int .i64 xi) := fun X hb => kI X (hb1.trans (hb.mono hb1.size))
          replace kJ : ∀ X, Below y1.heap.size y1 X → X.cell? ⟨g, off + j, none⟩ = some (.int .i64 xj) := fun X hb => kJ X (hb1.trans (hb.mono hb1.size))
          clear H HB hb1
          obtain ⟨z1, hz1⟩ : ∃ X, X = y1.alloc (.cells #[.int .i64 R1.lo, .int .i64 R1.hi, .bool R1.hl, .bool R1.hh] 50) := ⟨_, rfl⟩
          have HB : Below y1.heap.size y1 z1 := by rw [hz1]; exact (Below.refl _ _).alloc (Nat.le_refl _) _
          have R : RgBox z1 y1.heap.size R1.lo R1.hi R1.hl R1.hh := by rw [hz1]; exact RgBox.new _ _ _ _ _ _
          go_upto_region 5 with fail
          rw [← hz1]
          clear hz1
          obtain ⟨r0, r1, r2, r3, rf⟩ := id R
          have a0 := After.cell r0
          have a1 := After.cell r1
          have a2 := After.cell r2
          have a3 := After.cell r3
          have a4 := After.cell (kI _ HB)
          clear r0 r1 r2 r3 rf
          have HKI := Lib.hid kI
          have HKJ := Lib.hid kJ
          have HR := Lib.hid R
          have HHB := Lib.hid HB
          clear kI kJ R HB
          refine wp_region_after (by kernel_rfl) (by kernel_rfl) ?_
          repeat (go_big_quiet_step (first | (go_at_call 53; with_reducible exact after_of (e1 _))))
          refine wpQuiet_nil ?_
          intro w5 hb5
          have HB := HHB.out.trans (hb5.mono HHB.out.size)
          have R := HR.out.go hb5
          clear a0 a1 a2 a3 a4 hb5 HR HHB e1
          go_upto_region 7 with fail
          have a4 := After.cell (HKI.out _ HB)
          have a5 := After.cell (HKJ.out _ HB)
          refine wp_region_after (by kernel_rfl) (by kernel_rfl) ?_
          repeat (go_big_quiet_step (first | (go_at_call 56; with_reducible exact after_same (p1 _))))
          refine wpQuiet_nil ?_
          intro w7 hb7
          replace HB := HB.trans (hb7.mono HB.size)
          replace R := R.go hb7
          clear a4 a5 hb7 p1
          obtain ⟨k0, k1, k2⟩ := id (H1.out.go HB).ob
          dsimp only at k0 k1 k2
          go_wp2_with fail
          with_reducible refine (d2 _ (H1.out.go HB)).mono ?_
          clear d2 k0 k1 k2
          rintro e w8 ⟨rfl, hb1⟩
          obtain ⟨r0, r1, r2, r3, rf⟩ := id (R.go hb1)
          have HR := Lib.hid ((R.go hb1).put R2.lo R2.hi R2.hl R2.hh)
          have HHB := Lib.hid (below_put4' (b := y1.heap.size) (HB.trans (hb1.mono HB.size)) (Nat.le_refl _) (.int .i64 R2.lo) (.int .i64 R2.hi) (.bool R2.hl) (.bool R2.hh))
          clear R HB hb1
          go_upto_region 9 with fail
          have R := HR.out
          have HB := HHB.out
          clear HR HHB r0 r1 r2 r3 rf
          generalize ((((w8.setCell ⟨y1.heap.size, 0, none⟩ (.int .i64 R2.lo)).setCell ⟨y1.heap.size, 1, none⟩ (.int .i64 R2.hi)).setCell ⟨y1.heap.size, 2, none⟩ (.bool R2.hl)).setCell ⟨y1.heap.size, 3, none⟩ (.bool R2.hh)) = w9 at *
          go_cut [109] (fun s109 wx => s109 = .bool false ∧ Below y1.heap.size y1 wx ∧ RgBox wx y1.heap.size R2.lo R2.hi R2.hl R2.hh)
          case first =>
            as_aux_lemma =>
              clear d3 p2 H1 HD HKI HKJ
              rcases HS.out with ⟨rfl, hR⟩ | rfl
              · have e2 := fun X => span_HasT R2 sv X hR
                obtain ⟨r0, r1, r2, r3, rf⟩ := id R
                clear HS hR
                go_wp2_with fail
                with_reducible refine (e2 _).mono ?_
                clear e2 r0 r1 r2 r3 rf
                rintro e w10 ⟨rfl, hb1⟩
                have HR := Lib.hid (R.go hb1)
                have HHB := Lib.hid (HB.trans (hb1.mono HB.size))
                clear R HB hb1
                go_wp2_with fail
                go_meet
                exact ⟨rfl, HHB.out, HR.out⟩
              · have HR := Lib.hid R
                have HHB := Lib.hid HB
                clear R HB HS
                go_wp2_with fail
                go_meet
                exact ⟨rfl, HHB.out, HR.out⟩
          case rest =>
            clear HB R HS
            obtain ⟨rfl, HB, R⟩ := hcut
            obtain ⟨Y2, hYY⟩ : ∃ Y, Y = wc := ⟨_, rfl⟩
            subst hYY
            go_upto_region 11 with fail
            have a4 := After.cell (HKI.out _ HB)
            have a5 := After.cell (HKJ.out _ HB)
            refine wp_region_after (by kernel_rfl) (by kernel_rfl) ?_
            repeat (go_big_quiet_step (first | (go_at_call 57; with_reducible exact after_same (p2 _))))
            refine wpQuiet_nil ?_
            intro w11 hb7
            replace HB := HB.trans (hb7.mono HB.size)
            replace R := R.go hb7
            clear a4 a5 hb7 p2
            obtain ⟨k0, k1, k2⟩ := id (H1.out.go HB).ob
            dsimp only at k0 k1 k2
            go_wp2_with fail
            with_reducible refine (d3 _ (H1.out.go HB)).mono ?_
            clear d3 k0 k1 k2
            rintro e w12 ⟨rfl, hb1⟩
            obtain ⟨r0, r1, r2, r3, rf⟩ := id (R.go hb1)
            have HR := Lib.hid ((R.go hb1).put R3.lo R3.hi R3.hl R3.hh)
            have HHB := Lib.hid (below_put4' (b := y1.heap.size) (HB.trans (hb1.mono HB.size)) (Nat.le_refl _) (.int .i64 R3.lo) (.int .i64 R3.hi) (.bool R3.hl) (.bool R3.hh))
            clear R HB hb1
            go_upto_region 13 with fail
            have R := HR.out
            have HB := HHB.out
            clear HR HHB r0 r1 r2 r3 rf
            generalize ((((w12.setCell ⟨y1.heap.size, 0, none⟩ (.int .i64 R3.lo)).setCell ⟨y1.heap.size, 1, none⟩ (.int .i64 R3.hi)).setCell ⟨y1.heap.size, 2, none⟩ (.bool R3.hl)).setCell ⟨y1.heap.size, 3, none⟩ (.bool R3.hh)) = w13 at *
            go_cut [145] (fun s145 wx => s145 = .bool false ∧ Below y1.heap.size y1 wx)
            case first =>
              as_aux_lemma =>
                clear H1 HKI HKJ
                rcases HD.out with ⟨rfl, hR⟩ | rfl
                · have e2 := fun X => span_HasT R3 tv X hR
                  obtain ⟨r0, r1, r2, r3, rf⟩ := id R
                  clear HD hR R
                  go_wp2_with fail
                  with_reducible refine (e2 _).mono ?_
                  clear e2 r0 r1 r2 r3 rf
                  rintro e w10 ⟨rfl, hb1⟩
                  have HHB := Lib.hid (HB.trans (hb1.mono HB.size))
                  clear HB hb1
                  go_wp2_with fail
                  go_meet
                  exact ⟨rfl, HHB.out⟩
                · have HHB := Lib.hid HB
                  clear R HB HD
                  go_wp2_with fail
                  go_meet
                  exact ⟨rfl, HHB.out⟩
            case rest =>
              clear HB R HD
              obtain ⟨rfl, HB⟩ := hcut
              have HF := Lib.hid (H1.out.go HB)
              clear HB HKI HKJ
              go_wp2_with fail
              go_meet
              exact HF.out
    case rest =>
      clear H HZ HM HXI HXM HHO HO
      have H := hcut
      clear hcut
      obtain ⟨Y2, hYY⟩ : ∃ Y, Y = wc := ⟨_, rfl⟩
      subst hYY
      obtain ⟨r0, r1, r2, r3, rf⟩ := id H.ba
      go_wp2_with fail
      with_reducible refine (cA _).mono ?_
      clear cA r0 r1 r2 r3 rf
      rintro e w4 ⟨rfl, hb1⟩
      replace H := H.go hb1
      clear hb1
      rcases hA with _ | _
      · have HF := Lib.hid H.below
        clear H
        go_wp2_with fail
        go_ret
        exact ⟨rfl, HF.out⟩
      · obtain ⟨r0, r1, r2, r3, rf⟩ := id H.bb
        go_wp2_with fail
        with_reducible refine (cB _).mono ?_
        clear cB r0 r1 r2 r3 rf
        rintro e w5 ⟨rfl, hb1⟩
        replace H := H.go hb1
        clear hb1
        rcases hB with _ | _
        · have HF := Lib.hid H.below
          clear H
          go_wp2_with fail
          go_ret
          exact ⟨rfl, HF.out⟩
        · have hMul := Lib.hid (HMul.out (by first | exact trivial | rfl) (by first | exact trivial | rfl))
          have hDiv := Lib.hid (HDiv.out (by first | exact trivial | rfl) (by first | exact trivial | rfl))
          have hRem := Lib.hid (HRem.out (by first | exact trivial | rfl) (by first | exact trivial | rfl))
          clear HMul HDiv HRem
          have HF := Lib.hid H
          clear H
          go_upto_region 18 with (first | (go_at_call 58; with_reducible refine (m1 _).mono ?_; clear m1; rintro e w6 ⟨rfl, rfl⟩))
          have H := HF.out
          clear HF
          go_cut [171] (fun s171 wx => s171 = .bool false ∧ Hs w ⟨N, E, A, c, M⟩ a b B xs wx)
          case first =>
            as_aux_lemma =>
              clear m2 m3 n2 n3 hDiv hRem
              rcases hMul.out with ⟨rfl, hR⟩ | rfl
              · have e2 := fun X => span_HasT RM mv X hR
                obtain ⟨r0, r1, r2, r3, rf⟩ := id H.ba
                obtain ⟨q0, q1, q2, q3, qf⟩ := id H.bb
                clear hMul hR
                go_wp2_with fail
                with_reducible refine (n1 _).mono ?_
                clear n1 r0 r1 r2 r3 rf q0 q1 q2 q3 qf
                rintro e w10 ⟨rfl, hb1⟩
                replace H := H.go hb1
                clear hb1
                go_wp2_with fail
                with_reducible refine (e2 _).mono ?_
                clear e2
                rintro e w11 ⟨rfl, hb1⟩
                have HF := Lib.hid (H.go hb1)
                clear H hb1
                go_wp2_with fail
                go_meet
                exact ⟨rfl, HF.out⟩
              · have HF := Lib.hid H
                clear H hMul
                go_wp2_with fail
                go_meet
                exact ⟨rfl, HF.out⟩
          case rest =>
            clear H hMul n1
            obtain ⟨rfl, H⟩ := hcut
            obtain ⟨Y3, hYY⟩ : ∃ Y, Y = wc := ⟨_, rfl⟩
            subst hYY
            have HF := Lib.hid H
            clear H
            go_upto_region 21 with (first | (go_at_call 59; with_reducible refine (m2 _).mono ?_; clear m2; rintro e w6 ⟨rfl, rfl⟩))
            have H := HF.out
            clear HF
            go_cut [187] (fun s187 wx => s187 = .bool false ∧ Hs w ⟨N, E, A, c, M⟩ a b B xs wx)
            case first =>
              as_aux_lemma =>
                clear m3 n3 hRem
                rcases hDiv.out with ⟨rfl, hR⟩ | h0
                · have e2 := fun X => span_HasT RD dv X hR
                  obtain ⟨r0, r1, r2, r3, rf⟩ := id H.ba
                  obtain ⟨q0, q1, q2, q3, qf⟩ := id H.bb
                  clear hDiv hR
                  go_wp2_with fail
                  with_reducible refine (n2 _).mono ?_
                  clear n2 r0 r1 r2 r3 rf q0 q1 q2 q3 qf
                  rintro e w10 ⟨rfl, hb1⟩
                  replace H := H.go hb1
                  clear hb1
                  go_wp2_with fail
                  with_reducible refine (e2 _).mono ?_
                  clear e2
                  rintro e w11 ⟨rfl, hb1⟩
                  have HF := Lib.hid (H.go hb1)
                  clear H hb1
                  go_wp2_with fail
                  go_meet
                  exact ⟨rfl, HF.out⟩
                · have HF := Lib.hid H
                  have q0 : (dw == 0) = false := beq_eq_false_iff_ne.2 h0
                  clear H hDiv h0
                  go_wp2_with fail
                  go_meet
                  exact ⟨rfl, HF.out⟩
            case rest =>
              clear H hDiv n2
              obtain ⟨rfl, H⟩ := hcut
              obtain ⟨Y4, hYY⟩ : ∃ Y, Y = wc := ⟨_, rfl⟩
              subst hYY
              have HF := Lib.hid H
              clear H
              go_upto_region 24 with (first | (go_at_call 60; with_reducible refine (m3 _).mono ?_; clear m3; rintro e w6 ⟨rfl, rfl⟩))
              have H := HF.out
              clear HF
              rcases hRem.out with ⟨rfl, hR⟩ | h0
              · have e2 := fun X => span_HasT RR rv X hR
                obtain ⟨r0, r1, r2, r3, rf⟩ := id H.ba
                obtain ⟨q0, q1, q2, q3, qf⟩ := id H.bb
                clear hRem hR
                go_wp2_with fail
                with_reducible refine (n3 _).mono ?_
                clear n3 r0 r1 r2 r3 rf q0 q1 q2 q3 qf
                rintro e w10 ⟨rfl, hb1⟩
                replace H := H.go hb1
                clear hb1
                go_wp2_with fail
                with_reducible refine (e2 _).mono ?_
                clear e2
                rintro e w11 ⟨rfl, hb1⟩
                have HF := Lib.hid (H.go hb1).below
                clear H hb1
                go_wp2_with fail
                go_ret
                exact ⟨rfl, HF.out⟩
              · have HF := Lib.hid H.below
                have q0 : (dw != 0) = true := bne_iff_ne.2 h0
                clear H hRem h0
                go_wp2_with fail
                go_ret
                exact ⟨rfl, HF.out⟩
end Go.Proofs.Ytkogplnleiapfaa

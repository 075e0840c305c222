/- gnomonref14: Drop, Forget, Keep. -/
import Derived.Test.YtkgddgckilledaaFgt
import Derived.Test.YtkgddgckilledaaRof
namespace Go.Proofs.Ytkgddgckilledaa
open Go.RowKit
set_option linter.unusedVariables false
set_option linter.unusedSimpArgs false
open Gn
/-- A row of bools. -/
def BR (w : World) (g n : Nat) (f : Nat → Bool) : Prop := w.rowIs g 4 n (fun i => .bool (f i))
theorem BR.cell {w : World} {g n : Nat} {f : Nat → Bool} (h : BR w g n f) {i : Nat} (hi : i < n) : w.cell? ⟨g, i, none⟩ = some (.bool (f i)) := World.rowIs.cell h hi
theorem BR.fz {w : World} {g n : Nat} {f : Nat → Bool} (h : BR w g n f) (i : Nat) : w.frozen? ⟨g, i, none⟩ = false := World.rowIs.frozen h i
theorem BR.below {w w' : World} {g n : Nat} {f : Nat → Bool} (h : BR w g n f) (hb : Below w.heap.size w w') : BR w' g n f := World.rowIs.of_block h (hb.block _ (World.rowIs.lt h))
theorem BR.other {w : World} {g n : Nat} {f : Nat → Bool} (h : BR w g n f) {a : Addr} (ha : g ≠ a.block) (v : Value) : BR (w.setCell a v) g n f := World.rowIs.setOther h ha v
theorem BR.put {w : World} {g n : Nat} {f : Nat → Bool} (h : BR w g n f) (i : Nat) (u : Bool) : BR (w.setCell ⟨g, i, none⟩ (.bool u)) g n (fun k => if k = i then u else f k) :=
  (World.rowIs.set h i (.bool u)).congr fun k _ => by dsimp only; split <;> rfl
theorem BR.congr {w : World} {g n : Nat} {f f' : Nat → Bool} (h : BR w g n f) (hf : ∀ i, i < n → f i = f' i) : BR w g n f' := World.rowIs.congr h fun i hi => by rw [hf i hi]
theorem BR.lt {w : World} {g n : Nat} {f : Nat → Bool} (h : BR w g n f) : g < w.heap.size := World.rowIs.lt h
theorem make_bools (q : Nat) (h : q ≤ 64) (w : World) :
    (Instr.makeSlice 92 (.int .i64 (q : Int)) (.int .i64 (q : Int))).run Try.prog w = .ok (.slice (some ⟨w.heap.size, 0, none⟩) q q) (w.alloc (.cells (madeCells #[.bool false] q) /-T-/4)) :=
  run_make_row' (P := Try.prog) /-T-/92 /-T-/4 (.bool false) 1 (by kernel_rfl) (by kernel_rfl) rfl .i64 .i64 q (by omega) (by omega) w
theorem BR.made (w : World) (q : Nat) : BR (w.alloc (.cells (madeCells #[.bool false] q) /-T-/4)) w.heap.size q (fun _ => false) := World.rowIs_made w (.bool false) q _
theorem half_nat (i : Nat) : (i : Int).tdiv 2 = ((i / 2 : Nat) : Int) := by rw [Int.tdiv_eq_ediv_of_nonneg (by omega)]; omega
set_option maxRecDepth 100000 in
set_option maxHeartbeats 16000000 in
theorem ref14_Drop (n : Nat) (E : Bool) (A : Option Addr) (c : Nat) (M : List Int) (hc : chk n E M = 0) (gD cD : Nat) (f : Nat → Bool) (w : World) (base : Nat) (hbs : base ≤ w.heap.size) (ho : Ow w base 2 .i64 A c M) (hD : BR w gD n f) (hne : ∀ g, A = some ⟨g, 0, none⟩ → gD ≠ g) (P : Int × Bool × List Int) (hP : P = dropO (n, E, M) f) :
    Calls Try.prog 58 #[.agg #[.int .i64 n, .bool E, .slice A M.length c], .slice (some ⟨gD, 0, none⟩) n cD] w (TellsB base w A c P) := by
  obtain ⟨m, hm, hn, h1, h0⟩ := chk_zero hc
  obtain rfl : n = m := by omega
  rcases E with _ | _
  · have hl : M.length = (2 * n) * (2 * n) := by rw [(h0 rfl).1, sq2]
    have hP2 : P = ((n : Int), false, rI (2 * n) f (2 * n) M) := by rw [hP, rI_drop hl]; unfold dropO; rw [if_neg (by simp)]; simp
    obtain ⟨W, hW, hR, hs⟩ := box_res w 24 n false (.slice A M.length c)
    obtain ⟨k0, k1, k2, r0, r1, r2, fc, fr, hB, hlt⟩ := id hR
    have hq : M.length ≤ 16384 := by rw [hl, sq2]; exact sq_le hn
    have hF : Fg w base n M.length c A M W := ⟨⟨k0, k1, k2⟩, ⟨⟨r0, r1, r2⟩, fr⟩, ho.below hB, rfl, hB.mono hbs, hbs, fun g' hg' => by subst hg'; exact ho.blockGe.2⟩
    have hDW := hD.below hB
    have HP := Lib.hid hP2
    have HLen := Lib.hid hl
    have HNe := Lib.hid hne
    clear hP hP2 h1 h0 hc hm hl ho hD hB fc hR hne
    go_enter Try.func58, Try.ntmps58
    go_wp2_with fail
    rw [← hW]
    clear hW k0 k1 k2 r0 r1 r2 fr hlt hs
    have HMl := Lib.hid (show M.length = M.length from rfl)
    generalize hq0 : M.length = q at *
    clear HMl
    have HQ := Lib.hid hq0
    clear hq0
    go_loopw [6] (fun s' wr => ∃ i : Nat, s' = .int .i64 i ∧ i ≤ 2 * n ∧ ∃ X : List Int, Hid (X = rI (2 * n) f i M) ∧ Fg w base n q c A X wr ∧ BR wr gD n f) (fun s _ => 2 * n - (Go.RowKit.intOf s).toNat)
    case atStart => exact ⟨0, rfl, by omega, M, Lib.hid rfl, hF, hDW⟩
    case round =>
      obtain ⟨i, rfl, hi, X, HX, hS, hBR⟩ := hrel
      clear hF hDW
      obtain ⟨k0, k1, k2⟩ := id hS.out
      rcases Nat.lt_or_ge i (2 * n) with hit | hige
      · have di : decide ((i : Int) < 2 * (n : Int)) = true := decide_eq_true (by omega)
        go_wp2_with fail
        go_loopw [7] (fun s' wr => ∃ j : Nat, s' = .int .i64 j ∧ j ≤ 2 * n ∧ ∃ Y : List Int, Hid (Y = rJ (2 * n) f i j X) ∧ Fg w base n q c A Y wr ∧ BR wr gD n f) (fun s _ => 2 * n - (Go.RowKit.intOf s).toNat)
        case atStart => exact ⟨0, rfl, by omega, X, Lib.hid rfl, hS, hBR⟩
        case round =>
          clear hS hBR k0 k1 k2
          obtain ⟨j, rfl, hj, Y, HY, hS, hBR⟩ := hrel
          obtain ⟨k0, k1, k2⟩ := id hS.out
          rcases Nat.lt_or_ge j (2 * n) with hjt | hjge
          · have dj : decide ((j : Int) < 2 * (n : Int)) = true := decide_eq_true (by omega)
            have c1 := hBR.cell (i := i / 2) (by omega)
            have c2 := hBR.cell (i := j / 2) (by omega)
            have hqi := half_nat i
            have hqj := half_nat j
            have hi2 : i / 2 < n := by omega
            have hj2 : j / 2 < n := by omega
            have hst : rJ (2 * n) f i (j + 1) X = if i ≠ j ∧ (f (i / 2) || f (j / 2)) = true then Y.set (i * (2 * n) + j) 9223372036854775807 else Y := by rw [HY.out]; rfl
            have hpp : i * (2 * n) + j < q := by rw [HLen.out]; exact idx_lt hit hjt
            obtain ⟨g', rfl, hg1, hg2⟩ := hS.row.blockOf (by rw [hS.len]; omega)
            have ei : (i : Int) * (2 * (n : Int)) = ((i * (2 * n) : Nat) : Int) := by push_cast; rfl
            have kk := hS.row.cellAt (i := i * (2 * n) + j) (by rw [hS.len]; exact hpp)
            have kf := hS.row.frozenAt (i * (2 * n) + j)
            have HP1 := Lib.hid (hS.set (i * (2 * n) + j) 9223372036854775807)
            have HB1 := Lib.hid (hBR.other (a := ⟨g', i * (2 * n) + j, none⟩) (HNe.out g' rfl) (.int .i64 9223372036854775807))
            have HS0 := Lib.hid hS
            have HB0 := Lib.hid hBR
            generalize i * (2 * n) = pi at *
            have q1 : (pi : Int) + (j : Int) < (q : Int) := by omega
            generalize nth Y (pi + j) = y at *
            generalize f (i / 2) = z1 at *
            generalize f (j / 2) = z2 at *
            generalize i / 2 = ih at *
            generalize j / 2 = jh at *
            have hihi : (ih : Int) < (n : Int) := by omega
            have hjhi : (jh : Int) < (n : Int) := by omega
            clear hS hBR k1
            by_cases hij : i = j
            · have dij : ((i : Int) != (j : Int)) = false := by rw [hij]; exact bne_self_eq_false _
              have HJ := Lib.hid (show rJ (2 * n) f i (j + 1) X = Y by rw [hst, if_neg (fun k => k.1 hij)])
              clear hst hij
              go_wp2_with fail
              go_roundw
              case rel => exact ⟨j + 1, by go_num, by omega, Y, Lib.hid HJ.out.symm, HS0.out, HB0.out⟩
              case measure => simp [Go.RowKit.intOf]; omega
            · have dij : ((i : Int) != (j : Int)) = true := bne_iff_ne.2 (by omega)
              rcases z1 with _ | _
              · rcases z2 with _ | _
                · have HJ := Lib.hid (show rJ (2 * n) f i (j + 1) X = Y by rw [hst, if_neg (fun k => by simp at k)])
                  clear hst hij
                  go_wp2_with fail
                  go_roundw
                  case rel => exact ⟨j + 1, by go_num, by omega, Y, Lib.hid HJ.out.symm, HS0.out, HB0.out⟩
                  case measure => simp [Go.RowKit.intOf]; omega
                · have HJ := Lib.hid (show rJ (2 * n) f i (j + 1) X = Y.set (pi + j) 9223372036854775807 by rw [hst, if_pos ⟨hij, by simp⟩])
                  clear hst hij
                  go_wp2_with fail
                  go_roundw
                  case rel => exact ⟨j + 1, by go_num, by omega, _, Lib.hid HJ.out.symm, HP1.out, HB1.out⟩
                  case measure => simp [Go.RowKit.intOf]; omega
              · have HJ := Lib.hid (show rJ (2 * n) f i (j + 1) X = Y.set (pi + j) 9223372036854775807 by rw [hst, if_pos ⟨hij, by simp⟩])
                clear hst hij
                go_wp2_with fail
                go_roundw
                case rel => exact ⟨j + 1, by go_num, by omega, _, Lib.hid HJ.out.symm, HP1.out, HB1.out⟩
                case measure => simp [Go.RowKit.intOf]; omega
          · obtain rfl : j = 2 * n := by omega
            go_wp2_with fail
            go_roundw
            case rel => exact ⟨i + 1, by go_num, by omega, Y, Lib.hid (by rw [HY.out, HX.out]; rfl), hS, hBR⟩
            case measure => simp [Go.RowKit.intOf]; omega
      · have hii : i = 2 * n := by omega
        have dk : decide ((i : Int) < 2 * (n : Int)) = false := decide_eq_false (by omega)
        have HX2 := Lib.hid (show P = ((n : Int), false, X) by rw [HP.out, HX.out, hii])
        clear HX HP hii
        obtain ⟨y7, g7⟩ := hS.res.put n false (.slice A q c)
        have hO := hS.row.turn g7 (fun g' hg' => by have := hS.ne g' hg'; omega)
        have hB := ((hS.below.setCell (p := ⟨w.heap.size + 1, 0, none⟩) (by simp; omega) (.int .i64 n)).setCell (p := ⟨w.heap.size + 1, 1, none⟩) (by simp; omega) (.bool false)).setCell (p := ⟨w.heap.size + 1, 2, none⟩) (by simp; omega) (.slice A q c)
        obtain ⟨⟨r0, r1, r2⟩, fr⟩ := id hS.res
        have HXl := Lib.hid hS.len
        have HH := Lib.hid (And.intro y7.box (And.intro hO hB))
        clear y7 g7 hO hB hS hBR
        go_wp2_with fail
        obtain ⟨⟨c0, c1, c2⟩, hO, hB⟩ := HH.out
        refine bodyPost_ret (v := .agg #[.int .i64 n, .bool false, .slice A q c]) (by simp [results, Try.results58, go_sem, c0, c1, c2, r0, r1, r2]) rfl ?_
        rw [HX2.out]
        exact ⟨by rw [HXl.out], hO, hB⟩
  · have hP2 : P = ((n : Int), true, M) := by rw [hP]; rfl
    subst hP2
    have hO := (ho.alloc (.cells #[.int .i64 n, .bool true, .slice A M.length c] 24)).alloc (.cells #[.int .i64 n, .bool true, .slice A M.length c] 24)
    have hB3 := ((Below.refl base w).alloc hbs (.cells #[.int .i64 n, .bool true, .slice A M.length c] 24)).alloc (by simp; omega) (.cells #[.int .i64 n, .bool true, .slice A M.length c] 24)
    have HH := Lib.hid (And.intro hO hB3)
    clear hP hc h1 h0 hm hD hne ho hO hB3
    go_enter Try.func58, Try.ntmps58
    go_wp2_with fail
    obtain ⟨hO, hB3⟩ := HH.out
    exact bodyPost_ret (v := .agg #[.int .i64 n, .bool true, .slice A M.length c]) (by simp [results, Try.results58, go_sem]) rfl ⟨rfl, hO, hB3⟩
end Go.Proofs.Ytkgddgckilledaa
namespace Go.Proofs.Ytkgddgckilledaa
open Go.RowKit
set_option linter.unusedVariables false
set_option linter.unusedSimpArgs false
open Gn
set_option maxRecDepth 100000 in
set_option maxHeartbeats 16000000 in
theorem ref14_Forget (n : Nat) (E : Bool) (A : Option Addr) (c : Nat) (M : List Int) (v : Nat) (w : World) (h : OctIn w w.heap.size A c n M) (hM : (M.length : Int) ≤ 17592186043904) (hc : chk n E M = 0) (hv : v < n) (P : Int × Bool × List Int) (hP : P = forgetP n E M (fun u => decide ((u : Int) = (v : Int)))) :
    Calls Try.prog 27 #[.agg #[.int .i64 n, .bool E, .slice A M.length c], .int .i64 v] w (TellsO w P) := by
  obtain ⟨W, hW, hR0, hs⟩ := box_res w 24 n E (.slice A M.length c)
  have h1 := h.go hR0.below
  obtain ⟨k0, k1, k2, r0, r1, r2, fc, fr, hB, hlt⟩ := id hR0
  have hK : Kp w n E (.slice A M.length c) W := ⟨⟨k0, k1, k2⟩, ⟨⟨r0, r1, r2⟩, fr⟩, hB, by omega⟩
  have cO := ref_Of n E A c M W h1 hM hc
  have hck := clo_chk hc
  obtain ⟨m, hm, hn, _⟩ := chk_zero hc
  obtain rfl : n = m := by omega
  unfold forgetP at hP
  obtain ⟨Q, hQ⟩ : ∃ Q, Q = ofP n E M := ⟨_, rfl⟩
  have hQ1 : clo n E M = Q.1 := by rw [hQ]; rfl
  rw [hQ1] at hP hck
  rw [← hQ] at cO
  unfold TellsOf at cO
  clear hQ hQ1 hc hm
  obtain ⟨⟨Nc, Ec, Mc⟩, sc⟩ := Q
  dsimp only at hck hP cO
  obtain ⟨rfl, hck⟩ := hck
  have HP := Lib.hid hP
  have HCk := Lib.hid hck
  clear hP hck hR0 h h1
  go_enter Try.func27, Try.ntmps27
  go_wp2_with fail
  rw [← hW]
  clear hW k0 k1 k2 r0 r1 r2 fr fc hlt hB
  with_reducible refine cO.mono ?_
  clear cO
  rintro e w1 ⟨A2, c2, rfl, ho1, hb1⟩
  dsimp only at ho1 ⊢
  obtain ⟨w2, hw2⟩ : ∃ w2, w2 = w1.alloc (.cells #[.int .i64 n, .bool Ec, .slice A2 Mc.length c2] /-T-/24) := ⟨_, rfl⟩
  have hC2 : OctAt w2 w1.heap.size n Ec (.slice A2 Mc.length c2) := by rw [hw2]; exact OctAt.box _ _ _ _ _
  have hb2 : Below W.heap.size W w2 := by rw [hw2]; exact hb1.alloc hb1.size _
  have ho2 : Ow w2 W.heap.size 2 .i64 A2 c2 Mc := by rw [hw2]; exact ho1.alloc _
  have hlA : ∀ g, A2 = some ⟨g, 0, none⟩ → g < w1.heap.size := fun g hg => by subst hg; exact ho1.blockGe.2
  have hs2 : w2.heap.size = w1.heap.size + 1 := by rw [hw2]; simp
  have hK2 := hK.go hb2
  have hmk := make_bools n hn w2
  obtain ⟨k0, k1, k2⟩ := id hK2.box
  have hs1W := hb1.size
  obtain ⟨w4, hw4⟩ : ∃ w4, w4 = w2.alloc (.cells ((madeCells #[.bool false] n).setIfInBounds v (.bool true)) /-T-/4) := ⟨_, rfl⟩
  have hb4 : Below w2.heap.size w2 w4 := by rw [hw4]; exact (Below.refl _ _).alloc (Nat.le_refl _) _
  have hBR4 : BR w4 w2.heap.size n (fun k => if k = v then true else false) := by
    rw [hw4]
    have h1 := World.rowIs_alloc w2 ((madeCells #[.bool false] n).setIfInBounds v (.bool true)) 4 (fun k => .bool (if k = v then true else false)) (fun i hi => by
      rw [Array.size_setIfInBounds, size_madeCells] at hi
      rw [Array.getElem?_setIfInBounds]
      by_cases e : v = i
      · subst e; simp [size_madeCells, hi]
      · rw [if_neg e, if_neg (fun h => e h.symm)]
        simp [madeCells, hi, Nat.mod_one])
    rw [Array.size_setIfInBounds, size_madeCells] at h1
    exact h1
  have hC4 := hC2.below hb4
  have ho4 := ho2.below hb4
  have hK4 := hK2.go hb4
  have hb24 := hb2.trans (hb4.mono hb2.size)
  have hvn : (v : Int) < (n : Int) := by omega
  have cD := ref14_Drop n Ec A2 c2 Mc HCk.out w2.heap.size n (fun k => if k = v then true else false) w4 W.heap.size hb24.size ho4 hBR4 (fun g hg e => by have := hlA g hg; omega) P (by
    rw [HP.out]
    exact dropO_congr fun u hu => by
      by_cases hu' : u = v
      · rw [if_pos hu', decide_eq_true (by omega)]
      · rw [if_neg hu', decide_eq_false (by omega)])
  obtain ⟨c0, c1, c2'⟩ := id hC4
  rw [hw4] at c0 c1 c2'
  have hsm : n < 9223372036854775807 := by omega
  rw [hw2] at k0 k1 k2
  clear hb1 ho1 hb2 hBR4 hK2 hb4 hC2 ho2 ho4 hC4
  have hs4 := hb24.size
  have HW2 := Lib.hid hw2
  have HW4 := Lib.hid hw4
  rw [hw2] at hmk c0 c1 c2'
  clear hw2 hw4
  have hmv : (madeCells #[Value.bool false] n)[v]? = some (.bool false) := by simp [madeCells, hv, Nat.mod_one]
  go_upto_region 4 with fail
  rw [← HW2.out, ← HW4.out]
  rw [← HW2.out, ← HW4.out] at c0 c1 c2'
  clear k0 k1 k2 hmk hmv
  rw [hs2] at cD
  go_wp2_with fail
  with_reducible refine cD.mono ?_
  clear cD
  obtain ⟨Nr, Er, Mr⟩ := P
  rintro e w5 ⟨rfl, ho5, hb5⟩
  dsimp only at ho5 ⊢
  have hK5 := hK.go (hb24.trans hb5)
  have hs5 := hK5.size
  clear hK hK4 hb24 hb5 c0 c1 c2' HW2 HW4 HP HCk
  obtain ⟨⟨r0, r1, r2⟩, fr⟩ := id hK5.res
  have hS := Lib.hid (hK5.res.res hK5.below (by omega) Nr Er (.slice A2 Mr.length c2))
  have hO := Lib.hid (ho5.put3 (b := w.heap.size + 1) (by omega) (.int .i64 Nr) (.bool Er) (.slice A2 Mr.length c2))
  clear hK5
  go_wp2_with fail
  obtain ⟨⟨s0, s1, s2⟩, hB5⟩ := hS.out
  exact bodyPost_ret (v := .agg #[.int .i64 Nr, .bool Er, .slice A2 Mr.length c2]) (by simp [results, Try.results27, go_sem, r0, r1, r2]) rfl ⟨A2, c2, rfl, hO.out.lower (by omega), hB5⟩
namespace Gn
/-- What is left out, as a row of bools. -/
theorem outOf_put {l : List Int} {k : Nat} (hk : k < l.length) {x : Nat} (hx : nth l k = x) (u : Nat) : (if u = x then false else outOf (l.take k) u) = outOf (l.take (k + 1)) u := by
  rw [take_nth hk, hx]
  unfold outOf
  generalize l.take k = t
  by_cases h : u = x
  · simp [h]
  · simp [h]
    intro _ e
    exact h (by omega)
end Gn
set_option maxRecDepth 100000 in
set_option maxHeartbeats 16000000 in
theorem ref14_Keep (n : Nat) (E : Bool) (A : Option Addr) (c : Nat) (M : List Int) (AL : Option Addr) (cL : Nat) (l : List Int) (w : World) (h : OctIn w w.heap.size A c n M) (hr : Rd w w.heap.size .i64 AL l.length (nth l)) (hl : ∀ x ∈ l, I64 x) (hln : l.length ≤ 1000000) (hM : (M.length : Int) ≤ 17592186043904) (hc : chk n E M = 0) (p : Int) (hp : p = if inN n l = true then 0 else 122) (R : Int × Bool × List Int) (hR : R = if inN n l = true then forgetP n E M (outOf l) else (0, false, [])) :
    Calls Try.prog 26 #[.agg #[.int .i64 n, .bool E, .slice A M.length c], .slice AL l.length cL] w (TellsE w R p) := by
  obtain ⟨W, hW, hR0, hs⟩ := box_res w 24 n E (.slice A M.length c)
  have h1 := h.go hR0.below
  obtain ⟨k0, k1, k2, r0, r1, r2, fc, fr, hB, hlt⟩ := id hR0
  have hK : Kp w n E (.slice A M.length c) W := ⟨⟨k0, k1, k2⟩, ⟨⟨r0, r1, r2⟩, fr⟩, hB, by omega⟩
  have HIn := Lib.hid h
  have HRl := Lib.hid hr
  have HLi := Lib.hid hl
  obtain ⟨m, hm, hn, _⟩ := chk_zero hc
  obtain rfl : n = m := by omega
  have cO := fun X (hX : Below w.heap.size w X) => ref_Of n E A c M X (HIn.out.go hX) hM hc
  have hck := clo_chk hc
  unfold forgetP at hR
  obtain ⟨Q, hQ⟩ : ∃ Q, Q = ofP n E M := ⟨_, rfl⟩
  have hQ1 : clo n E M = Q.1 := by rw [hQ]; rfl
  rw [hQ1] at hR hck
  rw [← hQ] at cO
  unfold TellsOf at cO
  clear hQ hQ1 hc hm
  obtain ⟨⟨Nc, Ec, Mc⟩, sc⟩ := Q
  dsimp only at hck hR cO
  obtain ⟨rfl, hck⟩ := hck
  have HP := Lib.hid hp
  have HR := Lib.hid hR
  have HCk := Lib.hid hck
  have hmk := make_bools n hn W
  have hBR := BR.made W n
  have hK0 := hK.go ((Below.refl _ W).alloc (Nat.le_refl _) (.cells (madeCells #[.bool false] n) 4))
  have hsm : n < 9223372036854775807 := by omega
  clear hp hR hck hR0 h h1 hr hl hK hB fc hlt
  rw [hW] at hmk k0 k1 k2
  go_enter Try.func26, Try.ntmps26
  go_wp2_with fail
  rw [← hW]
  clear hW k0 k1 k2 r0 r1 r2 fr hmk
  generalize W.alloc (.cells (madeCells #[.bool false] n) 4) = w0 at *
  rw [show W.heap.size = w.heap.size + 1 + 1 from hs] at hBR
  obtain ⟨gD, hgD⟩ : ∃ gD, gD = w.heap.size + 1 + 1 := ⟨_, rfl⟩
  rw [← hgD] at hBR ⊢
  have hgD' : w.heap.size + 2 ≤ gD := by omega
  clear hgD hs
  go_loopw [7] (fun s' wr => ∃ i : Nat, s' = .int .i64 i ∧ i ≤ n ∧ BR wr gD n (fun k => decide (k < i)) ∧ Kp w n E (.slice A M.length c) wr) (fun s _ => n - (Go.RowKit.intOf s).toNat)
  case atStart => exact ⟨0, rfl, by omega, hBR.congr (fun k hk => (decide_eq_false (by omega)).symm), hK0⟩
  case round =>
    obtain ⟨i, rfl, hi, hBi, hK⟩ := hrel
    clear hBR hK0
    obtain ⟨k0, k1, k2⟩ := id hK.box
    rcases Nat.lt_or_ge i n with hin | hin
    · have di : decide ((i : Int) < (n : Int)) = true := decide_eq_true (by omega)
      have q1 : (i : Int) < (n : Int) := by omega
      have kk := hBi.cell hin
      have kf := hBi.fz i
      have HB1 := Lib.hid ((hBi.put i true).congr (f' := fun k => decide (k < i + 1)) (fun k hk => by
        by_cases e : k = i
        · rw [if_pos e, decide_eq_true (by omega)]
        · rw [if_neg e]; exact decide_eq_decide.2 (by omega)))
      have HK1 := Lib.hid (hK.turn (b := gD) (only_setCell (World.grownBy.refl _ (some gD)) (p := ⟨gD, i, none⟩) (.inl rfl) (.bool true)) hgD')
      clear hBi hK
      go_wp2_with fail
      go_roundw
      case rel => exact ⟨i + 1, by go_num, by omega, HB1.out, HK1.out⟩
      case measure => simp [Go.RowKit.intOf]; omega
    · obtain rfl : n = i := by omega
      have di : decide ((n : Int) < (n : Int)) = false := decide_eq_false (by omega)
      have HB1 := Lib.hid (hBi.congr (f' := outOf (l.take 0)) (fun k hk => by rw [decide_eq_true hk]; rfl))
      have HK := Lib.hid hK
      clear hBi hK
      have hlen : (l.length : Int) ≤ 1000000 := by omega
      go_wp2_with fail
      clear k0 k1 k2
      go_loopw [8] (fun s' wr => ∃ k : Nat, s' = .int .i64 k ∧ k ≤ l.length ∧ Hid (inN n (l.take k) = true) ∧ Hid (BR wr gD n (outOf (l.take k))) ∧ Kp w n E (.slice A M.length c) wr) (fun s _ => l.length - (Go.RowKit.intOf s).toNat)
      case atStart => exact ⟨0, rfl, by omega, Lib.hid rfl, HB1, HK.out⟩
      case round =>
        obtain ⟨k, rfl, hk, HI, HB2, hK⟩ := hrel
        clear HB1 HK
        obtain ⟨k0, k1, k2⟩ := id hK.box
        rcases Nat.lt_or_ge k l.length with hkt | hkge
        · have dk : decide ((k : Int) < (l.length : Int)) = true := decide_eq_true (by omega)
          obtain ⟨gl, off, rfl, hgl, hcell⟩ := HRl.out (by omega)
          have kc := (hK.below.cell (p := ⟨gl, off + k, none⟩) hgl).trans (hcell k hkt)
          have hxi : I64 (nth l k) := HLi.out _ (nth_mem hkt)
          have q1 : (k : Int) < (l.length : Int) := by omega
          by_cases hbad : nth l k < 0 ∨ (n : Int) ≤ nth l k
          · have hE : p = 122 := by rw [HP.out, if_neg (by rw [inN_bad hkt hbad]; simp)]
            have hR2 : R = (0, false, []) := by rw [HR.out, if_neg (by rw [inN_bad hkt hbad]; simp)]
            subst hE hR2
            clear HP HR hcell HI HB2
            generalize nth l k = x at *
            have a1 := After.cell kc
            have a2 := After.cell k0
            by_cases hx0 : x < 0
            · have dx : decide (x < 0) = true := decide_eq_true hx0
              go_wp2_with fail
              refine wp_region_after (by kernel_rfl) (by kernel_rfl) ?_
              repeat (go_big_quiet_step (fail))
              refine wpQuiet_nil ?_
              intro w6 hb6
              have hK6 := hK.go hb6
              have hs6 := hK6.size
              clear hK hb6 a1 a2 k0 k1 k2 kc
              obtain ⟨⟨r0, r1, r2⟩, fr⟩ := id hK6.res
              have hS := Lib.hid (hK6.res.res hK6.below (by omega) 0 false (.slice none 0 0))
              have hO := Lib.hid ((Ow.nil w6 (w.heap.size + 2) 2 .i64).put3 (b := w.heap.size + 1) (by omega) (.int .i64 0) (.bool false) (.slice none 0 0))
              clear hK6
              go_wp2_with fail
              obtain ⟨⟨s0, s1, s2⟩, hB3⟩ := hS.out
              exact bodyPost_ret (v := .tuple #[.agg #[.int .i64 0, .bool false, .slice none 0 0], .int .i64 122]) (by simp [results, Try.results26, go_sem, r0, r1, r2]) rfl ⟨none, 0, rfl, hO.out.lower (by omega), hB3⟩
            · have dx : decide (x < 0) = false := decide_eq_false hx0
              have hx1 : (n : Int) ≤ x := by omega
              have dx1 : decide (x ≥ (n : Int)) = true := decide_eq_true hx1
              clear hbad hx0
              go_wp2_with fail
              refine wp_region_after (by kernel_rfl) (by kernel_rfl) ?_
              repeat (go_big_quiet_step (fail))
              refine wpQuiet_nil ?_
              intro w6 hb6
              have hK6 := hK.go hb6
              have hs6 := hK6.size
              clear hK hb6 a1 a2 k0 k1 k2 kc
              obtain ⟨⟨r0, r1, r2⟩, fr⟩ := id hK6.res
              have hS := Lib.hid (hK6.res.res hK6.below (by omega) 0 false (.slice none 0 0))
              have hO := Lib.hid ((Ow.nil w6 (w.heap.size + 2) 2 .i64).put3 (b := w.heap.size + 1) (by omega) (.int .i64 0) (.bool false) (.slice none 0 0))
              clear hK6
              go_wp2_with fail
              obtain ⟨⟨s0, s1, s2⟩, hB3⟩ := hS.out
              exact bodyPost_ret (v := .tuple #[.agg #[.int .i64 0, .bool false, .slice none 0 0], .int .i64 122]) (by simp [results, Try.results26, go_sem, r0, r1, r2]) rfl ⟨none, 0, rfl, hO.out.lower (by omega), hB3⟩
          · have g2 : nth l k < (n : Int) := by omega
            have HI2 := Lib.hid (inN_take hkt HI.out (by omega) g2)
            obtain ⟨x, hx⟩ : ∃ x : Nat, nth l k = x := ⟨(nth l k).toNat, by omega⟩
            have hxn : x < n := by omega
            have HT := Lib.hid (outOf_put hkt hx)
            rw [hx] at kc g2
            have dx : decide ((x : Int) < 0) = false := decide_eq_false (by omega)
            have dx1 : decide ((x : Int) ≥ (n : Int)) = false := decide_eq_false (by omega)
            clear hbad hcell HI hxi hx
            have hBk := HB2.out
            have a1 := After.cell kc
            have a2 := After.cell k0
            have HB2' := Lib.hid hBk
            clear hBk HB2
            go_wp2_with fail
            refine wp_region_after (by kernel_rfl) (by kernel_rfl) ?_
            repeat (go_big_quiet_step (fail))
            refine wpQuiet_nil ?_
            intro w6 hb6
            have hB6 := HB2'.out.below hb6
            have hK6 := hK.go hb6
            have kc6 := below_cell hb6 kc
            have kk := hB6.cell hxn
            have kf := hB6.fz x
            have HB7 := Lib.hid ((hB6.put x false).congr fun u _ => HT.out u)
            have HK7 := Lib.hid (hK6.turn (b := gD) (only_setCell (World.grownBy.refl _ (some gD)) (p := ⟨gD, x, none⟩) (.inl rfl) (.bool false)) hgD')
            clear hK hb6 a1 a2 k0 k1 k2 kc hB6 hK6 HB2'
            go_wp2_with fail
            go_roundw
            case rel => exact ⟨k + 1, by go_num, by omega, HI2, HB7, HK7.out⟩
            case measure => simp [Go.RowKit.intOf]; omega
        · obtain rfl : k = l.length := by omega
          have dk : decide ((l.length : Int) < (l.length : Int)) = false := decide_eq_false (by omega)
          have hI := HI.out
          have hBk := HB2.out
          rw [List.take_length] at hI hBk
          have hE : p = 0 := by rw [HP.out, if_pos hI]
          have hR2 : R = dropO (n, Ec, Mc) (outOf l) := by rw [HR.out, if_pos hI]
          subst hE
          have HR2 := Lib.hid hR2
          have cC := cO wr hK.below
          have HBk := Lib.hid hBk
          clear HP HR HI HB2 hI hR2 cO hBk
          go_wp2_with fail
          with_reducible refine cC.mono ?_
          clear cC
          rintro e w2 ⟨A2, c2, rfl, ho2, hb2⟩
          dsimp only at ho2 ⊢
          obtain ⟨w3, hw3⟩ : ∃ w3, w3 = w2.alloc (.cells #[.int .i64 n, .bool Ec, .slice A2 Mc.length c2] /-T-/24) := ⟨_, rfl⟩
          have hC3 : OctAt w3 w2.heap.size n Ec (.slice A2 Mc.length c2) := by rw [hw3]; exact OctAt.box _ _ _ _ _
          have hb3 : Below wr.heap.size wr w3 := by rw [hw3]; exact hb2.alloc hb2.size _
          have ho3 : Ow w3 wr.heap.size 2 .i64 A2 c2 Mc := by rw [hw3]; exact ho2.alloc _
          have hgl := HBk.out.lt
          have cD := ref14_Drop n Ec A2 c2 Mc HCk.out gD n (outOf l) w3 wr.heap.size hb3.size ho3 (HBk.out.below hb3) (fun g hg e => by subst hg; have := ho3.blockGe.1; omega) R HR2.out
          obtain ⟨c0, c1, c2'⟩ := id hC3
          have HW3 := Lib.hid hw3
          rw [hw3] at c0 c1 c2'
          clear ho2 hb2 hC3 ho3 HBk k0 k1 k2 hw3
          go_upto_region 13 with fail
          rw [← HW3.out]
          rw [← HW3.out] at c0 c1 c2'
          go_wp2_with fail
          with_reducible refine cD.mono ?_
          clear cD
          obtain ⟨Nr, Er, Mr⟩ := R
          rintro e w4 ⟨rfl, ho4, hb4⟩
          dsimp only at ho4 ⊢
          have hK4 := hK.go (hb3.trans hb4)
          have hs1 := hK.size
          have hs4 := hK4.size
          clear hK hb3 hb4 c0 c1 c2' HW3 HR2 HCk
          obtain ⟨⟨r0, r1, r2⟩, fr⟩ := id hK4.res
          have hS := Lib.hid (hK4.res.res hK4.below (by omega) Nr Er (.slice A2 Mr.length c2))
          have hO := Lib.hid (ho4.put3 (b := w.heap.size + 1) (by omega) (.int .i64 Nr) (.bool Er) (.slice A2 Mr.length c2))
          clear hK4
          go_wp2_with fail
          obtain ⟨⟨s0, s1, s2⟩, hB5⟩ := hS.out
          exact bodyPost_ret (v := .tuple #[.agg #[.int .i64 Nr, .bool Er, .slice A2 Mr.length c2], .int .i64 0]) (by simp [results, Try.results26, go_sem, r0, r1, r2]) rfl ⟨A2, c2, rfl, hO.out.lower (by omega), hB5⟩
end Go.Proofs.Ytkgddgckilledaa

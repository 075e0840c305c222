/- Plain: what an octagon tells of variables, sums, differences, operands; and the walks of the package span that ask an octagon. -/
import Derived.Test.YtkogplnleiapfaaOtg
import Derived.Test.YtkogplnleiapfaaSpy
namespace Go.Proofs.Ytkogplnleiapfaa
open Go.RowKit
set_option linter.unusedVariables false
set_option linter.unusedSimpArgs false
namespace Gn
/-- The range that two cells bound. -/
def sidesR (up down : Int) : Rg := toR (-down) (decide (down ≠ 9223372036854775807)) up (decide (up ≠ 9223372036854775807))
/-- Are numbers of variables there? -/
def inB (N : Int) (xs : List Int) : Bool := xs.all fun v => decide (0 ≤ v ∧ v < N)
def askE (N : Int) (E : Bool) (M : List Int) (xs : List Int) : Int := if chk N E M ≠ 0 then chk N E M else if inB N xs = true then 0 else 122
def askO (N : Int) (E : Bool) (M : List Int) (xs : List Int) : Int × Bool × List Int := if askE N E M xs = 0 then clo N E M else (0, false, [])
theorem askE_chk {N : Int} {E : Bool} {M xs : List Int} (h : chk N E M ≠ 0) : askE N E M xs = chk N E M := by unfold askE; rw [if_pos h]
theorem askE_in {N : Int} {E : Bool} {M xs : List Int} (h : chk N E M = 0) (k : inB N xs = true) : askE N E M xs = 0 := by unfold askE; rw [if_neg (by omega), if_pos k]
theorem askE_out {N : Int} {E : Bool} {M xs : List Int} (h : chk N E M = 0) (k : inB N xs = false) : askE N E M xs = 122 := by unfold askE; rw [if_neg (by omega), k, if_neg (by simp)]
theorem askE_zero {N : Int} {E : Bool} {M xs : List Int} (h : askE N E M xs = 0) : chk N E M = 0 ∧ inB N xs = true := by
  by_cases hc : chk N E M = 0
  · refine ⟨hc, ?_⟩
    cases e : inB N xs
    · rw [askE_out hc e] at h; exact absurd h (by decide)
    · rfl
  · rw [askE_chk hc] at h; exact absurd h hc
theorem inB_no {N : Int} {xs : List Int} {i : Nat} (hi : i < xs.length) (h : ¬ (0 ≤ nth xs i ∧ nth xs i < N)) : inB N xs = false := by
  cases e : inB N xs
  · rfl
  · have := List.all_eq_true.1 e _ (nth_mem hi)
    simp only [decide_eq_true_eq] at this
    exact absurd this h
theorem inB_all {N : Int} {xs : List Int} (h : ∀ i, i < xs.length → 0 ≤ nth xs i ∧ nth xs i < N) : inB N xs = true :=
  List.all_eq_true.2 fun v hv => by
    obtain ⟨i, hi, rfl⟩ := mem_nth hv
    simp only [decide_eq_true_eq]
    exact h i hi
theorem inB_one {N v : Int} (h : inB N [v] = true) : 0 ≤ v ∧ v < N := by simpa [inB] using h
theorem inB_two {N u v : Int} (h : inB N [u, v] = true) : (0 ≤ u ∧ u < N) ∧ 0 ≤ v ∧ v < N := by simpa [inB] using h
/-- A range that is told, whether there is one, an error. -/
structure Ans where
  r : Rg
  ok : Bool
  e : Int
def ansP (f : Int → Int) (N : Int) (E : Bool) (M : List Int) (xs : List Int) (i j : Nat) : Ans :=
  if askE N E M xs ≠ 0 then ⟨Rg.none, false, askE N E M xs⟩ else if (clo N E M).2.1 = true then ⟨Rg.none, false, 0⟩
  else ⟨sidesR (f (cl (2 * N.toNat) (clo N E M).2.2 i j)) (f (cl (2 * N.toNat) (clo N E M).2.2 (ac i) (ac j))), true, 0⟩
end Gn
open Gn
/-- An octagon that a call tells, with an error. -/
def TellsVX (w : World) (R : Int × Bool × List Int) (x : Int) (e : Ending) (w' : World) : Prop :=
  ∃ o : OV, e = .returned (.tuple #[.agg #[.int .i64 o.N, .bool o.E, .slice o.A o.M.length o.c], .int .i64 x]) ∧ Told w w' R o
theorem told_zero {w w' : World} (hb : Below w.heap.size w w') (c : Nat) (hc : c = 0) : Told w w' (0, false, []) ⟨0, false, none, c, []⟩ := by
  subst hc
  exact ⟨⟨by show I64 0; unfold I64; omega, Rd.zero, by simp, by simp, by simp⟩, by simp, rfl, hb⟩
set_option maxRecDepth 100000 in
set_option maxHeartbeats 8000000 in
theorem span_asked (o : OV) (B : Option Addr) (cb : Nat) (xs : List Int) (w : World) (h : OctIn w w.heap.size o.A o.c o.N o.M) (hM : (o.M.length : Int) ≤ 17592186043904) (hx : Rd w w.heap.size .i64 B xs.length (nth xs)) (hxl : (xs.length : Int) ≤ 1000)
    (x : Int) (hX : askE o.N o.E o.M xs = x) :
    Calls Try.prog 77 #[.agg #[.int .i64 o.N, .bool o.E, .slice o.A o.M.length o.c], .slice B xs.length cb] w (TellsVX w (askO o.N o.E o.M xs) x) := by
  obtain ⟨W, hW, hR, hs⟩ := box_res w 24 o.N o.E (.slice o.A o.M.length o.c)
  have HSz : Hid (w.heap.size + 1 < W.heap.size) := Lib.hid (by omega)
  clear hs
  have h1 := h.go hR.below
  have hx1 := (hx.below hR.below).more hR.below.size
  obtain ⟨P, hP⟩ : ∃ P, closeP o.N o.E o.M = P := ⟨_, rfl⟩
  have cC := close_CloseW o.N o.E o.A o.c o.M W h1 hM P hP
  unfold TellsCl at cC
  have hPe : P.2 = chk o.N o.E o.M := by rw [← hP, closeP_err]
  have hPc : clo o.N o.E o.M = P.1.1 := by rw [← hP]; rfl
  have HE := Lib.hid hPe
  have HC := Lib.hid hPc
  have HX := Lib.hid hX
  have HK : Hid (chk o.N o.E o.M = 0 → chk P.1.1.1 P.1.1.2.1 P.1.1.2.2 = 0) := Lib.hid (fun hk => by have := clo_chk hk; rw [hPc] at this; rw [this.1]; exact this.2)
  clear hP hPe hPc hX
  obtain ⟨⟨⟨Nc, Ec, Mc⟩, sc⟩, ec⟩ := P
  dsimp only at cC HE HC HK
  obtain ⟨k0, k1, k2, r0, r1, r2, fc, fr, hB, hlt⟩ := id hR
  go_enter Try.func77, Try.ntmps77
  rw [hW] at k0 k1 k2 r0 r1 r2 fc fr
  go_wp2_with fail
  rw [← hW]
  clear hW k0 k1 k2 r0 r1 r2 fc fr hlt
  with_reducible refine cC.mono ?_
  clear cC
  rintro e w1 ⟨A2, c2, rfl, ho1, hb1⟩
  dsimp only at ho1 ⊢
  have hR1 := hR.go hb1
  have hx2 := (hx1.below hb1).more hb1.size
  clear hR hx1 hb1 h1 hB
  obtain ⟨w2, hw2⟩ : ∃ X, X = w1.alloc (.cells #[.int .i64 Nc, .bool Ec, .slice A2 Mc.length c2] /-T-/24) := ⟨_, rfl⟩
  have hP2 : OctAt w2 w1.heap.size Nc Ec (.slice A2 Mc.length c2) := by rw [hw2]; exact OctAt.box _ _ _ _ _
  have hb2 : Below w1.heap.size w1 w2 := by rw [hw2]; exact (Below.refl _ _).alloc (Nat.le_refl _) _
  have hR2 := hR1.go hb2
  have hx3 := (hx2.below hb2).more hb2.size
  have ho2 := ho1.below hb2
  clear hR1 hx2 ho1 hb2
  obtain ⟨k0, k1, k2, r0, r1, r2, fc, fr, hB, hlt⟩ := id hR2
  obtain ⟨p0, p1, p2⟩ := id hP2
  by_cases he : ec = 0
  · have hd : (ec != 0) = false := bne_eq_false_iff_eq.2 he
    have HC0 : Hid (chk o.N o.E o.M = 0) := Lib.hid (HE.out.symm.trans he)
    clear he
    rw [hw2] at k0 k1 k2 r0 r1 r2 fc fr p0 p1 p2
    go_wp2_with fail
    rw [← hw2]
    clear hw2 k0 k1 k2 r0 r1 r2 fc fr p0 p1 p2 hd HE
    generalize w1.heap.size = bC at *
    have HRd := Lib.hid hx3
    have HHo := Lib.hid ho2
    have HHR := Lib.hid hR2
    have HHP := Lib.hid hP2
    clear hx3 ho2 hR2 hP2
    have hmx : (xs.length : Int) ≤ 9223372036854775807 := by omega
    go_loopw [23] (fun i wr => ∃ k : Nat, i = .int .i64 k ∧ k ≤ xs.length ∧ Hid (∀ j, j < k → 0 ≤ nth xs j ∧ nth xs j < o.N) ∧ Below w2.heap.size w2 wr) (fun i _ => xs.length - (intOf i).toNat)
    case atStart => exact ⟨0, rfl, by omega, Lib.hid (fun j hj => absurd hj (by omega)), Below.refl _ _⟩
    case round =>
      obtain ⟨i, rfl, hi, HLe, hbw⟩ := hrel
      have hRw := HHR.out.go hbw
      have hend := Lib.hid (cells_res (N' := 0) (E' := false) (v' := .slice none 0 0) hRw)
      rcases Nat.lt_or_ge i xs.length with hlt' | hge
      · obtain ⟨g, off, rfl, hg, hcell⟩ := HRd.out (by omega)
        have q0 := (hbw.cell (p := ⟨g, off + i, none⟩) hg).trans (hcell i hlt')
        obtain ⟨k0, k1, k2, r0, r1, r2, fc, fr, hB', hlt⟩ := id hRw
        have q1 : (i : Int) < (xs.length : Int) := by omega
        have HLt := Lib.hid hlt'
        have HN : Hid (¬ (0 ≤ nth xs i ∧ nth xs i < o.N) → x = 122) := Lib.hid (fun k => by rw [← HX.out]; exact askE_out HC0.out (inB_no HLt.out k))
        have HO : Hid (¬ (0 ≤ nth xs i ∧ nth xs i < o.N) → askO o.N o.E o.M xs = (0, false, [])) := Lib.hid (fun k => by unfold askO; rw [askE_out HC0.out (inB_no HLt.out k)]; rfl)
        have HS : Hid (0 ≤ nth xs i ∧ nth xs i < o.N → ∀ j, j < i + 1 → 0 ≤ nth xs j ∧ nth xs j < o.N) := Lib.hid (fun k j hj => by
          rcases Nat.lt_or_ge j i with h1 | h1
          · exact HLe.out j h1
          · obtain rfl : j = i := by omega
            exact k)
        clear hcell hlt'
        generalize nth xs i = y at *
        have HBW := Lib.hid hbw
        clear hbw
        by_cases hy : 0 ≤ y ∧ y < o.N
        · obtain ⟨hy1, hy2⟩ := id hy
          have HS2 := Lib.hid (HS.out hy)
          clear hy HS HN HO
          go_wp2_with fail
          go_roundw
          case rel => exact ⟨i + 1, by go_num, by have := HLt.out; omega, HS2, HBW.out⟩
          case measure => have := HLt.out; simp [intOf]; omega
        · have HF := Lib.hid (HN.out hy)
          have HG := Lib.hid (HO.out hy)
          clear HS HN HO
          by_cases hy1 : y < 0
          · clear hy
            go_wp2_with fail
            refine bodyPost_ret (v := .tuple #[.agg #[.int .i64 0, .bool false, .slice none 0 0], .int .i64 122]) (by simp [results, Try.results77, go_sem, r0, r1, r2]) rfl ?_
            rw [HF.out, HG.out]
            exact ⟨⟨0, false, none, 0, []⟩, rfl, told_zero hend.out 0 rfl⟩
          · have hy2 : o.N ≤ y := by omega
            clear hy
            go_wp2_with fail
            refine bodyPost_ret (v := .tuple #[.agg #[.int .i64 0, .bool false, .slice none 0 0], .int .i64 122]) (by simp [results, Try.results77, go_sem, r0, r1, r2]) rfl ?_
            rw [HF.out, HG.out]
            exact ⟨⟨0, false, none, 0, []⟩, rfl, told_zero hend.out 0 rfl⟩
      · have hil : i = xs.length := by omega
        have HIN : Hid (inB o.N xs = true) := Lib.hid (inB_all (fun j hj => HLe.out j (by omega)))
        have HF := Lib.hid (show x = 0 by rw [← HX.out]; exact askE_in HC0.out HIN.out)
        have HG := Lib.hid (show askO o.N o.E o.M xs = (Nc, Ec, Mc) by unfold askO; rw [askE_in HC0.out HIN.out, if_pos rfl, HC.out])
        have hd : decide ((i : Int) < (xs.length : Int)) = false := decide_eq_false (by omega)
        clear hil
        obtain ⟨k0, k1, k2, r0, r1, r2, fc, fr, hB', hlt⟩ := id hRw
        obtain ⟨p0, p1, p2⟩ := id (HHP.out.below hbw)
        have hfin := Lib.hid (cells_res (N' := Nc) (E' := Ec) (v' := .slice A2 Mc.length c2) hRw)
        have HOw := Lib.hid ((HHo.out.below hbw).put3 (b := w.heap.size + 1) HSz.out (.int .i64 Nc) (.bool Ec) (.slice A2 Mc.length c2))
        go_wp2_with fail
        refine bodyPost_ret (v := .tuple #[.agg #[.int .i64 Nc, .bool Ec, .slice A2 Mc.length c2], .int .i64 0]) (by simp [results, Try.results77, go_sem, r0, r1, r2]) rfl ?_
        rw [HF.out, HG.out]
        have hk := HK.out HC0.out
        exact ⟨⟨Nc, Ec, A2, c2, Mc⟩, rfl, ⟨HOw.out.oct (chk_i64 hk) (chk_ints hk), by have := chk_len hk; simp only; omega, rfl, hfin.out⟩⟩
  · have hd : (ec != 0) = true := bne_iff_ne.2 he
    have HF := Lib.hid (show x = ec by rw [← HX.out, askE_chk (by rw [← HE.out]; exact he), HE.out])
    have HG := Lib.hid (show askO o.N o.E o.M xs = (0, false, []) by unfold askO; rw [askE_chk (by rw [← HE.out]; exact he), if_neg (by rw [← HE.out]; exact he)])
    clear he HE
    have hend := Lib.hid (cells_res (N' := 0) (E' := false) (v' := .slice none 0 0) hR2)
    rw [hw2] at k0 k1 k2 r0 r1 r2 fc fr p0 p1 p2
    go_wp2_with fail
    rw [← hw2] at r0 r1 r2 ⊢
    refine bodyPost_ret (v := .tuple #[.agg #[.int .i64 0, .bool false, .slice none 0 0], .int .i64 ec]) (by simp [results, Try.results77, go_sem, r0, r1, r2]) rfl ?_
    rw [HF.out, HG.out]
    exact ⟨⟨0, false, none, 0, []⟩, rfl, told_zero hend.out 0 rfl⟩
theorem span_same (a : Int) (w : World) : Calls Try.prog 80 #[.int .i64 a] w fun e w' => e = .returned (.int .i64 a) ∧ w = w' := by
  go_enter Try.func80, Try.ntmps80
  go_wp2_with fail
  go_ret
  exact ⟨rfl, rfl⟩
theorem span_upper (n : Int) (w : World) :
    Calls Try.prog 112 #[.int .i64 n] w fun e w' => e = .returned (.agg #[.int .i64 n, .bool (decide (n ≠ 9223372036854775807))]) ∧ Below w.heap.size w w' := by
  by_cases h : n = 9223372036854775807
  · have d : (n != 9223372036854775807) = false := bne_eq_false_iff_eq.2 h
    rw [decide_eq_false (fun k => k h)]
    clear h
    go_enter Try.func112, Try.ntmps112
    go_wp2_with fail
    refine bodyPost_ret (v := .agg #[.int .i64 n, .bool false]) (by simp [results, Try.results112, go_sem]) rfl ⟨rfl, ?_⟩
    repeat (first | exact Below.refl _ _ | refine Below.setCell ?_ (by simp) _ | refine Below.alloc ?_ (by simp) _)
  · have d : (n != 9223372036854775807) = true := bne_iff_ne.2 h
    rw [decide_eq_true h]
    clear h
    go_enter Try.func112, Try.ntmps112
    go_wp2_with fail
    refine bodyPost_ret (v := .agg #[.int .i64 n, .bool true]) (by simp [results, Try.results112, go_sem]) rfl ⟨rfl, ?_⟩
    repeat (first | exact Below.refl _ _ | refine Below.setCell ?_ (by simp) _ | refine Below.alloc ?_ (by simp) _)
/-- The end that a cell's contrary says. -/
theorem span_lower (n : Int) (w : World) (hn : Bd n) :
    Calls Try.prog 111 #[.int .i64 n] w fun e w' => (∃ m, e = .returned (.agg #[.int .i64 m, .bool (decide (n ≠ 9223372036854775807))]) ∧ (n ≠ 9223372036854775807 → m = -n)) ∧ Below w.heap.size w w' := by
  by_cases h : n = 9223372036854775807
  · have d : (n == 9223372036854775807) = true := beq_iff_eq.2 h
    rw [decide_eq_false (fun k => k h)]
    have H := Lib.hid h
    clear h hn
    go_enter Try.func111, Try.ntmps111
    go_wp2_with fail
    refine bodyPost_ret (v := .agg #[.int .i64 0, .bool false]) (by simp [results, Try.results111, go_sem]) rfl ⟨⟨0, rfl, fun k => absurd H.out k⟩, ?_⟩
    repeat (first | exact Below.refl _ _ | refine Below.setCell ?_ (by simp) _ | refine Below.alloc ?_ (by simp) _)
  · have d : (n == 9223372036854775807) = false := beq_eq_false_iff_ne.2 h
    rw [decide_eq_true h]
    have hb : -4611686018427387904 ≤ n ∧ n ≤ 4611686018427387904 := by rcases hn with e | e; exact absurd e h; exact e
    obtain ⟨b1, b2⟩ := hb
    clear h hn
    go_enter Try.func111, Try.ntmps111
    go_wp2_with fail
    with_reducible refine (span_at (-n) _).mono ?_
    rintro e w2 ⟨rfl, hb⟩
    have s0 : w.heap.size < w2.heap.size := by have := hb.size; simp at this; omega
    have m0 := below_cell (p := ⟨w.heap.size, 0, none⟩) (v := .int .i64 0) hb (by simp [World.cell?_alloc_new])
    have m1 := below_cell (p := ⟨w.heap.size, 1, none⟩) (v := .bool false) hb (by simp [World.cell?_alloc_new])
    have mf : ∀ i, w2.frozen? ⟨w.heap.size, i, none⟩ = false := fun i => (hb.frozen (p := ⟨w.heap.size, i, none⟩) (by simp)).trans (by simp [go_sem])
    have hL : Below w.heap.size w w2 := ((Below.refl _ _).alloc (Nat.le_refl _) _).trans (hb.mono (by simp))
    clear hb
    go_wp2_with fail
    refine bodyPost_ret (v := .agg #[.int .i64 (-n), .bool true]) (by simp [results, Try.results111, go_sem, m0, m1]) rfl ⟨⟨-n, rfl, fun _ => rfl⟩, ?_⟩
    exact (hL.setCell (by simp) _).setCell (by simp) _
theorem toR_any {m n : Int} {p : Bool} {k : Int} {q : Bool} (h : p = true → m = n) : toR m p k q = toR n p k q := by
  unfold toR
  cases p
  · rfl
  · rw [h rfl]
set_option maxRecDepth 100000 in
set_option maxHeartbeats 8000000 in
/-- Of an octagon that may be, closed. -/
theorem span_betweenHalf (n : Nat) (o : OV) (i j : Nat) (w : World) (h : OctIn w w.heap.size o.A o.c o.N o.M) (hN : o.N = n) (hk : chk o.N o.E o.M = 0) (hi : i < 2 * n) (hj : j < 2 * n) (a : Ans) (ha : (if o.E = true then ⟨Rg.none, false, 0⟩ else ⟨sidesR (half (cl (2 * n) o.M i j)) (half (cl (2 * n) o.M (ac i) (ac j))), true, 0⟩) = a) :
    Calls Try.prog 78 #[.agg #[.int .i64 o.N, .bool o.E, .slice o.A o.M.length o.c], .int .i64 i, .int .i64 j, .func (.func 79) #[] #[]] w fun e w' => e = .returned (.tuple #[.agg #[.int .i64 a.r.lo, .int .i64 a.r.hi, .bool a.r.hl, .bool a.r.hh], .bool a.ok, .int .i64 a.e]) ∧
      Below w.heap.size w w' := by
  obtain ⟨N, E, A, c, M⟩ := o
  dsimp only at *
  subst hN
  obtain ⟨m, hm, hn64, -⟩ := chk_zero hk
  have hn : n ≤ 64 := by omega
  clear hm hn64 m
  obtain ⟨W, hW, h1, hL, hs⟩ : ∃ W, W = (w.alloc (.cells #[.int .i64 n, .bool E, .slice A M.length c] 24)).alloc (.cells #[.int .i64 0, .int .i64 0, .bool false, .bool false] 50) ∧ OctAt W w.heap.size n E (.slice A M.length c) ∧ Below w.heap.size w W ∧ RgBox W (w.heap.size + 1) 0 0 false false := by
    have b1 : Below w.heap.size w (w.alloc (.cells #[.int .i64 n, .bool E, .slice A M.length c] 24)) := (Below.refl _ _).alloc (Nat.le_refl _) _
    have r := RgBox.new (w.alloc (.cells #[.int .i64 n, .bool E, .slice A M.length c] 24)) 50 0 0 false false
    rw [show (w.alloc (.cells #[.int .i64 n, .bool E, .slice A M.length c] 24)).heap.size = w.heap.size + 1 by simp] at r
    exact ⟨_, rfl, (OctAt.box _ _ _ _ _).alloc _, b1.alloc (by simp) _, r⟩
  have hoW := h.go hL
  have hmi : bits .xor .i64 (i : Int) 1 = (ac i : Int) := xor_one (by omega)
  have hmj : bits .xor .i64 (j : Int) 1 = (ac j : Int) := xor_one (by omega)
  have hai := ac_lt hi
  have haj := ac_lt hj
  have HK := Lib.hid hk
  obtain ⟨k0, k1, k2⟩ := id h1
  obtain ⟨r0, r1, r2, r3, rf⟩ := id hs
  rcases E with _ | _
  rotate_left
  · have HA : Hid (a = ⟨Rg.none, false, 0⟩) := Lib.hid (by rw [← ha]; rfl)
    clear hmi hmj ha
    go_enter Try.func78, Try.ntmps78
    rw [hW] at k0 k1 k2 r0 r1 r2 r3 rf
    clear hk
    go_wp2_with fail
    rw [← hW] at r0 r1 r2 r3 ⊢
    refine bodyPost_ret (v := .tuple #[.agg #[.int .i64 0, .int .i64 0, .bool false, .bool false], .bool false, .int .i64 0]) (by simp [results, Try.results78, go_sem, r0, r1, r2, r3]) rfl ⟨by rw [HA.out]; rfl, ?_⟩
    exact hL
  · have hB : ∀ a b, Bd (cl (2 * n) M a b) := fun a b => cl_bd (chk_allB hk) a b
    have g1 := getP_in hk hi hj
    have g2 := getP_in hk hai haj
    have cG := fun X (hX : Below W.heap.size W X) => dbm_Get n false A c M i j X (hoW.go hX)
    have cH := fun X (hX : Below W.heap.size W X) => dbm_Get n false A c M (ac i) (ac j) X (hoW.go hX)
    have HA := Lib.hid (show a = ⟨sidesR (half (cl (2 * n) M i j)) (half (cl (2 * n) M (ac i) (ac j))), true, 0⟩ by rw [← ha]; rfl)
    clear ha
    simp only [g1] at cG
    simp only [g2] at cH
    have b1 := hB i j
    have b2 := hB (ac i) (ac j)
    clear g1 g2 hB hk hi hj hai haj
    generalize cl (2 * n) M i j = up at *
    generalize cl (2 * n) M (ac i) (ac j) = down at *
    have cL := fun X => span_lower (half (down)) X (half_bd _)
    have cU := fun X => span_upper (half (up)) X
    go_enter Try.func78, Try.ntmps78
    rw [hW] at k0 k1 k2
    clear r0 r1 r2 r3 rf b1 b2
    go_wp2_with fail
    rw [← hW]
    clear hW k0 k1 k2
    with_reducible refine (cG _ (Below.refl _ _)).mono ?_
    rintro e w2 ⟨rfl, hb⟩
    replace h1 := h1.below hb
    have hbW := hb
    replace hs := hs.go hb
    replace hL := hL.trans (hb.mono hL.size)
    clear hb cG
    obtain ⟨k0, k1, k2⟩ := id h1
    go_wp2_with fail
    with_reducible refine (cH _ hbW).mono ?_
    rintro e w3 ⟨rfl, hb⟩
    replace hs := hs.go hb
    replace hL := hL.trans (hb.mono hL.size)
    clear hb cH h1 k0 k1 k2 hbW hmi hmj
    go_wp2_with (go_at_call 79; with_reducible refine (bound_Half _ _).mono ?_; rintro e w' ⟨rfl, rfl⟩)
    with_reducible refine (cL _).mono ?_
    rintro e w4 ⟨⟨m, rfl, hm⟩, hb⟩
    replace hs := hs.go hb
    replace hL := hL.trans (hb.mono hL.size)
    have Hm := Lib.hid hm
    obtain ⟨d1, hd1⟩ : ∃ d, decide (half (down) ≠ 9223372036854775807) = d := ⟨_, rfl⟩
    rw [hd1]
    have HD := Lib.hid hd1
    clear hb cL hm hd1
    go_wp2_with (go_at_call 79; with_reducible refine (bound_Half _ _).mono ?_; rintro e w' ⟨rfl, rfl⟩)
    with_reducible refine (cU _).mono ?_
    rintro e w5 ⟨rfl, hb⟩
    replace hs := hs.go hb
    replace hL := hL.trans (hb.mono hL.size)
    clear hb cU
    have cT := end_to m (half (up)) d1 (decide (half (up) ≠ 9223372036854775807)) w5 (sidesR (half (up)) (half (down))) (by unfold sidesR; rw [HD.out]; exact (toR_any (fun h => Hm.out (of_decide_eq_true (HD.out.trans h)))).symm)
    generalize sidesR (half (up)) (half (down)) = R at *
    generalize (decide (half (up) ≠ 9223372036854775807)) = d2 at *
    clear Hm
    go_wp2_with fail
    with_reducible refine cT.mono ?_
    rintro e w6 ⟨rfl, hb⟩
    replace hs := hs.go hb
    replace hL := hL.trans (hb.mono hL.size)
    clear hb cT
    obtain ⟨r0, r1, r2, r3, rf⟩ := id hs
    go_wp2_with fail
    refine bodyPost_ret (v := .tuple #[.agg #[.int .i64 R.lo, .int .i64 R.hi, .bool R.hl, .bool R.hh], .bool true, .int .i64 0]) (by simp [results, Try.results78, go_sem, r0, r1, r2, r3]) rfl ⟨by rw [HA.out], ?_⟩
    have q : w.heap.size ≤ w.heap.size + 1 := by omega
    exact (((hL.setCell q _).setCell q _).setCell q _).setCell q _
set_option maxRecDepth 100000 in
set_option maxHeartbeats 8000000 in
/-- Of an octagon that may be, closed. -/
theorem span_betweenSame (n : Nat) (o : OV) (i j : Nat) (w : World) (h : OctIn w w.heap.size o.A o.c o.N o.M) (hN : o.N = n) (hk : chk o.N o.E o.M = 0) (hi : i < 2 * n) (hj : j < 2 * n) (a : Ans) (ha : (if o.E = true then ⟨Rg.none, false, 0⟩ else ⟨sidesR (cl (2 * n) o.M i j) (cl (2 * n) o.M (ac i) (ac j)), true, 0⟩) = a) :
    Calls Try.prog 78 #[.agg #[.int .i64 o.N, .bool o.E, .slice o.A o.M.length o.c], .int .i64 i, .int .i64 j, .func (.func 80) #[] #[]] w fun e w' => e = .returned (.tuple #[.agg #[.int .i64 a.r.lo, .int .i64 a.r.hi, .bool a.r.hl, .bool a.r.hh], .bool a.ok, .int .i64 a.e]) ∧
      Below w.heap.size w w' := by
  obtain ⟨N, E, A, c, M⟩ := o
  dsimp only at *
  subst hN
  obtain ⟨m, hm, hn64, -⟩ := chk_zero hk
  have hn : n ≤ 64 := by omega
  clear hm hn64 m
  obtain ⟨W, hW, h1, hL, hs⟩ : ∃ W, W = (w.alloc (.cells #[.int .i64 n, .bool E, .slice A M.length c] 24)).alloc (.cells #[.int .i64 0, .int .i64 0, .bool false, .bool false] 50) ∧ OctAt W w.heap.size n E (.slice A M.length c) ∧ Below w.heap.size w W ∧ RgBox W (w.heap.size + 1) 0 0 false false := by
    have b1 : Below w.heap.size w (w.alloc (.cells #[.int .i64 n, .bool E, .slice A M.length c] 24)) := (Below.refl _ _).alloc (Nat.le_refl _) _
    have r := RgBox.new (w.alloc (.cells #[.int .i64 n, .bool E, .slice A M.length c] 24)) 50 0 0 false false
    rw [show (w.alloc (.cells #[.int .i64 n, .bool E, .slice A M.length c] 24)).heap.size = w.heap.size + 1 by simp] at r
    exact ⟨_, rfl, (OctAt.box _ _ _ _ _).alloc _, b1.alloc (by simp) _, r⟩
  have hoW := h.go hL
  have hmi : bits .xor .i64 (i : Int) 1 = (ac i : Int) := xor_one (by omega)
  have hmj : bits .xor .i64 (j : Int) 1 = (ac j : Int) := xor_one (by omega)
  have hai := ac_lt hi
  have haj := ac_lt hj
  have HK := Lib.hid hk
  obtain ⟨k0, k1, k2⟩ := id h1
  obtain ⟨r0, r1, r2, r3, rf⟩ := id hs
  rcases E with _ | _
  rotate_left
  · have HA : Hid (a = ⟨Rg.none, false, 0⟩) := Lib.hid (by rw [← ha]; rfl)
    clear hmi hmj ha
    go_enter Try.func78, Try.ntmps78
    rw [hW] at k0 k1 k2 r0 r1 r2 r3 rf
    clear hk
    go_wp2_with fail
    rw [← hW] at r0 r1 r2 r3 ⊢
    refine bodyPost_ret (v := .tuple #[.agg #[.int .i64 0, .int .i64 0, .bool false, .bool false], .bool false, .int .i64 0]) (by simp [results, Try.results78, go_sem, r0, r1, r2, r3]) rfl ⟨by rw [HA.out]; rfl, ?_⟩
    exact hL
  · have hB : ∀ a b, Bd (cl (2 * n) M a b) := fun a b => cl_bd (chk_allB hk) a b
    have g1 := getP_in hk hi hj
    have g2 := getP_in hk hai haj
    have cG := fun X (hX : Below W.heap.size W X) => dbm_Get n false A c M i j X (hoW.go hX)
    have cH := fun X (hX : Below W.heap.size W X) => dbm_Get n false A c M (ac i) (ac j) X (hoW.go hX)
    have HA := Lib.hid (show a = ⟨sidesR (cl (2 * n) M i j) (cl (2 * n) M (ac i) (ac j)), true, 0⟩ by rw [← ha]; rfl)
    clear ha
    simp only [g1] at cG
    simp only [g2] at cH
    have b1 := hB i j
    have b2 := hB (ac i) (ac j)
    clear g1 g2 hB hk hi hj hai haj
    generalize cl (2 * n) M i j = up at *
    generalize cl (2 * n) M (ac i) (ac j) = down at *
    have cL := fun X => span_lower (down) X (b2)
    have cU := fun X => span_upper (up) X
    go_enter Try.func78, Try.ntmps78
    rw [hW] at k0 k1 k2
    clear r0 r1 r2 r3 rf b1 b2
    go_wp2_with fail
    rw [← hW]
    clear hW k0 k1 k2
    with_reducible refine (cG _ (Below.refl _ _)).mono ?_
    rintro e w2 ⟨rfl, hb⟩
    replace h1 := h1.below hb
    have hbW := hb
    replace hs := hs.go hb
    replace hL := hL.trans (hb.mono hL.size)
    clear hb cG
    obtain ⟨k0, k1, k2⟩ := id h1
    go_wp2_with fail
    with_reducible refine (cH _ hbW).mono ?_
    rintro e w3 ⟨rfl, hb⟩
    replace hs := hs.go hb
    replace hL := hL.trans (hb.mono hL.size)
    clear hb cH h1 k0 k1 k2 hbW hmi hmj
    go_wp2_with (go_at_call 80; with_reducible refine (span_same _ _).mono ?_; rintro e w' ⟨rfl, rfl⟩)
    with_reducible refine (cL _).mono ?_
    rintro e w4 ⟨⟨m, rfl, hm⟩, hb⟩
    replace hs := hs.go hb
    replace hL := hL.trans (hb.mono hL.size)
    have Hm := Lib.hid hm
    obtain ⟨d1, hd1⟩ : ∃ d, decide (down ≠ 9223372036854775807) = d := ⟨_, rfl⟩
    rw [hd1]
    have HD := Lib.hid hd1
    clear hb cL hm hd1
    go_wp2_with (go_at_call 80; with_reducible refine (span_same _ _).mono ?_; rintro e w' ⟨rfl, rfl⟩)
    with_reducible refine (cU _).mono ?_
    rintro e w5 ⟨rfl, hb⟩
    replace hs := hs.go hb
    replace hL := hL.trans (hb.mono hL.size)
    clear hb cU
    have cT := end_to m (up) d1 (decide (up ≠ 9223372036854775807)) w5 (sidesR (up) (down)) (by unfold sidesR; rw [HD.out]; exact (toR_any (fun h => Hm.out (of_decide_eq_true (HD.out.trans h)))).symm)
    generalize sidesR (up) (down) = R at *
    generalize (decide (up ≠ 9223372036854775807)) = d2 at *
    clear Hm
    go_wp2_with fail
    with_reducible refine cT.mono ?_
    rintro e w6 ⟨rfl, hb⟩
    replace hs := hs.go hb
    replace hL := hL.trans (hb.mono hL.size)
    clear hb cT
    obtain ⟨r0, r1, r2, r3, rf⟩ := id hs
    go_wp2_with fail
    refine bodyPost_ret (v := .tuple #[.agg #[.int .i64 R.lo, .int .i64 R.hi, .bool R.hl, .bool R.hh], .bool true, .int .i64 0]) (by simp [results, Try.results78, go_sem, r0, r1, r2, r3]) rfl ⟨by rw [HA.out], ?_⟩
    have q : w.heap.size ≤ w.heap.size + 1 := by omega
    exact (((hL.setCell q _).setCell q _).setCell q _).setCell q _
end Go.Proofs.Ytkogplnleiapfaa

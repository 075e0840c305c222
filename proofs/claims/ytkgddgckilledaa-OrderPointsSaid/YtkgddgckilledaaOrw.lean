/- The walks of order: right, closed, cells. -/
import Derived.Test.YtkgddgckilledaaOrd
import Derived.Test.YtkgddgckilledaaObx
import Derived.LoopN
import Derived.Test.YtkgddgckilledaaOctR
import Derived.Test.YtkgddgckilledaaRof
import Derived.Test.YtkgddgckilledaaQb
import Derived.Test.YtkgddgckilledaaDbk
namespace Go.Proofs.Ytkgddgckilledaa
open Go.RowKit
set_option linter.unusedVariables false
set_option linter.unusedSimpArgs false
open Gn
/-- An octagon told, of the call's own memory. -/
def TellsO (w : World) (P : Int × Bool × List Int) (e : Ending) (w' : World) : Prop :=
  ∃ A c, e = .returned (.agg #[.int .i64 P.1, .bool P.2.1, .slice A P.2.2.length c]) ∧ Ow w' w.heap.size 2 .i64 A c P.2.2 ∧ Below w.heap.size w w'
theorem OctBox.res {w0 w : World} {b : Nat} {N : Int} {E : Bool} {v : Value} (h : OctBox w b N E v) (hB : Below w0.heap.size w0 w) (hb : w0.heap.size ≤ b) (N' : Int) (E' : Bool) (v' : Value) :
    OctAt (((w.setCell ⟨b, 0, none⟩ (.int .i64 N')).setCell ⟨b, 1, none⟩ (.bool E')).setCell ⟨b, 2, none⟩ v') b N' E' v' ∧ Below w0.heap.size w0 (((w.setCell ⟨b, 0, none⟩ (.int .i64 N')).setCell ⟨b, 1, none⟩ (.bool E')).setCell ⟨b, 2, none⟩ v') :=
  ⟨(h.put N' E' v').1.box, ((hB.setCell hb _).setCell hb _).setCell hb _⟩
set_option maxRecDepth 100000 in
set_option maxHeartbeats 8000000 in
theorem order_right (Na : Int) (Ea : Bool) (A : Option Addr) (ca : Nat) (Ma : List Int) (Nb : Int) (Eb : Bool) (B : Option Addr) (cb : Nat) (Mb : List Int) (w : World) (ha : OctIn w w.heap.size A ca Na Ma) (hb : OctIn w w.heap.size B cb Nb Mb) (p : Int) (hp : pairP Na Ea Ma Nb Eb Mb = p) :
    Calls Try.prog 59 #[.agg #[.int .i64 Na, .bool Ea, .slice A Ma.length ca], .agg #[.int .i64 Nb, .bool Eb, .slice B Mb.length cb]] w fun e w' => e = .returned (.int .i64 p) ∧ Below w.heap.size w w' := by
  obtain ⟨W, hW, h1, h2, hB, hs⟩ := two_boxes w 24 Na Nb Ea Eb (.slice A Ma.length ca) (.slice B Mb.length cb)
  have haW := ha.go hB
  have hbW := hb.go hB
  obtain ⟨k0, k1, k2⟩ := id h1
  obtain ⟨l0, l1, l2⟩ := id h2
  go_enter Try.func59, Try.ntmps59
  rw [hW] at k0 k1 k2 l0 l1 l2
  go_wp2_with fail
  rw [← hW] at k0 k1 k2 l0 l1 l2 ⊢
  clear hW
  have i0 : ∀ X : World, (Instr.index 118 (.agg #[.int .i64 Na, .bool Ea, .slice A Ma.length ca, .int .i64 Nb, .bool Eb, .slice B Mb.length cb]) (.int .i64 0)).run Try.prog X = .ok (.agg #[.int .i64 Na, .bool Ea, .slice A Ma.length ca]) X := fun X => by kernel_rfl
  have i1 : ∀ X : World, (Instr.index 118 (.agg #[.int .i64 Na, .bool Ea, .slice A Ma.length ca, .int .i64 Nb, .bool Eb, .slice B Mb.length cb]) (.int .i64 1)).run Try.prog X = .ok (.agg #[.int .i64 Nb, .bool Eb, .slice B Mb.length cb]) X := fun X => by kernel_rfl
  have HP := Lib.hid (show p = if chk Na Ea Ma ≠ 0 then chk Na Ea Ma else if chk Nb Eb Mb ≠ 0 then chk Nb Eb Mb else if Na ≠ Nb then 140 else 0 by rw [← hp]; rfl)
  clear hp
  have hbA : Below W.heap.size W (W.alloc (.cells #[.int .i64 Na, .bool Ea, .slice A Ma.length ca] 24)) := (Below.refl _ _).alloc (Nat.le_refl _) _
  have cA := dbm_Check A ca Na Ea Ma _ (haW.go hbA)
  have cB := fun X (hX : Below W.heap.size W X) => dbm_Check B cb Nb Eb Mb X (hbW.go hX)
  generalize chk Na Ea Ma = x1 at *
  generalize chk Nb Eb Mb = x2 at *
  refine wp_loop_rounds 3 ?_
  rw [rounds_succ]
  go_wp2_with fail
  refine cA.mono ?_
  clear cA
  rintro e w1 ⟨rfl, hb1⟩
  have hW1 := hbA.trans (hb1.mono hbA.size)
  have h11 := h1.below hW1
  have h21 := h2.below hW1
  have hB1 := hB.trans (hW1.mono hB.size)
  clear hb1 hbA k0 k1 k2 l0 l1 l2
  obtain ⟨k0, k1, k2⟩ := id h11
  obtain ⟨l0, l1, l2⟩ := id h21
  by_cases c1 : x1 = 0
  · have d1 : (x1 != 0) = false := bne_eq_false_iff_eq.2 c1
    have hp1 := HP.out
    rw [if_neg (fun h => h c1)] at hp1
    have HP1 := Lib.hid hp1
    clear hp1 HP c1
    go_wp2_with fail
    rw [rounds_succ]
    go_wp2_with fail
    have hbA : Below w1.heap.size w1 (w1.alloc (.cells #[.int .i64 Nb, .bool Eb, .slice B Mb.length cb] 24)) := (Below.refl _ _).alloc (Nat.le_refl _) _
    refine (cB _ (hW1.trans (hbA.mono hW1.size))).mono ?_
    clear cB
    rintro e w2 ⟨rfl, hb2⟩
    have hb22 := hbA.trans (hb2.mono hbA.size)
    have h12 := h11.below hb22
    have h22 := h21.below hb22
    have hB2 := hB1.trans (hb22.mono hB1.size)
    clear hb2 hb22 hbA k0 k1 k2 l0 l1 l2 h11 h21
    obtain ⟨k0, k1, k2⟩ := id h12
    obtain ⟨l0, l1, l2⟩ := id h22
    by_cases c2 : x2 = 0
    · have d2 : (x2 != 0) = false := bne_eq_false_iff_eq.2 c2
      have hp1 := HP1.out
      rw [if_neg (fun h => h c2)] at hp1
      have HP2 := Lib.hid hp1
      clear hp1 HP1 c2
      go_wp2_with fail
      rw [rounds_succ]
      by_cases c3 : Na = Nb
      · have d3 : (Na != Nb) = false := bne_eq_false_iff_eq.2 c3
        have HP3 := Lib.hid (show p = 0 by rw [HP2.out, if_neg (fun h => h c3)])
        clear c3 HP2
        go_wp2_with fail
        go_ret
        exact ⟨by rw [HP3.out]; rfl, hB2⟩
      · have d3 : (Na != Nb) = true := bne_iff_ne.2 c3
        have HP3 := Lib.hid (show p = 140 by rw [HP2.out, if_pos c3])
        clear c3 HP2
        go_wp2_with fail
        go_ret
        exact ⟨by rw [HP3.out]; rfl, hB2⟩
    · have d2 : (x2 != 0) = true := bne_iff_ne.2 c2
      have HP2 := Lib.hid (show p = x2 by rw [HP1.out, if_pos c2])
      clear HP1 c2
      go_wp2_with fail
      go_ret
      exact ⟨by rw [HP2.out]; rfl, hB2⟩
  · have d1 : (x1 != 0) = true := bne_iff_ne.2 c1
    have HP1 := Lib.hid (show p = x1 by rw [HP.out, if_pos c1])
    clear HP c1
    go_wp2_with fail
    go_ret
    exact ⟨by rw [HP1.out]; rfl, hB1⟩
set_option maxRecDepth 100000 in
set_option maxHeartbeats 8000000 in
theorem order_closed (N : Int) (E : Bool) (A : Option Addr) (c : Nat) (M : List Int) (w : World) (h : OctIn w w.heap.size A c N M) (hM : (M.length : Int) ≤ 17592186043904) :
    Calls Try.prog 56 #[.agg #[.int .i64 N, .bool E, .slice A M.length c]] w (TellsO w (clo N E M)) := by
  obtain ⟨W, hW, hR, hs⟩ := box_res w 24 N E (.slice A M.length c)
  have h1 := h.go hR.below
  obtain ⟨k0, k1, k2, r0, r1, r2, fc, fr, hB, hlt⟩ := id hR
  have hX : OctBox W (w.heap.size + 1) 0 false (.slice none 0 0) := ⟨⟨r0, r1, r2⟩, fr⟩
  obtain ⟨Q, hQ⟩ : ∃ Q, Q = closeP N E M := ⟨_, rfl⟩
  have hcl : clo N E M = Q.1.1 := by rw [hQ]; rfl
  rw [hcl]
  have cC := close_CloseW N E A c M W h1 hM Q hQ.symm
  clear hcl hQ h h1
  obtain ⟨⟨⟨Na, Ea, Ma⟩, sa⟩, ea⟩ := Q
  go_enter Try.func56, Try.ntmps56
  go_wp2_with fail
  rw [← hW]
  clear hW
  refine cC.mono ?_
  clear cC
  rintro e w1 ⟨A2, c2, rfl, ho1, hb1⟩
  dsimp only at ho1 ⊢
  have hX1 := hX.below hb1
  have hB1 := hB.trans (hb1.mono hB.size)
  have hl1 : w.heap.size + 1 < w1.heap.size := Nat.lt_of_lt_of_le hlt hb1.size
  clear hX hb1 k0 k1 k2 r0 r1 r2 fc fr hR
  obtain ⟨⟨r0, r1, r2⟩, fr⟩ := id hX1
  have hlt0 : w.heap.size < w1.heap.size := by omega
  have hS := Lib.hid (hX1.res hB1 (by omega) Na Ea (.slice A2 Ma.length c2))
  have hO := Lib.hid ((((ho1.low (p := ⟨w.heap.size + 1, 0, none⟩) (by simp; omega) (.int .i64 Na)).low (p := ⟨w.heap.size + 1, 1, none⟩) (by simp; omega) (.bool Ea)).low (p := ⟨w.heap.size + 1, 2, none⟩) (by simp; omega) (.slice A2 Ma.length c2)))
  clear hX1 ho1
  go_wp2_with fail
  obtain ⟨⟨s0, s1, s2⟩, hB3⟩ := hS.out
  refine bodyPost_ret (v := .agg #[.int .i64 Na, .bool Ea, .slice A2 Ma.length c2]) (by simp [results, Try.results56, go_sem, r0, r1, r2, hl1]) rfl ⟨A2, c2, rfl, ?_, ?_⟩
  · exact (hO.out.alloc _).lower (by omega)
  · exact hB3.alloc (by simp; omega) _
end Go.Proofs.Ytkgddgckilledaa
namespace Go.Proofs.Ytkgddgckilledaa
open Go.RowKit
set_option linter.unusedVariables false
set_option linter.unusedSimpArgs false
open Gn
theorem Gn.above_no {Mc Mb : List Int} {i : Nat} (hi : i < Mc.length) (h : nth Mb i < nth Mc i) : above false Mc false Mb = false := by
  unfold above
  simp only [Bool.false_or, Bool.not_false, Bool.true_and]
  exact decide_eq_false (fun k => by have := k i hi; omega)
theorem Gn.above_all {Mc Mb : List Int} (h : ∀ i, i < Mc.length → nth Mc i ≤ nth Mb i) : above false Mc false Mb = true := by
  unfold above
  simp only [Bool.false_or, Bool.not_false, Bool.true_and]
  exact decide_eq_true h
set_option maxRecDepth 100000 in
set_option maxHeartbeats 8000000 in
theorem order_Entails (Na : Int) (Ea : Bool) (A : Option Addr) (ca : Nat) (Ma : List Int) (Nb : Int) (Eb : Bool) (B : Option Addr) (cb : Nat) (Mb : List Int) (w : World) (ha : OctIn w w.heap.size A ca Na Ma) (hb : OctIn w w.heap.size B cb Nb Mb) (hma : (Ma.length : Int) ≤ 17592186043904) (p : Int) (hp : pairP Na Ea Ma Nb Eb Mb = p) (r : Bool) (hr : (decide (p = 0) && entP Na Ea Ma Eb Mb) = r) :
    Calls Try.prog 28 #[.agg #[.int .i64 Na, .bool Ea, .slice A Ma.length ca], .agg #[.int .i64 Nb, .bool Eb, .slice B Mb.length cb]] w fun e w' => e = .returned (.tuple #[.bool r, .int .i64 p]) ∧ Below w.heap.size w w' := by
  obtain ⟨W, hW, h1, h2, hB, hs⟩ := two_boxes w 24 Na Nb Ea Eb (.slice A Ma.length ca) (.slice B Mb.length cb)
  have haW := ha.go hB
  have hbW := hb.go hB
  have cR := order_right Na Ea A ca Ma Nb Eb B cb Mb W haW hbW p hp
  have HP := Lib.hid hp
  have HR := Lib.hid hr
  clear hp hr
  obtain ⟨k0, k1, k2⟩ := id h1
  obtain ⟨l0, l1, l2⟩ := id h2
  go_enter Try.func28, Try.ntmps28
  rw [hW] at k0 k1 k2 l0 l1 l2
  go_wp2_with fail
  rw [← hW] at k0 k1 k2 l0 l1 l2 ⊢
  clear hW
  refine cR.mono ?_
  clear cR
  rintro e w1 ⟨rfl, hb1⟩
  have h11 := h1.below hb1
  have h21 := h2.below hb1
  have ha1 := haW.go hb1
  have hb11 := hbW.go hb1
  have hB1 := hB.trans (hb1.mono hB.size)
  clear hb1 k0 k1 k2 l0 l1 l2 haW hbW ha hb h1 h2 hB
  obtain ⟨k0, k1, k2⟩ := id h11
  obtain ⟨l0, l1, l2⟩ := id h21
  by_cases hp0 : p = 0
  · subst hp0
    have hpp := pairP_zero HP.out
    have hR2 : r = entP Na Ea Ma Eb Mb := by rw [← HR.out]; simp
    obtain ⟨hc1, hc2, rfl⟩ := hpp
    clear HR
    have cC := order_closed Na Ea A ca Ma w1 ha1 hma
    have hck := clo_chk hc1
    unfold entP at hR2
    obtain ⟨Q, hQ⟩ : ∃ Q, Q = clo Na Ea Ma := ⟨_, rfl⟩
    rw [← hQ] at hR2 cC hck
    clear hQ
    obtain ⟨Nc, Ec, Mc⟩ := Q
    dsimp only at hR2 hck
    obtain ⟨rfl, hck⟩ := hck
    go_wp2_with fail
    refine cC.mono ?_
    clear cC
    rintro e w2 ⟨A2, c2, rfl, ho2, hb2⟩
    dsimp only at ho2 ⊢
    have h22 := h21.below hb2
    have hb22 := hb11.go hb2
    have hB2 := hB1.trans (hb2.mono hB1.size)
    clear h11 h21 ha1 hb11 hB1 hb2 k0 k1 k2 l0 l1 l2
    obtain ⟨w3, hw3⟩ : ∃ w3, w3 = w2.alloc (.cells #[.int .i64 Nc, .bool Ec, .slice A2 Mc.length c2] /-T-/24) := ⟨_, rfl⟩
    have hP3 : OctAt w3 w2.heap.size Nc Ec (.slice A2 Mc.length c2) := by rw [hw3]; exact OctAt.box _ _ _ _ _
    have hb3 : Below w2.heap.size w2 w3 := by rw [hw3]; exact (Below.refl _ _).alloc (Nat.le_refl _) _
    have hX3 := (ho2.below hb3).rd
    have hbx := hb22.go hb3
    have h23 := h22.below hb3
    have hB3 := hB2.trans (hb3.mono hB2.size)
    clear h22 hb22 hB2 ho2
    obtain ⟨k0, k1, k2⟩ := id hP3
    obtain ⟨l0, l1, l2⟩ := id h23
    rw [hw3] at k0 k1 k2 l0 l1 l2
    have HR2 := Lib.hid hR2
    clear hR2
    have hmx : (Mc.length : Int) ≤ 9223372036854775807 := by
      obtain ⟨n, _, hn, h0, h1⟩ := chk_zero hck
      rcases Ec with _ | _
      · rw [(h1 rfl).1]; have := sq_le hn; omega
      · rw [h0 rfl]; simp
    have hBs := hB3.size
    rcases Ec with _ | _
    · rcases Eb with _ | _
      · have hlen : Mc.length = Mb.length := chk_same_len hck hc2
        have HB3 := Lib.hid hB3
        have HX3 := Lib.hid hX3
        have HBX := Lib.hid hbx.rd
        have HLen := Lib.hid hlen
        clear hX3 hbx hck hc1 hc2 hlen hB3
        have h23' := h23
        have hs3 : w2.heap.size < w3.heap.size := hP3.lt
        go_wp2_with fail
        rw [← hw3]
        clear hw3 k0 k1 k2 l0 l1 l2 hb3
        generalize w2.heap.size = bC at *
        go_loopw [29] (fun e' wr => ∃ i : Nat, e' = .int .i64 i ∧ i ≤ Mc.length ∧ Hid (∀ k, k < i → nth Mc k ≤ nth Mb k) ∧ Below w3.heap.size w3 wr) (fun e _ => Mc.length - (intOf e).toNat)
        case atStart => exact ⟨0, rfl, by omega, Lib.hid (fun k hk => absurd hk (by omega)), Below.refl _ _⟩
        case round =>
          obtain ⟨i, rfl, hi, HLe, hbw⟩ := hrel
          obtain ⟨l0, l1, l2⟩ := id (h23'.below hbw)
          have hend := Lib.hid (HB3.out.trans (hbw.mono hBs))
          rcases Nat.lt_or_ge i Mc.length with hlt | hge
          · obtain ⟨g, off, rfl, hg, hcell⟩ := HX3.out (by omega)
            obtain ⟨g', off', rfl, hg', hcell'⟩ := HBX.out (by rw [← HLen.out]; omega)
            have k1 := (hbw.cell (p := ⟨g, off + i, none⟩) hg).trans (hcell i hlt)
            have k2 := (hbw.cell (p := ⟨g', off' + i, none⟩) hg').trans (hcell' i (by rw [← HLen.out]; exact hlt))
            have q1 : (i : Int) < (Mc.length : Int) := by omega
            have q2 : (i : Int) < (Mb.length : Int) := by rw [← HLen.out]; exact q1
            have HLt := Lib.hid hlt
            clear hcell hcell'
            by_cases hgt : nth Mc i > nth Mb i
            · have hd : decide (nth Mc i > nth Mb i) = true := decide_eq_true hgt
              have HF := Lib.hid (show r = false by rw [HR2.out]; exact above_no hlt hgt)
              clear hgt
              generalize nth Mc i = x at *
              generalize nth Mb i = y at *
              go_wp2_with fail
              exact bodyPost_ret (v := .tuple #[.bool false, .int .i64 0]) (by simp [results, Try.results28, go_sem]) rfl ⟨by rw [HF.out], hend.out⟩
            · have hd : decide (nth Mc i > nth Mb i) = false := decide_eq_false hgt
              have HN := Lib.hid (show ∀ k, k < i + 1 → nth Mc k ≤ nth Mb k from fun k hk => by
                rcases Nat.lt_or_ge k i with h | h
                · exact HLe.out k h
                · obtain rfl : k = i := by omega
                  omega)
              clear hgt
              generalize nth Mc i = x at *
              generalize nth Mb i = y at *
              have HW := Lib.hid hbw
              clear hbw
              go_wp2_with fail
              go_roundw
              case rel => exact ⟨i + 1, by go_num, by have := HLt.out; omega, Lib.hid HN.out, HW.out⟩
              case measure => have := HLt.out; simp [intOf]; omega
          · have hil : i = Mc.length := by omega
            have HF := Lib.hid (show r = true by rw [HR2.out]; exact above_all (fun k hk => HLe.out k (by omega)))
            have hd : decide ((i : Int) < (Mc.length : Int)) = false := decide_eq_false (by omega)
            clear hil
            go_wp2_with fail
            exact bodyPost_ret (v := .tuple #[.bool true, .int .i64 0]) (by simp [results, Try.results28, go_sem]) rfl ⟨by rw [HF.out], hend.out⟩
      · have HF := Lib.hid (show r = false by rw [HR2.out]; rfl)
        clear hX3 hbx hck hc1 hc2
        go_wp2_with fail
        rw [← hw3]
        exact bodyPost_ret (v := .tuple #[.bool false, .int .i64 0]) (by simp [results, Try.results28, go_sem]) rfl ⟨by rw [HF.out], hB3⟩
    · have HF := Lib.hid (show r = true by rw [HR2.out]; rfl)
      clear hX3 hbx hck hc1 hc2
      go_wp2_with fail
      rw [← hw3]
      exact bodyPost_ret (v := .tuple #[.bool true, .int .i64 0]) (by simp [results, Try.results28, go_sem]) rfl ⟨by rw [HF.out], hB3⟩
  · have hd : (p != 0) = true := bne_iff_ne.2 hp0
    have HF := Lib.hid (show r = false by rw [← HR.out, decide_eq_false hp0]; rfl)
    clear hp0
    go_wp2_with fail
    exact bodyPost_ret (v := .tuple #[.bool false, .int .i64 p]) (by simp [results, Try.results28, go_sem]) rfl ⟨by rw [HF.out], hB1⟩
end Go.Proofs.Ytkgddgckilledaa
namespace Go.Proofs.Ytkgddgckilledaa
open Go.RowKit
set_option linter.unusedVariables false
set_option linter.unusedSimpArgs false
open Gn
end Go.Proofs.Ytkgddgckilledaa
namespace Go.Proofs.Ytkgddgckilledaa
open Go.RowKit
set_option linter.unusedVariables false
set_option linter.unusedSimpArgs false
open Gn
end Go.Proofs.Ytkgddgckilledaa
namespace Go.Proofs.Ytkgddgckilledaa
open Go.RowKit
set_option linter.unusedVariables false
set_option linter.unusedSimpArgs false
open Gn
theorem two_res (w : World) (t : TypeId) (N N' : Int) (E E' : Bool) (v v' : Value) : ∃ W, W = ((w.alloc (.cells #[.int .i64 N, .bool E, v] t)).alloc (.cells #[.int .i64 N', .bool E', v'] t)).alloc (.cells #[.int .i64 0, .bool false, .slice none 0 0] t) ∧
    OctAt W w.heap.size N E v ∧ OctAt W (w.heap.size + 1) N' E' v' ∧ OctBox W (w.heap.size + 2) 0 false (.slice none 0 0) ∧ Below w.heap.size w W ∧ W.heap.size = w.heap.size + 3 := by
  obtain ⟨V, hV, h1, h2, hB, hs⟩ := two_boxes w t N N' E E' v v'
  refine ⟨V.alloc (.cells #[.int .i64 0, .bool false, .slice none 0 0] t), by rw [hV], h1.alloc _, h2.alloc _, ?_, hB.alloc (by omega) _, by simp [hs]⟩
  have := OctBox.new V t 0 false (.slice none 0 0)
  rwa [hs] at this
/-- The octagon that is filled. -/
structure Cel (W w1 : World) (N : Int) (q bX g : Nat) (X : List Int) : Prop where
  out : OctAt w1 bX N false (.slice (some ⟨g, 0, none⟩) q q)
  row : Ow w1 W.heap.size 2 .i64 (some ⟨g, 0, none⟩) q X
  len : X.length = q
  below : Below W.heap.size W w1
  ne : bX ≠ g
theorem Cel.go {W w1 w2 : World} {N : Int} {q bX g : Nat} {X : List Int} (h : Cel W w1 N q bX g X) (hb : Below w1.heap.size w1 w2) : Cel W w2 N q bX g X :=
  ⟨h.out.below hb, h.row.below hb, h.len, h.below.trans (hb.mono h.below.size), h.ne⟩
theorem Cel.set {W w1 : World} {N : Int} {q bX g : Nat} {X : List Int} (h : Cel W w1 N q bX g X) (p : Nat) (u : Int) : Cel W (w1.setCell ⟨g, p, none⟩ (.int .i64 u)) N q bX g (X.set p u) := by
  have hg := only_setCell (World.grownBy.refl w1 (some g)) (p := ⟨g, p, none⟩) (.inl rfl) (.int .i64 u)
  exact ⟨h.out.only hg h.ne, h.row.set' p u, by rw [List.length_set]; exact h.len, h.below.setCell h.row.blockGe.1 _, h.ne⟩
theorem cel_a (W : World) (N : Int) (q s : Nat) (hs : W.heap.size = s) (hq : q ≤ 16384) : ∃ w1, w1 = ((W.alloc (.cells #[.int .i64 N, .bool false, .slice (some ⟨s + 1, 0, none⟩) q q] 24)).alloc (.cells (madeCells #[.int .i64 0] q) 2)).drew ∧ Cel W w1 N q s (s + 1) (List.replicate q 0) := by
  subst hs
  obtain ⟨V, hV⟩ : ∃ V, V = W.alloc (.cells #[.int .i64 N, .bool false, .slice (some ⟨W.heap.size + 1, 0, none⟩) q q] /-T-/24) := ⟨_, rfl⟩
  have hVs : V.heap.size = W.heap.size + 1 := by rw [hV]; simp
  have ho : OctAt V W.heap.size N false (.slice (some ⟨W.heap.size + 1, 0, none⟩) q q) := by rw [hV]; exact OctAt.box _ _ _ _ _
  have hbV : Below W.heap.size W V := by rw [hV]; exact (Below.refl _ _).alloc (Nat.le_refl _) _
  rw [← hV]
  have hm := Ow.made V W.heap.size q 2 .i64 (by omega) (by unfold maxLen; omega)
  rw [hVs] at hm
  have hd : ∀ X : World, Below X.heap.size X X.drew := fun X => (Below.refl _ _).drew
  exact ⟨_, rfl, (ho.alloc _).below (hd _), hm.drew, List.length_replicate, (hbV.alloc (by omega) _).drew, by omega⟩
theorem cel_b (W : World) (N : Int) (q s : Nat) (hs : W.heap.size = s) (hq : q ≤ 16384) : ∃ w1, w1 = ((W.alloc (.cells (madeCells #[.int .i64 0] q) 2)).alloc (.cells #[.int .i64 N, .bool false, .slice (some ⟨s, 0, none⟩) q q] 24)).drew ∧ Cel W w1 N q (s + 1) s (List.replicate q 0) := by
  subst hs
  have hm := Ow.made W W.heap.size q 2 .i64 (Nat.le_refl _) (by unfold maxLen; omega)
  obtain ⟨V, hV⟩ : ∃ V, V = W.alloc (.cells (madeCells #[.int .i64 0] q) /-T-/2) := ⟨_, rfl⟩
  have hVs : V.heap.size = W.heap.size + 1 := by rw [hV]; simp
  have hbV : Below W.heap.size W V := by rw [hV]; exact (Below.refl _ _).alloc (Nat.le_refl _) _
  rw [← hV] at hm ⊢
  have ho := OctAt.box V 24 N false (.slice (some ⟨W.heap.size, 0, none⟩) q q)
  rw [hVs] at ho
  have hd : ∀ X : World, Below X.heap.size X X.drew := fun X => (Below.refl _ _).drew
  exact ⟨_, rfl, ho.below (hd _), (hm.alloc _).drew, List.length_replicate, (hbV.alloc (by omega) _).drew, by omega⟩
set_option maxHeartbeats 1000000 in
theorem join_max (a b : Int) (w : World) : Calls Try.prog 61 #[.int .i64 a, .int .i64 b] w fun e w' => e = .returned (.int .i64 (max a b)) ∧ w = w' := by
  by_cases h : a < b
  · have hm : max a b = b := Int.max_eq_right (by omega)
    have hd : decide (a < b) = true := decide_eq_true h
    rw [hm]
    go_enter Try.func61, Try.ntmps61
    go_wp2_with fail
    go_ret
    first | exact ⟨rfl, rfl⟩ | (refine ⟨?_, rfl⟩; simp [Act.tmp]; omega)
  · have hm : max a b = a := Int.max_eq_left (by omega)
    have hd : decide (a < b) = false := decide_eq_false h
    rw [hm]
    go_enter Try.func61, Try.ntmps61
    go_wp2_with fail
    go_ret
    first | exact ⟨rfl, rfl⟩ | (refine ⟨?_, rfl⟩; simp [Act.tmp]; omega)
set_option maxRecDepth 100000 in
set_option maxHeartbeats 16000000 in
theorem order_cellsLess (N : Int) (E : Bool) (A : Option Addr) (ca : Nat) (M : List Int) (N' : Int) (E' : Bool) (B : Option Addr) (cb : Nat) (M' : List Int) (w : World) (hx : Rd w w.heap.size .i64 A M.length (nth M)) (hy : Rd w w.heap.size .i64 B M'.length (nth M')) (hl : M'.length = M.length) (hq : M.length ≤ 16384) :
    Calls Try.prog 60 #[.agg #[.int .i64 N, .bool E, .slice A M.length ca], .agg #[.int .i64 N', .bool E', .slice B M'.length cb], .func (.func 50) #[] #[]] w (TellsO w (N, false, zip2 less M M')) := by
  obtain ⟨W, hW, h1, h2, hX, hB, hs⟩ := two_res w 24 N N' E E' (.slice A M.length ca) (.slice B M'.length cb)
  have hmk := make_i64 M.length hq
  have HL := Lib.hid hl
  have HRX := Lib.hid ((hx.below hB).more hB.size)
  have HRY := Lib.hid ((hy.below hB).more hB.size)
  have cL := fun x y X => bound_Less x y X
  have cela := cel_a W N M.length _ hs hq
  have celb := cel_b W N M.length _ hs hq
  clear hl hx hy
  generalize hq0 : M.length = q at *
  have HQ := Lib.hid hq0
  clear hq0
  obtain ⟨k0, k1, k2⟩ := id h1
  obtain ⟨l0, l1, l2⟩ := id h2
  obtain ⟨⟨r0, r1, r2⟩, fr⟩ := id hX
  go_enter Try.func60, Try.ntmps60
  rw [hW] at k0 k1 k2 l0 l1 l2 r0 r1 r2
  go_wp2_with fail
  rw [← hW] at k0 k1 k2 l0 l1 l2 r0 r1 r2 ⊢
  clear hW
  have CA := Lib.hid cela
  have CB := Lib.hid celb
  clear cela celb
  go_region
  · obtain ⟨w1, hw1, hS⟩ := CB.out
    clear CA CB hmk k0 k1 k2 l0 l1 l2 r0 r1 r2 fr
    rw [← hw1]
    clear hw1
    have hz3 : w.heap.size + 2 < w.heap.size + 3 := by omega
    generalize hzz : w.heap.size + 3 + 1 = z2 at *
    generalize w.heap.size + 3 = z1 at *
    clear hzz
    have h1' := h1.below (hS.below.mono (Nat.le_refl _))
    obtain ⟨m0, m1, m2⟩ := id h1'
    go_wp2_with fail
    go_loopw [19] (fun e' wr => ∃ i : Nat, e' = .int .i64 i ∧ i ≤ q ∧ ∃ X : List Int, Hid (∀ k, k < i → nth X k = less (nth M k) (nth M' k)) ∧ Cel W wr N q z2 z1 X) (fun e _ => q - (intOf e).toNat)
    case atStart => exact ⟨0, rfl, by omega, _, Lib.hid (fun k hk => absurd hk (by omega)), hS⟩
    case round =>
      obtain ⟨i, rfl, hi, X, HXc, hR⟩ := hrel
      clear hS h1' m0 m1 m2
      rcases Nat.lt_or_ge i q with hlt | hge
      · have q1 : (i : Int) < (q : Int) := by omega
        obtain ⟨m0, m1, m2⟩ := id (h1.below hR.below)
        obtain ⟨n0, n1, n2⟩ := id (h2.below hR.below)
        obtain ⟨p0, p1, p2⟩ := id hR.out
        obtain ⟨g1, o1, rfl, hg1, hc1⟩ := HRX.out (by omega)
        obtain ⟨g2, o2, rfl, hg2, hc2⟩ := HRY.out (by rw [HL.out]; omega)
        have kx := (hR.below.cell (p := ⟨g1, o1 + i, none⟩) hg1).trans (hc1 i hlt)
        have ky := (hR.below.cell (p := ⟨g2, o2 + i, none⟩) hg2).trans (hc2 i (by rw [HL.out]; omega))
        have HN := Lib.hid (show ∀ k, k < i + 1 → nth (X.set i (less (nth M i) (nth M' i))) k = less (nth M k) (nth M' k) from fun k hk => by
          rcases Nat.lt_or_ge k i with h | h
          · rw [nth_set_ne (by omega)]; exact HXc.out k h
          · obtain rfl : k = i := by omega
            exact nth_set_same (by rw [hR.len]; omega))
        have HLt := Lib.hid hlt
        have q2 : (i : Int) < (M'.length : Int) := by rw [HL.out]; exact q1
        clear hc1 hc2
        generalize nth M i = x at *
        generalize nth M' i = y at *
        have a0 := After.cell m2
        have a1 := After.cell n2
        have a2 := After.cell p2
        have a3 := After.cell kx
        have a4 := After.cell ky
        clear m0 m1 m2 n0 n1 n2 p0 p1 p2 kx ky hlt
        go_wp2_with fail
        refine wp_region_mix [(15, 2)] (by kernel_rfl) (by kernel_rfl) ?_
        simp only [wpMix, List.take_succ_cons, List.take_zero, List.drop_succ_cons, List.drop_zero]
        repeat (go_big_quiet_step ((go_at_call 50; with_reducible exact after_same (cL _ _ _))))
        refine wpQuiet_nil ?_
        intro w6 hb6
        have hR6 := hR.go hb6
        have kk := hR6.row.cellAt (i := i) (by rw [hR6.len]; exact HLt.out)
        have kf := hR6.row.frozenAt i
        have hP := Lib.hid (hR6.set i (less x y))
        clear hR hR6 hb6 a0 a1 a2 a3 a4
        go_wp2_with fail
        refine mixQ_normal (wpQuiet_nil ?_)
        intro w8 hb8
        have hR8 := Lib.hid (hP.out.go hb8)
        clear hP hb8 kk kf
        go_wp2_with fail
        go_roundw
        case rel => exact ⟨i + 1, by go_num, by have := HLt.out; omega, X.set i (less x y), Lib.hid HN.out, hR8.out⟩
        case measure => have := HLt.out; simp [intOf]; omega
      · have hiq : i = q := by omega
        have HXX := Lib.hid (show X = zip2 less M M' from list_eq_nth (by rw [zip2_len, HQ.out, hR.len]) fun k hk => by
          rw [nth_zip2 (by rw [HQ.out, ← hR.len]; exact hk)]
          exact HXc.out k (by rw [hiq, ← hR.len]; exact hk))
        have HXl := Lib.hid hR.len
        have hd : decide ((i : Int) < (q : Int)) = false := decide_eq_false (by omega)
        have hX9 := hX.below hR.below
        have hB9 := hB.trans (hR.below.mono hB.size)
        have hws : w.heap.size + 2 < wr.heap.size := Nat.lt_of_lt_of_le (by rw [hs]; omega) hR.below.size
        have hS := Lib.hid (hX9.res hB9 (by omega) N false (.slice (some ⟨z1, 0, none⟩) q q))
        have hO := Lib.hid ((((hR.row.low (p := ⟨w.heap.size + 2, 0, none⟩) (by show w.heap.size + 2 < _; rw [hs]; exact hz3) (.int .i64 N)).low (p := ⟨w.heap.size + 2, 1, none⟩) (by show w.heap.size + 2 < _; rw [hs]; exact hz3) (.bool false)).low (p := ⟨w.heap.size + 2, 2, none⟩) (by show w.heap.size + 2 < _; rw [hs]; exact hz3) (.slice (some ⟨z1, 0, none⟩) q q)))
        obtain ⟨p0, p1, p2⟩ := id hR.out
        obtain ⟨⟨r0, r1, r2⟩, fr⟩ := id hX9
        clear hiq hX9
        go_wp2_with fail
        obtain ⟨⟨s0, s1, s2⟩, hB3⟩ := hS.out
        refine bodyPost_ret (v := .agg #[.int .i64 N, .bool false, .slice (some ⟨z1, 0, none⟩) q q]) (by simp [results, Try.results60, go_sem, r0, r1, r2]) rfl ⟨some ⟨z1, 0, none⟩, q, ?_, ?_, hB3⟩
        · show Ending.returned (.agg #[.int .i64 N, .bool false, .slice (some ⟨z1, 0, none⟩) q q]) = .returned (.agg #[.int .i64 N, .bool false, .slice (some ⟨z1, 0, none⟩) (zip2 less M M').length q])
          rw [zip2_len, HQ.out]
        · show Ow _ _ _ _ _ _ (zip2 less M M')
          rw [← HXX.out]
          exact hO.out.lower (by omega)
  · obtain ⟨w1, hw1, hS⟩ := CA.out
    clear CA CB hmk k0 k1 k2 l0 l1 l2 r0 r1 r2 fr
    rw [← hw1]
    clear hw1
    have hz3 : w.heap.size + 2 < w.heap.size + 3 := by omega
    generalize hzz : w.heap.size + 3 + 1 = z2 at *
    generalize w.heap.size + 3 = z1 at *
    clear hzz
    have h1' := h1.below (hS.below.mono (Nat.le_refl _))
    obtain ⟨m0, m1, m2⟩ := id h1'
    go_wp2_with fail
    go_loopw [19] (fun e' wr => ∃ i : Nat, e' = .int .i64 i ∧ i ≤ q ∧ ∃ X : List Int, Hid (∀ k, k < i → nth X k = less (nth M k) (nth M' k)) ∧ Cel W wr N q z1 z2 X) (fun e _ => q - (intOf e).toNat)
    case atStart => exact ⟨0, rfl, by omega, _, Lib.hid (fun k hk => absurd hk (by omega)), hS⟩
    case round =>
      obtain ⟨i, rfl, hi, X, HXc, hR⟩ := hrel
      clear hS h1' m0 m1 m2
      rcases Nat.lt_or_ge i q with hlt | hge
      · have q1 : (i : Int) < (q : Int) := by omega
        obtain ⟨m0, m1, m2⟩ := id (h1.below hR.below)
        obtain ⟨n0, n1, n2⟩ := id (h2.below hR.below)
        obtain ⟨p0, p1, p2⟩ := id hR.out
        obtain ⟨g1, o1, rfl, hg1, hc1⟩ := HRX.out (by omega)
        obtain ⟨g2, o2, rfl, hg2, hc2⟩ := HRY.out (by rw [HL.out]; omega)
        have kx := (hR.below.cell (p := ⟨g1, o1 + i, none⟩) hg1).trans (hc1 i hlt)
        have ky := (hR.below.cell (p := ⟨g2, o2 + i, none⟩) hg2).trans (hc2 i (by rw [HL.out]; omega))
        have HN := Lib.hid (show ∀ k, k < i + 1 → nth (X.set i (less (nth M i) (nth M' i))) k = less (nth M k) (nth M' k) from fun k hk => by
          rcases Nat.lt_or_ge k i with h | h
          · rw [nth_set_ne (by omega)]; exact HXc.out k h
          · obtain rfl : k = i := by omega
            exact nth_set_same (by rw [hR.len]; omega))
        have HLt := Lib.hid hlt
        have q2 : (i : Int) < (M'.length : Int) := by rw [HL.out]; exact q1
        clear hc1 hc2
        generalize nth M i = x at *
        generalize nth M' i = y at *
        have a0 := After.cell m2
        have a1 := After.cell n2
        have a2 := After.cell p2
        have a3 := After.cell kx
        have a4 := After.cell ky
        clear m0 m1 m2 n0 n1 n2 p0 p1 p2 kx ky hlt
        go_wp2_with fail
        refine wp_region_mix [(15, 2)] (by kernel_rfl) (by kernel_rfl) ?_
        simp only [wpMix, List.take_succ_cons, List.take_zero, List.drop_succ_cons, List.drop_zero]
        repeat (go_big_quiet_step ((go_at_call 50; with_reducible exact after_same (cL _ _ _))))
        refine wpQuiet_nil ?_
        intro w6 hb6
        have hR6 := hR.go hb6
        have kk := hR6.row.cellAt (i := i) (by rw [hR6.len]; exact HLt.out)
        have kf := hR6.row.frozenAt i
        have hP := Lib.hid (hR6.set i (less x y))
        clear hR hR6 hb6 a0 a1 a2 a3 a4
        go_wp2_with fail
        refine mixQ_normal (wpQuiet_nil ?_)
        intro w8 hb8
        have hR8 := Lib.hid (hP.out.go hb8)
        clear hP hb8 kk kf
        go_wp2_with fail
        go_roundw
        case rel => exact ⟨i + 1, by go_num, by have := HLt.out; omega, X.set i (less x y), Lib.hid HN.out, hR8.out⟩
        case measure => have := HLt.out; simp [intOf]; omega
      · have hiq : i = q := by omega
        have HXX := Lib.hid (show X = zip2 less M M' from list_eq_nth (by rw [zip2_len, HQ.out, hR.len]) fun k hk => by
          rw [nth_zip2 (by rw [HQ.out, ← hR.len]; exact hk)]
          exact HXc.out k (by rw [hiq, ← hR.len]; exact hk))
        have HXl := Lib.hid hR.len
        have hd : decide ((i : Int) < (q : Int)) = false := decide_eq_false (by omega)
        have hX9 := hX.below hR.below
        have hB9 := hB.trans (hR.below.mono hB.size)
        have hws : w.heap.size + 2 < wr.heap.size := Nat.lt_of_lt_of_le (by rw [hs]; omega) hR.below.size
        have hS := Lib.hid (hX9.res hB9 (by omega) N false (.slice (some ⟨z2, 0, none⟩) q q))
        have hO := Lib.hid ((((hR.row.low (p := ⟨w.heap.size + 2, 0, none⟩) (by show w.heap.size + 2 < _; rw [hs]; exact hz3) (.int .i64 N)).low (p := ⟨w.heap.size + 2, 1, none⟩) (by show w.heap.size + 2 < _; rw [hs]; exact hz3) (.bool false)).low (p := ⟨w.heap.size + 2, 2, none⟩) (by show w.heap.size + 2 < _; rw [hs]; exact hz3) (.slice (some ⟨z2, 0, none⟩) q q)))
        obtain ⟨p0, p1, p2⟩ := id hR.out
        obtain ⟨⟨r0, r1, r2⟩, fr⟩ := id hX9
        clear hiq hX9
        go_wp2_with fail
        obtain ⟨⟨s0, s1, s2⟩, hB3⟩ := hS.out
        refine bodyPost_ret (v := .agg #[.int .i64 N, .bool false, .slice (some ⟨z2, 0, none⟩) q q]) (by simp [results, Try.results60, go_sem, r0, r1, r2]) rfl ⟨some ⟨z2, 0, none⟩, q, ?_, ?_, hB3⟩
        · show Ending.returned (.agg #[.int .i64 N, .bool false, .slice (some ⟨z2, 0, none⟩) q q]) = .returned (.agg #[.int .i64 N, .bool false, .slice (some ⟨z2, 0, none⟩) (zip2 less M M').length q])
          rw [zip2_len, HQ.out]
        · show Ow _ _ _ _ _ _ (zip2 less M M')
          rw [← HXX.out]
          exact hO.out.lower (by omega)
set_option maxRecDepth 100000 in
set_option maxHeartbeats 16000000 in
theorem order_cellsMax (N : Int) (E : Bool) (A : Option Addr) (ca : Nat) (M : List Int) (N' : Int) (E' : Bool) (B : Option Addr) (cb : Nat) (M' : List Int) (w : World) (hx : Rd w w.heap.size .i64 A M.length (nth M)) (hy : Rd w w.heap.size .i64 B M'.length (nth M')) (hl : M'.length = M.length) (hq : M.length ≤ 16384) :
    Calls Try.prog 60 #[.agg #[.int .i64 N, .bool E, .slice A M.length ca], .agg #[.int .i64 N', .bool E', .slice B M'.length cb], .func (.func 61) #[] #[]] w (TellsO w (N, false, zip2 max M M')) := by
  obtain ⟨W, hW, h1, h2, hX, hB, hs⟩ := two_res w 24 N N' E E' (.slice A M.length ca) (.slice B M'.length cb)
  have hmk := make_i64 M.length hq
  have HL := Lib.hid hl
  have HRX := Lib.hid ((hx.below hB).more hB.size)
  have HRY := Lib.hid ((hy.below hB).more hB.size)
  have cL := fun x y X => join_max x y X
  have cela := cel_a W N M.length _ hs hq
  have celb := cel_b W N M.length _ hs hq
  clear hl hx hy
  generalize hq0 : M.length = q at *
  have HQ := Lib.hid hq0
  clear hq0
  obtain ⟨k0, k1, k2⟩ := id h1
  obtain ⟨l0, l1, l2⟩ := id h2
  obtain ⟨⟨r0, r1, r2⟩, fr⟩ := id hX
  go_enter Try.func60, Try.ntmps60
  rw [hW] at k0 k1 k2 l0 l1 l2 r0 r1 r2
  go_wp2_with fail
  rw [← hW] at k0 k1 k2 l0 l1 l2 r0 r1 r2 ⊢
  clear hW
  have CA := Lib.hid cela
  have CB := Lib.hid celb
  clear cela celb
  go_region
  · obtain ⟨w1, hw1, hS⟩ := CB.out
    clear CA CB hmk k0 k1 k2 l0 l1 l2 r0 r1 r2 fr
    rw [← hw1]
    clear hw1
    have hz3 : w.heap.size + 2 < w.heap.size + 3 := by omega
    generalize hzz : w.heap.size + 3 + 1 = z2 at *
    generalize w.heap.size + 3 = z1 at *
    clear hzz
    have h1' := h1.below (hS.below.mono (Nat.le_refl _))
    obtain ⟨m0, m1, m2⟩ := id h1'
    go_wp2_with fail
    go_loopw [19] (fun e' wr => ∃ i : Nat, e' = .int .i64 i ∧ i ≤ q ∧ ∃ X : List Int, Hid (∀ k, k < i → nth X k = max (nth M k) (nth M' k)) ∧ Cel W wr N q z2 z1 X) (fun e _ => q - (intOf e).toNat)
    case atStart => exact ⟨0, rfl, by omega, _, Lib.hid (fun k hk => absurd hk (by omega)), hS⟩
    case round =>
      obtain ⟨i, rfl, hi, X, HXc, hR⟩ := hrel
      clear hS h1' m0 m1 m2
      rcases Nat.lt_or_ge i q with hlt | hge
      · have q1 : (i : Int) < (q : Int) := by omega
        obtain ⟨m0, m1, m2⟩ := id (h1.below hR.below)
        obtain ⟨n0, n1, n2⟩ := id (h2.below hR.below)
        obtain ⟨p0, p1, p2⟩ := id hR.out
        obtain ⟨g1, o1, rfl, hg1, hc1⟩ := HRX.out (by omega)
        obtain ⟨g2, o2, rfl, hg2, hc2⟩ := HRY.out (by rw [HL.out]; omega)
        have kx := (hR.below.cell (p := ⟨g1, o1 + i, none⟩) hg1).trans (hc1 i hlt)
        have ky := (hR.below.cell (p := ⟨g2, o2 + i, none⟩) hg2).trans (hc2 i (by rw [HL.out]; omega))
        have HN := Lib.hid (show ∀ k, k < i + 1 → nth (X.set i (max (nth M i) (nth M' i))) k = max (nth M k) (nth M' k) from fun k hk => by
          rcases Nat.lt_or_ge k i with h | h
          · rw [nth_set_ne (by omega)]; exact HXc.out k h
          · obtain rfl : k = i := by omega
            exact nth_set_same (by rw [hR.len]; omega))
        have HLt := Lib.hid hlt
        have q2 : (i : Int) < (M'.length : Int) := by rw [HL.out]; exact q1
        clear hc1 hc2
        generalize nth M i = x at *
        generalize nth M' i = y at *
        have a0 := After.cell m2
        have a1 := After.cell n2
        have a2 := After.cell p2
        have a3 := After.cell kx
        have a4 := After.cell ky
        clear m0 m1 m2 n0 n1 n2 p0 p1 p2 kx ky hlt
        go_wp2_with fail
        refine wp_region_mix [(15, 2)] (by kernel_rfl) (by kernel_rfl) ?_
        simp only [wpMix, List.take_succ_cons, List.take_zero, List.drop_succ_cons, List.drop_zero]
        repeat (go_big_quiet_step ((go_at_call 61; with_reducible exact after_same (cL _ _ _))))
        refine wpQuiet_nil ?_
        intro w6 hb6
        have hR6 := hR.go hb6
        have kk := hR6.row.cellAt (i := i) (by rw [hR6.len]; exact HLt.out)
        have kf := hR6.row.frozenAt i
        have hP := Lib.hid (hR6.set i (max x y))
        clear hR hR6 hb6 a0 a1 a2 a3 a4
        go_wp2_with fail
        refine mixQ_normal (wpQuiet_nil ?_)
        intro w8 hb8
        have hR8 := Lib.hid (hP.out.go hb8)
        clear hP hb8 kk kf
        go_wp2_with fail
        go_roundw
        case rel => exact ⟨i + 1, by go_num, by have := HLt.out; omega, X.set i (max x y), Lib.hid HN.out, hR8.out⟩
        case measure => have := HLt.out; simp [intOf]; omega
      · have hiq : i = q := by omega
        have HXX := Lib.hid (show X = zip2 max M M' from list_eq_nth (by rw [zip2_len, HQ.out, hR.len]) fun k hk => by
          rw [nth_zip2 (by rw [HQ.out, ← hR.len]; exact hk)]
          exact HXc.out k (by rw [hiq, ← hR.len]; exact hk))
        have HXl := Lib.hid hR.len
        have hd : decide ((i : Int) < (q : Int)) = false := decide_eq_false (by omega)
        have hX9 := hX.below hR.below
        have hB9 := hB.trans (hR.below.mono hB.size)
        have hws : w.heap.size + 2 < wr.heap.size := Nat.lt_of_lt_of_le (by rw [hs]; omega) hR.below.size
        have hS := Lib.hid (hX9.res hB9 (by omega) N false (.slice (some ⟨z1, 0, none⟩) q q))
        have hO := Lib.hid ((((hR.row.low (p := ⟨w.heap.size + 2, 0, none⟩) (by show w.heap.size + 2 < _; rw [hs]; exact hz3) (.int .i64 N)).low (p := ⟨w.heap.size + 2, 1, none⟩) (by show w.heap.size + 2 < _; rw [hs]; exact hz3) (.bool false)).low (p := ⟨w.heap.size + 2, 2, none⟩) (by show w.heap.size + 2 < _; rw [hs]; exact hz3) (.slice (some ⟨z1, 0, none⟩) q q)))
        obtain ⟨p0, p1, p2⟩ := id hR.out
        obtain ⟨⟨r0, r1, r2⟩, fr⟩ := id hX9
        clear hiq hX9
        go_wp2_with fail
        obtain ⟨⟨s0, s1, s2⟩, hB3⟩ := hS.out
        refine bodyPost_ret (v := .agg #[.int .i64 N, .bool false, .slice (some ⟨z1, 0, none⟩) q q]) (by simp [results, Try.results60, go_sem, r0, r1, r2]) rfl ⟨some ⟨z1, 0, none⟩, q, ?_, ?_, hB3⟩
        · show Ending.returned (.agg #[.int .i64 N, .bool false, .slice (some ⟨z1, 0, none⟩) q q]) = .returned (.agg #[.int .i64 N, .bool false, .slice (some ⟨z1, 0, none⟩) (zip2 max M M').length q])
          rw [zip2_len, HQ.out]
        · show Ow _ _ _ _ _ _ (zip2 max M M')
          rw [← HXX.out]
          exact hO.out.lower (by omega)
  · obtain ⟨w1, hw1, hS⟩ := CA.out
    clear CA CB hmk k0 k1 k2 l0 l1 l2 r0 r1 r2 fr
    rw [← hw1]
    clear hw1
    have hz3 : w.heap.size + 2 < w.heap.size + 3 := by omega
    generalize hzz : w.heap.size + 3 + 1 = z2 at *
    generalize w.heap.size + 3 = z1 at *
    clear hzz
    have h1' := h1.below (hS.below.mono (Nat.le_refl _))
    obtain ⟨m0, m1, m2⟩ := id h1'
    go_wp2_with fail
    go_loopw [19] (fun e' wr => ∃ i : Nat, e' = .int .i64 i ∧ i ≤ q ∧ ∃ X : List Int, Hid (∀ k, k < i → nth X k = max (nth M k) (nth M' k)) ∧ Cel W wr N q z1 z2 X) (fun e _ => q - (intOf e).toNat)
    case atStart => exact ⟨0, rfl, by omega, _, Lib.hid (fun k hk => absurd hk (by omega)), hS⟩
    case round =>
      obtain ⟨i, rfl, hi, X, HXc, hR⟩ := hrel
      clear hS h1' m0 m1 m2
      rcases Nat.lt_or_ge i q with hlt | hge
      · have q1 : (i : Int) < (q : Int) := by omega
        obtain ⟨m0, m1, m2⟩ := id (h1.below hR.below)
        obtain ⟨n0, n1, n2⟩ := id (h2.below hR.below)
        obtain ⟨p0, p1, p2⟩ := id hR.out
        obtain ⟨g1, o1, rfl, hg1, hc1⟩ := HRX.out (by omega)
        obtain ⟨g2, o2, rfl, hg2, hc2⟩ := HRY.out (by rw [HL.out]; omega)
        have kx := (hR.below.cell (p := ⟨g1, o1 + i, none⟩) hg1).trans (hc1 i hlt)
        have ky := (hR.below.cell (p := ⟨g2, o2 + i, none⟩) hg2).trans (hc2 i (by rw [HL.out]; omega))
        have HN := Lib.hid (show ∀ k, k < i + 1 → nth (X.set i (max (nth M i) (nth M' i))) k = max (nth M k) (nth M' k) from fun k hk => by
          rcases Nat.lt_or_ge k i with h | h
          · rw [nth_set_ne (by omega)]; exact HXc.out k h
          · obtain rfl : k = i := by omega
            exact nth_set_same (by rw [hR.len]; omega))
        have HLt := Lib.hid hlt
        have q2 : (i : Int) < (M'.length : Int) := by rw [HL.out]; exact q1
        clear hc1 hc2
        generalize nth M i = x at *
        generalize nth M' i = y at *
        have a0 := After.cell m2
        have a1 := After.cell n2
        have a2 := After.cell p2
        have a3 := After.cell kx
        have a4 := After.cell ky
        clear m0 m1 m2 n0 n1 n2 p0 p1 p2 kx ky hlt
        go_wp2_with fail
        refine wp_region_mix [(15, 2)] (by kernel_rfl) (by kernel_rfl) ?_
        simp only [wpMix, List.take_succ_cons, List.take_zero, List.drop_succ_cons, List.drop_zero]
        repeat (go_big_quiet_step ((go_at_call 61; with_reducible exact after_same (cL _ _ _))))
        refine wpQuiet_nil ?_
        intro w6 hb6
        have hR6 := hR.go hb6
        have kk := hR6.row.cellAt (i := i) (by rw [hR6.len]; exact HLt.out)
        have kf := hR6.row.frozenAt i
        have hP := Lib.hid (hR6.set i (max x y))
        clear hR hR6 hb6 a0 a1 a2 a3 a4
        go_wp2_with fail
        refine mixQ_normal (wpQuiet_nil ?_)
        intro w8 hb8
        have hR8 := Lib.hid (hP.out.go hb8)
        clear hP hb8 kk kf
        go_wp2_with fail
        go_roundw
        case rel => exact ⟨i + 1, by go_num, by have := HLt.out; omega, X.set i (max x y), Lib.hid HN.out, hR8.out⟩
        case measure => have := HLt.out; simp [intOf]; omega
      · have hiq : i = q := by omega
        have HXX := Lib.hid (show X = zip2 max M M' from list_eq_nth (by rw [zip2_len, HQ.out, hR.len]) fun k hk => by
          rw [nth_zip2 (by rw [HQ.out, ← hR.len]; exact hk)]
          exact HXc.out k (by rw [hiq, ← hR.len]; exact hk))
        have HXl := Lib.hid hR.len
        have hd : decide ((i : Int) < (q : Int)) = false := decide_eq_false (by omega)
        have hX9 := hX.below hR.below
        have hB9 := hB.trans (hR.below.mono hB.size)
        have hws : w.heap.size + 2 < wr.heap.size := Nat.lt_of_lt_of_le (by rw [hs]; omega) hR.below.size
        have hS := Lib.hid (hX9.res hB9 (by omega) N false (.slice (some ⟨z2, 0, none⟩) q q))
        have hO := Lib.hid ((((hR.row.low (p := ⟨w.heap.size + 2, 0, none⟩) (by show w.heap.size + 2 < _; rw [hs]; exact hz3) (.int .i64 N)).low (p := ⟨w.heap.size + 2, 1, none⟩) (by show w.heap.size + 2 < _; rw [hs]; exact hz3) (.bool false)).low (p := ⟨w.heap.size + 2, 2, none⟩) (by show w.heap.size + 2 < _; rw [hs]; exact hz3) (.slice (some ⟨z2, 0, none⟩) q q)))
        obtain ⟨p0, p1, p2⟩ := id hR.out
        obtain ⟨⟨r0, r1, r2⟩, fr⟩ := id hX9
        clear hiq hX9
        go_wp2_with fail
        obtain ⟨⟨s0, s1, s2⟩, hB3⟩ := hS.out
        refine bodyPost_ret (v := .agg #[.int .i64 N, .bool false, .slice (some ⟨z2, 0, none⟩) q q]) (by simp [results, Try.results60, go_sem, r0, r1, r2]) rfl ⟨some ⟨z2, 0, none⟩, q, ?_, ?_, hB3⟩
        · show Ending.returned (.agg #[.int .i64 N, .bool false, .slice (some ⟨z2, 0, none⟩) q q]) = .returned (.agg #[.int .i64 N, .bool false, .slice (some ⟨z2, 0, none⟩) (zip2 max M M').length q])
          rw [zip2_len, HQ.out]
        · show Ow _ _ _ _ _ _ (zip2 max M M')
          rw [← HXX.out]
          exact hO.out.lower (by omega)
end Go.Proofs.Ytkgddgckilledaa
namespace Go.Proofs.Ytkgddgckilledaa
open Go.RowKit
set_option linter.unusedVariables false
set_option linter.unusedSimpArgs false
open Gn
/-- An octagon told, of the call's own memory, and an error. -/
def TellsE (w : World) (P : Int × Bool × List Int) (p : Int) (e : Ending) (w' : World) : Prop :=
  ∃ A c, e = .returned (.tuple #[.agg #[.int .i64 P.1, .bool P.2.1, .slice A P.2.2.length c], .int .i64 p]) ∧ Ow w' w.heap.size 2 .i64 A c P.2.2 ∧ Below w.heap.size w w'
def Gn.meetE (Na : Int) (Ea : Bool) (Ma : List Int) (Eb : Bool) (Mb : List Int) (p : Int) : Int × Bool × List Int := if p = 0 then meetP Na Ea Ma Eb Mb else (0, false, [])
def Gn.joinE (Na : Int) (Ea : Bool) (Ma : List Int) (Eb : Bool) (Mb : List Int) (p : Int) : Int × Bool × List Int := if p = 0 then joinP Na Ea Ma Eb Mb else (0, false, [])
theorem Ow.put3 {w : World} {B b : Nat} {A : Option Addr} {c : Nat} {X : List Int} (h : Ow w B 2 .i64 A c X) (hb : b < B) (u0 u1 u2 : Value) : Ow (((w.setCell ⟨b, 0, none⟩ u0).setCell ⟨b, 1, none⟩ u1).setCell ⟨b, 2, none⟩ u2) B 2 .i64 A c X :=
  ((h.low (p := ⟨b, 0, none⟩) hb u0).low (p := ⟨b, 1, none⟩) hb u1).low (p := ⟨b, 2, none⟩) hb u2
set_option maxRecDepth 100000 in
set_option maxHeartbeats 8000000 in
theorem order_Meet (Na : Int) (Ea : Bool) (A : Option Addr) (ca : Nat) (Ma : List Int) (Nb : Int) (Eb : Bool) (B : Option Addr) (cb : Nat) (Mb : List Int) (w : World) (ha : OctIn w w.heap.size A ca Na Ma) (hb : OctIn w w.heap.size B cb Nb Mb) (hma : (Ma.length : Int) ≤ 17592186043904) (p : Int) (hp : pairP Na Ea Ma Nb Eb Mb = p) (R : Int × Bool × List Int) (hR : meetE Na Ea Ma Eb Mb p = R) :
    Calls Try.prog 29 #[.agg #[.int .i64 Na, .bool Ea, .slice A Ma.length ca], .agg #[.int .i64 Nb, .bool Eb, .slice B Mb.length cb]] w (TellsE w R p) := by
  obtain ⟨W, hW, h1, h2, hX, hB, hs⟩ := two_res w 24 Na Nb Ea Eb (.slice A Ma.length ca) (.slice B Mb.length cb)
  have haW := ha.go hB
  have hbW := hb.go hB
  have cR := order_right Na Ea A ca Ma Nb Eb B cb Mb W haW hbW p hp
  have HP := Lib.hid hp
  have HR := Lib.hid hR
  clear hp hR ha hb
  obtain ⟨k0, k1, k2⟩ := id h1
  obtain ⟨l0, l1, l2⟩ := id h2
  go_enter Try.func29, Try.ntmps29
  rw [hW] at k0 k1 k2 l0 l1 l2
  go_wp2_with fail
  rw [← hW] at k0 k1 k2 l0 l1 l2 ⊢
  clear hW
  refine cR.mono ?_
  clear cR
  rintro e w1 ⟨rfl, hb1⟩
  have h11 := h1.below hb1
  have h21 := h2.below hb1
  have hX1 := hX.below hb1
  have ha1 := haW.go hb1
  have hbb1 := hbW.go hb1
  have hB1 := hB.trans (hb1.mono hB.size)
  have hs1 : w.heap.size + 3 ≤ w1.heap.size := by rw [← hs]; exact hb1.size
  clear hb1 k0 k1 k2 l0 l1 l2 haW hbW h1 h2 hB hX hs
  obtain ⟨k0, k1, k2⟩ := id h11
  obtain ⟨l0, l1, l2⟩ := id h21
  obtain ⟨⟨r0, r1, r2⟩, fr⟩ := id hX1
  by_cases hp0 : p = 0
  · subst hp0
    obtain ⟨hc1, hc2, rfl⟩ := pairP_zero HP.out
    have hRm : R = meetP Na Ea Ma Eb Mb := by rw [← HR.out]; unfold meetE; rw [if_pos rfl]
    clear HR HP
    by_cases hE : (Ea || Eb) = true
    · have hR2 : R = (Na, true, []) := by rw [hRm]; unfold meetP; rw [if_pos hE]
      subst hR2
      clear hRm
      have hE' : Ea = true ∨ (Ea = false ∧ Eb = true) := by cases Ea <;> cases Eb <;> simp at hE ⊢
      obtain ⟨n, rfl, hn, _⟩ := chk_zero hc1
      have cE := dbm_Empty n w1 hn
      have hgo : Calls Try.prog 18 #[.int .i64 n] w1 fun e w' => e = .returned (.tuple #[.agg #[.int .i64 n, .bool true, .slice none 0 0], .int .i64 0]) ∧ Below w1.heap.size w1 w' := cE
      clear cE hc1 hc2 hE
      rcases hE' with rfl | ⟨rfl, rfl⟩
      · go_wp2_with fail
        refine hgo.mono ?_
        clear hgo
        rintro e w2 ⟨rfl, hb2⟩
        have hX2 := hX1.below hb2
        have hB2 := hB1.trans (hb2.mono hB1.size)
        clear hX1 r0 r1 r2 fr k0 k1 k2 l0 l1 l2 hb2
        obtain ⟨⟨r0, r1, r2⟩, fr⟩ := id hX2
        have hS := Lib.hid (hX2.res hB2 (by omega) n true (.slice none 0 0))
        have hO := Lib.hid ((Ow.nil w2 (w.heap.size + 3) 2 .i64).put3 (b := w.heap.size + 2) (by omega) (.int .i64 n) (.bool true) (.slice none 0 0))
        clear hX2
        go_wp2_with fail
        obtain ⟨⟨s0, s1, s2⟩, hB3⟩ := hS.out
        exact bodyPost_ret (v := .tuple #[.agg #[.int .i64 n, .bool true, .slice none 0 0], .int .i64 0]) (by simp [results, Try.results29, go_sem, r0, r1, r2]) rfl ⟨none, 0, rfl, hO.out.lower (by omega), hB3⟩
      · go_wp2_with fail
        refine hgo.mono ?_
        clear hgo
        rintro e w2 ⟨rfl, hb2⟩
        have hX2 := hX1.below hb2
        have hB2 := hB1.trans (hb2.mono hB1.size)
        clear hX1 r0 r1 r2 fr k0 k1 k2 l0 l1 l2 hb2
        obtain ⟨⟨r0, r1, r2⟩, fr⟩ := id hX2
        have hS := Lib.hid (hX2.res hB2 (by omega) n true (.slice none 0 0))
        have hO := Lib.hid ((Ow.nil w2 (w.heap.size + 3) 2 .i64).put3 (b := w.heap.size + 2) (by omega) (.int .i64 n) (.bool true) (.slice none 0 0))
        clear hX2
        go_wp2_with fail
        obtain ⟨⟨s0, s1, s2⟩, hB3⟩ := hS.out
        exact bodyPost_ret (v := .tuple #[.agg #[.int .i64 n, .bool true, .slice none 0 0], .int .i64 0]) (by simp [results, Try.results29, go_sem, r0, r1, r2]) rfl ⟨none, 0, rfl, hO.out.lower (by omega), hB3⟩
    · rw [Bool.or_eq_true, not_or, Bool.not_eq_true, Bool.not_eq_true] at hE
      obtain ⟨rfl, rfl⟩ := hE
      have hlen := chk_same_len hc1 hc2
      obtain ⟨n, rfl, hn, _, hfl⟩ := chk_zero hc1
      have hq : Ma.length ≤ 16384 := by rw [(hfl rfl).1]; have := sq_le hn; omega
      have cC := order_cellsLess n false A ca Ma n false B cb Mb w1 ha1.rd hbb1.rd hlen.symm hq
      have hR2 : R = clo n false (zip2 less Ma Mb) := by rw [hRm]; unfold meetP; rw [if_neg (by simp)]
      have hcl := chk_less hc1 hc2
      have hck := clo_chk hcl
      rw [← hR2] at hck
      have hzl : ((zip2 less Ma Mb).length : Int) ≤ 17592186043904 := by rw [zip2_len]; omega
      have hzn : (zip2 less Ma Mb).length = (zip2 less Ma Mb).length := rfl
      clear hRm hc1 hc2 hfl hlen hq hzn
      generalize zip2 less Ma Mb = Z at *
      go_wp2_with fail
      with_reducible refine cC.mono ?_
      clear cC
      rintro e w2 ⟨A2, c2, rfl, ho2, hb2⟩
      dsimp only at ho2 ⊢
      have hX2 := hX1.below hb2
      have hB2 := hB1.trans (hb2.mono hB1.size)
      have hs2 := Nat.le_trans hs1 hb2.size
      clear hX1 r0 r1 r2 fr k0 k1 k2 l0 l1 l2 hb2
      have cO := order_closed n false A2 c2 Z w2 (ho2.oct (by unfold I64; omega) (chk_ints hcl)) hzl
      rw [← hR2] at cO
      clear hR2 hcl ho2
      obtain ⟨Nc, Ec, Mc⟩ := R
      go_wp2_with fail
      with_reducible refine cO.mono ?_
      clear cO
      rintro e w3 ⟨A3, c3, rfl, ho3, hb3⟩
      dsimp only at ho3 ⊢
      have hX3 := hX2.below hb3
      have hB3 := hB2.trans (hb3.mono hB2.size)
      have hs3 := Nat.le_trans hs2 hb3.size
      clear hX2 hb3
      obtain ⟨⟨r0, r1, r2⟩, fr⟩ := id hX3
      have hS := Lib.hid (hX3.res hB3 (by omega) Nc Ec (.slice A3 Mc.length c3))
      have hO := Lib.hid (ho3.put3 (b := w.heap.size + 2) (by omega) (.int .i64 Nc) (.bool Ec) (.slice A3 Mc.length c3))
      clear hX3 hck
      go_wp2_with fail
      obtain ⟨⟨s0, s1, s2⟩, hB4⟩ := hS.out
      exact bodyPost_ret (v := .tuple #[.agg #[.int .i64 Nc, .bool Ec, .slice A3 Mc.length c3], .int .i64 0]) (by simp [results, Try.results29, go_sem, r0, r1, r2]) rfl ⟨A3, c3, rfl, hO.out.lower (by omega), hB4⟩
  · have hd : (p != 0) = true := bne_iff_ne.2 hp0
    have hR2 : R = (0, false, []) := by rw [← HR.out]; unfold meetE; rw [if_neg hp0]
    subst hR2
    clear hp0 HR HP
    have hS := Lib.hid (hX1.res hB1 (by omega) 0 false (.slice none 0 0))
    have hO := Lib.hid ((Ow.nil w1 (w.heap.size + 3) 2 .i64).put3 (b := w.heap.size + 2) (by omega) (.int .i64 0) (.bool false) (.slice none 0 0))
    clear hX1
    go_wp2_with fail
    obtain ⟨⟨s0, s1, s2⟩, hB3⟩ := hS.out
    exact bodyPost_ret (v := .tuple #[.agg #[.int .i64 0, .bool false, .slice none 0 0], .int .i64 p]) (by simp [results, Try.results29, go_sem, r0, r1, r2]) rfl ⟨none, 0, rfl, hO.out.lower (by omega), hB3⟩
end Go.Proofs.Ytkgddgckilledaa
namespace Go.Proofs.Ytkgddgckilledaa
open Go.RowKit
set_option linter.unusedVariables false
set_option linter.unusedSimpArgs false
open Gn
/-- What each operation of 'c, d := f(a), f(b)' yields, c and d in memory. -/
def octR (wb : Nat) (Pa Pb : Int × Bool × List Int) (va vb : Value) : Nat → Value → World → Prop
  | 0, v, _ => v = va
  | 1, v, w => ∃ A c, v = .agg #[.int .i64 Pa.1, .bool Pa.2.1, .slice A Pa.2.2.length c] ∧ Ow w wb 2 .i64 A c Pa.2.2
  | 2, v, _ => v = vb
  | 3, v, w => ∃ A c, v = .agg #[.int .i64 Pb.1, .bool Pb.2.1, .slice A Pb.2.2.length c] ∧ Ow w wb 2 .i64 A c Pb.2.2
  | _, v, w => ∃ b, v = .pointer (some ⟨b, 0, none⟩) ∧ wb ≤ b ∧ OctBox w b 0 false (.slice none 0 0)
def rootSl : Value → Option Nat
  | .slice (some p) _ _ => some p.block
  | _ => none
def rootOf : Value → Option Nat
  | .agg xs => rootSl (xs.getD 2 undef)
  | .pointer (some p) => some p.block
  | _ => none
def octS (i : Nat) (u : Value) (j : Nat) (v : Value) : Prop := (i ≠ 0 ∧ i ≠ 2 ∧ j ≠ 0 ∧ j ≠ 2) → ∀ b, rootOf u = some b → rootOf v ≠ some b
theorem octR_below {wb : Nat} {Pa Pb : Int × Bool × List Int} {va vb : Value} (i : Nat) (v : Value) (w w' : World) (h : octR wb Pa Pb va vb i v w) (hb : Below w.heap.size w w') : octR wb Pa Pb va vb i v w' := by
  match i, h with
  | 0, h => exact h
  | 1, ⟨A, c, h1, h2⟩ => exact ⟨A, c, h1, h2.below hb⟩
  | 2, h => exact h
  | 3, ⟨A, c, h1, h2⟩ => exact ⟨A, c, h1, h2.below hb⟩
  | i + 4, ⟨b, h1, h2, h3⟩ => exact ⟨b, h1, h2, h3.below hb⟩
theorem root_slice {A : Option Addr} {x y : Value} {l c b : Nat} (h : rootOf (.agg #[x, y, .slice A l c]) = some b) : ∃ p, A = some p ∧ p.block = b := by
  cases A with
  | none => simp [rootOf, rootSl] at h
  | some p => exact ⟨p, rfl, by simpa [rootOf, rootSl] using h⟩
theorem own_root {w : World} {base c l c' b : Nat} {A : Option Addr} {xs : List Int} {x y : Value} (h : Ow w base 2 .i64 A c xs) (hr : rootOf (.agg #[x, y, .slice A l c']) = some b) : base ≤ b := by
  obtain ⟨p, rfl, rfl⟩ := root_slice hr
  rcases h.form with ⟨e, _⟩ | ⟨g, e, h3, _⟩
  · cases e
  · injection e with e; rw [e]; exact h3
theorem octR_lt {wb : Nat} {Pa Pb : Int × Bool × List Int} {va vb : Value} {i b : Nat} {v : Value} {w : World} (h : octR wb Pa Pb va vb i v w) (hi : i ≠ 0 ∧ i ≠ 2) (hr : rootOf v = some b) : b < w.heap.size := by
  match i, h with
  | 0, _ => exact absurd rfl hi.1
  | 1, ⟨A, c, h1, h2⟩ =>
    subst h1
    obtain ⟨p, rfl, rfl⟩ := root_slice hr
    rcases h2.form with ⟨e, _⟩ | ⟨g, e, _, h3, _⟩
    · cases e
    · injection e with e; rw [e]; exact h3
  | 2, _ => exact absurd rfl hi.2
  | 3, ⟨A, c, h1, h2⟩ =>
    subst h1
    obtain ⟨p, rfl, rfl⟩ := root_slice hr
    rcases h2.form with ⟨e, _⟩ | ⟨g, e, _, h3, _⟩
    · cases e
    · injection e with e; rw [e]; exact h3
  | i + 4, ⟨b', h1, h2, h3⟩ =>
    subst h1
    have : b' = b := by simpa [rootOf] using hr
    rw [← this]; exact h3.lt
/-- What is new is apart from all that is there. -/
theorem octS_new {wb : Nat} {Pa Pb : Int × Bool × List Int} {va vb : Value} {i : Nat} {v : Value} {w : World} (hn : ∀ b, rootOf v = some b → i ≠ 0 → i ≠ 2 → w.heap.size ≤ b) (j : Nat) (u : Value) (h : octR wb Pa Pb va vb j u w) : octS i v j u ∧ octS j u i v := by
  refine ⟨fun hi b h1 h2 => ?_, fun hi b h1 h2 => ?_⟩
  · have a1 := hn b h1 hi.1 hi.2.1
    have a2 := octR_lt h ⟨hi.2.2.1, hi.2.2.2⟩ h2
    omega
  · have a1 := hn b h2 hi.2.2.1 hi.2.2.2
    have a2 := octR_lt h ⟨hi.1, hi.2.1⟩ h1
    omega
set_option maxRecDepth 100000 in
set_option maxHeartbeats 16000000 in
theorem order_Join (Na : Int) (Ea : Bool) (A : Option Addr) (ca : Nat) (Ma : List Int) (Nb : Int) (Eb : Bool) (B : Option Addr) (cb : Nat) (Mb : List Int) (w : World) (ha : OctIn w w.heap.size A ca Na Ma) (hb : OctIn w w.heap.size B cb Nb Mb) (hma : (Ma.length : Int) ≤ 17592186043904) (hmb : (Mb.length : Int) ≤ 17592186043904) (p : Int) (hp : pairP Na Ea Ma Nb Eb Mb = p) (R : Int × Bool × List Int) (hR : joinE Na Ea Ma Eb Mb p = R) :
    Calls Try.prog 30 #[.agg #[.int .i64 Na, .bool Ea, .slice A Ma.length ca], .agg #[.int .i64 Nb, .bool Eb, .slice B Mb.length cb]] w (TellsE w R p) := by
  obtain ⟨W, hW, h1, h2, hX, hB, hs⟩ := two_res w 24 Na Nb Ea Eb (.slice A Ma.length ca) (.slice B Mb.length cb)
  have haW := ha.go hB
  have hbW := hb.go hB
  have cR := order_right Na Ea A ca Ma Nb Eb B cb Mb W haW hbW p hp
  have HP := Lib.hid hp
  have HR := Lib.hid hR
  clear hp hR ha hb
  obtain ⟨k0, k1, k2⟩ := id h1
  obtain ⟨l0, l1, l2⟩ := id h2
  go_enter Try.func30, Try.ntmps30
  rw [hW] at k0 k1 k2 l0 l1 l2
  go_wp2_with fail
  rw [← hW] at k0 k1 k2 l0 l1 l2 ⊢
  clear hW
  refine cR.mono ?_
  clear cR
  rintro e w1 ⟨rfl, hb1⟩
  have h11 := h1.below hb1
  have h21 := h2.below hb1
  have hX1 := hX.below hb1
  have ha1 := haW.go hb1
  have hbb1 := hbW.go hb1
  have hB1 := hB.trans (hb1.mono hB.size)
  have hs1 : w.heap.size + 3 ≤ w1.heap.size := by rw [← hs]; exact hb1.size
  clear hb1 k0 k1 k2 l0 l1 l2 haW hbW h1 h2 hB hX hs
  obtain ⟨k0, k1, k2⟩ := id h11
  obtain ⟨l0, l1, l2⟩ := id h21
  by_cases hp0 : p = 0
  · subst hp0
    obtain ⟨hc1, hc2, rfl⟩ := pairP_zero HP.out
    have hRm : R = joinP Na Ea Ma Eb Mb := by rw [← HR.out]; unfold joinE; rw [if_pos rfl]
    clear HR HP
    obtain ⟨Qa, hQa⟩ : ∃ Q, Q = clo Na Ea Ma := ⟨_, rfl⟩
    obtain ⟨Qb, hQb⟩ : ∃ Q, Q = clo Na Eb Mb := ⟨_, rfl⟩
    have hka := clo_chk hc1
    have hkb := clo_chk hc2
    have cA := fun X (hX : Below w1.heap.size w1 X) => order_closed Na Ea A ca Ma X (ha1.go hX) hma
    have cB := fun X (hX : Below w1.heap.size w1 X) => order_closed Na Eb B cb Mb X (hbb1.go hX) hmb
    unfold joinP at hRm
    rw [← hQa] at hRm hka cA
    rw [← hQb] at hRm hkb cB
    obtain ⟨Nc, Ec, Mc⟩ := Qa
    obtain ⟨Nd, Ed, Md⟩ := Qb
    dsimp only at hRm hka hkb
    obtain ⟨rfl, hka⟩ := hka
    obtain ⟨rfl, hkb⟩ := hkb
    have HRm := Lib.hid hRm
    have HKa := Lib.hid hka
    have HKb := Lib.hid hkb
    unfold TellsO at cA cB
    clear hRm hka hkb hQa hQb hc1 hc2 ha1 hbb1 h11 h21
    go_wp2_with fail
    refine wp_region_loose 6 (fun i => match i with | 0 => 16 | 1 => 17 | 2 => 18 | 3 => 19 | 4 => 7 | _ => 8) (octR w1.heap.size (Nd, Ec, Mc) (Nd, Ed, Md) (.agg #[.int .i64 Nd, .bool Ea, .slice A Ma.length ca]) (.agg #[.int .i64 Nd, .bool Eb, .slice B Mb.length cb])) octS #[true, true, true, true, true, true, false, false] (by kernel_rfl) (by kernel_rfl) octR_below ?hd ?hi ?hop ?hend
    case hd => intro i hi; rcases (show i = 0 ∨ i = 1 ∨ i = 2 ∨ i = 3 ∨ i = 4 ∨ i = 5 by omega) with rfl | rfl | rfl | rfl | rfl | rfl <;> simp
    case hi =>
      intro i j hi hj hij h
      rcases (show i = 0 ∨ i = 1 ∨ i = 2 ∨ i = 3 ∨ i = 4 ∨ i = 5 by omega) with rfl | rfl | rfl | rfl | rfl | rfl <;> rcases (show j = 0 ∨ j = 1 ∨ j = 2 ∨ j = 3 ∨ j = 4 ∨ j = 5 by omega) with rfl | rfl | rfl | rfl | rfl | rfl <;> first | exact absurd rfl hij | exact absurd h (by decide)
    case hop =>
      intro i o hi ho
      rcases (show i = 0 ∨ i = 1 ∨ i = 2 ∨ i = 3 ∨ i = 4 ∨ i = 5 by omega) with rfl | rfl | rfl | rfl | rfl | rfl
      · injection ho with ho
        subst ho
        refine ⟨fun _ => rfl, fun a' X hX hsz hdf hrest hdep => ?_⟩
        have e2 : a'.tmps[2]? = some (.pointer (some ⟨w.heap.size, 0, none⟩)) := hrest 2 (by decide)
        have m0 := below_cell hX k0
        have m1 := below_cell hX k1
        have m2 := below_cell hX k2
        simp [Oper.wp, execOp, Act.eval, e2, go_sem, m0, m1, m2]
        exact ⟨_, rfl, Below.refl _ _, rfl, fun j u _ _ hu => octS_new (fun b _ h0 => absurd rfl h0) j u hu⟩
      · injection ho with ho
        subst ho
        refine ⟨fun _ => rfl, fun a' X hX hsz hdf hrest hdep => ?_⟩
        obtain ⟨v, e16, hv⟩ := hdep ⟨0, Ground.data⟩ (by simp) rfl
        have hv : v = .agg #[.int .i64 Nd, .bool Ea, .slice A Ma.length ca] := hv
        have e16 : a'.tmps[16]? = some v := e16
        subst hv
        simp [Oper.wp, execOp, Act.eval, e16, go_sem]
        refine (cA X hX).mono ?_
        rintro e X' ⟨A2, c2, rfl, ho, hb⟩
        exact ⟨_, rfl, hb, ⟨A2, c2, rfl, ho.lower hX.size⟩, fun j u _ _ hu => octS_new (fun b hb' _ _ => own_root ho hb') j u hu⟩
      · injection ho with ho
        subst ho
        refine ⟨fun _ => rfl, fun a' X hX hsz hdf hrest hdep => ?_⟩
        have e3 : a'.tmps[3]? = some (.pointer (some ⟨w.heap.size + 1, 0, none⟩)) := hrest 3 (by decide)
        have m0 := below_cell hX l0
        have m1 := below_cell hX l1
        have m2 := below_cell hX l2
        simp [Oper.wp, execOp, Act.eval, e3, go_sem, m0, m1, m2]
        exact ⟨_, rfl, Below.refl _ _, rfl, fun j u _ _ hu => octS_new (fun b _ _ h0 => absurd rfl h0) j u hu⟩
      · injection ho with ho
        subst ho
        refine ⟨fun _ => rfl, fun a' X hX hsz hdf hrest hdep => ?_⟩
        obtain ⟨v, e18, hv⟩ := hdep ⟨2, Ground.data⟩ (by simp) rfl
        have hv : v = .agg #[.int .i64 Nd, .bool Eb, .slice B Mb.length cb] := hv
        have e18 : a'.tmps[18]? = some v := e18
        subst hv
        simp [Oper.wp, execOp, Act.eval, e18, go_sem]
        refine (cB X hX).mono ?_
        rintro e X' ⟨A2, c2, rfl, ho, hb⟩
        exact ⟨_, rfl, hb, ⟨A2, c2, rfl, ho.lower hX.size⟩, fun j u _ _ hu => octS_new (fun b hb' _ _ => own_root ho hb') j u hu⟩
      all_goals
        injection ho with ho
        subst ho
        refine ⟨fun _ => rfl, fun a' X hX hsz hdf hrest hdep => ?_⟩
        simp [Oper.wp, execOp, Act.eval, go_sem]
        exact ⟨_, rfl, (Below.refl _ _).alloc (Nat.le_refl _) _, ⟨X.heap.size, rfl, hX.size, OctBox.new _ _ _ _ _⟩, fun j u _ _ hu => octS_new (fun b hb _ _ => Nat.le_of_eq (by simpa [rootOf] using hb)) j u hu⟩
    case hend =>
      intro vs X hX hv hs
      have e0 : vs 0 = .agg #[.int .i64 Nd, .bool Ea, .slice A Ma.length ca] := hv 0 (by decide)
      obtain ⟨A2, c2, e1, hoA⟩ : ∃ A c, vs 1 = .agg #[.int .i64 Nd, .bool Ec, .slice A Mc.length c] ∧ Ow X w1.heap.size 2 .i64 A c Mc := hv 1 (by decide)
      have e2 : vs 2 = .agg #[.int .i64 Nd, .bool Eb, .slice B Mb.length cb] := hv 2 (by decide)
      obtain ⟨B2, d2, e3, hoB⟩ : ∃ A c, vs 3 = .agg #[.int .i64 Nd, .bool Ed, .slice A Md.length c] ∧ Ow X w1.heap.size 2 .i64 A c Md := hv 3 (by decide)
      obtain ⟨b7, e4, hb7, hx7⟩ : ∃ b, vs 4 = .pointer (some ⟨b, 0, none⟩) ∧ w1.heap.size ≤ b ∧ OctBox X b 0 false (.slice none 0 0) := hv 4 (by decide)
      obtain ⟨b8, e5, hb8, hx8⟩ : ∃ b, vs 5 = .pointer (some ⟨b, 0, none⟩) ∧ w1.heap.size ≤ b ∧ OctBox X b 0 false (.slice none 0 0) := hv 5 (by decide)
      have hsA7 := hs 1 4 (by decide) (by decide) (by decide) (by decide)
      have hsA8 := hs 1 5 (by decide) (by decide) (by decide) (by decide)
      have hsB7 := hs 3 4 (by decide) (by decide) (by decide) (by decide)
      have hsB8 := hs 3 5 (by decide) (by decide) (by decide) (by decide)
      have hs78 := hs 4 5 (by decide) (by decide) (by decide) (by decide)
      rw [e1, e4] at hsA7
      rw [e1, e5] at hsA8
      rw [e3, e4] at hsB7
      rw [e3, e5] at hsB8
      rw [e4, e5] at hs78
      have n78 : b7 ≠ b8 := fun e => hs78 b7 rfl (by rw [e]; rfl)
      have nA7 : ∀ g, A2 = some ⟨g, 0, none⟩ → g ≠ b7 := fun g hg e => by subst hg e; exact hsA7 g rfl rfl
      have nA8 : ∀ g, A2 = some ⟨g, 0, none⟩ → g ≠ b8 := fun g hg e => by subst hg e; exact hsA8 g rfl rfl
      have nB7 : ∀ g, B2 = some ⟨g, 0, none⟩ → g ≠ b7 := fun g hg e => by subst hg e; exact hsB7 g rfl rfl
      have nB8 : ∀ g, B2 = some ⟨g, 0, none⟩ → g ≠ b8 := fun g hg e => by subst hg e; exact hsB8 g rfl rfl
      clear hsA7 hsA8 hsB7 hsB8 hs78 hs hv
      obtain ⟨y7, g7⟩ := hx7.put Nd Ec (.slice A2 Mc.length c2)
      obtain ⟨y8, g8⟩ := (hx8.only g7 (Ne.symm n78)).put Nd Ed (.slice B2 Md.length d2)
      have y7' := y7.only g8 n78
      have hoA2 := (hoA.turn g7 nA7).turn g8 nA8
      have hoB2 := (hoB.turn g7 nB7).turn g8 nB8
      have hBY := ((((((hX.setCell hb7 (p := ⟨b7, 0, none⟩) (.int .i64 Nd)).setCell hb7 (p := ⟨b7, 1, none⟩) (.bool Ec)).setCell hb7 (p := ⟨b7, 2, none⟩) (.slice A2 Mc.length c2)).setCell hb8 (p := ⟨b8, 0, none⟩) (.int .i64 Nd)).setCell hb8 (p := ⟨b8, 1, none⟩) (.bool Ed)).setCell hb8 (p := ⟨b8, 2, none⟩) (.slice B2 Md.length d2))
      obtain ⟨⟨p0, p1, p2⟩, pf⟩ := id hx7
      obtain ⟨⟨q0, q1, q2⟩, qf⟩ := id hx8
      have n87 : ¬ b8 = b7 := fun e => n78 e.symm
      have HH := Lib.hid (And.intro y7' (And.intro y8 (And.intro hoA2 (And.intro hoB2 hBY))))
      clear y7 y8 y7' g7 g8 hoA2 hoB2 hBY hx7 hx8 hoA hoB nA7 nA8 nB7 nB8
      simp only [puts, Act.put, e0, e1, e2, e3, e4, e5, List.drop_succ_cons, List.drop_zero, List.setIfInBounds_toArray, List.set_cons_zero, List.set_cons_succ]
      go_wp2_with fail
      refine mixQ_normal ?_
      generalize ((((((X.setCell ⟨b7, 0, none⟩ (.int .i64 Nd)).setCell ⟨b7, 1, none⟩ (.bool Ec)).setCell ⟨b7, 2, none⟩ (.slice A2 Mc.length c2)).setCell ⟨b8, 0, none⟩ (.int .i64 Nd)).setCell ⟨b8, 1, none⟩ (.bool Ed)).setCell ⟨b8, 2, none⟩ (.slice B2 Md.length d2)) = Y at *
      obtain ⟨y7, y8, hoA2, hoB2, hBY⟩ := HH.out
      clear HH p0 p1 p2 pf q0 q1 q2 qf k0 k1 k2 l0 l1 l2 hX n87 n78
      have hXY := hX1.below hBY
      have hB2 := hB1.trans (hBY.mono hB1.size)
      have hsY := Nat.le_trans hs1 hBY.size
      obtain ⟨⟨r0, r1, r2⟩, fr⟩ := id hXY
      obtain ⟨p0, p1, p2⟩ := id y7.box
      obtain ⟨q0, q1, q2⟩ := id y8.box
      clear hX1 hBY
      rcases Ec with _ | _
      · rcases Ed with _ | _
        · have hlen := chk_same_len HKa.out HKb.out
          have hq : Mc.length ≤ 16384 := by
            obtain ⟨m, _, hm, _, h1⟩ := chk_zero HKa.out
            rw [(h1 rfl).1]; have := sq_le hm; omega
          have cC := order_cellsMax Nd false A2 c2 Mc Nd false B2 d2 Md Y hoA2.rd hoB2.rd hlen.symm hq
          have hRe := Lib.hid (show R = (Nd, false, zip2 max Mc Md) by rw [HRm.out, if_neg (by simp), if_neg (by simp)])
          clear hlen hq HKa HKb HRm cA cB hoA2 hoB2
          generalize zip2 max Mc Md = Z at *
          go_wp2_with fail
          with_reducible refine cC.mono ?_
          clear cC
          rintro e w5 ⟨A5, c5, rfl, ho5, hb5⟩
          dsimp only at ho5 ⊢
          have hX5 := hXY.below hb5
          have hB5 := hB2.trans (hb5.mono hB2.size)
          have hs5 := Nat.le_trans hsY hb5.size
          clear hXY hb5 r0 r1 r2 fr p0 p1 p2 q0 q1 q2
          obtain ⟨⟨r0, r1, r2⟩, fr⟩ := id hX5
          have hS := Lib.hid (hX5.res hB5 (by omega) Nd false (.slice A5 Z.length c5))
          have hO := Lib.hid (ho5.put3 (b := w.heap.size + 2) (by omega) (.int .i64 Nd) (.bool false) (.slice A5 Z.length c5))
          clear hX5
          go_wp2_with fail
          obtain ⟨⟨s0, s1, s2⟩, hB6⟩ := hS.out
          refine bodyPost_ret (v := .tuple #[.agg #[.int .i64 Nd, .bool false, .slice A5 Z.length c5], .int .i64 0]) (by simp [results, Try.results30, go_sem, r0, r1, r2]) rfl ?_
          rw [hRe.out]
          exact ⟨A5, c5, rfl, hO.out.lower (by omega), hB6⟩
        · have hRe := Lib.hid (show R = (Nd, false, Mc) by rw [HRm.out, if_neg (by simp), if_pos rfl])
          have hS := Lib.hid (hXY.res hB2 (by omega) Nd false (.slice A2 Mc.length c2))
          have hO := Lib.hid (hoA2.put3 (b := w.heap.size + 2) (by omega) (.int .i64 Nd) (.bool false) (.slice A2 Mc.length c2))
          clear hXY y7 y8 hoA2 hoB2 HRm HKa HKb cA cB
          go_wp2_with fail
          obtain ⟨⟨s0, s1, s2⟩, hB3⟩ := hS.out
          refine bodyPost_ret (v := .tuple #[.agg #[.int .i64 Nd, .bool false, .slice A2 Mc.length c2], .int .i64 0]) (by simp [results, Try.results30, go_sem, r0, r1, r2]) rfl ?_
          rw [hRe.out]
          exact ⟨A2, c2, rfl, hO.out.lower (by omega), hB3⟩
      · have hRe := Lib.hid (show R = (Nd, Ed, Md) by rw [HRm.out, if_pos rfl])
        have hS := Lib.hid (hXY.res hB2 (by omega) Nd Ed (.slice B2 Md.length d2))
        have hO := Lib.hid (hoB2.put3 (b := w.heap.size + 2) (by omega) (.int .i64 Nd) (.bool Ed) (.slice B2 Md.length d2))
        clear hXY y7 y8 hoA2 hoB2 HRm HKa HKb cA cB
        go_wp2_with fail
        obtain ⟨⟨s0, s1, s2⟩, hB3⟩ := hS.out
        refine bodyPost_ret (v := .tuple #[.agg #[.int .i64 Nd, .bool Ed, .slice B2 Md.length d2], .int .i64 0]) (by simp [results, Try.results30, go_sem, r0, r1, r2]) rfl ?_
        rw [hRe.out]
        exact ⟨B2, d2, rfl, hO.out.lower (by omega), hB3⟩
  · have hd : (p != 0) = true := bne_iff_ne.2 hp0
    have hR2 : R = (0, false, []) := by rw [← HR.out]; unfold joinE; rw [if_neg hp0]
    subst hR2
    clear hp0 HR HP
    obtain ⟨⟨r0, r1, r2⟩, fr⟩ := id hX1
    have hS := Lib.hid (hX1.res hB1 (by omega) 0 false (.slice none 0 0))
    have hO := Lib.hid ((Ow.nil w1 (w.heap.size + 3) 2 .i64).put3 (b := w.heap.size + 2) (by omega) (.int .i64 0) (.bool false) (.slice none 0 0))
    clear hX1
    go_wp2_with fail
    obtain ⟨⟨s0, s1, s2⟩, hB3⟩ := hS.out
    exact bodyPost_ret (v := .tuple #[.agg #[.int .i64 0, .bool false, .slice none 0 0], .int .i64 p]) (by simp [results, Try.results30, go_sem, r0, r1, r2]) rfl ⟨none, 0, rfl, hO.out.lower (by omega), hB3⟩
end Go.Proofs.Ytkgddgckilledaa
namespace Go.Proofs.Ytkgddgckilledaa
open Go.RowKit
set_option linter.unusedVariables false
set_option linter.unusedSimpArgs false
open Gn
namespace Gn
def k4M : List Int := [0, 4, 9223372036854775807, 0]
def k6M : List Int := [0, 6, 9223372036854775807, 0]
theorem k4_bound : boundM 2 (topM 2) 0 1 4 = k4M := by decide +kernel
theorem k6_bound : boundM 2 (topM 2) 0 1 6 = k6M := by decide +kernel
theorem k4_i : ∀ v ∈ k4M, I64 v := by decide +kernel
theorem k6_i : ∀ v ∈ k6M, I64 v := by decide +kernel
theorem k4_l : k4M.length = 4 := rfl
theorem k6_l : k6M.length = 4 := rfl
theorem k46_pair : pairP 1 false k4M 1 false k6M = 0 := by decide +kernel
theorem k64_pair : pairP 1 false k6M 1 false k4M = 0 := by decide +kernel
theorem k46_ent : (decide ((0 : Int) = 0) && entP 1 false k4M false k6M) = true := by decide +kernel
theorem k64_ent : (decide ((0 : Int) = 0) && entP 1 false k6M false k4M) = false := by decide +kernel
theorem k46_join : joinE 1 false k4M false k6M 0 = (1, false, k6M) := by decide +kernel
end Gn
set_option maxRecDepth 100000 in
set_option maxHeartbeats 8000000 in
theorem known14 (w : World) : Calls Try.prog 21 #[] w fun e w' => e = .returned (.bool true) ∧ Below w.heap.size w w' := by
  have E0 : ((0 : Nat) : Int) = 0 := rfl
  have E1 : ((1 : Nat) : Int) = 1 := rfl
  have cT := fun W => ref_Top 1 W (by omega)
  rw [E1] at cT
  go_enter Try.func21, Try.ntmps21
  go_wp2_with fail
  refine (cT _).mono ?_
  rintro e w1 ⟨g, M, hM0, rfl, ho, hb1⟩
  have hl : M.length = 2 * 1 * (2 * 1) := by rw [hM0]; exact topM_len _
  have c1 := ref_BoundB 1 g M.length M 0 1 4 w1 w.heap.size (by omega) hl ho (by omega) (by omega) (by omega) hb1.size
  have hK : boundM (2 * 1) M 0 1 4 = k4M := by rw [hM0]; exact k4_bound
  have hl4 : M.length = 4 := hl
  rw [E0, E1, hK, hl4] at c1
  rw [hl4]
  clear hM0 hl ho hK hl4
  go_wp2_with fail
  refine c1.mono ?_
  clear c1
  rintro e w2 ⟨rfl, ho2, hb2⟩
  have hB2 := hb1.trans hb2
  clear hb1 hb2
  obtain ⟨w3, hw3⟩ : ∃ w3, w3 = w2.alloc (.cells #[.int .i64 1, .bool false, .slice (some ⟨g, 0, none⟩) 4 4] /-T-/24) := ⟨_, rfl⟩
  have hP3 : OctAt w3 w2.heap.size 1 false (.slice (some ⟨g, 0, none⟩) 4 4) := by rw [hw3]; exact OctAt.box _ _ _ _ _
  have hb3 : Below w2.heap.size w2 w3 := by rw [hw3]; exact (Below.refl _ _).alloc (Nat.le_refl _) _
  have ho3 := ho2.below hb3
  have hB3 := hB2.trans (hb3.mono hB2.size)
  go_wp2_with fail
  rw [← hw3]
  clear hw3 hb3 ho2 hB2
  generalize w2.heap.size = bA at *
  refine (cT _).mono ?_
  clear cT
  rintro e w4 ⟨g', M, hM0, rfl, ho, hb4⟩
  have hl : M.length = 2 * 1 * (2 * 1) := by rw [hM0]; exact topM_len _
  have c1 := ref_BoundB 1 g' M.length M 0 1 6 w4 w3.heap.size (by omega) hl ho (by omega) (by omega) (by omega) hb4.size
  have hK : boundM (2 * 1) M 0 1 6 = k6M := by rw [hM0]; exact k6_bound
  have hl4 : M.length = 4 := hl
  rw [E0, E1, hK, hl4] at c1
  rw [hl4]
  clear hM0 hl ho hK hl4
  go_wp2_with fail
  refine c1.mono ?_
  clear c1
  rintro e w5 ⟨rfl, ho5, hb5⟩
  have hb45 := hb4.trans hb5
  clear hb4 hb5
  obtain ⟨w6, hw6⟩ : ∃ w6, w6 = w5.alloc (.cells #[.int .i64 1, .bool false, .slice (some ⟨g', 0, none⟩) 4 4] /-T-/24) := ⟨_, rfl⟩
  have hQ6 : OctAt w6 w5.heap.size 1 false (.slice (some ⟨g', 0, none⟩) 4 4) := by rw [hw6]; exact OctAt.box _ _ _ _ _
  have hb6 : Below w5.heap.size w5 w6 := by rw [hw6]; exact (Below.refl _ _).alloc (Nat.le_refl _) _
  have hb36 := hb45.trans (hb6.mono hb45.size)
  have hP6 := hP3.below hb36
  have hA6 := (ho3.below hb36).oct (N := 1) (by unfold I64; omega) k4_i
  have hC6 := (ho5.below hb6).oct (N := 1) (by unfold I64; omega) k6_i
  have hB6 := hB3.trans (hb36.mono hB3.size)
  obtain ⟨p0, p1, p2⟩ := id hP6
  obtain ⟨q0, q1, q2⟩ := id hQ6
  rw [hw6] at p0 p1 p2 q0 q1 q2
  have c3 := order_Entails 1 false (some ⟨g, 0, none⟩) 4 k4M 1 false (some ⟨g', 0, none⟩) 4 k6M w6 hA6 hC6 (by rw [k4_l]; omega) 0 k46_pair true k46_ent
  rw [k4_l, k6_l] at c3
  go_wp2_with fail
  rw [← hw6]
  clear hw6 hb6 hb36 hb45 ho3 ho5 hP3 hB3 p0 p1 p2 q0 q1 q2
  generalize w5.heap.size = bC at *
  refine c3.mono ?_
  clear c3
  rintro e w7 ⟨rfl, hb7⟩
  have hP7 := hP6.below hb7
  have hQ7 := hQ6.below hb7
  have hA7 := hA6.go hb7
  have hC7 := hC6.go hb7
  have hB7 := hB6.trans (hb7.mono hB6.size)
  clear hb7 hP6 hQ6 hA6 hC6 hB6
  obtain ⟨p0, p1, p2⟩ := id hP7
  obtain ⟨q0, q1, q2⟩ := id hQ7
  have c4 := order_Entails 1 false (some ⟨g', 0, none⟩) 4 k6M 1 false (some ⟨g, 0, none⟩) 4 k4M w7 hC7 hA7 (by rw [k6_l]; omega) 0 k64_pair false k64_ent
  rw [k4_l, k6_l] at c4
  go_wp2_with fail
  refine c4.mono ?_
  clear c4
  rintro e w8 ⟨rfl, hb8⟩
  have hP8 := hP7.below hb8
  have hQ8 := hQ7.below hb8
  have hA8 := hA7.go hb8
  have hC8 := hC7.go hb8
  have hB8 := hB7.trans (hb8.mono hB7.size)
  clear hb8 hP7 hQ7 hA7 hC7 hB7 p0 p1 p2 q0 q1 q2
  obtain ⟨p0, p1, p2⟩ := id hP8
  obtain ⟨q0, q1, q2⟩ := id hQ8
  have c5 := order_Join 1 false (some ⟨g, 0, none⟩) 4 k4M 1 false (some ⟨g', 0, none⟩) 4 k6M w8 hA8 hC8 (by rw [k4_l]; omega) (by rw [k6_l]; omega) 0 k46_pair _ k46_join
  rw [k4_l, k6_l] at c5
  go_wp2_with fail
  refine c5.mono ?_
  clear c5
  rintro e w9 ⟨A9, c9, rfl, ho9, hb9⟩
  dsimp only at ho9 ⊢
  rw [k6_l]
  have hQ9 := hQ8.below hb9
  have hC9 := hC8.go hb9
  have hB9 := hB8.trans (hb9.mono hB8.size)
  clear hb9 hP8 hQ8 hA8 hC8 hB8 p0 p1 p2 q0 q1 q2
  obtain ⟨w10, hw10⟩ : ∃ w10, w10 = w9.alloc (.cells #[.int .i64 1, .bool false, .slice A9 4 c9] /-T-/24) := ⟨_, rfl⟩
  have hJ : OctAt w10 w9.heap.size 1 false (.slice A9 4 c9) := by rw [hw10]; exact OctAt.box _ _ _ _ _
  have hb10 : Below w9.heap.size w9 w10 := by rw [hw10]; exact (Below.refl _ _).alloc (Nat.le_refl _) _
  have hQ10 := hQ9.below hb10
  have hB10 := hB9.trans (hb10.mono hB9.size)
  have cO := help_Oct 1 1 false false A9 (some ⟨g', 0, none⟩) c9 4 k6M k6M w10 (ho9.below hb10).rd (hC9.go hb10).rd (by rw [k6_l]; omega) (by rw [k6_l]; omega)
  rw [decide_eq_true ⟨rfl, rfl, rfl⟩, k6_l] at cO
  obtain ⟨p0, p1, p2⟩ := id hJ
  obtain ⟨q0, q1, q2⟩ := id hQ10
  rw [hw10] at p0 p1 p2 q0 q1 q2
  go_wp2_with fail
  rw [← hw10]
  refine cO.mono ?_
  clear cO
  rintro e w11 ⟨rfl, hb11⟩
  have hend := Lib.hid (hB10.trans (hb11.mono hB10.size))
  clear hb11
  go_wp2_with fail
  go_ret
  exact ⟨rfl, hend.out⟩
end Go.Proofs.Ytkgddgckilledaa

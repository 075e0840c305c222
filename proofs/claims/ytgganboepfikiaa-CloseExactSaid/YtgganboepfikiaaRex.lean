/- The walks of the document's Close, of Closed, and of the statement CloseExact. -/
import Derived.Test.YtgganboepfikiaaRof
import Derived.Test.YtgganboepfikiaaCcl
import Derived.Test.YtgganboepfikiaaDbc
namespace Go.Proofs.Ytgganboepfikiaa
open Go.RowKit
set_option linter.unusedVariables false
set_option linter.unusedSimpArgs false
open Gn
theorem Ow.turned {w w' : World} {base c g : Nat} {A : Option Addr} {M : List Int} (h : Ow w base 2 .i64 A c M) (hg : w.grownBy w' (some g)) (hne : ∀ g', A = some ⟨g', 0, none⟩ → g' ≠ g) : Ow w' base 2 .i64 A c M := by
  rcases h.form with ⟨rfl, rfl, rfl⟩ | ⟨g', rfl, _⟩
  · exact Ow.nil _ _ _ _
  · exact h.other' hg (fun e => hne g' rfl e.symm)
set_option maxHeartbeats 1000000 in
/-- An octagon written over: its own block alone turns. -/
theorem help_SpoilG (N : Int) (E : Bool) (A : Option Addr) (c : Nat) (M : List Int) (w : World) (base : Nat) (ho : Ow w base 2 .i64 A c M) (hm : (M.length : Int) ≤ 9223372036854775807) :
    Calls Try.prog 32 #[.agg #[.int .i64 N, .bool E, .slice A M.length c]] w fun e w' => e = .returned (.tuple #[]) ∧ ∃ g, w.grownBy w' (some g) ∧ (A = some ⟨g, 0, none⟩ ∨ g = w.heap.size) := by
  obtain ⟨g, hgA⟩ : ∃ g, (0 < M.length → A = some ⟨g, 0, none⟩) ∧ (M.length = 0 → g = w.heap.size) := by
    by_cases h0 : 0 < M.length
    · obtain ⟨g, hg, _⟩ := ho.blockOf h0
      exact ⟨g, fun _ => hg, fun h => by omega⟩
    · exact ⟨w.heap.size, fun h => absurd h h0, fun _ => rfl⟩
  have hAg : A = some ⟨g, 0, none⟩ ∨ g = w.heap.size := by
    by_cases h0 : 0 < M.length
    · exact .inl (hgA.1 h0)
    · exact .inr (hgA.2 (by omega))
  obtain ⟨W, hW, hO, hB, hs⟩ := one_box w 26 N E (.slice A M.length c)
  have hoW := ho.below hB
  have hG0 : w.grownBy W (some g) := only_of_below hB _
  have hlen : M.length = M.length := rfl
  have HA := Lib.hid hgA.1
  have hbk := Lib.hid (fun (h : 0 < M.length) => (show g < w.heap.size by
    have := ho
    rw [hgA.1 h] at this
    exact this.blockGe.2))
  clear hgA
  go_enter Try.func32, Try.ntmps32
  go_wp2_with fail
  rw [← hW]
  clear hW hB
  go_loopw [2] (fun s wr => ∃ i : Nat, s = .int .i64 i ∧ i ≤ M.length ∧ OctAt wr w.heap.size N E (.slice A M.length c) ∧ w.grownBy wr (some g) ∧ w.heap.size < wr.heap.size ∧ ∃ X : List Int, X.length = M.length ∧ Ow wr base 2 .i64 A c X) (fun s _ => M.length - (intOf s).toNat)
  case atStart => exact ⟨0, rfl, by omega, hO, hG0, by omega, M, rfl, hoW⟩
  case round =>
    clear hoW hO hG0
    obtain ⟨i, rfl, hi, hO, hG, hl, X, hX, hoX⟩ := hrel
    obtain ⟨k0, k1, k2⟩ := id hO
    rcases Nat.lt_or_ge i M.length with hlt | hge
    · obtain rfl := HA.out (by omega)
      have hg2 := hbk.out (by omega)
      have hc := hoX.cellAt' hX hlt
      have hf := hoX.frozenAt' i
      have ho' := hoX.set' i (-7)
      have hS := only_setCell (p := ⟨g, i, none⟩) (World.grownBy.refl wr (some g)) (.inl rfl) (.int .i64 (-7))
      have hO' := hO.only hS (by omega)
      have hG' := only_setCell (p := ⟨g, i, none⟩) hG (.inl rfl) (.int .i64 (-7))
      have HX := Lib.hid hX
      have HO' := Lib.hid hO'
      have HG' := Lib.hid hG'
      have Ho' := Lib.hid ho'
      clear hX hO' hG' ho' hS hO hG hoX hAg hbk HA
      go_wp2_with fail
      go_roundw
      case rel => exact ⟨i + 1, by go_num, by omega, HO'.out, HG'.out, by simpa using hl, X.set i (-7), by rw [List.length_set]; exact HX.out, Ho'.out⟩
      case measure => simp [intOf]; omega
    · obtain rfl : i = M.length := by omega
      have HAg := Lib.hid hAg
      clear hX hAg
      go_wp2_with fail
      go_end0
      exact ⟨rfl, g, hG, HAg.out⟩
set_option maxHeartbeats 2000000 in
theorem ref13_Close (N : Int) (E : Bool) (A : Option Addr) (c : Nat) (M : List Int) (w : World) (h : OctIn w w.heap.size A c N M) (hM : (M.length : Int) ≤ 17592186043904) (P : ((Int × Bool × List Int) × Bool) × Int) (hP : closeP N E M = P) :
    Calls Try.prog 40 #[.agg #[.int .i64 N, .bool E, .slice A M.length c]] w (TellsCl w P) := by
  obtain ⟨W, hW, hR, hs⟩ := box_res w 26 N E (.slice A M.length c)
  have hW1 := h.go hR.below
  have hR := (⟨hR.c0, hR.c1, hR.c2, hR.r0, hR.r1, hR.r2, hR.fc, hR.fr, hR.below.mono (Nat.le_refl _), hR.lt⟩ : BoxRes w W N E (.slice A M.length c))
  have cC := ref_Check A c N E M W hW1
  obtain ⟨k0, k1, k2, _, _, _, _, _, _, _⟩ := id hR
  go_enter Try.func40, Try.ntmps40
  go_wp2_with fail
  rw [← hW]
  clear hW
  refine cC.mono ?_
  clear cC
  rintro e w1 ⟨rfl, hb1⟩
  have hoct := hW1.go hb1
  have hR1 := hR.go hb1
  obtain ⟨m0, m1, m2, r0, r1, r2, fc, fr, hB1, hl1⟩ := id hR1
  clear k0 k1 k2 hb1 hR hW1
  by_cases hc : chk N E M = 0
  · have he : P.2 = 0 := by rw [← hP, closeP_err]; exact hc
    obtain ⟨n, rfl, hn, hE1, hE0⟩ := chk_zero hc
    have cO := ref_Of n E A c M w1 hoct hM hc
    unfold ofP at cO
    rw [hP] at cO
    rw [hc]
    clear hP hc hE1 hE0 r0 r1 r2 fc fr hB1 hl1
    go_wp2_with fail
    refine cO.mono ?_
    clear cO m0 m1 m2
    obtain ⟨⟨⟨Nc, Ec, Mc⟩, sc⟩, ec⟩ := P
    dsimp only at he
    subst he
    rintro e w2 ⟨A2, c2, rfl, ho2, hb2⟩
    dsimp only at ho2 ⊢
    obtain ⟨m0, m1, m2, r0, r1, r2, fc, fr, hB2, hl2⟩ := hR1.go hb2
    have hlt2 := hl2
    have hl1 := hR1.lt
    clear m0 m1 m2
    go_wp2_with fail
    obtain ⟨w3, hw3⟩ : ∃ w3, w3 = w2.alloc (.cells #[.int .i64 Nc, .bool Ec, .slice A2 Mc.length c2] /-T-/26) := ⟨_, rfl⟩
    refine bodyPost_ret (v := .tuple #[.agg #[.int .i64 Nc, .bool Ec, .slice A2 Mc.length c2], .bool sc, .int .i64 0]) (by simp [results, Try.results40, go_sem, r0, r1, r2, hl2, Nat.ne_of_lt, Nat.lt_trans, hl1]) rfl (tellsCl rfl rfl rfl ?_ ?_)
    · exact ((((ho2.low (by simp; omega) _).low (by simp; omega) _).low (by simp; omega) _).alloc _).lower (by omega)
    · exact (((hB2.setCell (by simp) _).setCell (by simp) _).setCell (by simp) _).alloc (by simp; omega) _
  · have hP2 : P = (((0, false, []), false), chk N E M) := by rw [← hP]; unfold closeP; rw [if_pos hc]
    have hb : (chk N E M != 0) = true := bne_iff_ne.2 hc
    have HP := Lib.hid hP2
    clear hc hP hP2
    generalize chk N E M = x at *
    go_wp2_with fail
    refine bodyPost_ret (v := .tuple #[.agg #[.int .i64 0, .bool false, .slice none 0 0], .bool false, .int .i64 x]) (by simp [results, Try.results40, go_sem, r0, r1, r2]) rfl (tellsCl HP.out rfl rfl (Ow.nil _ _ _ _) ?_)
    exact ((hB1.setCell (by simp) _).setCell (by simp) _).setCell (by simp) _
set_option maxHeartbeats 2000000 in
theorem close_Closed (N : Int) (E : Bool) (A : Option Addr) (c : Nat) (M : List Int) (w : World) (h : OctIn w w.heap.size A c N M) (hM : (M.length : Int) ≤ 17592186043904) (P : ((Int × Bool × List Int) × Bool) × Int) (hP : closeP N E M = P) :
    Calls Try.prog 43 #[.agg #[.int .i64 N, .bool E, .slice A M.length c]] w fun e w' => e = .returned (.tuple #[.bool (decide (P.2 = 0) && decide (P.1.1.1 = N ∧ P.1.1.2.1 = E ∧ P.1.1.2.2 = M)), .int .i64 P.2]) ∧ Below w.heap.size w w' := by
  obtain ⟨W, hW, hO, hB, hs⟩ := one_box w 26 N E (.slice A M.length c)
  have h0 := h.go hB
  have cC := close_CloseW N E A c M W h0 hM P hP
  have HP := Lib.hid hP
  clear hP
  obtain ⟨k0, k1, k2⟩ := id hO
  go_enter Try.func43, Try.ntmps43
  go_wp2_with fail
  rw [← hW]
  clear hW
  refine cC.mono ?_
  clear cC
  obtain ⟨⟨⟨Nc, Ec, Mc⟩, sc⟩, ec⟩ := P
  rintro e w1 ⟨A1, c1, rfl, ho1, hb1⟩
  dsimp only at ho1 ⊢
  have h1 := h0.go hb1
  have hO1 := hO.below hb1
  have hB1 := hB.trans (hb1.mono (by omega))
  have hlt := hO1.lt
  clear k0 k1 k2 hb1 h0 hO hB
  obtain ⟨k0, k1, k2⟩ := id hO1
  by_cases he : ec = 0
  · subst he
    have hck : chk N E M = 0 := by rw [← closeP_err, HP.out]
    have hcc := closeP_chk hck
    rw [HP.out] at hcc
    dsimp only at hcc
    obtain ⟨rfl, hcc⟩ := hcc
    have hcM := chk_ints hcc
    have hEq : eqO Nc Nc Ec E Mc M = decide (Ec = E ∧ Mc = M) := by rw [eqO_def, hcc, hck]; simp
    have HEq := Lib.hid hEq
    have hal : ∀ o, Below w1.heap.size w1 (w1.alloc o) := fun o => (Below.refl _ _).alloc (Nat.le_refl _) _
    have cE := fun (y : World) (hb : Below w1.heap.size w1 y) => dbm_Equal Nc Nc Ec E A1 A c1 c Mc M y ((ho1.below hb).oct h1.hN hcM) (h1.go hb)
    rw [hEq] at cE
    clear hEq hcM hcc hck
    generalize hd : decide (Ec = E ∧ Mc = M) = dd at *
    have HD := Lib.hid hd
    clear hd ho1
    go_wp2_with fail
    refine (cE _ (hal _)).mono ?_
    clear cE
    rintro e w2 ⟨rfl, hb2⟩
    have hB2 := hB1.trans (((hal _).trans (hb2.mono (by simp))).mono hB1.size)
    clear k0 k1 k2 hb2 hal
    go_wp2_with fail
    refine bodyPost_ret (v := .tuple #[.bool dd, .int .i64 0]) (by simp [results, Try.results43, go_sem]) rfl ⟨?_, hB2⟩
    rw [← HD.out]
    simp
  · have heb : (ec == 0) = false := beq_eq_false_iff_ne.2 he
    have hed : decide (ec = 0) = false := decide_eq_false he
    have HE := Lib.hid hed
    clear he hed
    go_wp2_with fail
    refine bodyPost_ret (v := .tuple #[.bool false, .int .i64 ec]) (by simp [results, Try.results43, go_sem]) rfl ⟨?_, hB1.alloc hB1.size _⟩
    rw [HE.out]; rfl
end Go.Proofs.Ytgganboepfikiaa

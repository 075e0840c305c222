/- Walks: With, of the packages dbm and gnomonref12. -/
import Derived.Test.YtgganboepfikiaaOctB
namespace Go.Proofs.Ytgganboepfikiaa
open Go.RowKit
set_option linter.unusedVariables false
set_option linter.unusedSimpArgs false
namespace Gn
/-- What With tells: the octagon's fields, the error. -/
def withP (N : Int) (E : Bool) (M : List Int) (i j c : Int) : (Int × Bool × List Int) × Int :=
  if chk N E M ≠ 0 then ((0, false, []), chk N E M)
  else if inM N.toNat i j = false then ((0, false, []), 122)
  else if E = true then ((N, true, []), 0)
  else if i = j then (if c < 0 then ((N, true, []), 0) else ((N, false, M), 0))
  else ((N, false, boundM (2 * N.toNat) M i.toNat j.toNat c), 0)
variable {N : Int} {n : Nat} {E : Bool} {M : List Int} {i j c : Int} {a b : Nat}
theorem withP_bad (h : chk N E M ≠ 0) : withP N E M i j c = ((0, false, []), chk N E M) := by unfold withP; rw [if_pos h]
theorem withP_out (h : chk n E M = 0) (h' : inM n i j = false) : withP n E M i j c = ((0, false, []), 122) := by
  unfold withP; rw [if_neg (by omega), if_pos (by simpa using h')]
theorem withP_empty (h : chk n true M = 0) (h' : inM n i j = true) : withP n true M i j c = (((n : Int), true, []), 0) := by
  unfold withP; rw [if_neg (by omega), if_neg (by simpa using h'), if_pos rfl]
theorem withP_none (h : chk n false M = 0) (h' : inM n i i = true) (hc : c < 0) : withP n false M i i c = (((n : Int), true, []), 0) := by
  unfold withP; rw [if_neg (by omega), if_neg (by simpa using h'), if_neg (by simp), if_pos rfl, if_pos hc]
theorem withP_same (h : chk n false M = 0) (h' : inM n i i = true) (hc : ¬ c < 0) : withP n false M i i c = (((n : Int), false, M), 0) := by
  unfold withP; rw [if_neg (by omega), if_neg (by simpa using h'), if_neg (by simp), if_pos rfl, if_neg hc]
theorem withP_in (h : chk n false M = 0) (h' : inM n a b = true) (hab : a ≠ b) : withP n false M a b c = (((n : Int), false, boundM (2 * n) M a b c), 0) := by
  unfold withP; rw [if_neg (by omega), if_neg (by simpa using h'), if_neg (by simp), if_neg (by omega)]; simp
end Gn
open Gn
/-- An octagon told, of the call's own memory. -/
def TellsOct (w : World) (P : (Int × Bool × List Int) × Int) (e : Ending) (w' : World) : Prop :=
  ∃ A c, e = .returned (.tuple #[.agg #[.int .i64 P.1.1, .bool P.1.2.1, .slice A P.1.2.2.length c], .int .i64 P.2]) ∧ Ow w' w.heap.size 2 .i64 A c P.1.2.2 ∧ Below w.heap.size w w'
theorem tells {w w' : World} {P : (Int × Bool × List Int) × Int} {N : Int} {E : Bool} {M : List Int} {x : Int} {A : Option Addr} {l c : Nat} {e : Ending} (hP : P = ((N, E, M), x)) (hl : l = M.length)
    (he : e = .returned (.tuple #[.agg #[.int .i64 N, .bool E, .slice A l c], .int .i64 x])) (ho : Ow w' w.heap.size 2 .i64 A c M) (hb : Below w.heap.size w w') : TellsOct w P e w' := by
  subst hP hl he; exact ⟨A, c, rfl, ho, hb⟩
set_option maxHeartbeats 2000000 in
theorem ref_With (N : Int) (E : Bool) (A : Option Addr) (c : Nat) (M : List Int) (i j b : Int) (w : World) (h : OctIn w w.heap.size A c N M) (hM : (M.length : Int) ≤ 17592186043904) :
    Calls Try.prog 31 #[.agg #[.int .i64 N, .bool E, .slice A M.length c], .int .i64 i, .int .i64 j, .int .i64 b] w (TellsOct w (withP N E M i j b)) := by
  obtain ⟨W, hW, hR, hs⟩ := box_res w 26 N E (.slice A M.length c)
  have hW1 := h.go hR.below
  have hR := (⟨hR.c0, hR.c1, hR.c2, hR.r0, hR.r1, hR.r2, hR.fc, hR.fr, hR.below.mono (Nat.le_refl _), hR.lt⟩ : BoxRes w W N E (.slice A M.length c))
  have cC := ref_Check A c N E M W hW1
  obtain ⟨k0, k1, k2, _, _, _, _, _, _, _⟩ := id hR
  go_enter Try.func31, Try.ntmps31
  go_wp2_with fail
  rw [← hW]
  clear hW
  refine cC.mono ?_
  clear cC
  rintro e w1 ⟨rfl, hb1⟩
  have hoct := hW1.go hb1
  have hR1 := hR.go hb1
  obtain ⟨m0, m1, m2, r0, r1, r2, fc, fr, hB1, hl1⟩ := id hR1
  clear k0 k1 k2 hb1 hR hW1
  by_cases hc : chk N E M = 0
  · obtain ⟨n, rfl, hn, hE1, hE0⟩ := chk_zero hc
    have HC := Lib.hid hc
    rw [hc]
    clear hc
    have cI := fun W => ref_side n E (.slice A M.length c) i W hn
    have cJ := fun W => ref_side n E (.slice A M.length c) j W hn
    have hin := inM_eq n i j
    generalize decide (0 ≤ i ∧ i < 2 * n) = di at *
    generalize decide (0 ≤ j ∧ j < 2 * n) = dj at *
    clear r0 r1 r2 fc fr hB1 hl1
    go_wp2_with fail
    refine (cI _).mono ?_
    clear cI m0 m1 m2
    rintro e w2 ⟨rfl, hb2⟩
    have hoct2 := hoct.go hb2
    have hR2 := hR1.go hb2
    clear hb2 hR1 hoct
    rcases di with _ | _
    · have HG := Lib.hid (withP_out (c := b) HC.out (i := i) (j := j) (by simp [hin]))
      clear hin
      obtain ⟨m0, m1, m2, r0, r1, r2, fc, fr, hB2, hl2⟩ := hR2
      go_wp2_with fail
      refine bodyPost_ret (v := .tuple #[.agg #[.int .i64 0, .bool false, .slice none 0 0], .int .i64 122]) (by simp [results, Try.results31, go_sem, r0, r1, r2]) rfl (tells HG.out rfl rfl (Ow.nil _ _ _ _) ?_)
      exact ((hB2.setCell (by simp) _).setCell (by simp) _).setCell (by simp) _
    · obtain ⟨m0, m1, m2, _, _, _, _, _, _, _⟩ := id hR2
      go_wp2_with fail
      refine (cJ _).mono ?_
      clear cJ m0 m1 m2
      rintro e w3 ⟨rfl, hb3⟩
      have hoct3 := hoct2.go hb3
      have hR3 := hR2.go hb3
      clear hb3 hR2 hoct2
      rcases dj with _ | _
      · have HG := Lib.hid (withP_out (c := b) HC.out (i := i) (j := j) (by simp [hin]))
        clear hin
        obtain ⟨m0, m1, m2, r0, r1, r2, fc, fr, hB3, hl3⟩ := hR3
        go_wp2_with fail
        refine bodyPost_ret (v := .tuple #[.agg #[.int .i64 0, .bool false, .slice none 0 0], .int .i64 122]) (by simp [results, Try.results31, go_sem, r0, r1, r2]) rfl (tells HG.out rfl rfl (Ow.nil _ _ _ _) ?_)
        exact ((hB3.setCell (by simp) _).setCell (by simp) _).setCell (by simp) _
      · have hin' : inM n i j = true := by rw [hin]; rfl
        clear hin
        have cK := ref_Copy n E A c M w3 hoct3.rd hM
        obtain ⟨m0, m1, m2, _, _, _, _, _, _, _⟩ := id hR3
        go_wp2_with fail
        refine cK.mono ?_
        clear cK m0 m1 m2
        rintro e w4 ⟨A4, c4, rfl, ho4, hb4⟩
        have hR4 := hR3.go hb4
        have hs4 := hR3.lt
        clear hb4 hR3 hoct3
        rcases E with _ | _
        · obtain ⟨hl, hok⟩ := hE0 rfl
          by_cases hij : i = j
          · subst hij
            obtain ⟨a, b', rfl, hab0, ha, hab1⟩ := inM_iff.1 hin'
            clear hab0 hab1 hl hok
            by_cases hneg : b < 0
            · have HG := Lib.hid (withP_none HC.out hin' hneg)
              have cB := ref_Bound_none n A4 M.length c4 a b w4 hneg
              clear hE0 hE1 hin'
              go_wp2_with fail
              refine cB.mono ?_
              clear cB
              rintro e w5 ⟨rfl, hb5⟩
              obtain ⟨m0, m1, m2, r0, r1, r2, fc, fr, hB5, hl5⟩ := hR4.go hb5
              clear hb5 hneg
              go_wp2_with fail
              refine bodyPost_ret (v := .tuple #[.agg #[.int .i64 n, .bool true, .slice none 0 0], .int .i64 0]) (by simp [results, Try.results31, go_sem, r0, r1, r2]) rfl (tells HG.out rfl rfl (Ow.nil _ _ _ _) ?_)
              exact ((hB5.setCell (by simp) _).setCell (by simp) _).setCell (by simp) _
            · have HG := Lib.hid (withP_same HC.out hin' hneg)
              have cB := ref_Bound_same n false A4 M.length c4 a b w4 hneg
              clear hE0 hE1 hin'
              go_wp2_with fail
              refine cB.mono ?_
              clear cB
              rintro e w5 ⟨rfl, hb5⟩
              obtain ⟨m0, m1, m2, r0, r1, r2, fc, fr, hB5, hl5⟩ := hR4.go hb5
              have ho5 := ho4.below hb5
              clear hb5 hneg
              go_wp2_with fail
              refine bodyPost_ret (v := .tuple #[.agg #[.int .i64 n, .bool false, .slice A4 M.length c4], .int .i64 0]) (by simp [results, Try.results31, go_sem, r0, r1, r2]) rfl (tells HG.out rfl rfl ?_ ?_)
              · exact (((ho5.low (by simp; omega) _).low (by simp; omega) _).low (by simp; omega) _).lower (by omega)
              · exact ((hB5.setCell (by simp) _).setCell (by simp) _).setCell (by simp) _
          · obtain ⟨a, b', rfl, rfl, ha, hb'⟩ := inM_iff.1 hin'
            have hab : a ≠ b' := fun h => hij (by rw [h])
            have HG := Lib.hid (withP_in (c := b) HC.out hin' hab)
            have hMl : M.length = (2 * n) * (2 * n) := by rw [hl, sq2]
            obtain ⟨g, rfl, hg1, hg2⟩ := ho4.blockOf (by have := idx_lt ha ha; omega)
            have cB := ref_Bound n g c4 M a b' b w4 w3.heap.size hn hMl ho4 ha hb' hab
            have HBL := Lib.hid (boundM_len (2 * n) M a b' b)
            generalize boundM (2 * n) M a b' b = Z at *
            clear hE0 hE1 hin' hMl hl hok hij
            go_wp2_with fail
            refine cB.mono ?_
            clear cB
            rintro e w5 ⟨rfl, ho5, hG5⟩
            have hR5 := hR4.r.only hG5 (by omega) (by omega)
            have hB5 := hR4.below.trans (only_back hG5 (by have := hR4.lt; omega) (by omega))
            obtain ⟨m0, m1, m2, r0, r1, r2, fc, fr, hl5⟩ := hR5
            clear hG5
            go_wp2_with fail
            refine bodyPost_ret (v := .tuple #[.agg #[.int .i64 n, .bool false, .slice (some ⟨g, 0, none⟩) M.length c4], .int .i64 0]) (by simp [results, Try.results31, go_sem, r0, r1, r2]) rfl (tells HG.out HBL.out.symm rfl ?_ ?_)
            · exact (((ho5.low (by simp; omega) _).low (by simp; omega) _).low (by simp; omega) _).lower (by omega)
            · exact ((hB5.setCell (by simp) _).setCell (by simp) _).setCell (by simp) _
        · obtain rfl := hE1 rfl
          have HG := Lib.hid (withP_empty (c := b) HC.out hin')
          have cB := ref_Bound_empty n A4 ([] : List Int).length c4 i j b w4
          clear hE0 hE1 hin'
          go_wp2_with fail
          refine cB.mono ?_
          clear cB
          rintro e w5 ⟨rfl, hb5⟩
          obtain ⟨m0, m1, m2, r0, r1, r2, fc, fr, hB5, hl5⟩ := hR4.go hb5
          have ho5 := ho4.below hb5
          clear hb5
          go_wp2_with fail
          refine bodyPost_ret (v := .tuple #[.agg #[.int .i64 n, .bool true, .slice A4 0 c4], .int .i64 0]) (by simp [results, Try.results31, go_sem, r0, r1, r2]) rfl (tells HG.out rfl rfl ?_ ?_)
          · exact (((ho5.low (by simp; omega) _).low (by simp; omega) _).low (by simp; omega) _).lower (by omega)
          · exact ((hB5.setCell (by simp) _).setCell (by simp) _).setCell (by simp) _
  · have HG := Lib.hid (withP_bad (i := i) (j := j) (c := b) hc)
    have hc' : (chk N E M != 0) = true := bne_iff_ne.2 hc
    clear hc
    generalize chk N E M = cc at *
    go_wp2_with fail
    refine bodyPost_ret (v := .tuple #[.agg #[.int .i64 0, .bool false, .slice none 0 0], .int .i64 cc]) (by simp [results, Try.results31, go_sem, r0, r1, r2]) rfl (tells HG.out rfl rfl (Ow.nil _ _ _ _) ?_)
    exact ((hB1.setCell (by simp) _).setCell (by simp) _).setCell (by simp) _
end Go.Proofs.Ytgganboepfikiaa

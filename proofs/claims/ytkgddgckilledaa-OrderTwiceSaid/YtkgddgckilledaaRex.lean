/- The walks of the document's Close, of Closed, and of the statement CloseExact. -/
import Derived.Test.YtkgddgckilledaaRof
import Derived.Test.YtkgddgckilledaaCcl
import Derived.Test.YtkgddgckilledaaDbc
namespace Go.Proofs.Ytkgddgckilledaa
open Go.RowKit
set_option linter.unusedVariables false
set_option linter.unusedSimpArgs false
open Gn
theorem Ow.turned {w w' : World} {base c g : Nat} {A : Option Addr} {M : List Int} (h : Ow w base 2 .i64 A c M) (hg : w.grownBy w' (some g)) (hne : ∀ g', A = some ⟨g', 0, none⟩ → g' ≠ g) : Ow w' base 2 .i64 A c M := by
  rcases h.form with ⟨rfl, rfl, rfl⟩ | ⟨g', rfl, _⟩
  · exact Ow.nil _ _ _ _
  · exact h.other' hg (fun e => hne g' rfl e.symm)
set_option maxHeartbeats 2000000 in
theorem ref13_Close (N : Int) (E : Bool) (A : Option Addr) (c : Nat) (M : List Int) (w : World) (h : OctIn w w.heap.size A c N M) (hM : (M.length : Int) ≤ 17592186043904) (P : ((Int × Bool × List Int) × Bool) × Int) (hP : closeP N E M = P) :
    Calls Try.prog 54 #[.agg #[.int .i64 N, .bool E, .slice A M.length c]] w (TellsCl w P) := by
  obtain ⟨W, hW, hR, hs⟩ := box_res w 24 N E (.slice A M.length c)
  have hW1 := h.go hR.below
  have hR := (⟨hR.c0, hR.c1, hR.c2, hR.r0, hR.r1, hR.r2, hR.fc, hR.fr, hR.below.mono (Nat.le_refl _), hR.lt⟩ : BoxRes w W N E (.slice A M.length c))
  have cC := ref_Check A c N E M W hW1
  obtain ⟨k0, k1, k2, _, _, _, _, _, _, _⟩ := id hR
  go_enter Try.func54, Try.ntmps54
  go_wp2_with fail
  rw [← hW]
  clear hW
  refine cC.mono ?_
  clear cC
  rintro e w1 ⟨rfl, hb1⟩
  have hoct := hW1.go hb1
  have hR1 := hR.go hb1
  obtain ⟨m0, m1, m2, r0, r1, r2, fc, fr, hB1, hl1⟩ := id hR1
  clear k0 k1 k2 hb1 hR hW1
  by_cases hc : chk N E M = 0
  · have he : P.2 = 0 := by rw [← hP, closeP_err]; exact hc
    obtain ⟨n, rfl, hn, hE1, hE0⟩ := chk_zero hc
    have cO := ref_Of n E A c M w1 hoct hM hc
    unfold ofP at cO
    rw [hP] at cO
    rw [hc]
    clear hP hc hE1 hE0 r0 r1 r2 fc fr hB1 hl1
    go_wp2_with fail
    refine cO.mono ?_
    clear cO m0 m1 m2
    obtain ⟨⟨⟨Nc, Ec, Mc⟩, sc⟩, ec⟩ := P
    dsimp only at he
    subst he
    rintro e w2 ⟨A2, c2, rfl, ho2, hb2⟩
    dsimp only at ho2 ⊢
    obtain ⟨m0, m1, m2, r0, r1, r2, fc, fr, hB2, hl2⟩ := hR1.go hb2
    have hlt2 := hl2
    have hl1 := hR1.lt
    clear m0 m1 m2
    go_wp2_with fail
    obtain ⟨w3, hw3⟩ : ∃ w3, w3 = w2.alloc (.cells #[.int .i64 Nc, .bool Ec, .slice A2 Mc.length c2] /-T-/24) := ⟨_, rfl⟩
    refine bodyPost_ret (v := .tuple #[.agg #[.int .i64 Nc, .bool Ec, .slice A2 Mc.length c2], .bool sc, .int .i64 0]) (by simp [results, Try.results54, go_sem, r0, r1, r2, hl2, Nat.ne_of_lt, Nat.lt_trans, hl1]) rfl (tellsCl rfl rfl rfl ?_ ?_)
    · exact ((((ho2.low (by simp; omega) _).low (by simp; omega) _).low (by simp; omega) _).alloc _).lower (by omega)
    · exact (((hB2.setCell (by simp) _).setCell (by simp) _).setCell (by simp) _).alloc (by simp; omega) _
  · have hP2 : P = (((0, false, []), false), chk N E M) := by rw [← hP]; unfold closeP; rw [if_pos hc]
    have hb : (chk N E M != 0) = true := bne_iff_ne.2 hc
    have HP := Lib.hid hP2
    clear hc hP hP2
    generalize chk N E M = x at *
    go_wp2_with fail
    refine bodyPost_ret (v := .tuple #[.agg #[.int .i64 0, .bool false, .slice none 0 0], .bool false, .int .i64 x]) (by simp [results, Try.results54, go_sem, r0, r1, r2]) rfl (tellsCl HP.out rfl rfl (Ow.nil _ _ _ _) ?_)
    exact ((hB1.setCell (by simp) _).setCell (by simp) _).setCell (by simp) _
end Go.Proofs.Ytkgddgckilledaa

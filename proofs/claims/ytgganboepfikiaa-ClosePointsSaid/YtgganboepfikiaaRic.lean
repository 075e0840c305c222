/- The walk of the statement CloseRises. -/
import Derived.Test.YtgganboepfikiaaKno
import Derived.Test.YtgganboepfikiaaCrm
import Derived.Test.YtgganboepfikiaaDbw
namespace Go.Proofs.Ytgganboepfikiaa
open Go.RowKit
set_option linter.unusedVariables false
set_option linter.unusedSimpArgs false
open Gn
namespace Gn
theorem withP_short {N : Int} {E : Bool} {M : List Int} {i j b : Int} : (withP N E M i j b).1.2.2.length ≤ M.length := by
  unfold withP
  repeat' split
  all_goals simp [boundM_len]
theorem closeP_len {N : Int} {E : Bool} {M : List Int} : (closeP N E M).1.1.2.2.length ≤ M.length := by
  by_cases hc : chk N E M = 0
  · obtain ⟨n, rfl, hn, hE1, hE0⟩ := chk_zero hc
    rcases E with _ | _
    · rw [closeP_ok hc]
      rcases hA : closeM (2 * n) M with ⟨_ | A, s⟩
      · simp
      · have := clSt_len (2 * n) M 6
        unfold closeM at hA
        dsimp only at hA
        split at hA
        · simp at hA
        split at hA
        · simp at hA
        · simp only [Prod.mk.injEq, Option.some.injEq] at hA
          rw [← hA.1]
          exact Nat.le_of_eq this
    · rw [closeP_empty hc]; simp
  · unfold closeP; rw [if_pos hc]; simp
end Gn
theorem close_CloseW (N : Int) (E : Bool) (A : Option Addr) (c : Nat) (M : List Int) (w : World) (h : OctIn w w.heap.size A c N M) (hM : (M.length : Int) ≤ 17592186043904) (P : ((Int × Bool × List Int) × Bool) × Int) (hP : closeP N E M = P) :
    Calls Try.prog 19 #[.agg #[.int .i64 N, .bool E, .slice A M.length c]] w (TellsCl w P) := by
  subst hP; exact close_Close N E A c M w h hM
set_option maxHeartbeats 4000000 in
theorem law_CloseRises (N : Int) (E : Bool) (A : Option Addr) (c : Nat) (M : List Int) (i j b : Int) (w : World) (h : OctIn w w.heap.size A c N M) (hM : (M.length : Int) ≤ 17592186043904) :
    Calls Try.prog 11 #[.agg #[.int .i64 N, .bool E, .slice A M.length c], .int .i64 i, .int .i64 j, .int .i64 b] w fun e w' => e = .returned (.bool true) ∧ Below w.heap.size w w' := by
  obtain ⟨W, hW, hO, hB, hs⟩ := one_box w 26 N E (.slice A M.length c)
  have h0 := h.go hB
  have cK := known13 W
  have hfit := withP_fits (N := N) (E := E) (M := M) (i := i) (j := j) (b := b) h.hN hM
  have hsh := withP_short (N := N) (E := E) (M := M) (i := i) (j := j) (b := b)
  have HR0 := Lib.hid (fun P hP he => rises (N := N) (E := E) (M := M) (i := i) (j := j) (c := b) (P := P) hP he)
  go_enter Try.func11, Try.ntmps11
  go_wp2_with fail
  rw [← hW]
  clear hW
  refine cK.mono ?_
  clear cK
  rintro e w1 ⟨rfl, hb1⟩
  have h1 := h0.go hb1
  have hO1 := hO.below hb1
  have hB1 := hB.trans (hb1.mono (by omega))
  clear hb1 h0 hO hB h
  obtain ⟨k0, k1, k2⟩ := id hO1
  go_wp2_with fail
  refine (dbm_With N E A c M i j b w1 h1 hM).mono ?_
  rintro e w2 ⟨A2, c2, rfl, ho2, hb2⟩
  have h2 := h1.go hb2
  have hO2 := hO1.below hb2
  have hB2 := hB1.trans (hb2.mono hB1.size)
  have hlt := hO2.lt
  clear hb2 h1 hO1 hB1 k0 k1 k2
  have hMi := withP_ints (N := N) (E := E) (i := i) (j := j) (b := b) h2.i64
  have HR1 := Lib.hid (fun he => HR0.out _ rfl he)
  clear HR0
  generalize withP N E M i j b = P at *
  obtain ⟨⟨N2, E2, M2⟩, e2⟩ := P
  dsimp only at ho2 hfit hMi HR1 hsh ⊢
  obtain ⟨k0, k1, k2⟩ := id hO2
  by_cases he2 : e2 = 0
  · subst he2
    obtain ⟨⟨hN0, hN1, rfl⟩, hR⟩ := HR1.out rfl
    have HR := Lib.hid hR
    clear hR HR1
    go_wp2_with fail
    obtain ⟨w3, hw3⟩ : ∃ w3, w3 = w2.alloc (.cells #[.int .i64 N2, .bool E2, .slice A2 M2.length c2] /-T-/26) := ⟨_, rfl⟩
    have hb3 : Below w2.heap.size w2 w3 := by rw [hw3]; exact (Below.refl _ _).alloc (Nat.le_refl _) _
    have h3 := h2.go hb3
    have hO3 := hO2.below hb3
    have ho3 := ho2.below hb3
    have hB3 := hB2.trans (hb3.mono hB2.size)
    rw [← hw3]
    clear hw3 hb3 h2 hO2 ho2 hB2 k0 k1 k2
    obtain ⟨Qa, hQa⟩ : ∃ Q, Q = closeP N2 E2 M2 := ⟨_, rfl⟩
    obtain ⟨Qb, hQb⟩ : ∃ Q, Q = closeP N2 E M := ⟨_, rfl⟩
    rw [← hQa, ← hQb] at HR
    refine (close_CloseW N2 E2 A2 c2 M2 w3 (ho3.oct hfit.1 hMi) (by omega) Qa hQa.symm).mono ?_
    have hla : Qa.1.1.2.2.length ≤ M2.length := by rw [hQa]; exact closeP_len
    have hlb : Qb.1.1.2.2.length ≤ M.length := by rw [hQb]; exact closeP_len
    clear hQa
    obtain ⟨⟨⟨Na, Ea, Ma⟩, sa⟩, ea⟩ := Qa
    rintro e w4 ⟨Aa, ca, rfl, ho4, hb4⟩
    dsimp only at ho4 HR hla ⊢
    have h4 := h3.go hb4
    have hO4 := hO3.below hb4
    have hB4 := hB3.trans (hb4.mono hB3.size)
    clear hb4 h3 hO3 hB3 ho3
    have hlt4 := hO4.lt
    obtain ⟨k0, k1, k2⟩ := id hO4
    go_wp2_with fail
    obtain ⟨w5, hw5⟩ : ∃ w5, w5 = w4.alloc (.cells #[.int .i64 Na, .bool Ea, .slice Aa Ma.length ca] /-T-/26) := ⟨_, rfl⟩
    have hX5 : OctAt w5 w4.heap.size Na Ea (.slice Aa Ma.length ca) := by rw [hw5]; exact OctAt.box _ _ _ _ _
    have hb5 : Below w4.heap.size w4 w5 := by rw [hw5]; exact (Below.refl _ _).alloc (Nat.le_refl _) _
    have h5 := h4.go hb5
    have hO5 := hO4.below hb5
    have ho5 := ho4.rd.below hb5 |>.more hb5.size
    have hB5 := hB4.trans (hb5.mono hB4.size)
    rw [← hw5]
    clear hw5 hb5 h4 hO4 ho4 hB4 k0 k1 k2
    refine (close_CloseW N2 E A c M w5 h5 hM Qb hQb.symm).mono ?_
    clear hQb
    obtain ⟨⟨⟨Nb, Eb, Mb⟩, sb⟩, eb⟩ := Qb
    rintro e w6 ⟨Ab, cb, rfl, hp6, hb6⟩
    dsimp only at hp6 HR hlb ⊢
    have hO6 := hO5.below hb6
    have hX6 := hX5.below hb6
    have ho6 := (ho5.below hb6).more hb6.size
    have hB6 := hB5.trans (hb6.mono hB5.size)
    clear hb6 h5 hO5 hB5 hX5 ho5
    have hlt6 := hX6.lt
    have hlO6 := hO6.lt
    obtain ⟨k0, k1, k2⟩ := id hX6
    cases sa
    case true =>
      clear HR
      go_wp2_with fail
      go_ret
      exact ⟨rfl, hB6.alloc hB6.size _⟩
    cases sb
    case true =>
      clear HR
      go_wp2_with fail
      go_ret
      exact ⟨rfl, hB6.alloc hB6.size _⟩
    cases Ea
    case true =>
      clear HR
      go_wp2_with fail
      go_ret
      exact ⟨rfl, hB6.alloc hB6.size _⟩
    case false.false.false =>
      obtain ⟨rfl, hle⟩ : Eb = false ∧ le Ma Mb := by
        rcases HR.out with h | h
        · cases h
        · exact h
      have hlen : Ma.length = Mb.length := hle.1
      have HLE := Lib.hid hle.2
      have hmb : ((Ma.length : Int) != (Mb.length : Int)) = false := bne_eq_false_iff_eq.2 (by omega)
      have HL := Lib.hid hlen
      clear hle hlen HR
      go_wp2_with fail
      obtain ⟨w7, hw7⟩ : ∃ w7, w7 = w6.alloc (.cells #[.int .i64 Nb, .bool false, .slice Ab Mb.length cb] /-T-/26) := ⟨_, rfl⟩
      have hY7 : OctAt w7 w6.heap.size Nb false (.slice Ab Mb.length cb) := by rw [hw7]; exact OctAt.box _ _ _ _ _
      have hb7 : Below w6.heap.size w6 w7 := by rw [hw7]; exact (Below.refl _ _).alloc (Nat.le_refl _) _
      have hO7 := hO6.below hb7
      have hX7 := hX6.below hb7
      have ho7 := (ho6.below hb7).more hb7.size
      have hp7 := hp6.rd.below hb7 |>.more hb7.size
      have hB7 := hB6.trans (hb7.mono hB6.size)
      rw [← hw7]
      clear hw7 hb7 hO6 hX6 ho6 hp6 hB6 k0 k1 k2
      obtain ⟨k0, k1, k2⟩ := id hX7
      obtain ⟨l0, l1, l2⟩ := id hY7
      clear hmb k0 k1 k2 l0 l1 l2
      go_loopw [17] (fun s' wr => ∃ k : Nat, s' = .int .i64 k ∧ k ≤ Ma.length ∧ Below w7.heap.size w7 wr) (fun s _ => Ma.length - (intOf s).toNat)
      case atStart => exact ⟨0, rfl, by omega, Below.refl _ _⟩
      case round =>
        obtain ⟨k, rfl, hk, hbw⟩ := hrel
        have hX := hX7.below hbw
        have hY := hY7.below hbw
        have hO := hO7.below hbw
        have hB := hB7.trans (hbw.mono hB7.size)
        obtain ⟨k0, k1, k2⟩ := id hX
        obtain ⟨l0, l1, l2⟩ := id hY
        rcases Nat.lt_or_ge k Ma.length with hlt | hge
        · have hlt2 : k < Mb.length := by rw [← HL.out]; exact hlt
          have hxr := ho7.below hbw
          have hyr := hp7.below hbw
          obtain ⟨g, off, rfl, hg, hc⟩ := hxr (by omega)
          obtain ⟨g', off', rfl, hg', hc'⟩ := hyr (by omega)
          have v1 := hc k hlt
          have v2 := hc' k hlt2
          have hle := HLE.out k
          generalize nth Ma k = x1 at *
          generalize nth Mb k = x2 at *
          have hd : decide (x1 > x2) = false := decide_eq_false (by omega)
          have hd2 : decide (x2 < x1) = false := decide_eq_false (by omega)
          clear hxr hyr hc hc' hle ho7 hp7
          have a1 := After.cell v1
          have a2 := After.cell v2
          have b0 := After.cell k2
          have b1 := After.cell l2
          have q1 : (k : Int) < (Ma.length : Int) := by omega
          have q2 : (k : Int) < (Mb.length : Int) := by omega
          have q3 : (0 : Int) ≤ (k : Int) := by omega
          have HW := Lib.hid hbw
          clear hbw hX hY hO hB
          go_wp2_with fail
          refine wp_region_after (by kernel_rfl) (by kernel_rfl) ?_
          repeat (go_big_quiet_step (fail))
          refine wpQuiet_nil ?_
          intro w8 hb8
          have HB8 := Lib.hid (HW.out.trans (hb8.mono HW.out.size))
          clear hb8 a1 a2 b0 b1 hd hd2 v1 v2
          go_wp2_with fail
          go_roundw
          case rel => exact ⟨k + 1, by go_num, by omega, HB8.out⟩
          case measure => simp [intOf]; omega
        · obtain rfl : k = Ma.length := by omega
          have cC := fun W => close_Cost N2 W
          have cD := fun W => ref_Cost N2 W
          generalize costV N2 = cv at *
          go_wp2_with fail
          obtain ⟨p0, p1, p2⟩ := id hO
          have a0 := After.cell p0
          clear hX hY hO k0 k1 k2 l0 l1 l2 hbw
          have hcc : (cv == cv) = true := beq_self_eq_true cv
          refine wp_region_after (by kernel_rfl) (by kernel_rfl) ?_
          repeat (go_big_quiet_step (first | (go_at_call 41; with_reducible exact after_of (cC _)) | (go_at_call 42; with_reducible exact after_of (cD _))))
          refine wpQuiet_nil ?_
          intro w8 hb8
          have hB8 := hB.trans (hb8.mono hB.size)
          clear hb8 hB
          go_wp2_with fail
          go_ret
          exact ⟨rfl, hB8⟩
  · have heb : (e2 != 0) = true := bne_iff_ne.2 he2
    clear he2 HR1
    go_wp2_with fail
    go_ret
    exact ⟨rfl, hB2.alloc hB2.size _⟩
end Go.Proofs.Ytgganboepfikiaa

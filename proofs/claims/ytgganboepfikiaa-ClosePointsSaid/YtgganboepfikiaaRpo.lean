/- The walk of the statement ClosePoints. -/
import Derived.Test.YtgganboepfikiaaRic
import Derived.Test.YtgganboepfikiaaCid
namespace Go.Proofs.Ytgganboepfikiaa
open Go.RowKit
set_option linter.unusedVariables false
set_option linter.unusedSimpArgs false
open Gn
namespace Gn
theorem chk_ints {N : Int} {E : Bool} {M : List Int} (h : chk N E M = 0) : ∀ v ∈ M, I64 v := by
  obtain ⟨n, rfl, hn, hE1, hE0⟩ := chk_zero h
  rcases E with _ | _
  · obtain ⟨hl, hok⟩ := hE0 rfl
    have hB := allB_of (by rw [hl, sq2]) hok
    intro v hv
    obtain ⟨i, hi, rfl⟩ := List.getElem_of_mem hv
    have := (hB i).i64
    unfold nth at this
    rwa [List.getD_eq_getElem?_getD, List.getElem?_eq_getElem hi] at this
  · rw [hE1 rfl]; simp
/-- The law of ClosePoints. -/
theorem points_law {N : Int} {E : Bool} {M x : List Int} {Q : ((Int × Bool × List Int) × Bool) × Int} (hQ : closeP N E M = Q) (he : Q.2 = 0) :
    Q.1.1.1 = N ∧ chk N Q.1.1.2.1 Q.1.1.2.2 = 0 ∧ hasO N Q.1.1.2.1 Q.1.1.2.2 x = hasO N E M x ∧ (Q.1.1.2.1 = false → le Q.1.1.2.2 M) ∧ (Q.1.2 = false → ∃ t, closeP N Q.1.1.2.1 Q.1.1.2.2 = (((N, Q.1.1.2.1, Q.1.1.2.2), t), 0)) := by
  subst hQ
  by_cases hc : chk N E M = 0
  · obtain ⟨n, rfl, hn, hE1, hE0⟩ := chk_zero hc
    have hN : ∀ L, hasO n true L x = false := fun L => hasO_no (fun h => by cases h.2.1)
    rcases E with _ | _
    · obtain ⟨hl, hok⟩ := hE0 rfl
      have hl' : M.length = (2 * n) * (2 * n) := by rw [hl, sq2]
      rw [closeP_ok hc]
      rcases hA : closeM (2 * n) M with ⟨_ | Z, s⟩
      · refine ⟨rfl, chk_empty hn, ?_, fun h => (by cases h), fun _ => ⟨_, closeP_empty (chk_empty hn)⟩⟩
        dsimp only
        rw [hN]
        by_cases hx : (x.length : Int) = n
        · rw [hasO_eq hc (by omega)]
          exact (decide_eq_false (close_none hl' hok hA)).symm
        · exact (hasO_no (fun h => hx h.2.2)).symm
      · obtain ⟨c⟩ := closeM_some hA
        have okZ := c.okZ hl' hok
        have lZ := (c.fZ hl' (allB_of hl' hok)).1
        have cZ : chk n false Z = 0 := chk_ok hn (by rw [lZ, sq2]) okZ
        refine ⟨rfl, cZ, ?_, fun _ => c.leZM hl' (allB_of hl' hok), fun hs => ?_⟩
        · dsimp only
          by_cases hx : (x.length : Int) = n
          · rw [hasO_eq cZ (by omega), hasO_eq hc (by omega), Bool.eq_iff_iff, decide_eq_true_eq, decide_eq_true_eq]
            exact close_hasM hl' hok hA
          · rw [hasO_no (fun h => hx h.2.2), hasO_no (fun h => hx h.2.2)]
        · dsimp only at hs ⊢
          subst hs
          obtain ⟨t, ht⟩ := close_again hl' hok hA
          rw [closeP_ok cZ, ht]
          exact ⟨t, rfl⟩
    · rw [closeP_empty hc]
      refine ⟨rfl, chk_empty hn, ?_, fun h => (by cases h), fun _ => ⟨_, closeP_empty (chk_empty hn)⟩⟩
      dsimp only
      rw [hN, hN]
  · unfold closeP at he
    rw [if_pos hc] at he
    exact absurd he hc
end Gn
set_option maxHeartbeats 4000000 in
theorem law_ClosePoints (N : Int) (E : Bool) (A : Option Addr) (c : Nat) (M : List Int) (A' : Option Addr) (c' : Nat) (x : List Int) (w : World) (h : OctIn w w.heap.size A c N M) (hM : (M.length : Int) ≤ 17592186043904)
    (hx : Rd w w.heap.size .i64 A' x.length (nth x)) (hxi : ∀ v ∈ x, I64 v) (hxm : (x.length : Int) ≤ 9223372036854775807) :
    Calls Try.prog 14 #[.agg #[.int .i64 N, .bool E, .slice A M.length c], .slice A' x.length c'] w fun e w' => e = .returned (.bool true) ∧ Below w.heap.size w w' := by
  obtain ⟨W, hW, hO, hB, hs⟩ := one_box w 26 N E (.slice A M.length c)
  have h0 := h.go hB
  have hx0 := (hx.below hB).more hB.size
  have cK := known13 W
  have HR0 := Lib.hid (fun Q hQ he => points_law (N := N) (E := E) (M := M) (x := x) (Q := Q) hQ he)
  go_enter Try.func14, Try.ntmps14
  go_wp2_with fail
  rw [← hW]
  clear hW
  refine cK.mono ?_
  clear cK
  rintro e w1 ⟨rfl, hb1⟩
  have h1 := h0.go hb1
  have hx1 := (hx0.below hb1).more hb1.size
  have hO1 := hO.below hb1
  have hB1 := hB.trans (hb1.mono (by omega))
  clear hb1 h0 hO hB h hx0 hx
  obtain ⟨k0, k1, k2⟩ := id hO1
  go_wp2_with fail
  obtain ⟨Q, hQ⟩ : ∃ Q, Q = closeP N E M := ⟨_, rfl⟩
  have HR1 := Lib.hid (fun he => HR0.out Q hQ.symm he)
  clear HR0
  refine (close_CloseW N E A c M w1 h1 hM Q hQ.symm).mono ?_
  have hlq : Q.1.1.2.2.length ≤ M.length := by rw [hQ]; exact closeP_len
  clear hQ
  obtain ⟨⟨⟨Na, Ea, Ma⟩, sa⟩, ea⟩ := Q
  rintro e w2 ⟨A2, c2, rfl, ho2, hb2⟩
  dsimp only at ho2 HR1 hlq ⊢
  have h2 := h1.go hb2
  have hx2 := (hx1.below hb2).more hb2.size
  have hO2 := hO1.below hb2
  have hB2 := hB1.trans (hb2.mono hB1.size)
  have hlt := hO2.lt
  clear hb2 h1 hx1 hO1 hB1 k0 k1 k2
  obtain ⟨k0, k1, k2⟩ := id hO2
  by_cases he : ea = 0
  · subst he
    obtain ⟨rfl, hck, hhas, hle, hag⟩ := HR1.out rfl
    clear HR1
    obtain ⟨w3, hw3⟩ : ∃ w3, w3 = w2.alloc (.cells #[.int .i64 Na, .bool Ea, .slice A2 Ma.length c2] /-T-/26) := ⟨_, rfl⟩
    have hP3 : OctAt w3 w2.heap.size Na Ea (.slice A2 Ma.length c2) := by rw [hw3]; exact OctAt.box _ _ _ _ _
    have hb3 : Below w2.heap.size w2 w3 := by rw [hw3]; exact (Below.refl _ _).alloc (Nat.le_refl _) _
    have h3 := h2.go hb3
    have hx3 := (hx2.below hb3).more hb3.size
    have hO3 := hO2.below hb3
    have ho3 := (ho2.below hb3).oct h2.hN (chk_ints hck)
    have hB3 := hB2.trans (hb3.mono hB2.size)
    have hPl := hP3.lt
    have HLe := Lib.hid hle
    have HAg := Lib.hid hag
    have HHas := Lib.hid hhas
    have HCk := Lib.hid hck
    clear hle hag hhas hck
    go_wp2_with fail
    rw [← hw3]
    clear hw3 hb3 h2 hx2 hO2 ho2 hB2 k0 k1 k2
    obtain ⟨p0, p1, p2⟩ := id hP3
    obtain ⟨q0, q1, q2⟩ := id hO3
    have c0 := fun y : After w3 => dbm_Check A2 c2 Na Ea Ma y.w (ho3.go y.below)
    rw [HCk.out] at c0
    have c1 := fun y : After w3 => dbm_Has Na Ea A2 c2 Ma A' c' x y.w (ho3.go y.below) ((hx3.below y.below).more y.below.size) hxi hxm
    have c2' := fun y : After w3 => dbm_Has Na E A c M A' c' x y.w (h3.go y.below) ((hx3.below y.below).more y.below.size) hxi hxm
    rw [HHas.out] at c1
    have a0 := After.cell p0
    have a1 := After.cell p1
    have a2 := After.cell p2
    have a3 := After.cell q0
    have a4 := After.cell q1
    have a5 := After.cell q2
    have hnn : (Na != Na) = false := bne_self_eq_false Na
    generalize hhb : hasO Na E M x = hb at *
    have hbb : (hb != hb) = false := by cases hb <;> rfl
    clear hhb p0 p1 p2 q0 q1 q2
    refine wp_region_after (by kernel_rfl) (by kernel_rfl) ?_
    repeat (go_big_quiet_step (first | (go_at_call 33; with_reducible exact after_of (c0 _)) | (go_at_call 27; with_reducible exact after_of (c1 _)) | (go_at_call 27; with_reducible exact after_of (c2' _))))
    refine wpQuiet_nil ?_
    intro w4 hb4
    have h4 := h3.go hb4
    have hO4 := hO3.below hb4
    have hP4 := hP3.below hb4
    have ho4 := ho3.go hb4
    have hB4 := hB3.trans (hb4.mono hB3.size)
    clear a0 a1 a2 a3 a4 a5 c0 c1 c2' hnn hbb hb4 h3 hx3 hO3 hP3 ho3 hB3
    go_wp2_with fail
    go_loopw [8] (fun s' wr => ∃ k : Nat, s' = .int .i64 k ∧ k ≤ M.length ∧ (Ea = true → k = 0) ∧ Below w4.heap.size w4 wr) (fun s _ => M.length - (intOf s).toNat)
    case atStart => exact ⟨0, rfl, by omega, fun _ => rfl, Below.refl _ _⟩
    case round =>
      obtain ⟨k, rfl, hk, hkE, hbw⟩ := hrel
      have h5 := h4.go hbw
      have hO5 := hO4.below hbw
      have hP5 := hP4.below hbw
      have ho5 := ho4.go hbw
      have hB5 := hB4.trans (hbw.mono hB4.size)
      obtain ⟨p0, p1, p2⟩ := id hP5
      obtain ⟨q0, q1, q2⟩ := id hO5
      by_cases hgo : k < M.length ∧ Ea = false
      · obtain ⟨hlt, rfl⟩ := hgo
        have hle := HLe.out rfl
        have hlt2 : k < Ma.length := by rw [hle.1]; exact hlt
        obtain ⟨g, off, rfl, hg, hc⟩ := ho5.rd (by omega)
        obtain ⟨g', off', rfl, hg', hc'⟩ := h5.rd (by omega)
        have v1 := hc k hlt2
        have v2 := hc' k hlt
        have hle2 := hle.2 k
        generalize nth Ma k = x1 at *
        generalize nth M k = x2 at *
        have hd : decide (x1 > x2) = false := decide_eq_false (by omega)
        have hd2 : decide (x2 < x1) = false := decide_eq_false (by omega)
        clear hle hle2 hc hc' h5 ho5
        have a1 := After.cell v1
        have a2 := After.cell v2
        have b0 := After.cell p2
        have b1 := After.cell q2
        have z1 : (k : Int) < (Ma.length : Int) := by omega
        have z2 : (k : Int) < (M.length : Int) := by omega
        have z3 : (0 : Int) ≤ (k : Int) := by omega
        have HW := Lib.hid hbw
        clear hbw hO5 hP5 hB5 hkE
        go_wp2_with fail
        refine wp_region_after (by kernel_rfl) (by kernel_rfl) ?_
        repeat (go_big_quiet_step (fail))
        refine wpQuiet_nil ?_
        intro w8 hb8
        have HB8 := Lib.hid (HW.out.trans (hb8.mono HW.out.size))
        clear hb8 a1 a2 b0 b1 hd hd2 v1 v2
        go_wp2_with fail
        go_roundw
        case rel => exact ⟨k + 1, by go_num, by omega, fun h => (by cases h), HB8.out⟩
        case measure => simp [intOf]; omega
      · have hend : k = M.length ∨ (k < M.length ∧ Ea = true) := by
          by_cases h : k < M.length
          · right; refine ⟨h, ?_⟩
            cases hE : Ea
            · exact absurd ⟨h, hE⟩ hgo
            · rfl
          · left; omega
        have hl5 := hP5.lt
        have hl5' := hO5.lt
        clear h4 hO4 hP4 ho4 hB4 hkE hgo hk
        cases sa
        case true =>
          rcases hend with rfl | ⟨hd, rfl⟩
          all_goals
            go_wp2_with fail
            go_ret
            exact ⟨rfl, hB5⟩
        case false =>
          obtain ⟨t, ht⟩ := HAg.out rfl
          have cC := close_CloseW Na Ea A2 c2 Ma _ ho5 (by omega) _ ht
          clear HAg ht
          have HO5 := Lib.hid ho5
          clear ho5
          rcases hend with rfl | ⟨hd, rfl⟩
          all_goals
            go_wp2_with fail
            refine cC.mono ?_
            clear cC p0 p1 p2 q0 q1 q2
            rintro e w6 ⟨A6, c6, rfl, ho6, hb6⟩
            have hP6 := hP5.below hb6
            have ho5 := HO5.out.go hb6
            have hB6 := hB5.trans (hb6.mono hB5.size)
            clear hb6
            dsimp only at ho6 ⊢
            obtain ⟨p0, p1, p2⟩ := id hP6
            have hl6 := hP6.lt
            first | (have cE := fun (y : World) (hb : Below w6.heap.size w6 y) => (by have cX := help_Oct Na Na Ea Ea A2 A6 c2 c6 Ma Ma y (ho5.go hb).rd ((ho6.below hb).rd) ho5.len ho5.len; rw [decide_eq_true ⟨rfl, rfl, rfl⟩] at cX; exact cX)) | (have cE := fun (y : World) (hb : Below w6.heap.size w6 y) => (by have cX := help_Oct Na Na true true A2 A6 c2 c6 Ma Ma y (ho5.go hb).rd ((ho6.below hb).rd) ho5.len ho5.len; rw [decide_eq_true ⟨rfl, rfl, rfl⟩] at cX; exact cX))
            have hal : ∀ o, Below w6.heap.size w6 (w6.alloc o) := fun o => (Below.refl _ _).alloc (Nat.le_refl _) _
            clear ho6 HO5
            go_wp2_with fail
            refine (cE _ (hal _)).mono ?_
            clear cE
            rintro e w7 ⟨rfl, hb7⟩
            have hB7 := hB6.trans (((hal _).trans (hb7.mono (by simp))).mono hB6.size)
            clear hb7 hal p0 p1 p2
            go_wp2_with fail
            go_ret
            exact ⟨rfl, hB7⟩
  · have heb : (ea != 0) = true := bne_iff_ne.2 he
    clear he HR1
    go_wp2_with fail
    go_ret
    exact ⟨rfl, hB2.alloc hB2.size _⟩
end Go.Proofs.Ytgganboepfikiaa

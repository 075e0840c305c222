/- The walk of Close, of the package close. -/
import Derived.Test.YtkgddgckilledaaClq
import Derived.Test.YtkgddgckilledaaClr
import Derived.Test.YtkgddgckilledaaOctD
import Derived.Test.YtkgddgckilledaaCls
namespace Go.Proofs.Ytkgddgckilledaa
open Go.RowKit
set_option linter.unusedVariables false
set_option linter.unusedSimpArgs false
open Gn
/-- An octagon told, of the call's own memory, and whether a sum saturated. -/
def TellsCl (w : World) (P : ((Int × Bool × List Int) × Bool) × Int) (e : Ending) (w' : World) : Prop :=
  ∃ A c, e = .returned (.tuple #[.agg #[.int .i64 P.1.1.1, .bool P.1.1.2.1, .slice A P.1.1.2.2.length c], .bool P.1.2, .int .i64 P.2]) ∧ Ow w' w.heap.size 2 .i64 A c P.1.1.2.2 ∧ Below w.heap.size w w'
theorem tellsCl {w w' : World} {P : ((Int × Bool × List Int) × Bool) × Int} {N : Int} {E : Bool} {M : List Int} {s : Bool} {x : Int} {A : Option Addr} {l c : Nat} {e : Ending} (hP : P = (((N, E, M), s), x)) (hl : l = M.length)
    (he : e = .returned (.tuple #[.agg #[.int .i64 N, .bool E, .slice A l c], .bool s, .int .i64 x])) (ho : Ow w' w.heap.size 2 .i64 A c M) (hb : Below w.heap.size w w') : TellsCl w P e w' := by
  subst hP hl he; exact ⟨A, c, rfl, ho, hb⟩
theorem Mx.box {w0 w : World} {B : Nat} {A : Option Addr} {n : Int} {c : Nat} {X : List Int} (ho : Ow w B 2 .i64 A c X) (hB : B ≤ w0.heap.size) (hb : Below B w0 w) (t : TypeId) :
    Mx w0 (w.alloc (.cells #[.int .i64 n, .slice A X.length c, .bool false, .bool false] t)) B w.heap.size A n c X false (some false) :=
  ⟨by simp [World.cell?_alloc_new], by simp [World.cell?_alloc_new], by simp [World.cell?_alloc_new], fun e' he => by injection he with he; subst he; simp [World.cell?_alloc_new], fun i => by simp [go_sem], ho.alloc _,
    fun g hg e => by
      subst hg e
      rcases ho.form with ⟨h, _⟩ | ⟨g', h, _, h2, _⟩
      · cases h
      · injection h with h; injection h with h; omega, Nat.le_trans hB hb.size, hB, hb.alloc (Nat.le_trans hB hb.size) _⟩
set_option maxRecDepth 100000 in
set_option maxHeartbeats 2000000 in
theorem close_Close (N : Int) (E : Bool) (A : Option Addr) (c : Nat) (M : List Int) (w : World) (h : OctIn w w.heap.size A c N M) (hM : (M.length : Int) ≤ 17592186043904) :
    Calls Try.prog 74 #[.agg #[.int .i64 N, .bool E, .slice A M.length c]] w (TellsCl w (closeP N E M)) := by
  obtain ⟨W, hW, hR, hs⟩ := box_res w 24 N E (.slice A M.length c)
  have hW1 := h.go hR.below
  have hR := (⟨hR.c0, hR.c1, hR.c2, hR.r0, hR.r1, hR.r2, hR.fc, hR.fr, hR.below.mono (Nat.le_refl _), hR.lt⟩ : BoxRes w W N E (.slice A M.length c))
  have cC := dbm_Check A c N E M W hW1
  obtain ⟨k0, k1, k2, _, _, _, _, _, _, _⟩ := id hR
  go_enter Try.func74, Try.ntmps74
  go_wp2_with fail
  rw [← hW]
  clear hW
  refine cC.mono ?_
  clear cC
  rintro e w1 ⟨rfl, hb1⟩
  have hoct := hW1.go hb1
  have hR1 := hR.go hb1
  obtain ⟨m0, m1, m2, r0, r1, r2, fc, fr, hB1, hl1⟩ := id hR1
  clear k0 k1 k2 hb1 hR hW1
  by_cases hc : chk N E M = 0
  · obtain ⟨n, rfl, hn, hE1, hE0⟩ := chk_zero hc
    have HC := Lib.hid hc
    rw [hc]
    clear hc
    rcases E with _ | _
    · have HL := Lib.hid (hE0 rfl).1
      clear hE0 hE1
      have cK := fun W h => slices_CloneI64 A c M W h hM
      clear r0 r1 r2 fc fr hB1 hl1
      go_wp2_with fail
      go_region_held3 (fun X => X.cell? ⟨w.heap.size, 0, none⟩ = some (.int .i64 n) ∧ X.cell? ⟨w.heap.size, 1, none⟩ = some (.bool false) ∧ X.cell? ⟨w.heap.size, 2, none⟩ = some (.slice A M.length c))
        (first | exact ⟨m0, m1, m2⟩ | exact ⟨c0, c1, c2⟩ | go_keep)
        ((go_at_call 70; refine (cK _ hoct.rd.drew).mono ?_; rintro e w3 ⟨A', c', rfl, ho, hb⟩; obtain ⟨c0, c1, c2, r0, r1, r2, fc, fr, hB, hl⟩ := hR1.go ((Below.refl w1.heap.size w1).drew.trans hb)))
      have hM4 := Mx.box (w0 := w1) (n := (n : Int)) ho (Nat.le_refl _) ((Below.refl w1.heap.size w1).drew.trans hb) /-T-/125
      generalize (w3.alloc _) = w4 at *
      clear c0 c1 c2 r0 r1 r2 fc fr hB hl hb ho cK m0 m1 m2
      generalize w3.heap.size = b at *
      have HLm := Lib.hid (show M.length = (2 * n) * (2 * n) by rw [HL.out, sq2])
      have hb4 := hM4.lt
      have ix0 : ∀ W : World, (Instr.index /-T-/126 (.agg #[.func (.func 83) #[.pointer (some ⟨b, 0, none⟩)] #[], .func (.func 84) #[.pointer (some ⟨b, 0, none⟩)] #[], .func (.func 85) #[.pointer (some ⟨b, 0, none⟩)] #[], .func (.func 86) #[.pointer (some ⟨b, 0, none⟩)] #[], .func (.func 87) #[.pointer (some ⟨b, 0, none⟩)] #[], .func (.func 88) #[.pointer (some ⟨b, 0, none⟩)] #[]]) (.int .i64 0)).run Try.prog W = .ok (.func (.func 83) #[.pointer (some ⟨b, 0, none⟩)] #[]) W := fun W => by kernel_rfl
      have ix1 : ∀ W : World, (Instr.index /-T-/126 (.agg #[.func (.func 83) #[.pointer (some ⟨b, 0, none⟩)] #[], .func (.func 84) #[.pointer (some ⟨b, 0, none⟩)] #[], .func (.func 85) #[.pointer (some ⟨b, 0, none⟩)] #[], .func (.func 86) #[.pointer (some ⟨b, 0, none⟩)] #[], .func (.func 87) #[.pointer (some ⟨b, 0, none⟩)] #[], .func (.func 88) #[.pointer (some ⟨b, 0, none⟩)] #[]]) (.int .i64 1)).run Try.prog W = .ok (.func (.func 84) #[.pointer (some ⟨b, 0, none⟩)] #[]) W := fun W => by kernel_rfl
      have ix2 : ∀ W : World, (Instr.index /-T-/126 (.agg #[.func (.func 83) #[.pointer (some ⟨b, 0, none⟩)] #[], .func (.func 84) #[.pointer (some ⟨b, 0, none⟩)] #[], .func (.func 85) #[.pointer (some ⟨b, 0, none⟩)] #[], .func (.func 86) #[.pointer (some ⟨b, 0, none⟩)] #[], .func (.func 87) #[.pointer (some ⟨b, 0, none⟩)] #[], .func (.func 88) #[.pointer (some ⟨b, 0, none⟩)] #[]]) (.int .i64 2)).run Try.prog W = .ok (.func (.func 85) #[.pointer (some ⟨b, 0, none⟩)] #[]) W := fun W => by kernel_rfl
      have ix3 : ∀ W : World, (Instr.index /-T-/126 (.agg #[.func (.func 83) #[.pointer (some ⟨b, 0, none⟩)] #[], .func (.func 84) #[.pointer (some ⟨b, 0, none⟩)] #[], .func (.func 85) #[.pointer (some ⟨b, 0, none⟩)] #[], .func (.func 86) #[.pointer (some ⟨b, 0, none⟩)] #[], .func (.func 87) #[.pointer (some ⟨b, 0, none⟩)] #[], .func (.func 88) #[.pointer (some ⟨b, 0, none⟩)] #[]]) (.int .i64 3)).run Try.prog W = .ok (.func (.func 86) #[.pointer (some ⟨b, 0, none⟩)] #[]) W := fun W => by kernel_rfl
      have ix4 : ∀ W : World, (Instr.index /-T-/126 (.agg #[.func (.func 83) #[.pointer (some ⟨b, 0, none⟩)] #[], .func (.func 84) #[.pointer (some ⟨b, 0, none⟩)] #[], .func (.func 85) #[.pointer (some ⟨b, 0, none⟩)] #[], .func (.func 86) #[.pointer (some ⟨b, 0, none⟩)] #[], .func (.func 87) #[.pointer (some ⟨b, 0, none⟩)] #[], .func (.func 88) #[.pointer (some ⟨b, 0, none⟩)] #[]]) (.int .i64 4)).run Try.prog W = .ok (.func (.func 87) #[.pointer (some ⟨b, 0, none⟩)] #[]) W := fun W => by kernel_rfl
      have ix5 : ∀ W : World, (Instr.index /-T-/126 (.agg #[.func (.func 83) #[.pointer (some ⟨b, 0, none⟩)] #[], .func (.func 84) #[.pointer (some ⟨b, 0, none⟩)] #[], .func (.func 85) #[.pointer (some ⟨b, 0, none⟩)] #[], .func (.func 86) #[.pointer (some ⟨b, 0, none⟩)] #[], .func (.func 87) #[.pointer (some ⟨b, 0, none⟩)] #[], .func (.func 88) #[.pointer (some ⟨b, 0, none⟩)] #[]]) (.int .i64 5)).run Try.prog W = .ok (.func (.func 88) #[.pointer (some ⟨b, 0, none⟩)] #[]) W := fun W => by kernel_rfl
      go_wp2_with fail
      go_loopw [48] (fun s' wr => ∃ k : Nat, s' = .int .i64 k ∧ k ≤ 6 ∧ Hid (clOk (2 * n) M k) ∧ ∃ S : MS, Hid (S = clSt (2 * n) M k) ∧ Mx w1 wr w1.heap.size b A' n c' S.1 S.2 (some false)) (fun s _ => 6 - (intOf s).toNat)
      case atStart => exact ⟨0, rfl, by omega, Lib.hid ⟨fun h => by omega, fun h => by omega⟩, (M, false), Lib.hid rfl, hM4⟩
      case round =>
        clear hM4 hb4
        obtain ⟨k, rfl, hk, HO, S, HS, hN⟩ := hrel
        have HSl := Lib.hid (show S.1.length = (2 * n) * (2 * n) by rw [HS.out, clSt_len]; exact HLm.out)
        have hk7 : k = 0 ∨ k = 1 ∨ k = 2 ∨ k = 3 ∨ k = 4 ∨ k = 5 ∨ k = 6 := by omega
        clear hk
        rcases hk7 with rfl | rfl | rfl | rfl | rfl | rfl | rfl
        · have cP := mx_paths hN hn HSl.out
          go_wp2_with fail
          refine cP.mono ?_
          clear cP hN
          rintro r w6 ⟨rfl, hN⟩
          have m3 := hN.c3 _ rfl
          go_wp2_with fail
          go_roundw
          case rel => exact ⟨1, by go_num, by omega, Lib.hid ⟨fun h => by omega, fun h => by omega⟩, _, Lib.hid (by rw [HS.out]; rfl), hN⟩
          case measure => simp [intOf]
        · have cP := mx_mirrors hN hn HSl.out
          go_wp2_with fail
          refine cP.mono ?_
          clear cP hN
          rintro r w6 ⟨rfl, hN⟩
          have m3 := hN.c3 _ rfl
          go_wp2_with fail
          go_roundw
          case rel => exact ⟨2, by go_num, by omega, Lib.hid ⟨fun h => by omega, fun h => by omega⟩, (_, S.2), Lib.hid (by rw [HS.out]; rfl), hN⟩
          case measure => simp [intOf]
        · have cP := mx_loops hN hn HSl.out
          cases hE : loops (2 * n) S.1
          · rw [hE] at cP
            have HE := Lib.hid hE
            clear hE
            go_wp2_with fail
            refine cP.mono ?_
            clear cP hN
            rintro r w6 ⟨rfl, hN⟩
            have m3 := hN.c3 _ rfl
            go_wp2_with fail
            go_roundw
            case rel => exact ⟨3, by go_num, by omega, Lib.hid ⟨fun _ => by rw [← HS.out]; exact HE.out, fun h => by omega⟩, S, Lib.hid HS.out, hN⟩
            case measure => simp [intOf]
          · rw [hE] at cP
            have HP : Hid (closeP n false M = ((((n : Int), true, []), S.2), 0)) := Lib.hid (by
              unfold closeP
              rw [HC.out, if_neg (by simp), if_neg (by simp)]
              simp only [Int.toNat_natCast]
              rw [closeM_loops (by rw [← HS.out]; exact hE), ← HS.out])
            have cE := fun W => dbm_Empty n W hn
            clear hE
            go_wp2_with fail
            refine cP.mono ?_
            clear cP hN
            rintro r w6 ⟨rfl, hN⟩
            have m3 := hN.c3 _ rfl
            have hb6 := hN.lt
            have hbB := hN.hb
            obtain ⟨m0, m1, m2, r0, r1, r2, fc, fr, hB6, hl6⟩ := hR1.go hN.below
            clear r0 r1 r2 fc fr hB6 hl6 m1 m2
            go_wp2_with fail
            refine (cE _).mono ?_
            clear cE m0 m3
            rintro r w7 ⟨rfl, hb7⟩
            have hN7 := hN.go hb7
            have hR7 := hR1.go hN7.below
            have q2 := hN7.c2
            have hbl : w.heap.size + 1 < b := Nat.lt_of_lt_of_le hR1.lt hN7.hb
            have hb8 := hN7.lt
            have hl7' : w.heap.size < w7.heap.size := by omega
            clear hb7 hN
            go_wp2_with fail
            obtain ⟨w8, hw8⟩ : ∃ w8, w8 = w7.alloc (.cells #[.int .i64 n, .bool true, .slice none 0 0] /-T-/24) := ⟨_, rfl⟩
            have hal : Below w7.heap.size w7 w8 := by rw [hw8]; exact (Below.refl _ _).alloc (Nat.le_refl _) _
            have hO : OctAt w8 w7.heap.size n true (.slice none 0 0) := by rw [hw8]; exact OctAt.box _ _ _ _ _
            have hR8 := hR7.go hal
            have q2' := below_cell hal q2
            obtain ⟨_, _, _, r0, r1, r2, fc, fr, hB8, hl8⟩ := id hR8
            obtain ⟨o0, o1, o2⟩ := id hO
            have hl8' : w.heap.size + 1 < w7.heap.size := by omega
            generalize hsv : S.2 = sv at *
            rw [← hw8]
            clear hw8 hal hR7 hR8 hO q2 hN7 hsv
            go_region
            all_goals go_wp2_with fail
            all_goals refine bodyPost_ret (v := .tuple #[.agg #[.int .i64 n, .bool true, .slice none 0 0], .bool sv, .int .i64 0]) (by simp [results, Try.results74, go_sem, r0, r1, r2, o0, o1, o2]) rfl (tellsCl HP.out rfl rfl (Ow.nil _ _ _ _) ?_)
            all_goals exact ((hB8.drew.setCell (by simp) _).setCell (by simp) _).setCell (by simp) _
        · have cP := mx_evens hN hn HSl.out
          go_wp2_with fail
          refine cP.mono ?_
          clear cP hN
          rintro r w6 ⟨rfl, hN⟩
          have m3 := hN.c3 _ rfl
          go_wp2_with fail
          go_roundw
          case rel => exact ⟨4, by go_num, by omega, Lib.hid ⟨fun _ => HO.out.1 (by omega), fun h => by omega⟩, (_, S.2), Lib.hid (by rw [HS.out]; rfl), hN⟩
          case measure => simp [intOf]
        · have cP := mx_sides hN hn HSl.out
          cases hE : (sides (2 * n) S.1 S.2).1
          · rw [hE] at cP
            have HE := Lib.hid hE
            clear hE
            go_wp2_with fail
            refine cP.mono ?_
            clear cP hN
            rintro r w6 ⟨rfl, hN⟩
            have m3 := hN.c3 _ rfl
            go_wp2_with fail
            go_roundw
            case rel => exact ⟨5, by go_num, by omega, Lib.hid ⟨fun _ => HO.out.1 (by omega), fun _ => by rw [← HS.out]; exact HE.out⟩, (S.1, (sides (2 * n) S.1 S.2).2), Lib.hid (by rw [HS.out]; rfl), hN⟩
            case measure => simp [intOf]
          · rw [hE] at cP
            have HP : Hid (closeP n false M = ((((n : Int), true, []), (sides (2 * n) S.1 S.2).2), 0)) := Lib.hid (by
              unfold closeP
              rw [HC.out, if_neg (by simp), if_neg (by simp)]
              simp only [Int.toNat_natCast]
              rw [closeM_sides HO.out (by rw [← HS.out]; exact hE), HS.out]; rfl)
            have cE := fun W => dbm_Empty n W hn
            clear hE
            go_wp2_with fail
            refine cP.mono ?_
            clear cP hN
            rintro r w6 ⟨rfl, hN⟩
            have m3 := hN.c3 _ rfl
            have hb6 := hN.lt
            have hbB := hN.hb
            obtain ⟨m0, m1, m2, r0, r1, r2, fc, fr, hB6, hl6⟩ := hR1.go hN.below
            clear r0 r1 r2 fc fr hB6 hl6 m1 m2
            go_wp2_with fail
            refine (cE _).mono ?_
            clear cE m0 m3
            rintro r w7 ⟨rfl, hb7⟩
            have hN7 := hN.go hb7
            have hR7 := hR1.go hN7.below
            have q2 := hN7.c2
            have hbl : w.heap.size + 1 < b := Nat.lt_of_lt_of_le hR1.lt hN7.hb
            have hb8 := hN7.lt
            have hl7' : w.heap.size < w7.heap.size := by omega
            clear hb7 hN
            go_wp2_with fail
            obtain ⟨w8, hw8⟩ : ∃ w8, w8 = w7.alloc (.cells #[.int .i64 n, .bool true, .slice none 0 0] /-T-/24) := ⟨_, rfl⟩
            have hal : Below w7.heap.size w7 w8 := by rw [hw8]; exact (Below.refl _ _).alloc (Nat.le_refl _) _
            have hO : OctAt w8 w7.heap.size n true (.slice none 0 0) := by rw [hw8]; exact OctAt.box _ _ _ _ _
            have hR8 := hR7.go hal
            have q2' := below_cell hal q2
            obtain ⟨_, _, _, r0, r1, r2, fc, fr, hB8, hl8⟩ := id hR8
            obtain ⟨o0, o1, o2⟩ := id hO
            have hl8' : w.heap.size + 1 < w7.heap.size := by omega
            generalize hsv : (sides (2 * n) S.1 S.2).2 = sv at *
            rw [← hw8]
            clear hw8 hal hR7 hR8 hO q2 hN7 hsv
            go_region
            all_goals go_wp2_with fail
            all_goals refine bodyPost_ret (v := .tuple #[.agg #[.int .i64 n, .bool true, .slice none 0 0], .bool sv, .int .i64 0]) (by simp [results, Try.results74, go_sem, r0, r1, r2, o0, o1, o2]) rfl (tellsCl HP.out rfl rfl (Ow.nil _ _ _ _) ?_)
            all_goals exact ((hB8.drew.setCell (by simp) _).setCell (by simp) _).setCell (by simp) _
        · have cP := mx_strengthens hN hn HSl.out
          go_wp2_with fail
          refine cP.mono ?_
          clear cP hN
          rintro r w6 ⟨rfl, hN⟩
          have m3 := hN.c3 _ rfl
          go_wp2_with fail
          go_roundw
          case rel => exact ⟨6, by go_num, by omega, Lib.hid ⟨fun _ => HO.out.1 (by omega), fun _ => HO.out.2 (by omega)⟩, _, Lib.hid (by rw [HS.out]; rfl), hN⟩
          case measure => simp [intOf]
        · have HP : Hid (closeP n false M = ((((n : Int), false, S.1), S.2), 0)) := Lib.hid (by
            unfold closeP
            rw [HC.out, if_neg (by simp), if_neg (by simp)]
            simp only [Int.toNat_natCast]
            rw [closeM_ok HO.out, ← HS.out])
          have hR8 := hR1.go hN.below
          obtain ⟨m0, m1, m2, r0, r1, r2, fc, fr, hB8, hl8⟩ := id hR8
          have q0 := hN.c0
          have q1 := hN.c1
          have q2 := hN.c2
          have ho := hN.ow
          have hbl : w.heap.size + 1 < b := Nat.lt_of_lt_of_le hR1.lt hN.hb
          have hBB : w.heap.size + 1 < w1.heap.size := hR1.lt
          clear hR8 hN
          generalize S.2 = sv at *
          generalize S.1 = Y at *
          go_wp2_with fail
          go_region
          all_goals go_wp2_with fail
          all_goals refine bodyPost_ret (v := .tuple #[.agg #[.int .i64 n, .bool false, .slice A' Y.length c'], .bool sv, .int .i64 0]) (by simp [results, Try.results74, go_sem, r0, r1, r2]) rfl (tellsCl HP.out rfl rfl ?_ ?_)
          all_goals first
            | exact ((hB8.drew.setCell (by simp) _).setCell (by simp) _).setCell (by simp) _
            | exact (((ho.drew.low (by simp; omega) _).low (by simp; omega) _).low (by simp; omega) _).lower (by omega)
    · have cE := fun W => dbm_Empty n W hn
      have HP : Hid (closeP n true M = ((((n : Int), true, []), false), 0)) := Lib.hid (by unfold closeP; rw [HC.out]; rfl)
      clear hE0 hE1
      clear r0 r1 r2 fc fr hB1 hl1
      go_wp2_with fail
      refine (cE _).mono ?_
      clear cE m0 m1 m2
      rintro e w2 ⟨rfl, hb2⟩
      obtain ⟨m0, m1, m2, r0, r1, r2, fc, fr, hB2, hl2⟩ := hR1.go hb2
      have hl2' : w.heap.size < w2.heap.size := by omega
      clear hb2
      go_wp2_with fail
      refine bodyPost_ret (v := .tuple #[.agg #[.int .i64 n, .bool true, .slice none 0 0], .bool false, .int .i64 0]) (by simp [results, Try.results74, go_sem, r0, r1, r2, hl2, hl2']) rfl (tellsCl HP.out rfl rfl (Ow.nil _ _ _ _) ?_)
      exact (((hB2.setCell (by simp) _).setCell (by simp) _).setCell (by simp) _).alloc (by simp; omega) _
  · have HP : Hid (closeP N E M = (((0, false, []), false), chk N E M)) := Lib.hid (by unfold closeP; rw [if_pos hc])
    have hb : (chk N E M != 0) = true := bne_iff_ne.2 hc
    clear hc
    generalize chk N E M = x at *
    go_wp2_with fail
    refine bodyPost_ret (v := .tuple #[.agg #[.int .i64 0, .bool false, .slice none 0 0], .bool false, .int .i64 x]) (by simp [results, Try.results74, go_sem, r0, r1, r2]) rfl (tellsCl HP.out rfl rfl (Ow.nil _ _ _ _) ?_)
    exact ((hB1.setCell (by simp) _).setCell (by simp) _).setCell (by simp) _
end Go.Proofs.Ytkgddgckilledaa

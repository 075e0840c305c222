/- The law DbmPoints. -/
import Derived.Test.YtkgddgckilledaaPtr
import Derived.Test.YtkgddgckilledaaHau
namespace Go.Proofs.Ytkgddgckilledaa
open Go.RowKit
set_option linter.unusedVariables false
set_option linter.unusedSimpArgs false
open Gn
theorem Gn.pointsR_len {N : Int} {ls : List RowV} : ((pointsR N ls).2.2.length : Int) ≤ 16384 := by
  unfold pointsR
  split
  · rename_i h
    have hN : ¬ (N < 0 ∨ 64 < N) := fun k => by unfold pointsE at h; rw [if_pos (.inl k)] at h; cases h
    unfold pointsP
    split
    · simp
    · dsimp only
      rw [tabM_len, sq2]
      have := sq_le (n := N.toNat) (by omega)
      omega
  · simp
/-- What the law holds: an octagon in its box, a point, rows of points. -/
structure Dl (w : World) (N : Int) (E : Bool) (A : Option Addr) (c : Nat) (M : List Int) (AX : Option Addr) (x : List Int) (AL : Option Addr) (ls : List RowV) (W : World) : Prop where
  box : OctAt W w.heap.size N E (.slice A M.length c)
  oin : OctIn W W.heap.size A c N M
  rx : Rd W W.heap.size .i64 AX x.length (nth x)
  rows : RowsIn W W.heap.size AL ls
  below : Below w.heap.size w W
theorem RowsIn.go {w w' : World} {A : Option Addr} {ls : List RowV} (h : RowsIn w w.heap.size A ls) (hb : Below w.heap.size w w') : RowsIn w' w'.heap.size A ls := fun hn => by
  obtain ⟨b, off, e, hlt, hx⟩ := (h.below hb) hn
  have := hb.size
  refine ⟨b, off, e, by omega, fun i hi => ?_⟩
  obtain ⟨h1, h2, h3, h4⟩ := hx i hi
  exact ⟨h1, h2.more hb.size, h3, h4⟩
theorem Dl.go {w W W' : World} {N : Int} {E : Bool} {A : Option Addr} {c : Nat} {M : List Int} {AX : Option Addr} {x : List Int} {AL : Option Addr} {ls : List RowV} (h : Dl w N E A c M AX x AL ls W) (hb : Below W.heap.size W W') : Dl w N E A c M AX x AL ls W' :=
  ⟨h.box.below hb, h.oin.go hb, (h.rx.below hb).more hb.size, h.rows.go hb, h.below.trans (hb.mono h.below.size)⟩
/-- An octagon of the law's own, in its box. -/
structure Do (b base : Nat) (P : Int × Bool × List Int) (A : Option Addr) (c : Nat) (W : World) : Prop where
  box : OctAt W b P.1 P.2.1 (.slice A P.2.2.length c)
  row : Ow W base 2 .i64 A c P.2.2
theorem Do.go {W W' : World} {b base : Nat} {P : Int × Bool × List Int} {A : Option Addr} {c : Nat} (h : Do b base P A c W) (hb : Below W.heap.size W W') : Do b base P A c W' :=
  ⟨h.box.below hb, h.row.below hb⟩
theorem Do.new {W : World} {base : Nat} {N : Int} {E : Bool} {M : List Int} {A : Option Addr} {c : Nat} (ho : Ow W base 2 .i64 A c M) : ∃ W', W' = W.alloc (.cells #[.int .i64 N, .bool E, .slice A M.length c] 24) ∧ Do W.heap.size base (N, E, M) A c W' ∧ Below W.heap.size W W' :=
  ⟨_, rfl, ⟨OctAt.box _ _ _ _ _, ho.alloc _⟩, (Below.refl _ _).alloc (Nat.le_refl _) _⟩
set_option maxRecDepth 100000 in
set_option maxHeartbeats 16000000 in
theorem law_DbmPoints (N : Int) (E : Bool) (A : Option Addr) (c : Nat) (M : List Int) (AX : Option Addr) (cX : Nat) (x : List Int) (n : Int) (AL : Option Addr) (cL : Nat) (ls : List RowV) (w : World) (ha : OctIn w w.heap.size A c N M)
    (hr : Rd w w.heap.size .i64 AX x.length (nth x)) (hxi : ∀ v ∈ x, I64 v) (hxm : (x.length : Int) ≤ 9223372036854775807) (hn : I64 n) (hls : RowsIn w w.heap.size AL ls) (hlm : (ls.length : Int) ≤ 9223372036854775807) :
    Calls Try.prog 4 #[.agg #[.int .i64 N, .bool E, .slice A M.length c], .slice AX x.length cX, .int .i64 n, .slice AL ls.length cL] w fun e w' => e = .returned (.bool true) ∧ Below w.heap.size w w' := by
  obtain ⟨W, hW, h1, hB, hs⟩ := one_box w 24 N E (.slice A M.length c)
  have hL : Dl w N E A c M AX x AL ls W := ⟨h1, ha.go hB, (hr.below hB).more hB.size, hls.go hB, hB⟩
  have cK := known12 W
  obtain ⟨k0, k1, k2⟩ := id h1
  clear ha hr hls h1 hB hs
  go_enter Try.func4, Try.ntmps4
  go_wp2_with fail
  rw [← hW]
  clear hW
  refine cK.mono ?_
  clear cK
  rintro e w1 ⟨rfl, hb1⟩
  have hL1 := hL.go hb1
  clear hL hb1 k0 k1 k2
  by_cases h30 : (ls.length : Int) > 30
  · have hB1 := Lib.hid hL1.below
    clear hL1
    go_wp2_with fail
    go_ret
    exact ⟨rfl, hB1.out⟩
  · have d30 : decide ((ls.length : Int) > 30) = false := decide_eq_false h30
    have hl30 : (ls.length : Int) ≤ 30 := by omega
    clear h30
    obtain ⟨p, hp⟩ : ∃ p, pointsE n ls = p := ⟨_, rfl⟩
    obtain ⟨R, hR⟩ : ∃ R, pointsR n ls = R := ⟨_, rfl⟩
    have hlR : (R.2.2.length : Int) ≤ 16384 := by rw [← hR]; exact pointsR_len
    have cP := fun X (hX : Dl w N E A c M AX x AL ls X) => dbm_Points n AL cL ls X hX.rows (by omega) hn p hp R hR
    have cQ := fun X (hX : Dl w N E A c M AX x AL ls X) => ref_Points n AL cL ls X hX.rows (by omega) hn p hp R hR
    have cH := fun X (hX : Dl w N E A c M AX x AL ls X) => dbm_Has N E A c M AX cX x X hX.oin hX.rx hxi hxm
    have cI := fun X (hX : Dl w N E A c M AX x AL ls X) => ref_Has N E A c M AX cX x X hX.oin hX.rx hxi hxm
    unfold TellsP at cP cQ
    obtain ⟨hh, hhh⟩ : ∃ hh, hh = hasO N E M x := ⟨_, rfl⟩
    simp only [← hhh] at cH cI
    clear hp hR hhh
    obtain ⟨k0, k1, k2⟩ := id hL1.box
    have hne : (hh != hh) = false := bne_self_eq_false hh
    go_upto_region 5 with fail
    have a0 := After.cell k0
    have a1 := After.cell k1
    have a2 := After.cell k2
    refine wp_region_after (by kernel_rfl) (by kernel_rfl) ?_
    repeat (go_big_quiet_step (first | (go_at_call 12; with_reducible exact after_of (cH _ (hL1.go (After.below _)))) | (go_at_call 13; with_reducible exact after_of (cI _ (hL1.go (After.below _))))))
    refine wpQuiet_nil ?_
    intro w2 hb2
    have hL2 := hL1.go hb2
    clear hL1 hb2 a0 a1 a2 k0 k1 k2 cH cI
    go_wp2_with fail
    with_reducible refine (cP _ hL2).mono ?_
    clear cP
    obtain ⟨Nr, Er, Mr⟩ := R
    dsimp only at hlR
    rintro e w3 ⟨A1, c1, rfl, ho1, hb3⟩
    dsimp only at ho1 ⊢
    obtain ⟨w4, hw4, hQ1, hb4⟩ := Do.new (N := Nr) (E := Er) ho1
    have hL4 := hL2.go (hb3.trans (hb4.mono hb3.size))
    clear hL2 hb3 hb4 ho1
    go_upto_region 8 with fail
    rw [← hw4]
    clear hw4
    generalize w3.heap.size = b1 at *
    generalize w2.heap.size = e1 at *
    go_wp2_with fail
    with_reducible refine (cQ _ hL4).mono ?_
    clear cQ
    rintro e w5 ⟨A2, c2, rfl, ho2, hb5⟩
    dsimp only at ho2 ⊢
    obtain ⟨w6, hw6, hQ2, hb6⟩ := Do.new (N := Nr) (E := Er) ho2
    have hb56 := hb5.trans (hb6.mono hb5.size)
    have hL6 := hL4.go hb56
    have hQ16 := hQ1.go hb56
    clear hL4 hQ1 hb5 hb6 hb56 ho2
    have cO := help_Oct Nr Nr Er Er A1 A2 c1 c2 Mr Mr w6 hQ16.row.rd hQ2.row.rd (by omega) (by omega)
    rw [decide_eq_true ⟨rfl, rfl, rfl⟩] at cO
    have hpp : (p == p) = true := beq_self_eq_true p
    obtain ⟨m0, m1, m2⟩ := id hQ16.box
    obtain ⟨n0, n1, n2⟩ := id hQ2.box
    rw [hw6] at m0 m1 m2 n0 n1 n2
    go_upto_region 9 with fail
    rw [← hw6]
    rw [← hw6] at m0 m1 m2 n0 n1 n2
    clear hw6
    go_wp2_with fail
    refine cO.mono ?_
    clear cO
    rintro e w7 ⟨rfl, hb7⟩
    have hend := Lib.hid (hL6.go hb7).below
    clear hb7 hL6 hQ16 hQ2 m0 m1 m2 n0 n1 n2
    go_wp2_with fail
    go_ret
    exact ⟨rfl, hend.out⟩
end Go.Proofs.Ytkgddgckilledaa

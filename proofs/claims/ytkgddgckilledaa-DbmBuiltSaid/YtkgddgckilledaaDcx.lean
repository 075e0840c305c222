/- The statement DbmBuilt: points have their octagon; an octagon is what its cells build. -/
import Derived.Test.YtkgddgckilledaaDcb
import Derived.Test.YtkgddgckilledaaDcp
import Derived.Test.YtkgddgckilledaaPtw
import Derived.Deep.RegionHeld3
namespace Go.Proofs.Ytkgddgckilledaa
open Go.RowKit
attribute [local go_sem] Oper.semAt_some
set_option linter.unusedVariables false
set_option linter.unusedSimpArgs false
open Gn
theorem keepsOthers_of_belowD {W W' : World} (h : Below W.heap.size W W') : KeepsOthers W W' :=
  ⟨h.size, fun k o hk _ => (h.block k (Array.getElem?_eq_some_iff.1 hk).1).trans hk⟩
theorem frozen_turnD {w w' : World} {a : Addr} {v : Value} {row : Option Nat} {i : Nat} (h : w.cell? ⟨a.block, 0, none⟩ = some v) (hg : w.grownBy w' row) (hr : ∀ r, row = some r → ∃ o : Obj, w.heap[r]? = some o ∧ o.isCells = false) : w'.frozen? ⟨a.block, i, none⟩ = w.frozen? ⟨a.block, i, none⟩ := by
  obtain ⟨o, ho, hc⟩ := cells_of_cell h
  exact World.frozen?_of_block (grownBy_keeps_cells hg hr ho hc)
theorem Ow.ownTurnD {w w' : World} {base c : Nat} {e : TypeId} {k : IntKind} {A : Option Addr} {xs : List Int} {row : Option Nat} (h : Ow w base e k A c xs) (hg : w.grownBy w' row) (hr : ∀ r, row = some r → ∃ o : Obj, w.heap[r]? = some o ∧ o.isCells = false) : Ow w' base e k A c xs := by
  rcases h.form with ⟨rfl, rfl, rfl⟩ | ⟨g, rfl, _⟩
  · exact Ow.nil _ _ _ _
  · refine World.ownsRow.kept (row := row) h hg (.inr ?_)
    intro e
    rcases h.2 with ⟨h1, _⟩ | ⟨g', cap, cur, hv, _, hh, _⟩
    · cases h1
    · cases hv
      obtain ⟨o, ho, hc⟩ := hr _ (by rw [← e]; rfl)
      rw [hh] at ho
      cases ho
      cases hc
theorem OctBox.ownTurnD {w w' : World} {b : Nat} {N : Int} {E : Bool} {v : Value} {row : Option Nat} (h : OctBox w b N E v) (hg : w.grownBy w' row) (hr : ∀ r, row = some r → ∃ o : Obj, w.heap[r]? = some o ∧ o.isCells = false) : OctBox w' b N E v :=
  ⟨⟨cell_kept h.box.c0 hg hr, cell_kept h.box.c1 hg hr, cell_kept h.box.c2 hg hr⟩, fun i => (frozen_turnD (a := ⟨b, 0, none⟩) h.box.c0 hg hr).trans (h.fz i)⟩
theorem enters33' : ∀ args w, (callFunc 33 args).run Try.prog w = .ok (.enter 33 args) w := enters_of Try.func33 (by kernel_rfl) rfl
/-- What the law holds all along. -/
structure Db (w : World) (N : Int) (E : Bool) (A : Option Addr) (c : Nat) (M : List Int) (AL : Option Addr) (ls : List RowV) (X : World) : Prop where
  box : OctAt X w.heap.size N E (.slice A M.length c)
  cR : X.cell? ⟨w.heap.size + 1, 0, none⟩ = some (.bool false)
  fR : X.frozen? ⟨w.heap.size + 1, 0, none⟩ = false
  oin : OctIn X w.heap.size A c N M
  rows : RowsIn X w.heap.size AL ls
  below : Below w.heap.size w X
section
variable {w X Y : World} {N : Int} {E : Bool} {A : Option Addr} {c : Nat} {M : List Int} {AL : Option Addr} {ls : List RowV}
theorem Db.lt (h : Db w N E A c M AL ls X) : w.heap.size + 2 ≤ X.heap.size := World.block_lt_of_cell? X ⟨w.heap.size + 1, 0, none⟩ h.cR
theorem Db.goB (h : Db w N E A c M AL ls X) {n1 : Nat} (hn : w.heap.size + 2 ≤ n1) (hb : Below n1 X Y) : Db w N E A c M AL ls Y :=
  ⟨⟨(hb.cell (p := ⟨w.heap.size, 0, none⟩) (by show w.heap.size < n1; omega)).trans h.box.c0, (hb.cell (p := ⟨w.heap.size, 1, none⟩) (by show w.heap.size < n1; omega)).trans h.box.c1, (hb.cell (p := ⟨w.heap.size, 2, none⟩) (by show w.heap.size < n1; omega)).trans h.box.c2⟩,
    (hb.cell (p := ⟨w.heap.size + 1, 0, none⟩) (by show w.heap.size + 1 < n1; omega)).trans h.cR, (hb.frozen (p := ⟨w.heap.size + 1, 0, none⟩) (by show w.heap.size + 1 < n1; omega)).trans h.fR,
    h.oin.below (hb.mono (by omega)), h.rows.below (hb.mono (by omega)), h.below.trans (hb.mono (by omega))⟩
theorem Db.go (h : Db w N E A c M AL ls X) (hb : Below X.heap.size X Y) : Db w N E A c M AL ls Y := h.goB h.lt hb
end
theorem Gn.topM_ints {m : Nat} : ∀ x ∈ topM m, I64 x := by
  intro x hx
  unfold topM mat at hx
  simp only [List.mem_map] at hx
  obtain ⟨k, _, rfl⟩ := hx
  unfold I64
  split <;> omega
theorem Gn.pointsR_ints {N : Int} {ls : List RowV} (hN : I64 N) (he : pointsE N ls = 0) : I64 (pointsR N ls).1 ∧ ∀ v ∈ (pointsR N ls).2.2, I64 v := by
  have h0 : 0 ≤ N := by
    unfold pointsE at he
    split at he
    · cases he
    · omega
  unfold pointsR
  rw [if_pos he]
  unfold pointsP
  split
  · exact ⟨by unfold I64 at *; omega, fun v hv => by cases hv⟩
  · refine ⟨by unfold I64 at *; omega, fun v hv => ?_⟩
    unfold tabM at hv
    simp only [List.mem_map] at hv
    obtain ⟨k, _, rfl⟩ := hv
    exact (bestV_bd _ _ _).i64
theorem Gn.Bu.ints {n : Nat} {M T : List Int} {ps : List (Nat × Nat)} (h : Bu n M ps T) : ∀ v ∈ T, I64 v := by
  obtain ⟨m, hm, hn, _, h0⟩ := chk_zero h.chk
  obtain rfl : n = m := by omega
  obtain ⟨hl, hok⟩ := h0 rfl
  intro v hv
  obtain ⟨k, hk, rfl⟩ := List.mem_iff_getElem.1 hv
  obtain ⟨h1, h2, h3⟩ := div_mod_lt (m := 2 * n) (k := k) (by rw [← h.len]; exact hk)
  have := (isB_iff _).1 (hok _ h1 _ h2).1
  unfold cl at this
  rw [h3] at this
  have e : nth T k = T[k] := by simp [nth, hk]
  rw [e] at this
  exact this.i64
/-- What the second loop holds: the octagon built so far, in its box. -/
structure Bl (w w0 : World) (m : Nat) (M : List Int) (bT : Nat) (pre : List (Nat × Nat)) (X : World) : Prop where
  low : Below (w.heap.size + 2) w0 X
  t : ∃ Ac cc T, Hid (Bu m M pre T) ∧ OctBox X bT m false (.slice Ac T.length cc) ∧ Ow X (w.heap.size + 2) 2 .i64 Ac cc T
theorem Bl.own {w w0 X Y : World} {m : Nat} {M : List Int} {bT : Nat} {pre : List (Nat × Nat)} {B : Nat} {row : Option Nat} (hB : w.heap.size + 2 ≤ B) (h0 : w.heap.size + 2 ≤ w0.heap.size) (h : Bl w w0 m M bT pre X) (hg : X.grownBy Y row) (hr : ∀ r, row = some r → B ≤ r ∧ ∃ o : Obj, X.heap[r]? = some o ∧ o.isCells = false) : Bl w w0 m M bT pre Y := by
  obtain ⟨hl, Ac, cc, T, h1, h2, h3⟩ := h
  exact ⟨hl.grown hg (Nat.le_trans h0 hl.size) (fun k e => Nat.le_trans hB (hr k e).1), Ac, cc, T, h1, h2.ownTurnD hg (fun r e => (hr r e).2), h3.ownTurnD hg (fun r e => (hr r e).2)⟩
theorem RowsIn.more' {w : World} {A : Option Addr} {ls : List RowV} {B B' : Nat} (h : RowsIn w B A ls) (hB : B ≤ B') : RowsIn w B' A ls := fun hn => by
  obtain ⟨b, off, e, hlt, hx⟩ := h hn
  exact ⟨b, off, e, by omega, fun i hi => by
    obtain ⟨h1, h2, h3, h4⟩ := hx i hi
    exact ⟨h1, h2.more hB, h3, h4⟩⟩
set_option maxRecDepth 100000 in
set_option maxHeartbeats 8000000 in
theorem law_DbmBuilt (N : Int) (E : Bool) (A : Option Addr) (c : Nat) (M : List Int) (n : Int) (AL : Option Addr) (cL : Nat) (ls : List RowV) (w : World) (ho : OctIn w w.heap.size A c N M) (hn : I64 n) (hls : RowsIn w w.heap.size AL ls) :
    Calls Try.prog 5 #[.agg #[.int .i64 N, .bool E, .slice A M.length c], .int .i64 n, .slice AL ls.length cL] w fun e w' => e = .returned (.bool true) ∧ Below w.heap.size w w' := by
  refine (callsIn_wide (n := 6)).1 ?_
  refine callsIn_of_wp_marks Try.func5 rfl trivial ?_ rfl
  simp only [Try.ntmps5, List.size_toArray, List.length_cons, List.length_nil, Nat.reduceAdd, Nat.reduceSub, Array.replicate_succ, Array.replicate_zero, List.push_toArray, List.append_toArray, List.nil_append, List.cons_append]
  gi_upto_region 1 with fail
  obtain ⟨W, hW⟩ : ∃ W, W = (w.alloc (.cells #[.int .i64 N, .bool E, .slice A M.length c] /-T-/24)).alloc (.cells #[.bool false] /-T-/4) := ⟨_, rfl⟩
  have hB : Below w.heap.size w W := by rw [hW]; exact ((Below.refl _ _).alloc (Nat.le_refl _) _).alloc (by simp) _
  have hD : Db w N E A c M AL ls W := by
    refine ⟨⟨?_, ?_, ?_⟩, ?_, ?_, ho.below hB, hls.below hB, hB⟩
    all_goals (rw [hW]; simp [go_sem])
  rw [← hW]
  clear hW hB ho hls
  gi_upto_region 3 with (refine ⟨trivial, ?_⟩; gi_at_call 9; refine callsIn_w (known12 W) ?_; rintro e w1 ⟨rfl, hb1⟩)
  have hD1 := hD.go hb1
  clear hD hb1
  by_cases h20 : ls.length ≤ 20
  case neg =>
    have d20 : 20 < ls.length := by omega
    have m4 := hD1.cR
    have f4 := hD1.fR
    have hE : Below w.heap.size w (w1.setCell ⟨w.heap.size + 1, 0, none⟩ (.bool true)) := hD1.below.setCell (p := ⟨w.heap.size + 1, 0, none⟩) (by show w.heap.size ≤ w.heap.size + 1; omega) _
    have hr : (w1.setCell ⟨w.heap.size + 1, 0, none⟩ (.bool true)).cell? ⟨w.heap.size + 1, 0, none⟩ = some (.bool true) := by simp [go_sem, m4]
    have HH := Lib.hid (And.intro hE hr)
    clear hE hr
    gi_wp2
    exact ⟨.bool true, by simp [results, Try.f5, go_sem, HH.out.2], rfl, HH.out.1⟩
  case pos =>
    have d20 : ¬ 20 < ls.length := by omega
    obtain ⟨p, hp⟩ : ∃ p, pointsE n ls = p := ⟨_, rfl⟩
    obtain ⟨R, hR⟩ : ∃ R, pointsR n ls = R := ⟨_, rfl⟩
    have cP := dbm_Points n AL cL ls w1 (hD1.rows.more' (by have := hD1.below.size; omega)) (by omega) hn p hp R hR
    unfold TellsP at cP
    gi_upto_region 6 with (refine ⟨trivial, ?_⟩; gi_at_call 14; refine callsIn_w cP ?_; clear cP; rintro e w2 ⟨Ap, cp, rfl, hop, hb2⟩)
    have hD2 := hD1.go hb2
    have hs1 := hD1.lt
    obtain ⟨v0, hv0⟩ : ∃ v0, v0 = w2.alloc (.cells #[.int .i64 R.1, .bool R.2.1, .slice Ap R.2.2.length cp] /-T-/24) := ⟨_, rfl⟩
    have hb3 : Below w2.heap.size w2 v0 := by rw [hv0]; exact (Below.refl _ _).alloc (Nat.le_refl _) _
    have hbP : OctAt v0 w2.heap.size R.1 R.2.1 (.slice Ap R.2.2.length cp) := by rw [hv0]; exact OctAt.box _ _ _ _ _
    have hopP := hop.below hb3
    have hDv := hD2.go hb3
    have hs2 := hD2.lt
    rw [← hv0]
    clear hv0 hb3 hop hD2 hD1 hb2
    generalize w2.heap.size = bP at *
    generalize w1.heap.size = base at *
    clear w1 w2
    gi_wp2
    gi_loopw [9] (fun s wr => ∃ i : Nat, s = .int .i64 i ∧ i ≤ ls.length ∧ Below v0.heap.size v0 wr) (fun s _ => ls.length - (Go.RowKit.intOf s).toNat)
    case atStart => exact ⟨0, rfl, by omega, Below.refl _ _⟩
    case round =>
      obtain ⟨i, rfl, hi, hBr⟩ := hrel
      obtain ⟨z, hz⟩ : ∃ z : Bool, z = (decide (i < ls.length) && (p == 0)) := ⟨_, rfl⟩
      have HZ := Lib.hid hz
      clear hz
      gi_upto_region 7 with fail
      gi_cut [38] from 1000 (fun s wx => s = .bool z ∧ wr = wx)
      case first =>
        by_cases hil : i < ls.length
        · have q1 : decide (i < ls.length) = true := decide_eq_true hil
          have HZ2 := Lib.hid (show (p == 0) = z by rw [HZ.out, q1]; rfl)
          gi_wp2
          gi_meet
          exact ⟨by rw [← HZ2.out], rfl⟩
        · have q1 : decide (i < ls.length) = false := decide_eq_false hil
          have HZ2 := Lib.hid (show false = z by rw [HZ.out, q1]; rfl)
          gi_wp2
          gi_meet
          exact ⟨by rw [← HZ2.out], rfl⟩
      case rest =>
        obtain ⟨rfl, rfl⟩ := hcut
        cases z with
        | true =>
          have hz2 : i < ls.length ∧ p = 0 := by
            have := HZ.out.symm
            rw [Bool.and_eq_true, decide_eq_true_eq, beq_iff_eq] at this
            exact this
          obtain ⟨hil, rfl⟩ := hz2
          obtain ⟨m, rfl, hm, H1, H2, H3⟩ := points_has hp hil
          obtain ⟨hRi, hRv⟩ := pointsR_ints hn hp
          rw [hR] at H1 hRi hRv
          have cT := fun X => dbm_Top m X hm
          have cE := fun X => dbm_Empty m X hm
          gi_upto_region 10 with (refine ⟨trivial, ?_⟩; gi_at_call 17; refine callsIn_w (cT _) ?_; clear cT; rintro e w3 ⟨gT, T, hT0, rfl, hoT, hb3⟩; have hT := Lib.hid hT0; clear hT0)
          obtain ⟨v3, hv3⟩ : ∃ v3, v3 = w3.alloc (.cells #[.int .i64 m, .bool false, .slice (some ⟨gT, 0, none⟩) T.length T.length] /-T-/24) := ⟨_, rfl⟩
          have hbv : Below w3.heap.size w3 v3 := by rw [hv3]; exact (Below.refl _ _).alloc (Nat.le_refl _) _
          have hbT : OctAt v3 w3.heap.size m false (.slice (some ⟨gT, 0, none⟩) T.length T.length) := by rw [hv3]; exact OctAt.box _ _ _ _ _
          have hoT3 := hoT.below hbv
          have hB3 := hBr.trans ((hb3.trans (hbv.mono hb3.size)).mono hBr.size)
          rw [← hv3]
          clear hv3 hbv hoT hb3 hBr
          generalize w3.heap.size = bT at *
          generalize wr.heap.size = base3 at *
          gi_upto_region 11 with (refine ⟨trivial, ?_⟩; gi_at_call 18; refine callsIn_w (cE v3) ?_; clear cE; rintro e w4 ⟨rfl, hb4⟩)
          obtain ⟨v5, hv5⟩ : ∃ v5, v5 = w4.alloc (.cells #[.int .i64 m, .bool true, .slice none 0 0] /-T-/24) := ⟨_, rfl⟩
          have hbv : Below w4.heap.size w4 v5 := by rw [hv5]; exact (Below.refl _ _).alloc (Nat.le_refl _) _
          have hbE : OctAt v5 w4.heap.size m true (.slice none 0 0) := by rw [hv5]; exact OctAt.box _ _ _ _ _
          have hb35 := hb4.trans (hbv.mono hb4.size)
          have hoT5 := hoT3.below hb35
          have hbT5 := hbT.below hb35
          have hB5 := hB3.trans (hb35.mono hB3.size)
          rw [← hv5]
          clear hv5 hbv hb4 hb35 hoT3 hbT hB3
          generalize w4.heap.size = bE at *
          have hD5 := hDv.go hB5
          have hs5 := hD5.lt
          have hoP5 := (hopP.below hB5).oct hRi hRv
          have hbP5 := hbP.below hB5
          have hMi : I64 (m : Int) := by unfold I64; omega
          have hoT6 := hoT5.oct hMi (by rw [hT.out]; exact topM_ints)
          have hoE5 : OctIn v5 v5.heap.size none 0 (m : Int) [] := (Ow.nil v5 base 2 .i64).oct hMi (fun v hv => by cases hv)
          rw [hT.out.symm] at H2
          obtain ⟨bR, oR, rfl, hbR, hrow⟩ := hD5.rows (by omega)
          obtain ⟨r1, r2, r3, r4⟩ := hrow i hil
          have hr5 := r2.more (show w.heap.size ≤ v5.heap.size by omega)
          have cP5 := fun (x : After v5) => dbm_Has R.1 R.2.1 Ap cp R.2.2 (rvAt ls i).A (rvAt ls i).c (rvAt ls i).x x.w (hoP5.go x.below) ((hr5.below x.below).more x.below.size) r3 r4
          have cT5 := fun (x : After v5) => dbm_Has m false (some ⟨gT, 0, none⟩) T.length T (rvAt ls i).A (rvAt ls i).c (rvAt ls i).x x.w (hoT6.go x.below) ((hr5.below x.below).more x.below.size) r3 r4
          have cE5 := fun (x : After v5) => dbm_Has m true none 0 [] (rvAt ls i).A (rvAt ls i).c (rvAt ls i).x x.w (hoE5.go x.below) ((hr5.below x.below).more x.below.size) r3 r4
          rw [H1] at cP5
          rw [H2] at cT5
          rw [H3] at cE5
          have a0 := After.cell hbP5.c0
          have a1 := After.cell hbP5.c1
          have a2 := After.cell hbP5.c2
          have b0 := After.cell hbT5.c0
          have b1 := After.cell hbT5.c1
          have b2 := After.cell hbT5.c2
          have e0 := After.cell hbE.c0
          have e1 := After.cell hbE.c1
          have e2 := After.cell hbE.c2
          have l0 := After.cell r1
          have q2 : (i : Int) < (ls.length : Int) := by omega
          have q3 : (0 : Int) ≤ (i : Int) := by omega
          clear r1 r2 r3 r4 hr5 hrow hoE5 hoT6 hoP5 H1 H2 H3 hoT5 hbT5 hbE hbP5 hD5 hT
          refine wpIn_wide.2 ?_
          refine wp_region_after (by kernel_rfl) (by kernel_rfl) ?_
          repeat (go_big_quiet_step ((go_at_call 12; with_reducible (first | exact after_of (cP5 _) | exact after_of (cT5 _) | exact after_of (cE5 _)))))
          refine wpQuiet_nil ?_
          intro w7 hb7
          have hB7 := hB5.trans (hb7.mono hB5.size)
          clear a0 a1 a2 b0 b1 b2 e0 e1 e2 l0 q2 q3 cP5 cT5 cE5 hb7 hB5
          gi_wp2
          go_roundw
          case rel => exact ⟨i + 1, by go_num, by omega, hB7⟩
          case measure => simp [Go.RowKit.intOf]; omega
        | false =>
          clear HZ
          have hDr := hDv.go hBr
          have cC := dbm_Check A c N E M wr (hDr.oin.more (by have := hDr.below.size; omega))
          clear hDv hBr hbP hopP hp hR hs2 hs1
          obtain ⟨k0, k1, k2⟩ := id hDr.box
          by_cases hc : chk N E M = 0 ∧ E = false
          case neg =>
            have hq : (chk N E M != 0) = true ∨ E = true := by
              by_cases h : chk N E M = 0
              · right
                rcases E with _ | _
                · exact absurd ⟨h, rfl⟩ hc
                · rfl
              · left; exact bne_iff_ne.2 h
            clear hc
            generalize chk N E M = q at *
            have key : ∀ w8, Db w N E A c M AL ls w8 → Below w.heap.size w (w8.setCell ⟨w.heap.size + 1, 0, none⟩ (.bool true)) ∧ (w8.setCell ⟨w.heap.size + 1, 0, none⟩ (.bool true)).cell? ⟨w.heap.size + 1, 0, none⟩ = some (.bool true) := fun w8 hD8 =>
              ⟨hD8.below.setCell (p := ⟨w.heap.size + 1, 0, none⟩) (by show w.heap.size ≤ w.heap.size + 1; omega) _, by have := hD8.cR; simp [go_sem, this]⟩
            rcases Bool.eq_false_or_eq_true (q != 0) with hq1 | hq1
            · gi_upto_region 14 with (refine ⟨trivial, ?_⟩; gi_at_call 19; with_reducible refine callsIn_w cC ?_; clear cC; rintro e w8 ⟨rfl, hb8⟩; have hD8 := hDr.go hb8; have m1 := hD8.box.c1)
              have HH := Lib.hid (key w8 hD8)
              have m4 := hD8.cR
              have f4 := hD8.fR
              gi_wp2
              exact ⟨.bool true, by simp [results, Try.f5, go_sem, HH.out.2], rfl, HH.out.1⟩
            · obtain rfl : E = true := by
                rcases hq with h | h
                · rw [hq1] at h; cases h
                · exact h
              gi_upto_region 14 with (refine ⟨trivial, ?_⟩; gi_at_call 19; with_reducible refine callsIn_w cC ?_; clear cC; rintro e w8 ⟨rfl, hb8⟩; have hD8 := hDr.go hb8; have m1 := hD8.box.c1)
              have HH := Lib.hid (key w8 hD8)
              have m4 := hD8.cR
              have f4 := hD8.fR
              gi_wp2
              exact ⟨.bool true, by simp [results, Try.f5, go_sem, HH.out.2], rfl, HH.out.1⟩
          case pos =>
            obtain ⟨hc1, rfl⟩ := hc
            obtain ⟨m, rfl, hm, hx1, hx2⟩ := chk_zero hc1
            rw [hc1] at cC
            have HC := Lib.hid hc1
            clear hc1 hx1 hx2
            have cT := fun X => dbm_Top m X hm
            gi_upto_region 15 with (refine ⟨trivial, ?_⟩; gi_at_call 19; with_reducible refine callsIn_w cC ?_; clear cC; rintro e w8 ⟨rfl, hb8⟩; have hD8 := hDr.go hb8; have m1 := hD8.box.c1)
            have m0 := hD8.box.c0
            have hs8 := hD8.lt
            clear hb8 hDr k0 k1 k2
            gi_upto_region 16 with (refine ⟨trivial, ?_⟩; gi_at_call 17; refine callsIn_w (cT _) ?_; clear cT; rintro e w9 ⟨gT, T, hT0, rfl, hoT, hb9⟩; have hT := Lib.hid hT0; clear hT0)
            obtain ⟨v9, hv9⟩ : ∃ v9, v9 = w9.alloc (.cells #[.int .i64 m, .bool false, .slice (some ⟨gT, 0, none⟩) T.length T.length] /-T-/24) := ⟨_, rfl⟩
            have hb : Below w9.heap.size w9 v9 := by rw [hv9]; exact (Below.refl _ _).alloc (Nat.le_refl _) _
            have hbT : OctBox v9 w9.heap.size m false (.slice (some ⟨gT, 0, none⟩) T.length T.length) := by
              rw [hv9]
              exact ⟨OctAt.box _ _ _ _ _, fun i => by simp [go_sem]⟩
            have hoT9 := (hoT.below hb).lower hs8
            have hD9 := hD8.go (hb9.trans (hb.mono hb9.size))
            have hbs : w.heap.size + 2 ≤ w9.heap.size := Nat.le_trans hs8 hb9.size
            rw [← hv9]
            clear hv9 hb hoT hD8 hb9 m0 m1 hs8
            generalize w9.heap.size = bT at *
            clear w9
            obtain ⟨k0, k1, k2⟩ := id hD9.box
            gi_upto_region 17 with (refine ⟨trivial, ?_⟩; gi_at_call 11; with_reducible refine callsIn_w (dbm_Cells m false _ v9) ?_; rintro e w4 ⟨rfl, rfl⟩)
            obtain ⟨w0, hw0⟩ : ∃ w0, w0 = v9.alloc (.cells #[.int .i64 m, .bool false, .slice A M.length c] /-T-/24) := ⟨_, rfl⟩
            have hb0 : Below v9.heap.size v9 w0 := by rw [hw0]; exact (Below.refl _ _).alloc (Nat.le_refl _) _
            have hbox : OctAt w0 v9.heap.size m false (.slice A M.length c) := by rw [hw0]; exact OctAt.box _ _ _ _ _
            have hBo := hbox.lt
            have hD0 := hD9.go hb0
            have hbT0 := hbT.below hb0
            have hoT0 := hoT9.below hb0
            have hTo : bT < v9.heap.size := hbT.lt
            rw [← hw0]
            clear hw0 hb0 hbT hoT9 hD9 k0 k1 k2
            generalize v9.heap.size = Bo at *
            clear v9
            have hs0 := hD0.lt
            have hI0 : Bl w w0 m M bT [] w0 := ⟨Below.refl _ _, _, _, T, Lib.hid (by rw [hT.out]; exact Bu.start hm M), hbT0, hoT0⟩
            clear hbT0 hoT0 hT
            refine wpIn_rangeFunc_ownB (F := Fence.wide) rfl (by omega) (gf := 33) (lb := #[.pointer (some ⟨Bo, 0, none⟩)]) rfl trivial enters33'
              (cells_stopsS m false A c M w.heap.size Bo w0 hBo (by omega) hbox hD0.oin) Kx.trans
              (fun X l o o' hl h h1 h2 => ⟨by simp, fun k hk => World.putObj_heap_other (by omega), World.putObj_heap_other (by omega)⟩) (Below.refl _ _) (fun _ => rfl)
              (fun pre X => Bl w w0 m M bT (pre.map Subtype.val) X)
              (fun _ _ _ => False)
              (fun s X X' row h hg hr => Bl.own hs0 hs0 h hg hr)
              (fun _ s X X' row h hg hr => h)
              hI0
              (fun x b X => X.cell? ⟨b, 0, none⟩ = some (.int .i64 x.1.1) ∧ X.cell? ⟨b, 1, none⟩ = some (.int .i64 x.1.2))
              (fun x b _ X X' row h hg hr => ⟨cell_kept h.1 hg (fun r e => (hr r e).2), cell_kept h.2 hg (fun r e => (hr r e).2)⟩)
              ?a2 ?assign ?body ?done ?stop
            case assign =>
              intro l pre x X K hI hK
              obtain ⟨X2, hX2⟩ : ∃ X2, X2 = X.alloc (.cells #[.int .i64 x.1.1, .int .i64 x.1.2] /-T-/31) := ⟨_, rfl⟩
              have HX2 := Lib.hid hX2
              have hlX := hI.low.size
              have hc1 : X2.cell? ⟨X.heap.size, 0, none⟩ = some (.int .i64 x.1.1) := by rw [hX2]; simp [go_sem]
              have hc2 : X2.cell? ⟨X.heap.size, 1, none⟩ = some (.int .i64 x.1.2) := by rw [hX2]; simp [go_sem]
              have q1 : KeepsFrom w0.heap.size X X2 := by rw [hX2]; exact (KeepsOthers.alloc X _).from _
              have q0 : Below X.heap.size X X2 := by rw [hX2]; exact (Below.refl _ _).alloc (Nat.le_refl _) _
              have q2 : Kx w.heap.size Bo X X2 := Kx.of (by omega) (by omega) q0
              have q3 : Bl w w0 m M bT (pre.map Subtype.val) X2 := by rw [hX2]; exact Bl.own hs0 hs0 hI (World.grownBy_alloc X _ none) (fun r e => by cases e)
              clear hI hX2 q0
              have hK2 := fun b => hK b X2 q1 q2 q3
              clear hK q1 q2 q3
              gi_wp2
              rw [← HX2.out]
              generalize X.heap.size = b at *
              exact hK2 b ⟨hc1, hc2⟩
            case body =>
              rintro l pre ⟨x, hx⟩ b X ⟨hlow, Ac, cc, T, HBu, hbx, hrow⟩ ⟨hc1, hc2⟩ hl
              have hxl := hlow.size
              have hwp := HBu.out.with HC.out hx
              have HB2 := Lib.hid (HBu.out.step HC.out hx)
              have hMi : I64 (m : Int) := by unfold I64; omega
              have hTl : T.length ≤ 16384 := by rw [HBu.out.len]; exact Nat.mul_le_mul (show 2 * m ≤ 128 by omega) (show 2 * m ≤ 128 by omega)
              have cW := dbm_With m false Ac cc T x.1 x.2 (cl (2 * m) M x.1 x.2) X (hrow.oct hMi HBu.out.ints) (by omega)
              rw [hwp] at cW
              unfold TellsOct at cW
              dsimp only at cW hc1 hc2
              obtain ⟨k0, k1, k2⟩ := id hbx.box
              clear hwp hI0
              generalize cl (2 * m) M x.1 x.2 = v at *
              generalize boundM (2 * m) T x.1 x.2 v = T' at *
              gi_upto_region 20 with (refine ⟨trivial, ?_⟩; gi_at_call 20; refine CallsIn.inRound l (callsIn_w cW ?_); clear cW; rintro e w5 ⟨A5, c5, rfl, ho5, hb5⟩)
              obtain ⟨v6, hv6⟩ : ∃ v6, v6 = w5.alloc (.cells #[.int .i64 m, .bool false, .slice A5 T'.length c5] /-T-/24) := ⟨_, rfl⟩
              have hb6 : Below w5.heap.size w5 v6 := by rw [hv6]; exact (Below.refl _ _).alloc (Nat.le_refl _) _
              have hb56 := hb5.trans (hb6.mono hb5.size)
              have hO6 : OctAt v6 w5.heap.size m false (.slice A5 T'.length c5) := by rw [hv6]; exact OctAt.box _ _ _ _ _
              have hbx6 := hbx.below hb56
              have hbl : bT < X.heap.size := hbx.lt
              have ho6 := ho5.below hb6
              have ho7 := (ho6.lay3 hbl (.int .i64 m) (.bool false) (.slice A5 T'.length c5)).lower (show w.heap.size + 2 ≤ X.heap.size by omega)
              obtain ⟨y7, g7⟩ := hbx6.put m false (.slice A5 T'.length c5)
              obtain ⟨⟨t0, t1, t2⟩, tf⟩ := id hbx6
              obtain ⟨o0, o1, o2⟩ := id hO6
              have hL7 : Below (w.heap.size + 2) X _ := (((hb56.mono (show w.heap.size + 2 ≤ X.heap.size by omega)).setCell (p := ⟨bT, 0, none⟩) hbs (.int .i64 m)).setCell (p := ⟨bT, 1, none⟩) hbs (.bool false)).setCell (p := ⟨bT, 2, none⟩) hbs (.slice A5 T'.length c5)
              have hKO := ((keepsOthers_of_belowD hb56).trans (((KeepsOthers.setCell v6 ⟨bT, 0, none⟩ (.int .i64 m)).trans (KeepsOthers.setCell _ ⟨bT, 1, none⟩ (.bool false))).trans (KeepsOthers.setCell _ ⟨bT, 2, none⟩ (.slice A5 T'.length c5)))).from w0.heap.size
              have hown := (g7.block Bo (by have := hb56.size; omega) (by intro e; cases e; omega)).trans (hb56.block Bo (by omega))
              have HH := Lib.hid (And.intro y7 (And.intro ho7 (And.intro hL7 (And.intro hKO hown))))
              rw [← hv6]
              clear hv6 hb6 hO6 ho5 ho6 ho7 y7 g7 hL7 hKO hown hbx hbx6 hrow k0 k1 k2 hc1 hc2 hb5 hb56 hTl
              generalize w5.heap.size = b6 at *
              have t0f := tf 0
              have t1f := tf 1
              have t2f := tf 2
              gi_wp2
              obtain ⟨y7, ho7, hL7, hKO, hown⟩ := HH.out
              refine ⟨hKO, ⟨hL7.size, fun k hk => hL7.block k (by omega), hown⟩, hlow.trans hL7, A5, c5, T', ?_, y7, ho7⟩
              rw [List.map_append]
              exact HB2
            case done =>
              rintro D xs X hD hall ⟨hlow, Ac, cc, T, HBu, hbx, hrow⟩ hd
              have hTM : T = M := by
                have h := HBu.out
                rw [hall] at h
                exact h.all HC.out
              subst hTM
              have hDX := hD0.goB (Nat.le_refl _) hlow
              have hsX := hDX.lt
              have cO := help_Oct m m false false Ac A cc c T T X hrow.rd (hDX.oin.more (by omega)).rd (hDX.oin).len (hDX.oin).len
              rw [decide_eq_true ⟨rfl, rfl, rfl⟩] at cO
              obtain ⟨k0, k1, k2⟩ := id hbx.box
              obtain ⟨n0, n1, n2⟩ := id hDX.box
              have hcal : ∀ w8, Below X.heap.size X w8 → Hid (w8.cell? ⟨w.heap.size + 1, 0, none⟩ = some (.bool false) ∧ w8.frozen? ⟨w.heap.size + 1, 0, none⟩ = false ∧ Below w.heap.size w (w8.setCell ⟨w.heap.size + 1, 0, none⟩ (.bool true)) ∧ (w8.setCell ⟨w.heap.size + 1, 0, none⟩ (.bool true)).heap[D]? = some (.deferred (some [])) ∧ (w8.setCell ⟨w.heap.size + 1, 0, none⟩ (.bool true)).cell? ⟨w.heap.size + 1, 0, none⟩ = some (.bool true)) := fun w8 hb8 => by
                have h8 := hDX.go hb8
                have hd8 : w8.heap[D]? = some (.deferred (some [])) := (hb8.block D (Array.getElem?_eq_some_iff.1 hd).1).trans hd
                exact Lib.hid ⟨h8.cR, h8.fR, h8.below.setCell (p := ⟨w.heap.size + 1, 0, none⟩) (by show w.heap.size ≤ w.heap.size + 1; omega) _, (KeepsOthers.setCell w8 ⟨w.heap.size + 1, 0, none⟩ (.bool true)).same D _ hd8 rfl, by have := h8.cR; simp [go_sem, this]⟩
              clear hI0 hbx hrow HBu hDX hd hD0 hall
              gi_wp2_with (refine ⟨trivial, ?_⟩; gi_at_call 16; with_reducible refine callsIn_w cO ?_; clear cO; rintro e w8 ⟨rfl, hb8⟩; have HH := hcal w8 hb8; have m4 := HH.out.1; have f4 := HH.out.2.1)
              obtain ⟨_, _, hE, hd, hr⟩ := HH.out
              generalize w8.setCell ⟨w.heap.size + 1, 0, none⟩ (.bool true) = Y at *
              refine ⟨by simp, .inl ⟨_, _, rfl, run_takeDeferred hd, ?_⟩⟩
              have c1 := cell_kept hr (grownBy_putObj' _ D (.deferred none)) (fun r e => by cases e; exact ⟨_, hd, rfl⟩)
              refine ⟨.bool true, by simp [results, Try.f5, go_sem, c1], rfl, Below.trans (b := Y) hE ?_⟩
              exact belowK_b (w := w) (Nat.le_refl _) _ D _ _ (by omega) hd rfl rfl
            case stop =>
              intro D c' pre X _ _ h
              exact h.elim
end Go.Proofs.Ytkgddgckilledaa

/- The reference's reader: byte, number, size. -/
import Derived.Test.YtghpiofjejhegaaCet
import Derived.Test.YtghpiofjejhegaaCodR
import Derived.Test.YtghpiofjejhegaaCodX
namespace Go.Proofs.Ytghpiofjejhegaa
open Go.RowKit
set_option maxRecDepth 100000
set_option linter.unusedVariables false
set_option linter.unusedSimpArgs false
open Gn
namespace Gn
/-- The first fault, or 0. -/
def lb : PR Unit → Int
  | .bad e => e
  | .ok _ _ => 0
def lbyte : PR Unit → Int × PR Unit
  | .bad e => (0, .bad e)
  | .ok _ [] => (0, .bad 192)
  | .ok _ (x :: r) => (x, .ok () r)
def lnumP : PR Nat → Nat × PR Unit
  | .bad e => (0, .bad e)
  | .ok v r => (v, .ok () r)
def lnum : PR Unit → Nat × PR Unit
  | .bad e => (0, .bad e)
  | .ok _ b => lnumP (numberP b)
def lsize (k : Bool) : PR Unit → PR Unit
  | .bad e => .bad e
  | .ok _ b => bif k then .ok () b else .bad 194
/-- Where a reader stands. -/
def Pos (b : List Int) (S : PR Unit) (p : Nat) : Prop :=
  match S with
  | .bad e => e ≠ 0 ∧ 0 ≤ e ∧ e ≤ 1000
  | .ok _ r => p ≤ b.length ∧ r = b.drop p
end Gn
/-- A latched reader in memory. -/
structure LRd (w : World) (br B : Nat) (A : Option Addr) (c : Nat) (b : List Int) (S : PR Unit) : Prop where
  c0 : w.cell? ⟨br, 0, none⟩ = some (.slice A b.length c)
  c1 : ∃ p : Nat, w.cell? ⟨br, 1, none⟩ = some (.int .i64 p) ∧ Pos b S p
  c2 : w.cell? ⟨br, 2, none⟩ = some (.int .i64 (lb S))
  fz : ∀ i, w.frozen? ⟨br, i, none⟩ = false
  rd : Rd w B .u8 A b.length (nth b)
  hB : B ≤ br
  bts : Bts b
  len : b.length ≤ 4194304
theorem LRd.lt {w : World} {br B : Nat} {A : Option Addr} {c : Nat} {b : List Int} {S : PR Unit} (h : LRd w br B A c b S) : br < w.heap.size := World.block_lt_of_cell? w ⟨br, 0, none⟩ h.c0
theorem LRd.low {w w' : World} {br B base : Nat} {A : Option Addr} {c : Nat} {b : List Int} {S : PR Unit} (h : LRd w br B A c b S) (hb : Below base w w') (hl : br < base) : LRd w' br B A c b S := by
  obtain ⟨c0, ⟨p, c1, hp⟩, c2, fz, rd, hB, bts, len⟩ := h
  exact ⟨(hb.cell (p := ⟨br, 0, none⟩) hl).trans c0, ⟨p, (hb.cell (p := ⟨br, 1, none⟩) hl).trans c1, hp⟩, (hb.cell (p := ⟨br, 2, none⟩) hl).trans c2, fun i => (hb.frozen (p := ⟨br, i, none⟩) hl).trans (fz i), rd.below (hb.mono (by omega)), hB, bts, len⟩
theorem LRd.go {w w' : World} {br B : Nat} {A : Option Addr} {c : Nat} {b : List Int} {S : PR Unit} (h : LRd w br B A c b S) (hb : Below w.heap.size w w') : LRd w' br B A c b S := h.low hb h.lt
theorem LRd.only {w w' : World} {br B g : Nat} {A : Option Addr} {c : Nat} {b : List Int} {S : PR Unit} (h : LRd w br B A c b S) (hg : w.grownBy w' (some g)) (hne : br ≠ g) (hBg : B ≤ g) : LRd w' br B A c b S := by
  have hlt := h.lt
  obtain ⟨c0, ⟨p, c1, hp⟩, c2, fz, rd, hB, bts, len⟩ := h
  exact ⟨only_cell hg c0 hne, ⟨p, only_cell hg c1 hne, hp⟩, only_cell hg c2 hne, fun i => only_frozen hg (fz i) hlt hne, rd_only rd hg hBg, hB, bts, len⟩
/-- The fault is set. -/
theorem LRd.setBad {w : World} {br B : Nat} {A : Option Addr} {c : Nat} {b : List Int} {S : PR Unit} (h : LRd w br B A c b S) (x : Int) (hx : x ≠ 0 ∧ 0 ≤ x ∧ x ≤ 1000) :
    LRd (w.setCell ⟨br, 2, none⟩ (.int .i64 x)) br B A c b (.bad x) ∧ w.grownBy (w.setCell ⟨br, 2, none⟩ (.int .i64 x)) (some br) := by
  have hr := h.rd.setCell (p := ⟨br, 2, none⟩) h.hB (.int .i64 x)
  obtain ⟨c0, ⟨p, c1, hp⟩, c2, fz, rd, hB, bts, len⟩ := h
  exact ⟨⟨by simp [go_sem, c0], ⟨p, by simp [go_sem, c1], hx⟩, by simp [go_sem, c2, lb], fun i => by simp [go_sem, fz], hr, hB, bts, len⟩, only_setCell (World.grownBy.refl w (some br)) (.inl rfl) _⟩
/-- Read on. -/
theorem LRd.setAt {w : World} {br B : Nat} {A : Option Addr} {c : Nat} {b : List Int} {r0 : List Int} (h : LRd w br B A c b (.ok () r0)) (q : Nat) (hq : q ≤ b.length) :
    LRd (w.setCell ⟨br, 1, none⟩ (.int .i64 q)) br B A c b (.ok () (b.drop q)) ∧ w.grownBy (w.setCell ⟨br, 1, none⟩ (.int .i64 q)) (some br) := by
  have hr := h.rd.setCell (p := ⟨br, 1, none⟩) h.hB (.int .i64 q)
  obtain ⟨c0, ⟨p, c1, hp⟩, c2, fz, rd, hB, bts, len⟩ := h
  exact ⟨⟨by simp [go_sem, c0], ⟨q, by simp [go_sem, c1], hq, rfl⟩, by simp [go_sem, c2, lb], fun i => by simp [go_sem, fz], hr, hB, bts, len⟩, only_setCell (World.grownBy.refl w (some br)) (.inl rfl) _⟩
/-- A store of what lies there. -/
theorem LRd.setSame {w : World} {br B : Nat} {A : Option Addr} {c : Nat} {b : List Int} {x : Int} (h : LRd w br B A c b (.bad x)) (q : Nat) :
    LRd (w.setCell ⟨br, 1, none⟩ (.int .i64 q)) br B A c b (.bad x) ∧ w.grownBy (w.setCell ⟨br, 1, none⟩ (.int .i64 q)) (some br) := by
  have hr := h.rd.setCell (p := ⟨br, 1, none⟩) h.hB (.int .i64 q)
  obtain ⟨c0, ⟨p, c1, hp⟩, c2, fz, rd, hB, bts, len⟩ := h
  exact ⟨⟨by simp [go_sem, c0], ⟨q, by simp [go_sem, c1], hp⟩, by simp [go_sem, c2], fun i => by simp [go_sem, fz], hr, hB, bts, len⟩, only_setCell (World.grownBy.refl w (some br)) (.inl rfl) _⟩
theorem ref_size (br B : Nat) (A : Option Addr) (c : Nat) (b : List Int) (S : PR Unit) (k : Bool) (w : World) (h : LRd w br B A c b S) :
    Calls Try.prog 61 #[.pointer (some ⟨br, 0, none⟩), .bool k] w fun e w' => e = .returned (.tuple #[]) ∧ LRd w' br B A c b (lsize k S) ∧ w.grownBy w' (some br) := by
  have k2 := h.c2
  have f2 := h.fz 2
  have HH := Lib.hid h
  cases S with
  | bad x =>
    obtain ⟨p, _, hx, hx1, hx2⟩ := h.c1
    have q0 : (x == 0) = false := beq_eq_false_iff_ne.2 hx
    change w.cell? ⟨br, 2, none⟩ = some (.int .i64 x) at k2
    clear h hx
    go_enter Try.func61, Try.ntmps61
    go_wp2_with fail
    go_end0
    exact ⟨rfl, HH.out, World.grownBy.refl w _⟩
  | ok u r =>
    change w.cell? ⟨br, 2, none⟩ = some (.int .i64 0) at k2
    have HB := Lib.hid (h.setBad 194 (by omega))
    clear h
    cases k with
    | true =>
      go_enter Try.func61, Try.ntmps61
      go_wp2_with fail
      go_end0
      exact ⟨rfl, HH.out, World.grownBy.refl w _⟩
    | false =>
      go_enter Try.func61, Try.ntmps61
      go_wp2_with fail
      go_end0
      exact ⟨rfl, HB.out⟩
theorem ref_byte (br B : Nat) (A : Option Addr) (c : Nat) (b : List Int) (S : PR Unit) (w : World) (h : LRd w br B A c b S) :
    Calls Try.prog 59 #[.pointer (some ⟨br, 0, none⟩)] w fun e w' => e = .returned (.int .u8 (lbyte S).1) ∧ LRd w' br B A c b (lbyte S).2 ∧ w.grownBy w' (some br) := by
  have k0 := h.c0
  obtain ⟨p, k1, hp⟩ := h.c1
  have k2 := h.c2
  have f1 := h.fz 1
  have f2 := h.fz 2
  have hl := h.len
  have HH := Lib.hid h
  have a0 := After.cell k0
  have a1 := After.cell k1
  cases S with
  | bad x =>
    have q0 : (x == 0) = false := beq_eq_false_iff_ne.2 hp.1
    have q1 : (x != 0) = true := bne_iff_ne.2 hp.1
    obtain ⟨hp0, hp1, hp2⟩ := hp
    change w.cell? ⟨br, 2, none⟩ = some (.int .i64 x) at k2
    have a2 := After.cell k2
    clear h hp0
    go_enter Try.func59, Try.ntmps59
    go_wp2_with fail
    refine wp_region_after (by kernel_rfl) (by kernel_rfl) ?_
    repeat (go_big_quiet_step (fail))
    refine wpQuiet_nil ?_
    intro w2 hb2
    have HH2 := Lib.hid (HH.out.go hb2)
    have k2' := below_cell hb2 k2
    have HG := Lib.hid (only_of_below hb2 (some br))
    clear hb2 a0 a1 a2 k0 k1 k2
    go_wp2_with fail
    go_ret
    exact ⟨rfl, HH2.out, HG.out⟩
  | ok u r =>
    obtain ⟨hp0, hr⟩ := hp
    change w.cell? ⟨br, 2, none⟩ = some (.int .i64 0) at k2
    have a2 := After.cell k2
    cases r with
    | nil =>
      obtain rfl : p = b.length := by have := congrArg List.length hr; simp at this; omega
      have q0 : decide ((b.length : Int) ≥ b.length) = true := by simp
      have q1 : decide ((b.length : Int) ≤ b.length) = true := by simp
      clear h hr hp0
      go_enter Try.func59, Try.ntmps59
      go_wp2_with fail
      refine wp_region_after (by kernel_rfl) (by kernel_rfl) ?_
      repeat (go_big_quiet_step (fail))
      refine wpQuiet_nil ?_
      intro w2 hb2
      have HH2 := Lib.hid ((HH.out.go hb2).setBad 192 (by omega))
      have k2' := below_cell hb2 k2
      have f2' := (HH.out.go hb2).fz 2
      have HG := Lib.hid (only_of_below hb2 (some br))
      clear hb2 a0 a1 a2 k0 k1 k2 f1 f2
      go_wp2_with fail
      go_ret
      exact ⟨rfl, HH2.out.1, grown_trans HG.out HH2.out.2⟩
    | cons x r =>
      have hpl : p < b.length := by have := congrArg List.length hr; simp at this; omega
      have hx : nth b p = x := by
        have := congrArg (fun l : List Int => l.headD 0) hr
        simp only [List.headD_cons] at this
        rw [this, List.headD_eq_head?_getD, List.head?_drop]
        unfold nth
        rw [List.getD_eq_getElem?_getD]
      have hr2 : r = b.drop (p + 1) := by
        have := congrArg List.tail hr
        simpa [List.tail_drop] using this
      have q0 : decide ((b.length : Int) ≤ (p : Int)) = false := decide_eq_false (by omega)
      obtain ⟨gg, off, rfl, hgg, hc⟩ := h.rd (by omega)
      have m0 := hc p hpl
      rw [hx] at m0
      have hgb : gg < br := Nat.lt_of_lt_of_le hgg h.hB
      obtain ⟨x0, x1⟩ := h.bts _ (nth_mem hpl)
      rw [hx] at x0 x1
      have HR := Lib.hid hr2
      clear h hr hx hr2 hc
      go_enter Try.func59, Try.ntmps59
      go_wp2_with fail
      refine wp_region_after (by kernel_rfl) (by kernel_rfl) ?_
      repeat (go_big_quiet_step (fail))
      refine wpQuiet_nil ?_
      intro w2 hb2
      have hH2 := HH.out.go hb2
      have hs3 := hH2.setAt (p + 1) (by omega)
      rw [show ((p + 1 : Nat) : Int) = (p : Int) + 1 from Int.natCast_succ p] at hs3
      obtain ⟨hH3, hg3⟩ := hs3
      have k1' := below_cell hb2 k1
      have k2' := below_cell hb2 k2
      have m1 := below_cell hb2 m0
      have f1' := hH2.fz 1
      have HG := Lib.hid (grown_trans (only_of_below hb2 (some br)) hg3)
      have m2 := only_cell hg3 m1 (by simp; omega)
      obtain ⟨w3, hw3⟩ : ∃ w3, w3 = w2.setCell ⟨br, 1, none⟩ (.int .i64 ((p : Int) + 1)) := ⟨_, rfl⟩
      have n1 := World.cell?_setCell_same w2 ⟨br, 1, none⟩ (.int .i64 ((p : Int) + 1)) k1'
      rw [← hw3] at hH3 m2 HG n1
      clear hb2 hH2 hg3 a0 a1 a2 k0 k1 k2 f1 f2 m0
      go_wp2_with fail
      rw [← hw3]
      clear hw3 k1' k2' f1' m1
      have n0 := hH3.c0
      have a0 := After.cell n0
      have a1 := After.cell n1
      have a2 := After.cell m2
      have HH3 := Lib.hid hH3
      clear hH3
      have q2 : (0 : Int) ≤ (p : Int) := by omega
      have q3 : (p : Int) < (b.length : Int) := by omega
      refine wp_region_after (by kernel_rfl) (by kernel_rfl) ?_
      repeat (go_big_quiet_step (fail))
      refine wpQuiet_nil ?_
      intro w4 hb4
      have HH4 := Lib.hid (HH3.out.go hb4)
      have HG4 := Lib.hid (only_below HG.out hb4)
      clear hb4 a0 a1 a2 n0 n1 m2
      go_wp2_with fail
      go_ret
      rw [HR.out] at *
      exact ⟨rfl, HH4.out, HG4.out⟩
theorem ref_number (br B : Nat) (A : Option Addr) (c : Nat) (b : List Int) (S : PR Unit) (w : World) (h : LRd w br B A c b S) :
    Calls Try.prog 60 #[.pointer (some ⟨br, 0, none⟩)] w fun e w' => e = .returned (.int .u64 ((lnum S).1 : Nat)) ∧ LRd w' br B A c b (lnum S).2 ∧ w.grownBy w' (some br) := by
  have k0 := h.c0
  obtain ⟨p, k1, hp⟩ := h.c1
  have k2 := h.c2
  have f1 := h.fz 1
  have f2 := h.fz 2
  have hl := h.len
  have HH := Lib.hid h
  cases S with
  | bad x =>
    have q1 : (x != 0) = true := bne_iff_ne.2 hp.1
    obtain ⟨hp0, hp1, hp2⟩ := hp
    change w.cell? ⟨br, 2, none⟩ = some (.int .i64 x) at k2
    clear h hp0
    go_enter Try.func60, Try.ntmps60
    go_wp2_with fail
    go_ret
    exact ⟨rfl, HH.out, World.grownBy.refl w _⟩
  | ok u r =>
    obtain ⟨hp0, hr⟩ := hp
    change w.cell? ⟨br, 2, none⟩ = some (.int .i64 0) at k2
    have a0 := After.cell k0
    have a1 := After.cell k1
    have cT : ∀ x : After w, Calls Try.prog 75 #[.slice A b.length c, .int .i64 p] x.w fun e w' => e = .returned (.tuple #[.int .u64 (take (b.drop p)).1, .int .i64 (take (b.drop p)).2.1, .int .i64 (take (b.drop p)).2.2]) ∧ x.w = w' := fun x =>
      ref_Take A c b p x.w h.bts ((h.go x.below).rd.more (by have := (h.go x.below).hB; have := (h.go x.below).lt; omega)) (by omega) hp0
    have HN : Hid (lnum (.ok u r) = lnumP (numberP (b.drop p))) := Lib.hid (by rw [hr]; rfl)
    have hbt : Bts (b.drop p) := fun x hx => h.bts x (List.mem_of_mem_drop hx)
    clear h hr
    generalize lnum (.ok u r) = LN at *
    rcases take_err_or (b.drop p) with he | he | he
    · obtain ⟨hc1, hc2, _, hc4⟩ := take_cnt hbt he
      rw [List.length_drop] at hc2
      have HP := Lib.hid (show LN = ((take (b.drop p)).1, .ok () (b.drop (p + (take (b.drop p)).2.1))) by rw [HN.out]; unfold numberP; rw [if_neg (by rw [he]; decide), if_neg (by rw [he]; decide), List.drop_drop]; rfl)
      rw [he] at cT
      generalize (take (b.drop p)).1 = v at *
      generalize (take (b.drop p)).2.1 = k at *
      clear he HN hbt
      have hs3 := fun (W : World) (hW : Below w.heap.size w W) => (HH.out.go hW).setAt (p + k) (by omega)
      rw [show ((p + k : Nat) : Int) = (p : Int) + (k : Int) from Int.natCast_add p k] at hs3
      have HS3 := Lib.hid hs3
      clear hs3
      go_enter Try.func60, Try.ntmps60
      go_wp2_with fail
      refine wp_region_after (by kernel_rfl) (by kernel_rfl) ?_
      repeat (go_big_quiet_step ((go_at_call 75; with_reducible exact after_same (cT _))))
      refine wpQuiet_nil ?_
      intro w2 hb2
      have k1' := below_cell hb2 k1
      have f1' := (HH.out.go hb2).fz 1
      obtain ⟨hH3, hg3⟩ := HS3.out w2 hb2
      have HH3 := Lib.hid hH3
      have HG := Lib.hid (grown_trans (only_of_below hb2 (some br)) hg3)
      clear hb2 a0 a1 k0 k1 k2 f1 f2 HS3 cT hH3 hg3
      go_wp2_with fail
      go_ret
      rw [HP.out]
      exact ⟨rfl, HH3.out, HG.out⟩
    · have HP := Lib.hid (show LN = (0, .bad 192) by rw [HN.out]; unfold numberP; rw [he]; rfl)
      rw [he] at cT
      clear he HN hbt
      go_enter Try.func60, Try.ntmps60
      go_wp2_with fail
      refine wp_region_after (by kernel_rfl) (by kernel_rfl) ?_
      repeat (go_big_quiet_step ((go_at_call 75; with_reducible exact after_same (cT _))))
      refine wpQuiet_nil ?_
      intro w2 hb2
      have k1' := below_cell hb2 k1
      have k2' := below_cell hb2 k2
      have f1' := (HH.out.go hb2).fz 1
      have f2' := (HH.out.go hb2).fz 2
      obtain ⟨hH3, hg3⟩ := (HH.out.go hb2).setBad 192 (by omega)
      obtain ⟨hH4, hg4⟩ := hH3.setSame p
      have HH4 := Lib.hid hH4
      have HG := Lib.hid (grown_trans (grown_trans (only_of_below hb2 (some br)) hg3) hg4)
      clear hb2 a0 a1 k0 k1 k2 f1 f2 cT hH3 hg3 hH4 hg4
      go_wp2_with fail
      go_ret
      rw [HP.out]
      exact ⟨rfl, HH4.out, HG.out⟩
    · have HP := Lib.hid (show LN = (0, .bad 193) by rw [HN.out]; unfold numberP; rw [he]; rfl)
      rw [he] at cT
      clear he HN hbt
      go_enter Try.func60, Try.ntmps60
      go_wp2_with fail
      refine wp_region_after (by kernel_rfl) (by kernel_rfl) ?_
      repeat (go_big_quiet_step ((go_at_call 75; with_reducible exact after_same (cT _))))
      refine wpQuiet_nil ?_
      intro w2 hb2
      have k1' := below_cell hb2 k1
      have k2' := below_cell hb2 k2
      have f1' := (HH.out.go hb2).fz 1
      have f2' := (HH.out.go hb2).fz 2
      obtain ⟨hH3, hg3⟩ := (HH.out.go hb2).setBad 193 (by omega)
      obtain ⟨hH4, hg4⟩ := hH3.setSame p
      have HH4 := Lib.hid hH4
      have HG := Lib.hid (grown_trans (grown_trans (only_of_below hb2 (some br)) hg3) hg4)
      clear hb2 a0 a1 k0 k1 k2 f1 f2 cT hH3 hg3 hH4 hg4
      go_wp2_with fail
      go_ret
      rw [HP.out]
      exact ⟨rfl, HH4.out, HG.out⟩
end Go.Proofs.Ytghpiofjejhegaa

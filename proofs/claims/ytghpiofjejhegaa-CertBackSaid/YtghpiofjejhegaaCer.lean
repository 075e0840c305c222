/- The walk of cert.reader's octagon. -/
import Derived.Test.YtghpiofjejhegaaCeq
import Derived.Test.YtghpiofjejhegaaCed
import Derived.Test.YtghpiofjejhegaaBndW
namespace Go.Proofs.Ytghpiofjejhegaa
open Go.RowKit
set_option linter.unusedVariables false
set_option linter.unusedSimpArgs false
open Gn
/-- A variable that holds an octagon, and may be stored into. -/
structure OBox (w : World) (b : Nat) (N : Int) (E : Bool) (v : Value) : Prop where
  box : OctAt w b N E v
  fz : ∀ i, w.frozen? ⟨b, i, none⟩ = false
theorem OBox.lt {w : World} {b : Nat} {N : Int} {E : Bool} {v : Value} (h : OBox w b N E v) : b < w.heap.size := h.box.lt
theorem OBox.go {w w' : World} {b : Nat} {N : Int} {E : Bool} {v : Value} (h : OBox w b N E v) (hb : Below w.heap.size w w') : OBox w' b N E v :=
  ⟨h.box.below hb, fun i => (World.frozen?_of_block (w := w) (hb.block _ h.lt)).trans (h.fz i)⟩
theorem OBox.only {w w' : World} {b g : Nat} {N : Int} {E : Bool} {v : Value} (h : OBox w b N E v) (hg : w.grownBy w' (some g)) (hne : b ≠ g) : OBox w' b N E v :=
  ⟨h.box.only hg hne, fun i => only_frozen hg (h.fz i) h.lt hne⟩
theorem OBox.new (w : World) (t : TypeId) (N : Int) (E : Bool) (v : Value) : OBox (w.alloc (.cells #[.int .i64 N, .bool E, v] t)) w.heap.size N E v :=
  ⟨OctAt.box w t N E v, fun i => by simp [go_sem]⟩
theorem OBox.put {w : World} {b : Nat} {N : Int} {E : Bool} {v : Value} (h : OBox w b N E v) (N' : Int) (E' : Bool) (v' : Value) :
    OBox (((w.setCell ⟨b, 0, none⟩ (.int .i64 N')).setCell ⟨b, 1, none⟩ (.bool E')).setCell ⟨b, 2, none⟩ v') b N' E' v' ∧ w.grownBy (((w.setCell ⟨b, 0, none⟩ (.int .i64 N')).setCell ⟨b, 1, none⟩ (.bool E')).setCell ⟨b, 2, none⟩ v') (some b) := by
  obtain ⟨⟨c0, c1, c2⟩, fz⟩ := h
  refine ⟨⟨⟨?_, ?_, ?_⟩, fun i => ?_⟩, ?_⟩
  · simp [go_sem, c0, c1, c2]
  · simp [go_sem, c0, c1, c2]
  · simp [go_sem, c0, c1, c2]
  · simp [go_sem, fz]
  · have g1 := only_setCell (p := ⟨b, 0, none⟩) (World.grownBy.refl w (some b)) (.inl rfl) (.int .i64 N')
    have g2 := only_setCell (p := ⟨b, 1, none⟩) g1 (.inl rfl) (.bool E')
    exact only_setCell (p := ⟨b, 2, none⟩) g2 (.inl rfl) v'
theorem Rdr.only {w w' : World} {br B g : Nat} {A : Option Addr} {c : Nat} {b : List Int} {Ap : Option Addr} {cp np : Nat} {n : Int} (h : Rdr w br B A c b Ap cp np n) (hg : w.grownBy w' (some g)) (hne : br ≠ g) (hB : B ≤ g) : Rdr w' br B A c b Ap cp np n :=
  ⟨only_cell hg h.c0 hne, only_cell hg h.c1 hne, only_cell hg h.c2 hne, fun i => only_frozen hg (h.fz i) h.lt hne, fun hn => by
    obtain ⟨b0, off, e, hb, hc⟩ := h.rd hn
    exact ⟨b0, off, e, hb, fun i hi => only_cell hg (hc i hi) (by simp; omega)⟩, h.hB, h.bts, h.le, h.max, h.len⟩
/-- A store into a block that the call itself made. -/
theorem grown_of_new {w0 w w' : World} {row : Option Nat} {g : Nat} (h : w0.grownBy w row) (hg : w.grownBy w' (some g)) (hn : w0.heap.size ≤ g) : w0.grownBy w' row :=
  ⟨hg.os.trans h.os, hg.tape.trans h.tape, hg.output.trans h.output, Nat.le_trans h.size hg.size, fun k hk hne => (hg.block k (Nat.lt_of_lt_of_le hk h.size) (fun e => by injection e with e; omega)).trans (h.block k hk hne)⟩
/-- What a reader's octagon tells. -/
def TellsO (w : World) (br B : Nat) (Ap : Option Addr) (cp np : Nat) (n : Int) (P : PR OC) (e : Ending) (w' : World) : Prop :=
  match P with
  | .bad x => e = .panicked (gv x) ∧ w.grownBy w' (some br)
  | .ok o r => (∃ Ao co, e = .returned (.agg #[.int .i64 o.n, .bool o.e, .slice Ao o.m.length co]) ∧ Ow w' w.heap.size 2 .i64 Ao co o.m) ∧ (∀ x ∈ o.m, I64 x) ∧ (∃ A c, Rdr w' br B A c r Ap cp np n) ∧ w.grownBy w' (some br)
/-- An octagon under way. -/
structure OSt (w0 wr : World) (br B : Nat) (Ap : Option Addr) (cp np : Nat) (n : Nat) (b2 bo g : Nat) (M r : List Int) : Prop where
  rdr : ∃ A c, Rdr wr br B A c r Ap cp np n
  box : OBox wr bo n false (.slice (some ⟨g, 0, none⟩) M.length M.length)
  res : OBox wr b2 0 false (.slice none 0 0)
  row : Ow wr w0.heap.size 2 .i64 (some ⟨g, 0, none⟩) M.length M
  grow : w0.grownBy wr (some br)
  lt : br < w0.heap.size
  lt2 : w0.heap.size ≤ b2
  lt3 : b2 < g
  lt4 : g < bo
theorem OSt.go {w0 wr w' : World} {br B : Nat} {Ap : Option Addr} {cp np n b2 bo g : Nat} {M r : List Int} (h : OSt w0 wr br B Ap cp np n b2 bo g M r) (hb : Below wr.heap.size wr w') : OSt w0 w' br B Ap cp np n b2 bo g M r :=
  ⟨by obtain ⟨A, c, hr⟩ := h.rdr; exact ⟨A, c, hr.go hb⟩, h.box.go hb, h.res.go hb, h.row.below hb, only_below h.grow hb, h.lt, h.lt2, h.lt3, h.lt4⟩
/-- The reader has read on. -/
theorem OSt.read {w0 wr w' : World} {br B : Nat} {Ap : Option Addr} {cp np n b2 bo g : Nat} {M r r' : List Int} (h : OSt w0 wr br B Ap cp np n b2 bo g M r) (hr : ∃ A c, Rdr w' br B A c r' Ap cp np n) (hg : wr.grownBy w' (some br)) : OSt w0 w' br B Ap cp np n b2 bo g M r' :=
  ⟨hr, h.box.only hg (by have := h.lt; have := h.lt2; have := h.lt3; have := h.lt4; omega), h.res.only hg (by have := h.lt; have := h.lt2; omega), h.row.other' hg (by have := h.lt; have := h.lt2; have := h.lt3; omega), grown_trans h.grow hg, h.lt, h.lt2, h.lt3, h.lt4⟩
theorem OSt.set {w0 wr : World} {br B : Nat} {Ap : Option Addr} {cp np n b2 bo g : Nat} {M r : List Int} (h : OSt w0 wr br B Ap cp np n b2 bo g M r) (p : Nat) (v : Int) : OSt w0 (wr.setCell ⟨g, p, none⟩ (.int .i64 v)) br B Ap cp np n b2 bo g (M.set p v) r := by
  have hg := only_setCell (p := ⟨g, p, none⟩) (World.grownBy.refl wr (some g)) (.inl rfl) (.int .i64 v)
  have h1 := h.lt
  have h2 := h.lt2
  have h3 := h.lt3
  have h4 := h.lt4
  refine ⟨?_, by rw [List.length_set]; exact h.box.only hg (by omega), h.res.only hg (by omega), by have := h.row.set' p v; rw [List.length_set]; exact this, only_setCell h.grow (.inr (by simp; omega)) _, h1, h2, h3, h4⟩
  obtain ⟨A, c, hr⟩ := h.rdr
  obtain ⟨c0, c1, c2, fz, rd, hB, bts, le, max, len⟩ := hr
  exact ⟨A, c, only_cell hg c0 (by simp; omega), only_cell hg c1 (by simp; omega), only_cell hg c2 (by simp; omega), fun i => only_frozen (p := ⟨br, i, none⟩) hg (fz i) (World.block_lt_of_cell? wr ⟨br, 0, none⟩ c0) (by simp; omega), rd.setCell (by simp; omega) _, hB, bts, le, max, len⟩
namespace Gn
theorem upToP_ok {lo hi : Int} {b : List Int} {n : Nat} {r : List Int} (h : upToP lo hi b = .ok n r) : lo ≤ n ∧ (n : Int) ≤ hi := by
  unfold upToP at h
  split at h
  · cases h
  · split at h
    · cases h
    · injection h with h1 h2
      subst h1
      omega
theorem numberP_ok {b : List Int} {v : Nat} {r : List Int} (hb : Bts b) (h : numberP b = .ok v r) : (v : Int) ≤ 18446744073709551615 := by
  unfold numberP at h
  split at h
  · cases h
  · split at h
    · cases h
    · rename_i h1 h2
      injection h with h3 h4
      rcases take_err_or b with he | he | he
      · have := (take_cnt hb he).2.2.2
        rw [← h3]; exact this
      · exact absurd (by rw [he]) h1
      · exact absurd (by rw [he]) h2
end Gn
theorem putM_i64 {m : Nat} {M : List Int} {i j : Nat} {v : Int} (h : ∀ x ∈ M, I64 x) (hv : I64 v) : ∀ x ∈ putM m M i j v, I64 x := by
  intro x hx
  unfold putM at hx
  rcases List.mem_or_eq_of_mem_set hx with h1 | rfl
  · rcases List.mem_or_eq_of_mem_set h1 with h2 | rfl
    · exact h x h2
    · exact hv
  · exact hv
theorem topM_i64' {m : Nat} : ∀ x ∈ topM m, I64 x := by
  intro x hx
  unfold topM mat at hx
  simp only [List.mem_map] at hx
  obtain ⟨k, _, rfl⟩ := hx
  unfold I64
  split <;> omega
set_option maxRecDepth 100000 in
set_option maxHeartbeats 4000000 in
theorem reader_octagon (br B : Nat) (A : Option Addr) (c : Nat) (b : List Int) (Ap : Option Addr) (cp : Nat) (n : Nat) (w : World) (h : Rdr w br B A c b Ap cp (pairs n).length n) (hn : n ≤ 64) (hps : ∀ X, w.grownBy X (some br) → RdP X X.heap.size Ap (pairs n)) :
    Calls Try.prog 74 #[.pointer (some ⟨br, 0, none⟩)] w (TellsO w br B Ap cp (pairs n).length n (octP n (pairs n) b)) := by
  have HPS := Lib.hid hps
  clear hps
  have hres := OBox.new w 55 0 false (.slice none 0 0)
  have hb1 : Below w.heap.size w (w.alloc (.cells #[.int .i64 0, .bool false, .slice none 0 0] 55)) := (Below.refl _ _).alloc (Nat.le_refl _) _
  obtain ⟨w1, hw1⟩ : ∃ w1, w1 = w.alloc (.cells #[.int .i64 0, .bool false, .slice none 0 0] 55) := ⟨_, rfl⟩
  rw [← hw1] at hres hb1
  have h1 := h.go hb1
  have hlt := h.lt
  have cG := fun W => reader_gives (.pointer (some ⟨br, 0, none⟩)) 194 W
  have HB1 := Lib.hid (only_of_below hb1 (some br))
  clear h hb1
  cases b with
  | nil =>
    have cT : Calls Try.prog 71 #[.pointer (some ⟨br, 0, none⟩), .int .i64 1] w1 (fun e w' => e = .panicked (gv 192) ∧ w1 = w') := reader_take_short br B A c [] Ap cp (pairs n).length n 1 w1 h1 (by simp) (by omega)
    have HP := Lib.hid (show octP n (pairs n) [] = .bad 192 from rfl)
    generalize octP n (pairs n) [] = PP at *
    go_enter Try.func74, Try.ntmps74
    go_wp2_with fail
    rw [← hw1]
    clear hw1
    (with_reducible refine cT.mono ?_)
    rintro e w' ⟨rfl, rfl⟩
    go_wp2_with fail
    refine ⟨rfl, ?_⟩
    unfold TellsO
    rw [HP.out]
    exact ⟨rfl, HB1.out⟩
  | cons x r =>
    have cT : Calls Try.prog 71 #[.pointer (some ⟨br, 0, none⟩), .int .i64 1] w1 (fun e w' => e = .returned (.slice A 1 c) ∧ (∃ A' c', Rdr w' br B A' c' r Ap cp (pairs n).length n) ∧ w1.grownBy w' (some br)) := reader_take br B A c (x :: r) Ap cp (pairs n).length n 1 w1 h1 (by simp) (by omega)
    obtain ⟨hx0, hx1⟩ := h1.bts x List.mem_cons_self
    obtain ⟨g0, off, rfl, hg0, hc0⟩ := h1.rd (by simp)
    have hxc : w1.cell? ⟨g0, off, none⟩ = some (.int .u8 x) := by have := hc0 0 (by simp); rwa [Nat.add_zero] at this
    have hgb : g0 ≠ br := by have := h1.hB; omega
    obtain ⟨PP, hPP⟩ : ∃ PP, PP = octP n (pairs n) (x :: r) := ⟨_, rfl⟩
    rw [← hPP]
    have HP := Lib.hid hPP
    clear hPP
    clear h1 hc0
    by_cases hx : 1 < x
    · have q0 : decide (1 < x) = true := decide_eq_true hx
      have HX := Lib.hid (show PP = .bad 194 by rw [HP.out, octP_kind hx])
      clear HP hx
      go_enter Try.func74, Try.ntmps74
      go_wp2_with fail
      rw [← hw1]
      clear hw1
      (with_reducible refine cT.mono ?_)
      clear cT
      rintro e w2 ⟨rfl, hR, hg⟩
      have m0 := only_cell hg hxc (by simp; omega)
      have HG := Lib.hid (grown_trans HB1.out hg)
      clear hg hR
      go_wp2_with fail
      (with_reducible refine (cG _).mono ?_)
      rintro e w' ⟨rfl, rfl⟩
      go_wp2_with fail
      refine ⟨rfl, ?_⟩
      unfold TellsO
      rw [HX.out]
      exact ⟨rfl, HG.out⟩
    have q0 : decide (1 < x) = false := decide_eq_false hx
    by_cases hz : x = 0
    · subst hz
      have HX := Lib.hid (show PP = .ok ⟨n, true, []⟩ r by rw [HP.out, octP_empty])
      clear HP hx
      go_enter Try.func74, Try.ntmps74
      go_wp2_with fail
      rw [← hw1]
      clear hw1
      (with_reducible refine cT.mono ?_)
      clear cT
      rintro e w2 ⟨rfl, hR, hg⟩
      have m0 := only_cell hg hxc (by simp; omega)
      have hres2 := hres.only hg (by omega)
      have hG := grown_trans HB1.out hg
      obtain ⟨A2, c2, hR2⟩ := hR
      have m2 := hR2.c2
      obtain ⟨⟨d0, d1, d2⟩, df⟩ := id hres2
      have f0 := df 0
      have f1 := df 1
      have f2 := df 2
      clear hg
      go_wp2_with fail
      obtain ⟨hput, hpg⟩ := hres2.put n true (.slice none 0 0)
      obtain ⟨⟨s0, s1, s2⟩, _⟩ := id hput
      have HG := Lib.hid (only_setCell (p := ⟨w.heap.size, 2, none⟩) (only_setCell (p := ⟨w.heap.size, 1, none⟩) (only_setCell (p := ⟨w.heap.size, 0, none⟩) hG (.inr (Nat.le_refl _)) (.int .i64 n)) (.inr (Nat.le_refl _)) (.bool true)) (.inr (Nat.le_refl _)) (.slice none 0 0))
      have HR := Lib.hid (hR2.only hpg (by omega) (by have := hR2.hB; omega))
      refine bodyPost_ret (v := .agg #[.int .i64 n, .bool true, .slice none 0 0]) (by simp [results, Try.results74, go_sem, s0, s1, s2]) rfl ?_
      unfold TellsO
      rw [HX.out]
      exact ⟨⟨none, 0, rfl, Ow.nil _ _ _ _⟩, (fun x hx => by cases hx), ⟨_, _, HR.out⟩, HG.out⟩
    obtain rfl : x = 1 := by omega
    have HP2 : Hid ((∀ x, upToP 0 ((pairs n).length : Int) r = .bad x → PP = .bad x) ∧ (∀ k r', upToP 0 ((pairs n).length : Int) r = .ok k r' → PP = octEnd n (placesP n (pairs n) k 0 (topM (2 * n)) r'))) :=
      Lib.hid ⟨fun x hx => by rw [HP.out, octP_one_bad hx], fun k r' hx => by rw [HP.out, octP_one_ok hx]⟩
    have cD := fun W => dbm_Top n W hn
    have hpl := pairs_small hn
    have HM : Hid (∀ k, k < (pairs n).length → pfst (pairs n) k < 2 * n ∧ psnd (pairs n) k < 2 * n) := Lib.hid (fun k hk => by
      have := pairs_mem.1 (pget_mem hk)
      exact ⟨this.1, this.2.1⟩)
    clear hx hz HP q0
    have HT0 : Hid ((topM (2 * n)).length = (2 * n) * (2 * n)) := Lib.hid (topM_len _)
    have HTI : Hid (∀ x ∈ topM (2 * n), I64 x) := Lib.hid topM_i64'
    obtain ⟨ps, hps⟩ : ∃ ps, ps = pairs n := ⟨_, rfl⟩
    rw [← hps] at cT HP2 hpl HM HPS ⊢
    clear hps
    go_enter Try.func74, Try.ntmps74
    go_wp2_with fail
    rw [← hw1]
    clear hw1
    (with_reducible refine cT.mono ?_)
    clear cT
    rintro e w2 ⟨rfl, hR, hg⟩
    have m0 := only_cell hg hxc (by simp; omega)
    have hres2 := hres.only hg (by omega)
    have hG := grown_trans HB1.out hg
    obtain ⟨A2, c2, hR2⟩ := hR
    have m2 := hR2.c2
    have hs2 : w.heap.size < w2.heap.size := hres2.lt
    clear hg hxc hres
    go_wp2_with fail
    (with_reducible refine (cD _).mono ?_)
    clear cD m0 m2
    rintro e w3 ⟨g, M, hM, rfl, hrow, hb3⟩
    have HM0 := Lib.hid hM
    clear hM
    have hR3 := hR2.go hb3
    have hres3 := hres2.go hb3
    have hG3 := only_below hG hb3
    have hgg := hrow.blockGe
    clear hb3 hR2 hres2 hG
    have hbox := OBox.new w3 55 n false (.slice (some ⟨g, 0, none⟩) M.length M.length)
    have hb4 : Below w3.heap.size w3 (w3.alloc (.cells #[.int .i64 n, .bool false, .slice (some ⟨g, 0, none⟩) M.length M.length] 55)) := (Below.refl _ _).alloc (Nat.le_refl _) _
    obtain ⟨w4, hw4⟩ : ∃ w4, w4 = w3.alloc (.cells #[.int .i64 n, .bool false, .slice (some ⟨g, 0, none⟩) M.length M.length] 55) := ⟨_, rfl⟩
    rw [← hw4] at hbox hb4
    have hS : OSt w w4 br B Ap cp ps.length n w.heap.size w3.heap.size g M r := ⟨⟨_, _, hR3.go hb4⟩, hbox, hres3.go hb4, (hrow.below hb4).lower (by omega), only_below hG3 hb4, hlt, Nat.le_refl _, by omega, hgg.2⟩
    have hR4 := hR3.go hb4
    have k1 := hR4.c1
    clear hR3 hres3 hG3 hbox hb4 hrow
    have cU := reader_upTo br B A2 c2 r Ap cp ps.length n 0 ps.length w4 hR4 (by omega) (by omega)
    rw [hw4] at k1
    clear hs2 hgg
    go_wp2_with fail
    rw [← hw4]
    clear hw4 k1
    generalize w3.heap.size = bo at *
    cases hU : upToP 0 (ps.length : Int) r with
    | bad x =>
      have HX := Lib.hid (HP2.out.1 x hU)
      rw [hU] at cU
      clear hU
      (with_reducible refine cU.mono ?_)
      clear cU
      rintro e w5 ⟨rfl, hg5⟩
      have HG := Lib.hid (grown_trans hS.grow hg5)
      clear hg5
      go_wp2_with fail
      refine ⟨rfl, ?_⟩
      unfold TellsO
      rw [HX.out]
      exact ⟨rfl, HG.out⟩
    | ok k r0 =>
      have hk : k ≤ ps.length := by have := (upToP_ok hU).2; omega
      have HP3 := Lib.hid (HP2.out.2 k r0 hU)
      rw [hU] at cU
      clear hU
      (with_reducible refine cU.mono ?_)
      clear cU
      rintro e w5 ⟨rfl, hR5, hg5⟩
      have hS5 := hS.read hR5 hg5
      clear hS hR5 hg5 hR4
      obtain ⟨PT, hPT⟩ : ∃ PT, PT = placesP n ps k 0 (topM (2 * n)) r0 := ⟨_, rfl⟩
      rw [← hPT] at HP3
      have HPT := Lib.hid (show placesP n ps (k - 0) 0 M r0 = PT by rw [hPT, HM0.out]; rfl)
      have HML := Lib.hid (show M.length = (2 * n) * (2 * n) by rw [HM0.out]; exact HT0.out)
      have HMI := Lib.hid (show ∀ x ∈ M, I64 x by rw [HM0.out]; exact HTI.out)
      clear hPT HP2
      go_wp2_with fail
      go_loopw [6, 40] (fun s6 s40 wr => ∃ i : Nat, s40 = .int .i64 i ∧ i ≤ k ∧ ∃ nx : Nat, s6 = .int .i64 ((nx : Int) - 1) ∧ nx ≤ ps.length ∧ ∃ M r, Hid (placesP n ps (k - i) nx M r = PT) ∧ Hid (M.length = (2 * n) * (2 * n)) ∧ Hid (∀ x ∈ M, I64 x) ∧ OSt w wr br B Ap cp ps.length n w.heap.size bo g M r) (fun _ s _ => k - (intOf s).toNat)
      case atStart => exact ⟨0, rfl, by omega, 0, rfl, by omega, M, r0, HPT, HML, HMI, hS5⟩
      case round =>
        clear hS5 HM0 HPT HML HMI
        obtain ⟨i, rfl, hi, nx, rfl, hnx, M, r, HPT, HML, HMI, hS⟩ := hrel
        rename_i wr _
        rcases Nat.lt_or_ge i k with hlt2 | hge
        · have q0 : decide (i < k) = true := decide_eq_true hlt2
          obtain ⟨A5, c5, hR⟩ := hS.rdr
          have k1 := hR.c1
          have HPS2 : Hid (PT = placesNext n ps (k - i - 1) (placeP n ps nx M r)) := Lib.hid (by rw [← HPT.out, ← placesP_succ, show k - i - 1 + 1 = k - i by omega])
          have e1 : (ps.length : Int) - (nx : Int) - 1 = (ps.length : Int) - ((nx : Int) - 1) - 2 := by omega
          have cU : Calls Try.prog 73 #[.pointer (some ⟨br, 0, none⟩), .int .i64 0, .int .i64 ((ps.length : Int) - ((nx : Int) - 1) - 2)] wr (TellsR wr br B Ap cp ps.length n (upToP 0 ((ps.length : Int) - (nx : Int) - 1) r) fun v : Nat => .int .i64 v) := by
            rw [← e1]; exact reader_upTo br B A5 c5 r Ap cp ps.length n 0 _ wr hR (by omega) (by omega)
          clear e1 hR HPT
          go_wp2_with fail
          cases hU : upToP 0 ((ps.length : Int) - (nx : Int) - 1) r with
          | bad x =>
            have HX := Lib.hid (show PP = .bad x by rw [HP3.out, HPS2.out, placeP_bad1 hU]; rfl)
            rw [hU] at cU
            clear hU
            (with_reducible refine cU.mono ?_)
            clear cU k1
            rintro e w5 ⟨rfl, hg5⟩
            have HG := Lib.hid (grown_trans hS.grow hg5)
            clear hg5
            go_wp2_with fail
            refine ⟨rfl, ?_⟩
            unfold TellsO
            rw [HX.out]
            exact ⟨rfl, HG.out⟩
          | ok gp r1 =>
            have hgp : nx + gp < ps.length := by have := (upToP_ok hU).2; omega
            have HU := Lib.hid hU
            rw [hU] at cU
            clear hU
            (with_reducible refine cU.mono ?_)
            clear cU k1
            rintro e w5 ⟨rfl, hR5, hg5⟩
            have hS5 := hS.read hR5 hg5
            clear hS hR5 hg5
            obtain ⟨A6, c6, hR6⟩ := hS5.rdr
            have cN := reader_number br B A6 c6 r1 Ap cp ps.length n w5 hR6
            have hbt := hR6.bts
            clear hR6
            go_wp2_with fail
            cases hV : numberP r1 with
            | bad x =>
              have HX := Lib.hid (show PP = .bad x by rw [HP3.out, HPS2.out, placeP_bad2 HU.out hV]; rfl)
              rw [hV] at cN
              clear hV
              (with_reducible refine cN.mono ?_)
              clear cN
              rintro e w6 ⟨rfl, hg6⟩
              have HG := Lib.hid (grown_trans hS5.grow hg6)
              clear hg6
              go_wp2_with fail
              refine ⟨rfl, ?_⟩
              unfold TellsO
              rw [HX.out]
              exact ⟨rfl, HG.out⟩
            | ok v r2 =>
              have hv := numberP_ok hbt hV
              have HVV := Lib.hid hV
              rw [hV] at cN
              clear hV
              (with_reducible refine cN.mono ?_)
              clear cN
              rintro e w6 ⟨rfl, hR6, hg6⟩
              have hS6 := hS5.read hR6 hg6
              clear hS5 hR6 hg6
              have cF := fun W => unfold_any (v : Int) W (by omega) hv
              have huI : I64 (unfold' (v : Int)) := by unfold unfold' I64; split <;> omega
              obtain ⟨u, hu⟩ : ∃ u, u = unfold' (v : Int) := ⟨_, rfl⟩
              have HUU := Lib.hid hu
              rw [← hu] at cF huI
              clear hu
              have cI := fun W => bound_Is u W
              go_wp2_with fail
              (with_reducible refine (cF _).mono ?_)
              clear cF
              rintro e w' ⟨rfl, rfl⟩
              by_cases hinf : u = 9223372036854775807
              · have q5 : (u == 9223372036854775807) = true := beq_iff_eq.2 hinf
                have HX := Lib.hid (show PP = .bad 194 by rw [HP3.out, HPS2.out, placeP_bad3 HU.out HVV.out (.inl (by rw [← HUU.out]; exact hinf))]; rfl)
                clear hinf cI huI
                go_wp2_with fail
                (with_reducible refine (cG _).mono ?_)
                rintro e w' ⟨rfl, rfl⟩
                have HG := Lib.hid hS6.grow
                go_wp2_with fail
                refine ⟨rfl, ?_⟩
                unfold TellsO
                rw [HX.out]
                exact ⟨rfl, HG.out⟩
              · have q5 : (u == 9223372036854775807) = false := beq_eq_false_iff_ne.2 hinf
                by_cases hib : isB u
                · have HX := Lib.hid (show PT = placesP n ps (k - i - 1) (nx + gp + 1) (putM (2 * n) M (pfst ps (nx + gp)) (psnd ps (nx + gp)) u) r2 by rw [HPS2.out, placeP_ok HU.out HVV.out (by rw [← HUU.out]; exact fun x => x.elim hinf (fun y => y hib)), ← HUU.out]; rfl)
                  have cB : ∀ W, Calls Try.prog 66 #[.int .i64 u] W fun e w' => e = .returned (.bool true) ∧ W = w' := fun W => by have := cI W; rwa [hib] at this
                  obtain ⟨hi1, hj1⟩ := HM.out (nx + gp) hgp
                  have hbS := hS6.grow
                  have hps6 := HPS.out w6 hbS
                  obtain ⟨gq, oq, hAp, hgq, hcq⟩ := hps6 (by omega)
                  obtain ⟨p0, p1⟩ := hcq (nx + gp) hgp
                  clear hcq hps6 hbS hib hinf cI
                  obtain ⟨ii, hii⟩ : ∃ ii, ii = pfst ps (nx + gp) := ⟨_, rfl⟩
                  obtain ⟨jj, hjj⟩ : ∃ jj, jj = psnd ps (nx + gp) := ⟨_, rfl⟩
                  rw [← hii] at p0 hi1 HX
                  rw [← hjj] at p1 hj1 HX
                  clear hii hjj
                  obtain ⟨A7, c7, hR7⟩ := hS6.rdr
                  have k1 := hR7.c1
                  rw [hAp] at k1
                  clear hAp
                  have cMi := fun W => pair_mirror ii jj W (by omega) (by omega)
                  have a0 := After.cell k1
                  have a1 := After.cell p0
                  have a2 := After.cell p1
                  have q6 : (0 : Int) ≤ ((nx : Int) - 1) + (1 + (gp : Int)) := by omega
                  have q7 : ((nx : Int) - 1) + (1 + (gp : Int)) < (ps.length : Int) := by omega
                  have q8 : (((nx : Int) - 1) + (1 + (gp : Int))).toNat = nx + gp := by omega
                  clear hR7
                  go_wp2_with fail
                  (with_reducible refine (cB _).mono ?_)
                  clear cB
                  rintro e w' ⟨rfl, rfl⟩
                  go_wp2_with fail
                  refine wp_region_after (by kernel_rfl) (by kernel_rfl) ?_
                  repeat (go_big_quiet_step ((go_at_call 51; with_reducible exact after_of (cMi _))))
                  refine wpQuiet_nil ?_
                  intro w7 hb7
                  have hS7 := hS6.go hb7
                  clear hb7 a0 a1 a2 k1 p0 p1 q6 q7 q8 cMi hS6
                  have i0 : ∀ (p q r s : Int) (W : World), (Instr.index /-T-/120 (.agg #[.int .i64 p, .int .i64 q, .int .i64 r, .int .i64 s]) (.int .i64 0)).run Try.prog W = .ok (.agg #[.int .i64 p, .int .i64 q]) W := fun _ _ _ _ _ => by kernel_rfl
                  have i1 : ∀ (p q r s : Int) (W : World), (Instr.index /-T-/120 (.agg #[.int .i64 p, .int .i64 q, .int .i64 r, .int .i64 s]) (.int .i64 1)).run Try.prog W = .ok (.agg #[.int .i64 r, .int .i64 s]) W := fun _ _ _ _ _ => by kernel_rfl
                  have hi2 := ac_lt hi1
                  have hj2 := ac_lt hj1
                  go_wp2_with fail
                  go_loopw [83] (fun s83 wq => ∃ q : Nat, s83 = .int .i64 q ∧ q ≤ 2 ∧ ∃ X : List Int, Hid ((q = 0 → X = M) ∧ (q = 1 → X = M.set (ii * (2 * n) + jj) u) ∧ (q = 2 → X = putM (2 * n) M ii jj u)) ∧ Hid (X.length = (2 * n) * (2 * n)) ∧ OSt w wq br B Ap cp ps.length n w.heap.size bo g X r2) (fun s _ => 2 - (intOf s).toNat)
                  case atStart => exact ⟨0, rfl, by omega, M, Lib.hid ⟨fun _ => rfl, fun h => by omega, fun h => by omega⟩, HML, hS7⟩
                  case round =>
                    clear hS7
                    obtain ⟨q, rfl, hq, X, HXQ, HXL, hSq⟩ := hrel
                    have hq3 : q = 0 ∨ q = 1 ∨ q = 2 := by omega
                    rcases hq3 with hq0 | hq1 | hq2
                    · have hpx : ii * (2 * n) + jj < X.length := by rw [HXL.out]; exact idx_lt hi1 hj1
                      have ei : 2 * (n : Int) * ((ii : Nat) : Int) = ((ii * (2 * n) : Nat) : Int) := by push_cast; rw [Int.mul_comm]
                      have hmm := Nat.mul_le_mul (show ii ≤ 128 by have := hi1; omega) (show 2 * n ≤ 128 by omega)
                      have hj128 : jj ≤ 128 := by have := hj1; omega
                      subst hq0
                      have HSET : Hid (X.set (ii * (2 * n) + jj) u = M.set (ii * (2 * n) + jj) u) := Lib.hid (by rw [HXQ.out.1 rfl])
                      have HSL := Lib.hid (show (X.set (ii * (2 * n) + jj) u).length = (2 * n) * (2 * n) by rw [List.length_set]; exact HXL.out)
                      have hb9 : Below wr.heap.size wr (wr.alloc (.cells #[.int .i64 ((ii : Nat) : Int), .int .i64 ((jj : Nat) : Int)] 84)) := (Below.refl _ _).alloc (Nat.le_refl _) _
                      have hbx := PrBox.new wr 84 ((ii : Nat) : Int) ((jj : Nat) : Int)
                      have hS9 := hSq.go hb9
                      obtain ⟨w9, hw9⟩ : ∃ w9, w9 = wr.alloc (.cells #[.int .i64 ((ii : Nat) : Int), .int .i64 ((jj : Nat) : Int)] 84) := ⟨_, rfl⟩
                      rw [← hw9] at hbx hS9
                      obtain ⟨j0, j1, _⟩ := id hbx
                      obtain ⟨d0, d1, d2⟩ := hS9.box.box
                      obtain ⟨A9, c9, hR9⟩ := hS9.rdr
                      have r2c := hR9.c2
                      have HS9 := Lib.hid hS9
                      clear hb9 hbx hSq hS9 hR9 cG
                      have a0 := After.cell j0
                      have a1 := After.cell j1
                      have a2 := After.cell d2
                      have a3 := After.cell r2c
                      generalize ii * (2 * n) = pp at *
                      generalize jj = jx at *
                      generalize ii = ix at *
                      go_upto_region 17 with fail
                      rw [← hw9]
                      clear hw9
                      refine wp_region_mix [(15, 1)] (by kernel_rfl) (by kernel_rfl) ?_
                      simp only [wpMix, List.take_succ_cons, List.take_zero, List.drop_succ_cons, List.drop_zero]
                      repeat (go_big_quiet_step (fail))
                      refine wpQuiet_nil ?_
                      intro w10 hb10
                      have hS10 := HS9.out.go hb10
                      have hc10 := hS10.row.cellAt hpx
                      have hf10 := hS10.row.frozenAt (pp + jx)
                      have HS11 := Lib.hid (hS10.set (pp + jx) u)
                      clear hb10 a0 a1 a2 a3 j0 j1 d0 d1 d2 r2c hS10
                      go_wp2_with fail
                      refine mixQ_normal (wpQuiet_nil ?_)
                      intro w11 hb11
                      have HS12 := Lib.hid (HS11.out.go hb11)
                      clear hb11 hc10 hf10
                      go_wp2_with fail
                      go_roundw
                      case rel => exact ⟨1, by go_num, by omega, X.set (pp + jx) u, Lib.hid ⟨fun h => by omega, fun h => HSET.out, fun h => by omega⟩, HSL, HS12.out⟩
                      case measure => simp [intOf]
                    · have hpx : ac jj * (2 * n) + ac ii < X.length := by rw [HXL.out]; exact idx_lt hj2 hi2
                      have ei : 2 * (n : Int) * ((ac jj : Nat) : Int) = ((ac jj * (2 * n) : Nat) : Int) := by push_cast; rw [Int.mul_comm]
                      have hmm := Nat.mul_le_mul (show ac jj ≤ 128 by have := hj2; omega) (show 2 * n ≤ 128 by omega)
                      have hj128 : ac ii ≤ 128 := by have := hi2; omega
                      subst hq1
                      have HSET : Hid (X.set (ac jj * (2 * n) + ac ii) u = putM (2 * n) M ii jj u) := Lib.hid (by rw [HXQ.out.2.1 rfl]; rfl)
                      have HSL := Lib.hid (show (X.set (ac jj * (2 * n) + ac ii) u).length = (2 * n) * (2 * n) by rw [List.length_set]; exact HXL.out)
                      have hb9 : Below wr.heap.size wr (wr.alloc (.cells #[.int .i64 ((ac jj : Nat) : Int), .int .i64 ((ac ii : Nat) : Int)] 84)) := (Below.refl _ _).alloc (Nat.le_refl _) _
                      have hbx := PrBox.new wr 84 ((ac jj : Nat) : Int) ((ac ii : Nat) : Int)
                      have hS9 := hSq.go hb9
                      obtain ⟨w9, hw9⟩ : ∃ w9, w9 = wr.alloc (.cells #[.int .i64 ((ac jj : Nat) : Int), .int .i64 ((ac ii : Nat) : Int)] 84) := ⟨_, rfl⟩
                      rw [← hw9] at hbx hS9
                      obtain ⟨j0, j1, _⟩ := id hbx
                      obtain ⟨d0, d1, d2⟩ := hS9.box.box
                      obtain ⟨A9, c9, hR9⟩ := hS9.rdr
                      have r2c := hR9.c2
                      have HS9 := Lib.hid hS9
                      clear hb9 hbx hSq hS9 hR9 cG
                      have a0 := After.cell j0
                      have a1 := After.cell j1
                      have a2 := After.cell d2
                      have a3 := After.cell r2c
                      generalize ac jj * (2 * n) = pp at *
                      generalize ac ii = jx at *
                      generalize ac jj = ix at *
                      go_upto_region 17 with fail
                      rw [← hw9]
                      clear hw9
                      refine wp_region_mix [(15, 1)] (by kernel_rfl) (by kernel_rfl) ?_
                      simp only [wpMix, List.take_succ_cons, List.take_zero, List.drop_succ_cons, List.drop_zero]
                      repeat (go_big_quiet_step (fail))
                      refine wpQuiet_nil ?_
                      intro w10 hb10
                      have hS10 := HS9.out.go hb10
                      have hc10 := hS10.row.cellAt hpx
                      have hf10 := hS10.row.frozenAt (pp + jx)
                      have HS11 := Lib.hid (hS10.set (pp + jx) u)
                      clear hb10 a0 a1 a2 a3 j0 j1 d0 d1 d2 r2c hS10
                      go_wp2_with fail
                      refine mixQ_normal (wpQuiet_nil ?_)
                      intro w11 hb11
                      have HS12 := Lib.hid (HS11.out.go hb11)
                      clear hb11 hc10 hf10
                      go_wp2_with fail
                      go_roundw
                      case rel => exact ⟨2, by go_num, by omega, X.set (pp + jx) u, Lib.hid ⟨fun h => by omega, fun h => by omega, fun h => HSET.out⟩, HSL, HS12.out⟩
                      case measure => simp [intOf]
                    · subst hq2
                      have hXX := HXQ.out.2.2 rfl
                      have HFIN := Lib.hid (show placesP n ps (k - (i + 1)) (nx + gp + 1) X r2 = PT by rw [HX.out, hXX, show k - (i + 1) = k - i - 1 by omega])
                      have HXI := Lib.hid (show ∀ x ∈ X, I64 x by rw [hXX]; exact putM_i64 HMI.out huI)
                      have HSQ := Lib.hid hSq
                      clear hXX hSq i0 i1
                      go_wp2_with fail
                      go_roundw
                      case rel => exact ⟨i + 1, by go_num, by omega, nx + gp + 1, by congr 1; push_cast; omega, by omega, X, r2, HFIN, HXL, HXI, HSQ.out⟩
                      case measure => simp [intOf]; omega
                · have HX := Lib.hid (show PP = .bad 194 by rw [HP3.out, HPS2.out, placeP_bad3 HU.out HVV.out (.inr (by rw [← HUU.out]; exact hib))]; rfl)
                  have cB : ∀ W, Calls Try.prog 66 #[.int .i64 u] W fun e w' => e = .returned (.bool false) ∧ W = w' := fun W => by have := cI W; rwa [show isB u = false by simpa using hib] at this
                  clear hib hinf cI huI
                  go_wp2_with fail
                  (with_reducible refine (cB _).mono ?_)
                  clear cB
                  rintro e w' ⟨rfl, rfl⟩
                  go_wp2_with fail
                  (with_reducible refine (cG _).mono ?_)
                  rintro e w' ⟨rfl, rfl⟩
                  have HG := Lib.hid hS6.grow
                  go_wp2_with fail
                  refine ⟨rfl, ?_⟩
                  unfold TellsO
                  rw [HX.out]
                  exact ⟨rfl, HG.out⟩
        · obtain rfl : i = k := by omega
          have q0 : decide (i < i) = false := by simp
          have HX := Lib.hid (show PP = .ok ⟨n, false, M⟩ r by rw [HP3.out, ← HPT.out, Nat.sub_self]; rfl)
          obtain ⟨d0, d1, d2⟩ := hS.box.box
          obtain ⟨⟨e0, e1, e2⟩, ef⟩ := id hS.res
          have f0 := ef 0
          have f1 := ef 1
          have f2 := ef 2
          clear hge hi HPT
          go_wp2_with fail
          obtain ⟨hput, hpg⟩ := hS.res.put n false (.slice (some ⟨g, 0, none⟩) M.length M.length)
          obtain ⟨⟨s0, s1, s2⟩, _⟩ := id hput
          have HR : Hid (∃ A c, Rdr _ br B A c r Ap cp ps.length n) := Lib.hid (by obtain ⟨A9, c9, hR9⟩ := hS.rdr; exact ⟨A9, c9, hR9.only hpg (by omega) (by have := hR9.hB; omega)⟩)
          have HG := Lib.hid (grown_of_new hS.grow hpg (Nat.le_refl _))
          have HO := Lib.hid (hS.row.other' hpg (by have := hS.lt3; omega))
          refine bodyPost_ret (v := .agg #[.int .i64 n, .bool false, .slice (some ⟨g, 0, none⟩) M.length M.length]) (by simp [results, Try.results74, go_sem, s0, s1, s2]) rfl ?_
          unfold TellsO
          rw [HX.out]
          exact ⟨⟨_, _, rfl, HO.out⟩, HMI.out, HR.out, HG.out⟩
end Go.Proofs.Ytghpiofjejhegaa

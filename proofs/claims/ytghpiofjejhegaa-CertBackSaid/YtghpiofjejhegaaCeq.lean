/- The walks of cert.reader: take, number, upTo. -/
import Derived.Test.YtghpiofjejhegaaCep
import Derived.Test.YtghpiofjejhegaaCodL
import Derived.WalkLawsBesides
namespace Go.Proofs.Ytghpiofjejhegaa
open Go.RowKit
set_option linter.unusedVariables false
set_option linter.unusedSimpArgs false
open Gn
/-- What a reader gives up with. -/
def gv (e : Int) : List PanicEntry := [{ v := .iface 90 (.agg #[.int .i64 e]), recovered := false }]
/-- A reader in memory. -/
structure Rdr (w : World) (br B : Nat) (A : Option Addr) (c : Nat) (b : List Int) (Ap : Option Addr) (cp np : Nat) (n : Int) : Prop where
  c0 : w.cell? ⟨br, 0, none⟩ = some (.slice A b.length c)
  c1 : w.cell? ⟨br, 1, none⟩ = some (.slice Ap np cp)
  c2 : w.cell? ⟨br, 2, none⟩ = some (.int .i64 n)
  fz : ∀ i, w.frozen? ⟨br, i, none⟩ = false
  rd : Rd w B .u8 A b.length (nth b)
  hB : B ≤ br
  bts : Bts b
  le : b.length ≤ c
  max : c ≤ maxLen
  len : b.length ≤ 4194304
theorem Rdr.lt {w : World} {br B : Nat} {A : Option Addr} {c : Nat} {b : List Int} {Ap : Option Addr} {cp np : Nat} {n : Int} (h : Rdr w br B A c b Ap cp np n) : br < w.heap.size := World.block_lt_of_cell? w ⟨br, 0, none⟩ h.c0
theorem Rdr.go {w w' : World} {br B : Nat} {A : Option Addr} {c : Nat} {b : List Int} {Ap : Option Addr} {cp np : Nat} {n : Int} (h : Rdr w br B A c b Ap cp np n) (hb : Below w.heap.size w w') : Rdr w' br B A c b Ap cp np n :=
  ⟨below_cell hb h.c0, below_cell hb h.c1, below_cell hb h.c2, fun i => (hb.frozen (p := ⟨br, i, none⟩) h.lt).trans (h.fz i), h.rd.below (hb.mono (by have := h.lt; have := h.hB; omega)), h.hB, h.bts, h.le, h.max, h.len⟩
/-- The reader's bytes cut. -/
theorem Rdr.cut {w : World} {br B g off c : Nat} {b : List Int} {Ap : Option Addr} {cp np : Nat} {n : Int} (h : Rdr w br B (some ⟨g, off, none⟩) c b Ap cp np n) {k : Nat} (hk : k ≤ b.length) :
    Rdr (w.setCell ⟨br, 0, none⟩ (.slice (if c = k then some ⟨g, off, none⟩ else some ⟨g, off + k, none⟩) (b.length - k) (c - k))) br B (if c = k then some ⟨g, off, none⟩ else some ⟨g, off + k, none⟩) (c - k) (b.drop k) Ap cp np n := by
  have hr := (h.rd.cutList hk h.le).setCell (p := ⟨br, 0, none⟩) h.hB (.slice (if c = k then some ⟨g, off, none⟩ else some ⟨g, off + k, none⟩) (b.length - k) (c - k))
  obtain ⟨c0, c1, c2, fz, rd, hB, bts, le, max, len⟩ := h
  refine ⟨by rw [List.length_drop]; simp [go_sem, c0], by simp [go_sem, c1], by simp [go_sem, c2], fun i => by simp [go_sem, fz], hr, hB, fun x hx => bts x (List.mem_of_mem_drop hx), by rw [List.length_drop]; omega, by omega, by rw [List.length_drop]; omega⟩
theorem reader_gives (p : Value) (x : Int) (w : World) : Calls Try.prog 72 #[p, .int .i64 x] w fun e w' => e = .panicked (gv x) ∧ w = w' := by
  go_enter Try.func72, Try.ntmps72
  go_wp2_with fail
  exact ⟨rfl, rfl, rfl⟩
theorem reader_take_short (br B : Nat) (A : Option Addr) (c : Nat) (b : List Int) (Ap : Option Addr) (cp np : Nat) (n : Int) (k : Nat) (w : World) (h : Rdr w br B A c b Ap cp np n) (hk : b.length < k) (hk2 : k ≤ 1000000) :
    Calls Try.prog 71 #[.pointer (some ⟨br, 0, none⟩), .int .i64 k] w fun e w' => e = .panicked (gv 192) ∧ w = w' := by
  have k0 := h.c0
  have q0 : decide (b.length < k) = true := decide_eq_true hk
  have cG := fun W => reader_gives (.pointer (some ⟨br, 0, none⟩)) 192 W
  clear h
  go_enter Try.func71, Try.ntmps71
  go_wp2_with fail
  (with_reducible refine (cG _).mono ?_)
  rintro e w' ⟨rfl, rfl⟩
  go_wp2_with fail
  exact ⟨rfl, rfl, rfl⟩
/-- What the reader's methods answer. -/
def TellsR {α : Type} (w : World) (br B : Nat) (Ap : Option Addr) (cp np : Nat) (n : Int) (P : PR α) (val : α → Value) (e : Ending) (w' : World) : Prop :=
  match P with
  | .bad x => e = .panicked (gv x) ∧ w.grownBy w' (some br)
  | .ok v r => e = .returned (val v) ∧ (∃ A c, Rdr w' br B A c r Ap cp np n) ∧ w.grownBy w' (some br)
theorem reader_take (br B : Nat) (A : Option Addr) (c : Nat) (b : List Int) (Ap : Option Addr) (cp np : Nat) (n : Int) (k : Nat) (w : World) (h : Rdr w br B A c b Ap cp np n) (hk : k ≤ b.length) (hk1 : 1 ≤ k) :
    Calls Try.prog 71 #[.pointer (some ⟨br, 0, none⟩), .int .i64 k] w fun e w' => e = .returned (.slice A k c) ∧ (∃ A' c', Rdr w' br B A' c' (b.drop k) Ap cp np n) ∧ w.grownBy w' (some br) := by
  obtain ⟨g, off, rfl, hg, hcell⟩ := h.rd (by omega)
  have hcut := h.cut hk
  have hgr : w.grownBy (w.setCell ⟨br, 0, none⟩ (.slice (if c = k then some ⟨g, off, none⟩ else some ⟨g, off + k, none⟩) (b.length - k) (c - k))) (some br) := only_setCell (World.grownBy.refl w (some br)) (.inl rfl) _
  obtain ⟨c0, c1, c2, fz, rd, hB, bts, le, max, len⟩ := h
  have f0 := fz 0
  have q0 : decide (b.length < k) = false := decide_eq_false (by omega)
  have q1 : (0 : Int) ≤ (k : Int) := by omega
  have q2 : (k : Int) ≤ (c : Int) := by omega
  have q3 : (k : Int) ≤ (b.length : Int) := by omega
  have q4 : (b.length : Int) ≤ (c : Int) := by omega
  have q5 : (c : Int) ≤ 9223372036854775807 := by unfold maxLen at max; omega
  by_cases hck : c = k
  · subst hck
    have e0 : b.length - c = 0 := by omega
    rw [if_pos rfl, Nat.sub_self, e0] at hcut hgr
    have HC := Lib.hid hcut
    have HG := Lib.hid hgr
    clear hcut hgr rd hcell bts
    go_enter Try.func71, Try.ntmps71
    go_wp2_with fail
    go_ret
    exact ⟨rfl, ⟨_, _, HC.out⟩, HG.out⟩
  · rw [if_neg hck] at hcut hgr
    have HC := Lib.hid hcut
    have HG := Lib.hid hgr
    clear hcut hgr rd hcell bts
    go_enter Try.func71, Try.ntmps71
    go_wp2_with fail
    go_ret
    exact ⟨rfl, ⟨_, _, HC.out⟩, HG.out⟩
theorem reader_number (br B : Nat) (A : Option Addr) (c : Nat) (b : List Int) (Ap : Option Addr) (cp np : Nat) (n : Int) (w : World) (h : Rdr w br B A c b Ap cp np n) :
    Calls Try.prog 79 #[.pointer (some ⟨br, 0, none⟩)] w (TellsR w br B Ap cp np n (numberP b) fun v : Nat => .int .u64 v) := by
  have hl := h.len
  have cT := code_Take A c b w h.bts (h.rd.more (by have := h.hB; have := h.lt; omega)) (by omega)
  have c0 := h.c0
  have cG1 := fun W => reader_gives (.pointer (some ⟨br, 0, none⟩)) 192 W
  have cG2 := fun W => reader_gives (.pointer (some ⟨br, 0, none⟩)) 193 W
  rcases take_err_or b with he | he | he
  · have hcnt := take_cnt h.bts he
    have HP := Lib.hid (show numberP b = .ok (take b).1 (b.drop (take b).2.1) by unfold numberP; rw [if_neg (by rw [he]; decide), if_neg (by rw [he]; decide)])
    have cK := reader_take br B A c b Ap cp np n (take b).2.1 w h hcnt.2.1 hcnt.1
    rw [he] at cT
    generalize (take b).1 = v at *
    generalize (take b).2.1 = k at *
    clear he h
    go_enter Try.func79, Try.ntmps79
    go_wp2_with fail
    (with_reducible refine cT.mono ?_)
    rintro e w' ⟨rfl, rfl⟩
    clear cT
    go_wp2_with fail
    (with_reducible refine cK.mono ?_)
    clear cK c0
    rintro e w2 ⟨rfl, ⟨A', c', hR⟩, hg⟩
    have HR := Lib.hid hR
    have HG := Lib.hid hg
    clear hR hg
    go_wp2_with fail
    go_ret
    unfold TellsR
    rw [HP.out]
    exact ⟨rfl, ⟨_, _, HR.out⟩, HG.out⟩
  · have HP := Lib.hid (show numberP b = .bad 192 by unfold numberP; rw [he]; rfl)
    rw [he] at cT
    clear he h
    go_enter Try.func79, Try.ntmps79
    go_wp2_with fail
    (with_reducible refine cT.mono ?_)
    rintro e w' ⟨rfl, rfl⟩
    clear cT
    go_wp2_with fail
    (with_reducible refine (cG1 _).mono ?_)
    rintro e w' ⟨rfl, rfl⟩
    go_wp2_with fail
    refine ⟨rfl, ?_⟩
    unfold TellsR
    rw [HP.out]
    exact ⟨rfl, World.grownBy.refl w _⟩
  · have HP := Lib.hid (show numberP b = .bad 193 by unfold numberP; rw [he]; rfl)
    rw [he] at cT
    clear he h
    go_enter Try.func79, Try.ntmps79
    go_wp2_with fail
    (with_reducible refine cT.mono ?_)
    rintro e w' ⟨rfl, rfl⟩
    clear cT
    go_wp2_with fail
    (with_reducible refine (cG2 _).mono ?_)
    rintro e w' ⟨rfl, rfl⟩
    go_wp2_with fail
    refine ⟨rfl, ?_⟩
    unfold TellsR
    rw [HP.out]
    exact ⟨rfl, World.grownBy.refl w _⟩
/-- Two answers one after the other. -/
theorem grown_trans {w w' w'' : World} {row : Option Nat} (h : w.grownBy w' row) (h' : w'.grownBy w'' row) : w.grownBy w'' row :=
  ⟨h'.os.trans h.os, h'.tape.trans h.tape, h'.output.trans h.output, Nat.le_trans h.size h'.size, fun k hk hne => (h'.block k (Nat.lt_of_lt_of_le hk h.size) hne).trans (h.block k hk hne)⟩
theorem reader_upTo (br B : Nat) (A : Option Addr) (c : Nat) (b : List Int) (Ap : Option Addr) (cp np : Nat) (n : Int) (lo hi : Int) (w : World) (h : Rdr w br B A c b Ap cp np n) (hlo : 0 ≤ lo ∧ lo ≤ 1000000) (hhi : -1000000 ≤ hi ∧ hi ≤ 1000000) :
    Calls Try.prog 73 #[.pointer (some ⟨br, 0, none⟩), .int .i64 lo, .int .i64 hi] w (TellsR w br B Ap cp np n (upToP lo hi b) fun v : Nat => .int .i64 v) := by
  have cN := reader_number br B A c b Ap cp np n w h
  have cG := fun W => reader_gives (.pointer (some ⟨br, 0, none⟩)) 194 W
  have HU : Hid (upToP lo hi b = match numberP b with | .bad e => .bad e | .ok n r => if hi < lo ∨ (n : Int) < lo ∨ hi < (n : Int) then .bad 194 else .ok n r) := Lib.hid rfl
  generalize upToP lo hi b = U at *
  obtain ⟨hlo0, hlo1⟩ := hlo
  obtain ⟨hhi0, hhi1⟩ := hhi
  cases hP : numberP b with
  | bad x =>
    rw [hP] at cN HU
    clear hP h
    go_enter Try.func73, Try.ntmps73
    go_wp2_with fail
    (with_reducible refine cN.mono ?_)
    clear cN
    rintro e w2 ⟨rfl, hg⟩
    go_wp2_with fail
    refine ⟨rfl, ?_⟩
    unfold TellsR
    rw [HU.out]
    exact ⟨rfl, hg⟩
  | ok v r =>
    rw [hP] at cN HU
    clear hP h
    by_cases h1 : hi < lo
    · have q1 : decide (hi < lo) = true := decide_eq_true h1
      have HX := Lib.hid (show U = .bad 194 by rw [HU.out]; exact if_pos (.inl h1))
      clear h1
      go_enter Try.func73, Try.ntmps73
      go_wp2_with fail
      (with_reducible refine cN.mono ?_)
      clear cN
      rintro e w2 ⟨rfl, hR, hg⟩
      have HG := Lib.hid hg
      clear hg hR
      go_wp2_with fail
      (with_reducible refine (cG _).mono ?_)
      rintro e w' ⟨rfl, rfl⟩
      go_wp2_with fail
      refine ⟨rfl, ?_⟩
      unfold TellsR
      rw [HX.out]
      exact ⟨rfl, HG.out⟩
    have q1 : decide (hi < lo) = false := decide_eq_false h1
    have b1 : 0 ≤ hi := by omega
    by_cases h2 : (v : Int) < lo
    · have q2 : decide ((v : Int) < lo) = true := decide_eq_true h2
      have HX := Lib.hid (show U = .bad 194 by rw [HU.out]; exact if_pos (.inr (.inl h2)))
      clear h1 h2
      go_enter Try.func73, Try.ntmps73
      go_wp2_with fail
      (with_reducible refine cN.mono ?_)
      clear cN
      rintro e w2 ⟨rfl, hR, hg⟩
      have HG := Lib.hid hg
      clear hg hR
      go_wp2_with fail
      (with_reducible refine (cG _).mono ?_)
      rintro e w' ⟨rfl, rfl⟩
      go_wp2_with fail
      refine ⟨rfl, ?_⟩
      unfold TellsR
      rw [HX.out]
      exact ⟨rfl, HG.out⟩
    have q2 : decide ((v : Int) < lo) = false := decide_eq_false h2
    by_cases h3 : hi < (v : Int)
    · have q3 : decide (hi < (v : Int)) = true := decide_eq_true h3
      have HX := Lib.hid (show U = .bad 194 by rw [HU.out]; exact if_pos (.inr (.inr h3)))
      clear h1 h2 h3
      go_enter Try.func73, Try.ntmps73
      go_wp2_with fail
      (with_reducible refine cN.mono ?_)
      clear cN
      rintro e w2 ⟨rfl, hR, hg⟩
      have HG := Lib.hid hg
      clear hg hR
      go_wp2_with fail
      (with_reducible refine (cG _).mono ?_)
      rintro e w' ⟨rfl, rfl⟩
      go_wp2_with fail
      refine ⟨rfl, ?_⟩
      unfold TellsR
      rw [HX.out]
      exact ⟨rfl, HG.out⟩
    have q3 : decide (hi < (v : Int)) = false := decide_eq_false h3
    have HX := Lib.hid (show U = .ok v r by rw [HU.out]; exact if_neg (by omega))
    have b2 : (v : Int) ≤ 1000000 := by omega
    clear h1 h2 h3
    go_enter Try.func73, Try.ntmps73
    go_wp2_with fail
    (with_reducible refine cN.mono ?_)
    clear cN
    rintro e w2 ⟨rfl, hR, hg⟩
    have HG := Lib.hid hg
    have HR := Lib.hid hR
    clear hg hR
    go_wp2_with fail
    go_ret
    unfold TellsR
    rw [HX.out]
    exact ⟨rfl, HR.out, HG.out⟩
end Go.Proofs.Ytghpiofjejhegaa

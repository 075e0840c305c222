/- The walks of slices.Equal of bytes and cert.reader's cert. -/
import Derived.Test.YtghpiofjejhegaaCer
import Derived.Test.YtghpiofjejhegaaGro
namespace Go.Proofs.Ytghpiofjejhegaa
open Go.RowKit
set_option linter.unusedVariables false
set_option linter.unusedSimpArgs false
open Gn
set_option maxHeartbeats 1000000 in
theorem slices_EqualU8 (A A' : Option Addr) (c c' : Nat) (xs ys : List Int) (w : World) (hx : Rd w w.heap.size .u8 A xs.length (nth xs)) (hy : Rd w w.heap.size .u8 A' ys.length (nth ys)) (hm : (xs.length : Int) ≤ 9223372036854775807) (hm' : (ys.length : Int) ≤ 9223372036854775807) :
    Calls Try.prog 70 #[.slice A xs.length c, .slice A' ys.length c'] w fun e w' => e = .returned (.bool (decide (xs = ys))) ∧ Below w.heap.size w w' := by
  by_cases hl : xs.length = ys.length
  · have hl' : ((xs.length : Int) != ys.length) = false := bne_eq_false_iff_eq.2 (by omega)
    have HL := Lib.hid hl
    clear hl
    go_enter Try.func70, Try.ntmps70
    go_wp2_with fail
    go_loopw [13] (fun s wr => ∃ i : Nat, s = .int .i64 i ∧ i ≤ xs.length ∧ (∀ k, k < i → nth xs k = nth ys k) ∧ Below w.heap.size w wr) (fun s _ => xs.length - (intOf s).toNat)
    case atStart => exact ⟨0, rfl, by omega, fun _ h => absurd h (by omega), Below.refl _ _⟩
    case round =>
      obtain ⟨i, rfl, hi, hk, hB⟩ := hrel
      rename_i wr _
      have HK := Lib.hid hk
      clear hk
      rcases Nat.lt_or_ge i xs.length with hlt | hge
      · have hlt2 : i < ys.length := by rw [← HL.out]; exact hlt
        have hxr := hx.below hB
        have hyr := hy.below hB
        obtain ⟨g, off, rfl, hg, hc⟩ := hxr (by omega)
        obtain ⟨g', off', rfl, hg', hc'⟩ := hyr (by omega)
        have k1 := hc i hlt
        have k2 := hc' i hlt2
        obtain ⟨v, hv0⟩ : ∃ v, v = nth xs i := ⟨_, rfl⟩
        obtain ⟨v', hv1⟩ : ∃ v, v = nth ys i := ⟨_, rfl⟩
        rw [← hv0] at k1
        rw [← hv1] at k2
        have HX := Lib.hid (show (v = v' → nth xs i = nth ys i) ∧ (v ≠ v' → xs ≠ ys) from ⟨fun h => by rw [← hv0, ← hv1, h], fun h e => h (by rw [hv0, hv1, e])⟩)
        clear hv0 hv1
        clear hx hy hxr hyr hc hc'
        have a1 := After.cell k1
        have a2 := After.cell k2
        have q1 : (i : Int) < (xs.length : Int) := by omega
        have q2 : (i : Int) < (ys.length : Int) := by omega
        have q3 : (0 : Int) ≤ (i : Int) := by omega
        have HB := Lib.hid hB
        clear hB
        by_cases hv : v = v'
        · have hb : (v != v') = false := bne_eq_false_iff_eq.2 hv
          have HV := Lib.hid hv
          clear hv
          go_wp2_with fail
          refine wp_region_after (by kernel_rfl) (by kernel_rfl) ?_
          repeat (go_big_quiet_step (fail))
          refine wpQuiet_nil ?_
          intro w2 hb2
          have HB2 := Lib.hid (HB.out.trans (hb2.mono HB.out.size))
          clear hb2 a1 a2
          go_wp2_with fail
          go_roundw
          case rel => exact ⟨i + 1, by go_num, by omega, fun k h => by
            rcases Nat.lt_or_ge k i with h1 | h1
            · exact HK.out k h1
            · obtain rfl : k = i := by omega
              exact HX.out.1 HV.out, HB2.out⟩
          case measure => simp [intOf]; omega
        · have hb : (v != v') = true := bne_iff_ne.2 hv
          have HV := Lib.hid hv
          clear hv
          go_wp2_with fail
          refine wp_region_after (by kernel_rfl) (by kernel_rfl) ?_
          repeat (go_big_quiet_step (fail))
          refine wpQuiet_nil ?_
          intro w2 hb2
          have HB2 := Lib.hid (HB.out.trans (hb2.mono HB.out.size))
          clear hb2 a1 a2
          go_wp2_with fail
          go_ret
          rw [show decide (xs = ys) = false from decide_eq_false (HX.out.2 HV.out)]
          exact ⟨rfl, HB2.out⟩
      · have e : xs = ys := list_eq_nth HL.out (fun k h => HK.out k (by omega))
        have hd : decide (xs = ys) = true := decide_eq_true e
        have HD := Lib.hid hd
        clear e hd
        go_wp2_with fail
        go_ret
        rw [HD.out]
        exact ⟨rfl, hB⟩
  · have hl' : ((xs.length : Int) != ys.length) = true := bne_iff_ne.2 (by omega)
    rw [show decide (xs = ys) = false from decide_eq_false (fun h => hl (by rw [h]))]
    clear hl
    go_enter Try.func70, Try.ntmps70
    go_wp2_with fail
    go_ret
    exact ⟨rfl, Below.refl _ _⟩
namespace Gn
theorem digN_snoc (b : List Int) (x : Int) : digN (b ++ [x]) = digN b * 256 + x := by unfold digN; rw [List.foldl_append]; rfl
theorem digN_rng {b : List Int} (hb : Bts b) : ∀ k, k ≤ 8 → 0 ≤ digN (b.take k) ∧ digN (b.take k) < 256 ^ k := by
  intro k
  induction k with
  | zero => intro _; simp [digN]
  | succ k ih =>
    intro hk
    obtain ⟨h0, h1⟩ := ih (by omega)
    by_cases h : k < b.length
    · rw [take_nth h, digN_snoc]
      obtain ⟨x0, x1⟩ := hb _ (nth_mem h)
      generalize digN (b.take k) = d at *
      rw [Int.pow_succ]
      omega
    · have e : b.take (k + 1) = b.take k := by rw [List.take_of_length_le (by omega), List.take_of_length_le (by omega)]
      rw [e]
      refine ⟨h0, ?_⟩
      generalize digN (b.take k) = d at *
      rw [Int.pow_succ]
      omega
theorem shl_or {d x : Int} (hd : 0 ≤ d) (hd2 : d < 256 ^ 7) (hx0 : 0 ≤ x) (hx : x ≤ 255) : bits .or .u64 (d * 256) x = d * 256 + x := by
  obtain ⟨m, rfl⟩ := Int.eq_ofNat_of_zero_le hd
  obtain ⟨y, rfl⟩ := Int.eq_ofNat_of_zero_le hx0
  have e : (m : Int) * 256 = ((2 ^ 8 * m : Nat) : Int) := by rw [Int.mul_comm]; exact (Int.natCast_mul 256 m).symm
  rw [e, u64_or_nat _ _ (by omega) (by omega), ← Nat.two_pow_add_eq_or_of_lt (show y < 2 ^ 8 by omega)]
  exact Int.natCast_add _ _
end Gn
/-- What a certificate's reader tells. -/
def TellsC (w : World) (br : Nat) (P : PR (Int × Int × List OC)) (e : Ending) (w' : World) : Prop :=
  match P with
  | .bad x => e = .panicked (gv x) ∧ w.grownBy w' (some br)
  | .ok v _ => (∃ Ao co, ∃ rs : List OR, e = .returned (.agg #[.int .u64 v.1, .int .i64 v.2.1, .slice Ao rs.length co]) ∧ GOcts w' w.heap.size Ao co rs ∧ rs.map OR.oc = v.2.2) ∧ w.grownBy w' (some br)
theorem CertBox.only {w w' : World} {b g : Nat} {D N : Int} {v : Value} (h : CertBox w b D N v) (hg : w.grownBy w' (some g)) (hne : b ≠ g) : CertBox w' b D N v :=
  ⟨⟨only_cell hg h.at'.c0 hne, only_cell hg h.at'.c1 hne, only_cell hg h.at'.c2 hne⟩, fun i => only_frozen hg (h.fz i) h.at'.lt hne⟩
theorem CertBox.setD {w : World} {b : Nat} {D N : Int} {v : Value} (h : CertBox w b D N v) (D' : Int) : CertBox (w.setCell ⟨b, 0, none⟩ (.int .u64 D')) b D' N v := by
  obtain ⟨⟨c0, c1, c2⟩, fz⟩ := h
  exact ⟨⟨by simp [go_sem, c0], by simp [go_sem, c1], by simp [go_sem, c2]⟩, fun i => by simp [go_sem, fz]⟩
theorem CertBox.setN {w : World} {b : Nat} {D N : Int} {v : Value} (h : CertBox w b D N v) (N' : Int) : CertBox (w.setCell ⟨b, 1, none⟩ (.int .i64 N')) b D N' v := by
  obtain ⟨⟨c0, c1, c2⟩, fz⟩ := h
  exact ⟨⟨by simp [go_sem, c0], by simp [go_sem, c1], by simp [go_sem, c2]⟩, fun i => by simp [go_sem, fz]⟩
theorem rd_back {w w' : World} {B br n : Nat} {k : IntKind} {A : Option Addr} {f : Nat → Int} (h : Rd w' B k A n f) (hg : w.grownBy w' (some br)) (hB : B ≤ br) (hl : br < w.heap.size) : Rd w B k A n f := fun hn => by
  obtain ⟨b0, off, e, hb, hc⟩ := h hn
  refine ⟨b0, off, e, hb, fun i hi => ?_⟩
  rw [← hc i hi]
  exact (World.cell?_of_block (a := ⟨b0, off + i, none⟩) (hg.block b0 (by omega) (fun e => by injection e with e; omega))).symm
theorem rd_only {w w' : World} {B br n : Nat} {k : IntKind} {A : Option Addr} {f : Nat → Int} (h : Rd w B k A n f) (hg : w.grownBy w' (some br)) (hB : B ≤ br) : Rd w' B k A n f := fun hn => by
  obtain ⟨b0, off, e, hb, hc⟩ := h hn
  exact ⟨b0, off, e, hb, fun i hi => only_cell hg (hc i hi) (by simp; omega)⟩
/-- A certificate under way. -/
structure CS (w wr : World) (br B : Nat) (Ap : Option Addr) (cp np : Nat) (n : Int) (bR bc : Nat) (D N : Int) (v : Value) (r : List Int) : Prop where
  rdr : ∃ A c, Rdr wr br B A c r Ap cp np n
  c : CertBox wr bc D N v
  res : CertBox wr bR 0 0 (.slice none 0 0)
  grow : w.grownBy wr (some br)
  lt : br < w.heap.size
  lt2 : w.heap.size ≤ bR
  lt3 : bR < bc
theorem CS.go {w wr w' : World} {br B : Nat} {Ap : Option Addr} {cp np : Nat} {n : Int} {bR bc : Nat} {D N : Int} {v : Value} {r : List Int} (h : CS w wr br B Ap cp np n bR bc D N v r) (hb : Below wr.heap.size wr w') : CS w w' br B Ap cp np n bR bc D N v r :=
  ⟨by obtain ⟨A, c, hr⟩ := h.rdr; exact ⟨A, c, hr.go hb⟩, h.c.go hb, h.res.go hb, only_below h.grow hb, h.lt, h.lt2, h.lt3⟩
theorem CS.read {w wr w' : World} {br B : Nat} {Ap : Option Addr} {cp np : Nat} {n : Int} {bR bc : Nat} {D N : Int} {v : Value} {r r' : List Int} (h : CS w wr br B Ap cp np n bR bc D N v r) (hr : ∃ A c, Rdr w' br B A c r' Ap cp np n) (hg : wr.grownBy w' (some br)) : CS w w' br B Ap cp np n bR bc D N v r' :=
  ⟨hr, h.c.only hg (by have := h.lt; have := h.lt2; have := h.lt3; omega), h.res.only hg (by have := h.lt; have := h.lt2; omega), grown_trans h.grow hg, h.lt, h.lt2, h.lt3⟩
/-- A store into the certificate's variable. -/
theorem CS.put {w wr : World} {br B : Nat} {Ap : Option Addr} {cp np : Nat} {n : Int} {bR bc : Nat} {D N D' N' : Int} {v v' : Value} {r : List Int} (h : CS w wr br B Ap cp np n bR bc D N v r) {i : Nat} {u : Value} (hc : CertBox (wr.setCell ⟨bc, i, none⟩ u) bc D' N' v') : CS w (wr.setCell ⟨bc, i, none⟩ u) br B Ap cp np n bR bc D' N' v' r := by
  have hg := only_setCell (p := ⟨bc, i, none⟩) (World.grownBy.refl wr (some bc)) (.inl rfl) u
  have h1 := h.lt
  have h2 := h.lt2
  have h3 := h.lt3
  refine ⟨?_, hc, h.res.only hg (by omega), grown_of_new h.grow hg (by omega), h1, h2, h3⟩
  obtain ⟨A, c, hr⟩ := h.rdr
  exact ⟨A, c, hr.only hg (by omega) (by have := hr.hB; omega)⟩
theorem Rdr.setup {w : World} {br B : Nat} {A : Option Addr} {c : Nat} {b : List Int} {Ap : Option Addr} {cp np : Nat} {n : Int} (h : Rdr w br B A c b Ap cp np n) (n' : Int) (Ap' : Option Addr) (cp' np' : Nat) :
    Rdr ((w.setCell ⟨br, 2, none⟩ (.int .i64 n')).setCell ⟨br, 1, none⟩ (.slice Ap' np' cp')) br B A c b Ap' cp' np' n' := by
  have hr := (h.rd.setCell (p := ⟨br, 2, none⟩) h.hB (.int .i64 n')).setCell (p := ⟨br, 1, none⟩) h.hB (.slice Ap' np' cp')
  obtain ⟨c0, c1, c2, fz, rd, hB, bts, le, max, len⟩ := h
  exact ⟨by simp [go_sem, c0], by simp [go_sem, c1], by simp [go_sem, c2], fun i => by simp [go_sem, fz], hr, hB, bts, le, max, len⟩
theorem own_read {w w' : World} {base size n br : Nat} {e : TypeId} {v : Value} {vs : List Value} (h : w.ownsRow base e size v n vs) (hg : w.grownBy w' (some br)) (hb : br < base) : w'.ownsRow base e size v n vs :=
  h.kept hg (by
    cases hv : v.ownBlock with
    | none => exact .inl rfl
    | some g => exact .inr (fun e => by have := (h.lt g hv).1; injection e with e; omega))
theorem GOcts.read {w w' : World} {base br : Nat} {A : Option Addr} {c : Nat} {rs : List OR} (h : GOcts w base A c rs) (hg : w.grownBy w' (some br)) (hb : br < base) : GOcts w' base A c rs :=
  ⟨own_read h.row hg hb, fun r hr => ⟨(h.each r hr).1, (h.each r hr).2.1, own_read (ow_is_row (h.each r hr).2.2) hg hb⟩⟩
theorem CS.low {w wr w' : World} {br B base : Nat} {Ap : Option Addr} {cp np : Nat} {n : Int} {bR bc : Nat} {D N : Int} {v : Value} {r : List Int} (h : CS w wr br B Ap cp np n bR bc D N v r) (hb : Below base wr w') (hl : bc < base) : CS w w' br B Ap cp np n bR bc D N v r := by
  have h1 := h.lt
  have h2 := h.lt2
  have h3 := h.lt3
  have gg := h.grow
  refine ⟨?_, h.c.low hb hl, h.res.low hb (by omega), ⟨hb.os.trans gg.os, hb.tape.trans gg.tape, hb.output.trans gg.output, Nat.le_trans gg.size hb.size, fun k hk hne => (hb.block k (by omega)).trans (gg.block k hk hne)⟩, h1, h2, h3⟩
  obtain ⟨A, c, hr⟩ := h.rdr
  obtain ⟨c0, c1, c2, fz, rd, hB, bts, le, max, len⟩ := hr
  exact ⟨A, c, (hb.cell (p := ⟨br, 0, none⟩) (by simp only; omega)).trans c0, (hb.cell (p := ⟨br, 1, none⟩) (by simp only; omega)).trans c1, (hb.cell (p := ⟨br, 2, none⟩) (by simp only; omega)).trans c2, fun i => (hb.frozen (p := ⟨br, i, none⟩) (by simp only; omega)).trans (fz i), rd.below (hb.mono (by omega)), hB, bts, le, max, len⟩
set_option maxRecDepth 100000 in
set_option maxHeartbeats 4000000 in
theorem reader_cert (br B : Nat) (A : Option Addr) (c : Nat) (b : List Int) (w : World) (h : Rdr w br B A c b none 0 0 0) :
    Calls Try.prog 58 #[.pointer (some ⟨br, 0, none⟩)] w (TellsC w br (certP b)) := by
  have hres := CertBox.new w 40 0 0 (.slice none 0 0)
  have hb1 : Below w.heap.size w (w.alloc (.cells #[.int .u64 0, .int .i64 0, .slice none 0 0] 40)) := (Below.refl _ _).alloc (Nat.le_refl _) _
  obtain ⟨w1, hw1⟩ : ∃ w1, w1 = w.alloc (.cells #[.int .u64 0, .int .i64 0, .slice none 0 0] 40) := ⟨_, rfl⟩
  rw [← hw1] at hres hb1
  have h1 := h.go hb1
  have hlt := h.lt
  have HB1 := Lib.hid (only_of_below hb1 (some br))
  obtain ⟨PP, hPP⟩ : ∃ PP, PP = certP b := ⟨_, rfl⟩
  rw [← hPP]
  have HPP := Lib.hid hPP
  clear h hb1 hPP
  go_enter Try.func58, Try.ntmps58
  go_wp2_with fail
  rw [← hw1]
  clear hw1
  (with_reducible refine (cert_magic _).mono ?_)
  rintro e w2 ⟨rfl, hw2⟩
  have hb2 : Below w1.heap.size w1 w2 := by rw [hw2]; exact (Below.refl _ _).alloc (Nat.le_refl _) _
  have h2 := h1.go hb2
  have hres2 := hres.go hb2
  have HB2 := Lib.hid (only_below HB1.out hb2)
  clear hw2 hb2 h1 hres
  by_cases hl4 : b.length < 4
  · have cT : Calls Try.prog 71 #[.pointer (some ⟨br, 0, none⟩), .int .i64 4] w2 (fun e w' => e = .panicked (gv 192) ∧ w2 = w') := reader_take_short br B A c b none 0 0 0 4 w2 h2 hl4 (by omega)
    have HX := Lib.hid (show PP = .bad 192 by rw [HPP.out]; unfold certP; rw [if_pos hl4])
    clear hl4
    go_wp2_with fail
    (with_reducible refine cT.mono ?_)
    clear cT
    rintro e w' ⟨rfl, rfl⟩
    go_wp2_with fail
    refine ⟨rfl, ?_⟩
    unfold TellsC
    rw [HX.out]
    exact ⟨rfl, HB2.out⟩
  have cT : Calls Try.prog 71 #[.pointer (some ⟨br, 0, none⟩), .int .i64 4] w2 (fun e w' => e = .returned (.slice A 4 c) ∧ (∃ A' c', Rdr w' br B A' c' (b.drop 4) none 0 0 0) ∧ w2.grownBy w' (some br)) := reader_take br B A c b none 0 0 0 4 w2 h2 (by omega) (by omega)
  have hrd4 : Rd w2 B .u8 A 4 (nth (b.take 4)) := (h2.rd.fewer (m := 4) (by omega)).congr fun i hi => (nth_take hi).symm
  have hbt := h2.bts
  have hBb := h2.hB
  have hL4 := Lib.hid (show ¬ b.length < 4 from hl4)
  have hl4' : (b.take 4).length = 4 := by rw [List.length_take]; omega
  clear hl4 h2
  go_wp2_with fail
  (with_reducible refine cT.mono ?_)
  clear cT
  rintro e w3 ⟨rfl, hR3, hg3⟩
  have hres3 := hres2.only hg3 (by omega)
  have hg3' := grown_trans HB2.out hg3
  have hrd5 : Rd w3 B .u8 A 4 (nth (b.take 4)) := fun hn => by
    obtain ⟨b0, off, e, hb, hc⟩ := hrd4 hn
    exact ⟨b0, off, e, hb, fun i hi => only_cell hg3 (hc i hi) (by simp; omega)⟩
  obtain ⟨A4, c4, hR4⟩ := hR3
  clear hg3 hres2 hrd4
  go_wp2_with fail
  (with_reducible refine (cert_magic _).mono ?_)
  rintro e w5 ⟨rfl, hw5⟩
  have hb5 : Below w3.heap.size w3 w5 := by rw [hw5]; exact (Below.refl _ _).alloc (Nat.le_refl _) _
  have hmag : Rd w5 w5.heap.size .u8 (some ⟨w3.heap.size, 0, none⟩) 4 (nth [103, 110, 109, 49]) := by rw [hw5]; exact (Ow.lit w3 w3.heap.size 5 .u8 [103, 110, 109, 49] (Nat.le_refl _) (by unfold maxLen; simp)).rd
  have hR5 := hR4.go hb5
  have hres5 := hres3.go hb5
  have hG5 := only_below hg3' hb5
  have hlt3 := hR4.lt
  have hrd6 : Rd w5 w5.heap.size .u8 A (b.take 4).length (nth (b.take 4)) := by rw [hl4']; exact (hrd5.below (hb5.mono (by omega))).more (by have := hb5.size; omega)
  clear hw5 hb5 hrd5 hR4 hres3 hg3'
  have cE : Calls Try.prog 70 #[.slice A 4 c, .slice (some ⟨w3.heap.size, 0, none⟩) 4 4] w5 fun e w' => e = .returned (.bool (decide (b.take 4 = [103, 110, 109, 49]))) ∧ Below w5.heap.size w5 w' := by
    have := slices_EqualU8 A (some ⟨w3.heap.size, 0, none⟩) c 4 (b.take 4) [103, 110, 109, 49] w5 hrd6 hmag (by rw [hl4']; omega) (by simp)
    rw [hl4'] at this
    exact this
  clear hrd6 hmag
  go_wp2_with fail
  (with_reducible refine cE.mono ?_)
  clear cE
  rintro e w6 ⟨rfl, hb6⟩
  have hR6 := hR5.go hb6
  have hres6 := hres5.go hb6
  have HG6 := Lib.hid (only_below hG5 hb6)
  clear hb6 hR5 hres5 hG5
  by_cases hmg : b.take 4 = [103, 110, 109, 49]
  · rw [decide_eq_true hmg]
    have hbc := CertBox.new w6 40 0 0 (.slice none 0 0)
    have hb7 : Below w6.heap.size w6 (w6.alloc (.cells #[.int .u64 0, .int .i64 0, .slice none 0 0] 40)) := (Below.refl _ _).alloc (Nat.le_refl _) _
    obtain ⟨w7, hw7⟩ : ∃ w7, w7 = w6.alloc (.cells #[.int .u64 0, .int .i64 0, .slice none 0 0] 40) := ⟨_, rfl⟩
    rw [← hw7] at hbc hb7
    have hS7 : CS w w7 br B none 0 0 0 w.heap.size w6.heap.size 0 0 (.slice none 0 0) (b.drop 4) := ⟨⟨_, _, hR6.go hb7⟩, hbc, hres6.go hb7, only_below HG6.out hb7, hlt, Nat.le_refl _, hres6.at'.lt⟩
    have hR7 := hR6.go hb7
    clear hbc hb7 hR6 hres6
    have HCP : Hid (PP = if (b.drop 4).length < 8 then .bad 192 else bodyP (digN ((b.drop 4).take 8)) ((b.drop 4).drop 8)) := Lib.hid (by rw [HPP.out]; unfold certP; rw [if_neg hL4.out, if_neg (fun x => x hmg)])
    clear hmg hl4' hL4
    obtain ⟨r, hr⟩ : ∃ r, r = b.drop 4 := ⟨_, rfl⟩
    rw [← hr] at HCP hS7 hR7
    have hbr : Bts r := hR7.bts
    clear hr hbt
    by_cases hl8 : r.length < 8
    · have cT : Calls Try.prog 71 #[.pointer (some ⟨br, 0, none⟩), .int .i64 8] w7 (fun e w' => e = .panicked (gv 192) ∧ w7 = w') := reader_take_short br B A4 c4 r none 0 0 0 8 w7 hR7 hl8 (by omega)
      have HX := Lib.hid (show PP = .bad 192 by rw [HCP.out, if_pos hl8])
      have HG := Lib.hid hS7.grow
      clear hl8 hS7 hR7 HCP
      go_wp2_with fail
      rw [← hw7]
      clear hw7
      (with_reducible refine cT.mono ?_)
      clear cT
      rintro e w' ⟨rfl, rfl⟩
      go_wp2_with fail
      refine ⟨rfl, ?_⟩
      unfold TellsC
      rw [HX.out]
      exact ⟨rfl, HG.out⟩
    have cT : Calls Try.prog 71 #[.pointer (some ⟨br, 0, none⟩), .int .i64 8] w7 (fun e w' => e = .returned (.slice A4 8 c4) ∧ (∃ A' c', Rdr w' br B A' c' (r.drop 8) none 0 0 0) ∧ w7.grownBy w' (some br)) := reader_take br B A4 c4 r none 0 0 0 8 w7 hR7 (by omega) (by omega)
    have HX := Lib.hid (show PP = bodyP (digN (r.take 8)) (r.drop 8) by rw [HCP.out, if_neg hl8])
    have HBY := Lib.hid (rd_back ((hR7.rd.fewer (m := 8) (by omega)).congr fun i hi => (nth_take hi).symm) hS7.grow hBb hlt)
    obtain ⟨bs, hbs⟩ : ∃ bs, bs = r.take 8 := ⟨_, rfl⟩
    have hbsl : bs.length = 8 := by rw [hbs, List.length_take]; omega
    have HBT := Lib.hid (show Bts bs by rw [hbs]; exact fun x hx => hbr x (List.mem_of_mem_take hx))
    rw [← hbs] at HX HBY
    have HBL := Lib.hid hbsl
    clear hbs hl8 hR7 HCP hbr hbsl
    go_wp2_with fail
    rw [← hw7]
    clear hw7
    generalize w6.heap.size = bc at *
    (with_reducible refine cT.mono ?_)
    clear cT
    rintro e w8 ⟨rfl, hR8, hg8⟩
    have hS8 := hS7.read hR8 hg8
    clear hR8 hg8 hS7
    go_wp2_with fail
    go_loopw [20] (fun s20 wr => ∃ k : Nat, s20 = .int .i64 k ∧ k ≤ 8 ∧ CS w wr br B none 0 0 0 w.heap.size bc (digN (bs.take k)) 0 (.slice none 0 0) (r.drop 8)) (fun s _ => 8 - (intOf s).toNat)
    case atStart => exact ⟨0, rfl, by omega, hS8⟩
    case round =>
      clear hS8
      obtain ⟨k, rfl, hk, hS⟩ := hrel
      rcases Nat.lt_or_ge k 8 with hlt8 | hge
      · have q0 : decide ((k : Int) < 8) = true := decide_eq_true (by omega)
        have q3 : (0 : Int) ≤ (k : Int) := by omega
        have q4 : (k : Int) < 8 := by omega
        obtain ⟨gb, ob, hA4, hgb, hcb⟩ := (rd_only HBY.out hS.grow hBb) (by omega)
        have m0 := hcb k hlt8
        obtain ⟨d0, d1, d2⟩ := hS.c.at'
        have df := hS.c.fz 0
        obtain ⟨x0, x1⟩ := HBT.out _ (nth_mem (show k < bs.length by have := HBL.out; omega))
        obtain ⟨e0, e1⟩ := digN_rng HBT.out k (by omega)
        have hpw : (256 : Int) ^ k ≤ 256 ^ 7 := by exact_mod_cast Nat.pow_le_pow_right (n := 256) (by omega) (show k ≤ 7 by omega)
        have HD := Lib.hid (show digN (bs.take (k + 1)) = digN (bs.take k) * 256 + nth bs k by rw [take_nth (by have := HBL.out; omega), digN_snoc])
        have HSO := Lib.hid (shl_or e0 (Int.lt_of_lt_of_le e1 hpw) x0 x1)
        have HSS := Lib.hid (hS.put (hS.c.setD (digN (bs.take (k + 1)))))
        have he2 : digN (bs.take k) < 72057594037927936 := Int.lt_of_lt_of_le e1 (by exact hpw)
        clear e1 hpw hcb
        obtain ⟨x, hx⟩ : ∃ x, x = nth bs k := ⟨_, rfl⟩
        obtain ⟨d, hd⟩ : ∃ d, d = digN (bs.take k) := ⟨_, rfl⟩
        rw [← hx] at m0 x0 x1 HD HSO
        rw [← hd] at d0 e0 he2 HD HSO
        clear hx hd hS
        subst hA4
        go_wp2_with fail
        rw [HSO.out, ← HD.out]
        exact ⟨⟨k + 1, by go_num, by omega, HSS.out⟩, by simp [intOf]; omega⟩
      · obtain rfl : k = 8 := by omega
        have q0 : decide ((8 : Int) < 8) = false := by simp
        have hdd := digN_rng HBT.out 8 (by omega)
        have hbs8 : bs.take 8 = bs := List.take_of_length_le (by have := HBL.out; omega)
        rw [hbs8] at hS hdd
        obtain ⟨D, hD⟩ : ∃ D, D = digN bs := ⟨_, rfl⟩
        rw [← hD] at hS HX
        clear hbs8 hdd hD HBY HBT HBL hge hk
        obtain ⟨r2, hr2⟩ : ∃ r2, r2 = r.drop 8 := ⟨_, rfl⟩
        rw [← hr2] at hS HX
        clear hr2
        obtain ⟨A9, c9, hR9⟩ := hS.rdr
        have cU := reader_upTo br B A9 c9 r2 none 0 0 0 0 64 wr hR9 (by omega) (by omega)
        clear hR9
        go_wp2_with fail
        cases hU : upToP 0 64 r2 with
        | bad x =>
          have HY := Lib.hid (show PP = .bad x by rw [HX.out]; unfold bodyP; rw [hU])
          rw [hU] at cU
          clear hU
          (with_reducible refine cU.mono ?_)
          clear cU
          rintro e w5 ⟨rfl, hg5⟩
          have HG := Lib.hid (grown_trans hS.grow hg5)
          clear hg5
          go_wp2_with fail
          refine ⟨rfl, ?_⟩
          unfold TellsC
          rw [HY.out]
          exact ⟨rfl, HG.out⟩
        | ok n r3 =>
          have hn64 := (upToP_ok hU).2
          have HU := Lib.hid hU
          rw [hU] at cU
          clear hU
          (with_reducible refine cU.mono ?_)
          clear cU
          rintro e w10 ⟨rfl, hR10, hg10⟩
          have hS10 := hS.read hR10 hg10
          clear hR10 hg10 hS
          obtain ⟨d0, d1, d2⟩ := hS10.c.at'
          have df := hS10.c.fz 1
          have hS11 := hS10.put (hS10.c.setN n)
          clear hS10
          go_wp2_with fail
          generalize (w10.setCell ⟨bc, 1, none⟩ (.int .i64 n)) = w11 at *
          clear d0 d1 d2 df
          have hSd := hS11.go (Below.refl w11.heap.size w11).drew
          have d1 := hS11.c.at'.c1
          have cPl := fun W => cert_places n W (by omega)
          have hbrc : br ≠ bc := by have h1 := hSd.lt; have h2 := hSd.lt2; have h3 := hSd.lt3; omega
          clear hS11
          go_region_held3 (fun X => X.cell? ⟨bc, 1, none⟩ = some (.int .i64 n)) (first | exact d1 | exact e1 | (rw [World.cell?_setCell_far _ _ _ _ hbrc]; exact e1) | (rw [World.cell?_setCell_far _ _ _ _ hbrc, World.cell?_setCell_far _ _ _ _ hbrc]; exact e1) | go_keep)
            (first | (go_at_call 39; (with_reducible refine (cPl _).mono ?_); rintro e w12 ⟨Ap, cp, rfl, hop, hb12⟩; have hS12 := hSd.go hb12; have e1 := hS12.c.at'.c1; obtain ⟨A12, c12, hR12⟩ := hS12.rdr; obtain ⟨f0, f1, f2, ff, _, _, _, _, _⟩ := id hR12; have ff1 := ff 1; have ff2 := ff 2) | fail)
          have hgb1 := only_setCell (p := ⟨br, 1, none⟩) (only_setCell (p := ⟨br, 2, none⟩) (World.grownBy.refl w12 (some br)) (.inl rfl) (.int .i64 n)) (.inl rfl) (.slice Ap (pairs n).length cp)
          have hR13 := hR12.setup n Ap cp (pairs n).length
          have hS13 : CS w _ br B Ap cp (pairs n).length n w.heap.size bc D n (.slice none 0 0) r3 := ⟨⟨_, _, hR13⟩, hS12.c.only hgb1 (by omega), hS12.res.only hgb1 (by have := hS12.lt; have := hS12.lt2; omega), grown_trans hS12.grow hgb1, hS12.lt, hS12.lt2, hS12.lt3⟩
          have hPB : bc < w11.heap.size := by have := hSd.c.at'.lt; exact this
          have hPB2 : br < w11.heap.size := by have := hSd.lt; have := hSd.lt2; have := hSd.lt3; omega
          have hPB3 : w11.heap.size ≤ w12.heap.size := hb12.size
          have hop13 := own_read (base := w11.heap.size) hop hgb1 hPB2
          have hsz13 : w11.heap.size ≤ ((w12.setCell ⟨br, 2, none⟩ (.int .i64 n)).setCell ⟨br, 1, none⟩ (.slice Ap (pairs n).length cp)).heap.size := by simpa using hPB3
          generalize ((w12.setCell ⟨br, 2, none⟩ (.int .i64 n)).setCell ⟨br, 1, none⟩ (.slice Ap (pairs n).length cp)) = w13 at *
          generalize w11.heap.size = PB at *
          clear hgb1 hR13 hR12 f0 f1 f2 ff ff1 ff2 e1 d1 hop hb12 hS12 hSd hPB3 cPl
          obtain ⟨A14, c14, hR14⟩ := hS13.rdr
          have cU := reader_upTo br B A14 c14 r3 Ap cp (pairs n).length n 1 4096 w13 hR14 (by omega) (by omega)
          have hmf : ∀ (fn : Fn) (first cap : Array Value) (w : World), (Instr.makeFunc fn first cap).run Try.prog w = .ok (.func fn first cap) w := fun _ _ _ _ => rfl
          clear hR14
          go_wp2_with fail
          cases hK : upToP 1 4096 r3 with
          | bad x =>
            have HY := Lib.hid (show PP = .bad x by rw [HX.out]; unfold bodyP; rw [HU.out]; simp only; rw [hK])
            rw [hK] at cU
            clear hK
            (with_reducible refine cU.mono ?_)
            clear cU
            rintro e w5 ⟨rfl, hg5⟩
            have HG := Lib.hid (grown_trans hS13.grow hg5)
            clear hg5
            go_wp2_with fail
            refine ⟨rfl, ?_⟩
            unfold TellsC
            rw [HY.out]
            exact ⟨rfl, HG.out⟩
          | ok m r4 =>
            obtain ⟨hm1, hm2⟩ := upToP_ok hK
            have HK := Lib.hid hK
            rw [hK] at cU
            clear hK
            (with_reducible refine cU.mono ?_)
            clear cU
            rintro e w14 ⟨rfl, hR15, hg15⟩
            have hS15 := hS13.read hR15 hg15
            have hop15 := own_read hop13 hg15 hPB2
            have hsz15 := Nat.le_trans hsz13 hg15.size
            clear hR15 hg15 hS13 hop13 hsz13
            obtain ⟨⟨b1, b2⟩, ⟨b3, b4⟩, b5, b6⟩ := head_mul (N := n) (L := m) ⟨by omega, hn64⟩ (by omega)
            obtain ⟨d0, d1, d2⟩ := hS15.c.at'
            by_cases hcel : 4194304 < 4 * (n : Int) * n * m
            · have q1 : decide (4194304 < 4 * (n : Int) * n * m) = true := decide_eq_true hcel
              have HY := Lib.hid (show PP = .bad 194 by rw [HX.out]; unfold bodyP; rw [HU.out]; simp only; rw [HK.out]; exact if_pos hcel)
              have cG := fun W => reader_gives (.pointer (some ⟨br, 0, none⟩)) 194 W
              have HG := Lib.hid hS15.grow
              clear hcel
              go_wp2_with fail
              (with_reducible refine (cG _).mono ?_)
              rintro e w' ⟨rfl, rfl⟩
              go_wp2_with fail
              refine ⟨rfl, ?_⟩
              unfold TellsC
              rw [HY.out]
              exact ⟨rfl, HG.out⟩
            · have q1 : decide (4194304 < 4 * (n : Int) * n * m) = false := decide_eq_false hcel
              have HQ : Hid ((∀ x, octsP n (pairs n) m [] r4 = .bad x → PP = .bad x) ∧ (∀ os r5, octsP n (pairs n) m [] r4 = .ok os r5 → PP = if 0 < r5.length then .bad 195 else .ok (D, (n : Int), os) r5)) :=
                Lib.hid ⟨fun x hx => by rw [HX.out]; unfold bodyP; rw [HU.out]; simp only; rw [HK.out]; simp only; rw [if_neg hcel, hx], fun os r5 hx => by rw [HX.out]; unfold bodyP; rw [HU.out]; simp only; rw [HK.out]; simp only; rw [if_neg hcel, hx]⟩
              have HG0 := Lib.hid (GOcts.nil w14 PB)
              clear hcel HX HK HU
              go_wp2_with fail
              have hE := Try.elOct
              obtain ⟨QT, hQT⟩ : ∃ QT, QT = octsP n (pairs n) m [] r4 := ⟨_, rfl⟩
              have HQ0 := Lib.hid (show octsP n (pairs n) (m - 0) (([] : List OR).map OR.oc) r4 = QT by rw [hQT]; rfl)
              rw [← hQT] at HQ
              clear hQT b1 b2 b3 b4 b5 b6 q1 d0 d1 d2 hmf
              go_loopw [62] (fun s62 wr => ∃ i : Nat, s62 = .int .i64 i ∧ i ≤ m ∧ ∃ Ao co, ∃ rs : List OR, ∃ r, Hid (octsP n (pairs n) (m - i) (rs.map OR.oc) r = QT) ∧ Hid (rs.length = i) ∧ CS w wr br B Ap cp (pairs n).length n w.heap.size bc D n (.slice Ao rs.length co) r ∧ GOcts wr PB Ao co rs ∧ wr.ownsRow PB 84 2 (.slice Ap (pairs n).length cp) (pairs n).length (pv (pairs n)) ∧ PB ≤ wr.heap.size) (fun s _ => m - (intOf s).toNat)
              case atStart => exact ⟨0, rfl, by omega, none, 0, [], r4, HQ0, Lib.hid rfl, hS15, HG0.out, hop15, hsz15⟩
              case round =>
                clear hS15 hop15 hsz15 HG0 HQ0
                obtain ⟨i, rfl, hi, Ao, co, rs, r, HQI, HRL, hS, hG, hop, hsz⟩ := hrel
                rcases Nat.lt_or_ge i m with hlt9 | hge
                · have q0 : decide ((i : Int) < (m : Int)) = true := decide_eq_true (by omega)
                  have q00 : decide (i < m) = true := decide_eq_true hlt9
                  have hSd := hS.go (Below.refl _ _).drew
                  have hGd := hG.go (Below.refl _ _).drew
                  have hopd := own_below hop (Below.refl _ _).drew
                  have hszd : PB ≤ wr.drew.heap.size := hsz
                  obtain ⟨A16, c16, hR16⟩ := hSd.rdr
                  have cO := reader_octagon br B A16 c16 r Ap cp n wr.drew hR16 (by omega) (fun X hX => rdp_own (own_read hopd hX hPB2))
                  have d2 := hS.c.at'.c2
                  have d2d := hSd.c.at'.c2
                  clear hR16 hS hG hop hsz
                  cases hO : octP n (pairs n) r with
                  | bad x =>
                    have HY := Lib.hid (show PP = .bad x by
                      refine HQ.out.1 x ?_
                      rw [← HQI.out, show m - i = (m - i - 1) + 1 by omega]
                      exact octsP_bad hO)
                    rw [hO] at cO
                    clear hO
                    go_wp2_with fail
                    refine wp_region_any (by kernel_rfl) ?_
                    (try (change wpAny _ _ _ _ _ _ _ (World.drew _)))
                    refine wpAny_take (i := 0) (v := ?_) rfl (by kernel_rfl) (by kernel_rfl) (by kernel_rfl) (fun _ _ _ h => h) (Or.inl ⟨by rfl, ?_⟩) ?_
                    rotate_left
                    · intro w; go_simp
                      (try with_reducible rfl)
                    refine wpAny_take (i := 2) (v := ?_) rfl (by kernel_rfl) (by kernel_rfl) (by kernel_rfl) (fun _ _ _ h => h) (Or.inl ⟨by rfl, ?_⟩) ?_
                    rotate_left
                    · intro w; go_simp
                      (try with_reducible rfl)
                    refine wpAny_ready (rs := [1, 3]) (by kernel_rfl) (by simp) ?_
                    refine AllReady.cons rfl (fun K hK => ?_) (AllReady.cons rfl (fun K hK => ?_) AllReady.nil)
                    · go_simp
                      refine hK _ _ ?_
                      clear hK K
                      refine wpAny_ready (rs := [3]) (by kernel_rfl) (by simp) ?_
                      refine AllReady.cons rfl (fun K hK => ?_) AllReady.nil
                      go_simp
                      (with_reducible refine cO.mono ?_)
                      rintro e w5 ⟨rfl, hg5⟩
                      have HG := Lib.hid (grown_trans hSd.grow hg5)
                      clear hg5 hK
                      go_wp2_with fail
                      refine ⟨rfl, ?_⟩
                      unfold TellsC
                      rw [HY.out]
                      exact ⟨rfl, HG.out⟩
                    · go_simp
                      (with_reducible refine cO.mono ?_)
                      rintro e w5 ⟨rfl, hg5⟩
                      have HG := Lib.hid (grown_trans hSd.grow hg5)
                      clear hg5 hK
                      go_wp2_with fail
                      refine ⟨rfl, ?_⟩
                      unfold TellsC
                      rw [HY.out]
                      exact ⟨rfl, HG.out⟩
                  | ok o r5 =>
                    have HQN := Lib.hid (show octsP n (pairs n) (m - (i + 1)) (rs.map OR.oc ++ [o]) r5 = QT by rw [← HQI.out, show m - i = (m - (i + 1)) + 1 by omega, octsP_ok hO])
                    have hon : o.n = n := octP_n hO
                    rw [hO] at cO
                    clear hO
                    have HON := Lib.hid hon
                    clear hon
                    have hsz40 : (rs.length + 1) * 40 ≤ 140737488355328 := by have := HRL.out; omega
                    go_wp2_with fail
                    go_region_law (first
                      | (go_simp; go_at_call 74; (with_reducible refine cO.mono ?_); rintro e w5 ⟨⟨Ao5, co5, rfl, hOw⟩, hI5, hR5, hg5⟩; have hS5 := hSd.read hR5 hg5; have hG5 := hGd.read hg5 hPB2; have hop5 := own_read hopd hg5 hPB2; have hs5 := Nat.le_trans hszd hg5.size; have c2 := hS5.c.at'.c2; have hal := (Below.refl w5.heap.size w5).alloc (Nat.le_refl _) (.cells #[.int .i64 o.n, .bool o.e, .slice Ao5 o.m.length co5] 55); have c2b := (hS5.go hal).c.at'.c2)
                      | (refine step_appSg hE (w5.alloc (.cells #[.int .i64 o.n, .bool o.e, .slice Ao5 o.m.length co5] 55)) rfl (.tmp 65) (.tmp 68) rfl PB Ao co rs.length (ov rs) rfl (hG5.row.alloc _) [.int .i64 o.n, .bool o.e, .slice Ao5 o.m.length co5] w5.heap.size rfl rfl (oct_news w5 55 ⟨o.n, o.e, Ao5, co5, o.m⟩) (by simp [Value.oneCell']) hsz40 (by simp; omega) ?_; intro A' c' w9 hr9 hb9 hg9; have hS9 := (hS5.go hal).low hb9 hPB; obtain ⟨e0, e1, e2⟩ := hS9.c.at'; have ef2 := hS9.c.fz 2))
                    all_goals
                      have hG9 := (hG5.go hal).snoc (r := ⟨o.n, o.e, Ao5, co5, o.m⟩) ⟨by show I64 o.n; rw [HON.out]; exact ⟨by omega, by omega⟩, hI5, (hOw.below hal).lower hszd⟩ hr9 hg9
                      have hop9 := own_beside (own_below hop5 hal) (hG5.go hal).row (by decide) hg9
                      have hs9 := Nat.le_trans hs5 (Nat.le_trans hal.size hb9.size)
                      have HS := Lib.hid (hS9.put (hS9.c.set (.slice A' (rs.length + 1) c')))
                      have HG := Lib.hid (hG9.low (p := ⟨bc, 2, none⟩) hPB (.slice A' (rs.length + 1) c'))
                      have HO := Lib.hid (own_low hop9 (p := ⟨bc, 2, none⟩) hPB (.slice A' (rs.length + 1) c'))
                      have HZ := Lib.hid (show PB ≤ (w9.setCell ⟨bc, 2, none⟩ (.slice A' (rs.length + 1) c')).heap.size by simpa using hs9)
                      clear hG9 hop9 hs9 hS9 hr9 hb9 hg9 hG5 hop5 hS5 hs5 c2 c2b e0 e1 e2 ef2 hg5 hR5 hal hOw hI5
                      go_wp2_with fail
                      go_roundw
                      case rel => exact ⟨i + 1, by go_num, by omega, A', c', rs ++ [⟨o.n, o.e, Ao5, co5, o.m⟩], r5, Lib.hid (by rw [List.map_append]; exact HQN.out), Lib.hid (by rw [List.length_append, HRL.out]; rfl), by rw [List.length_append]; exact HS.out, HG.out, HO.out, HZ.out⟩
                      case measure => simp [intOf]; omega
                · obtain rfl : i = m := by omega
                  have q0 : decide ((i : Int) < (i : Int)) = false := by simp
                  have q00 : decide (i < i) = false := by simp
                  have hQ2 := HQ.out.2 (rs.map OR.oc) r (by rw [← HQI.out, Nat.sub_self, octsP_zero])
                  obtain ⟨A17, c17, hR17⟩ := hS.rdr
                  have k0 := hR17.c0
                  obtain ⟨d0, d1, d2⟩ := hS.c.at'
                  obtain ⟨⟨e0, e1, e2⟩, ef⟩ := id hS.res
                  have ef0 := ef 0
                  have ef1 := ef 1
                  have ef2 := ef 2
                  have hrl := hR17.len
                  clear hge hi hR17 HQI HQ
                  by_cases hmore : 0 < r.length
                  · have q5 : decide ((0 : Int) < (r.length : Int)) = true := decide_eq_true (by omega)
                    have HY := Lib.hid (show PP = .bad 195 by rw [hQ2]; exact if_pos hmore)
                    have cG := fun W => reader_gives (.pointer (some ⟨br, 0, none⟩)) 195 W
                    have HG := Lib.hid hS.grow
                    clear hQ2
                    go_wp2_with fail
                    (with_reducible refine (cG _).mono ?_)
                    rintro e w' ⟨rfl, rfl⟩
                    go_wp2_with fail
                    refine ⟨rfl, ?_⟩
                    unfold TellsC
                    rw [HY.out]
                    exact ⟨rfl, HG.out⟩
                  · have HY := Lib.hid (show PP = .ok (D, (n : Int), rs.map OR.oc) r by rw [hQ2]; exact if_neg hmore)
                    have hr0 : r.length = 0 := by omega
                    rw [hr0] at k0
                    clear hQ2 hmore hr0
                    go_wp2_with fail
                    have hbx := ((hS.res.setD D).setN n).set (.slice Ao rs.length co)
                    obtain ⟨⟨s0, s1, s2⟩, _⟩ := id hbx
                    have hbl : w.heap.size < PB := by have := hS.lt3; omega
                    have hGf := ((hG.low (p := ⟨w.heap.size, 0, none⟩) hbl (.int .u64 D)).low (p := ⟨w.heap.size, 1, none⟩) hbl (.int .i64 n)).low (p := ⟨w.heap.size, 2, none⟩) hbl (.slice Ao rs.length co)
                    have HG := Lib.hid (only_setCell (p := ⟨w.heap.size, 2, none⟩) (only_setCell (p := ⟨w.heap.size, 1, none⟩) (only_setCell (p := ⟨w.heap.size, 0, none⟩) hS.grow (.inr (Nat.le_refl _)) (.int .u64 D)) (.inr (Nat.le_refl _)) (.int .i64 n)) (.inr (Nat.le_refl _)) (.slice Ao rs.length co))
                    refine bodyPost_ret (v := .agg #[.int .u64 D, .int .i64 n, .slice Ao rs.length co]) (by simp [results, Try.results58, go_sem, s0, s1, s2]) rfl ?_
                    unfold TellsC
                    rw [HY.out]
                    exact ⟨⟨Ao, co, rs, rfl, hGf.lower (Nat.le_of_lt hbl), rfl⟩, HG.out⟩
  · have HX := Lib.hid (show PP = .bad 191 by rw [HPP.out]; unfold certP; rw [if_neg hL4.out, if_pos hmg])
    rw [decide_eq_false hmg]
    clear hmg hl4'
    have cG := fun W => reader_gives (.pointer (some ⟨br, 0, none⟩)) 191 W
    go_wp2_with fail
    (with_reducible refine (cG _).mono ?_)
    rintro e w' ⟨rfl, rfl⟩
    go_wp2_with fail
    refine ⟨rfl, ?_⟩
    unfold TellsC
    rw [HX.out]
    exact ⟨rfl, HG6.out⟩
end Go.Proofs.Ytghpiofjejhegaa

/- The walk of gnomonref19.Decode. -/
import Derived.Test.YtghpiofjejhegaaCex
namespace Go.Proofs.Ytghpiofjejhegaa
open Go.RowKit
set_option maxRecDepth 100000
set_option linter.unusedVariables false
set_option linter.unusedSimpArgs false
open Gn
/-- The reference's decoding under way. -/
structure DSt (w0 w : World) (br : Nat) (A : Option Addr) (c : Nat) (b : List Int) (bR bc : Nat) (D N : Int) (v : Value) (S : PR Unit) : Prop where
  rdr : LRd w br w0.heap.size A c b S
  c : CertBox w bc D N v
  res : CertBox w bR 0 0 (.slice none 0 0)
  below : Below w0.heap.size w0 w
  lt1 : w0.heap.size ≤ bR
  lt2 : bR < br
  lt3 : br < bc
section
variable {w0 w w' : World} {br c bR bc : Nat} {A : Option Addr} {b : List Int} {D N : Int} {v : Value} {S : PR Unit}
theorem DSt.go (h : DSt w0 w br A c b bR bc D N v S) (hb : Below w.heap.size w w') : DSt w0 w' br A c b bR bc D N v S :=
  ⟨h.rdr.go hb, h.c.go hb, h.res.go hb, h.below.trans (hb.mono h.below.size), h.lt1, h.lt2, h.lt3⟩
theorem DSt.low {base : Nat} (h : DSt w0 w br A c b bR bc D N v S) (hb : Below base w w') (hl : bc < base) : DSt w0 w' br A c b bR bc D N v S :=
  ⟨h.rdr.low hb (by have := h.lt3; omega), h.c.low hb hl, h.res.low hb (by have := h.lt2; have := h.lt3; omega), h.below.trans (hb.mono (by have := h.lt1; have := h.lt2; have := h.lt3; omega)), h.lt1, h.lt2, h.lt3⟩
theorem DSt.read {S' : PR Unit} (h : DSt w0 w br A c b bR bc D N v S) (hr : LRd w' br w0.heap.size A c b S') (hg : w.grownBy w' (some br)) : DSt w0 w' br A c b bR bc D N v S' :=
  ⟨hr, h.c.only hg (by have := h.lt3; omega), h.res.only hg (by have := h.lt2; omega), h.below.trans (only_back hg h.below.size (by have := h.lt1; have := h.lt2; omega)), h.lt1, h.lt2, h.lt3⟩
theorem DSt.put {D' N' : Int} {v' : Value} (h : DSt w0 w br A c b bR bc D N v S) {i : Nat} {u : Value} (hc : CertBox (w.setCell ⟨bc, i, none⟩ u) bc D' N' v') : DSt w0 (w.setCell ⟨bc, i, none⟩ u) br A c b bR bc D' N' v' S := by
  have hg := only_setCell (p := ⟨bc, i, none⟩) (World.grownBy.refl w (some bc)) (.inl rfl) u
  have h1 := h.lt1
  have h2 := h.lt2
  have h3 := h.lt3
  exact ⟨h.rdr.only hg (by omega) (by omega), hc, h.res.only hg (by omega), h.below.trans (only_back hg h.below.size (by omega)), h1, h2, h3⟩
end
namespace Gn
def stOf : PR OC → PR Unit
  | .bad x => .bad x
  | .ok _ r => .ok () r
end Gn
theorem oc_mk {n : Int} {oo : OC} {a : Option Addr} {c : Nat} (h : oo.n = n) : (⟨n, oo.e, a, c, oo.m⟩ : OR).oc = oo := by subst h; rfl
theorem LNext.rdr {w' : World} {br B c : Nat} {A : Option Addr} {b : List Int} {o : OC} {P : PR OC} (h : LNext w' br B A c b o P) : LRd w' br B A c b (stOf P) := by
  cases P with
  | bad x => exact h
  | ok o' r => exact h.2
theorem LNext.next {w' : World} {br B c : Nat} {A : Option Addr} {b : List Int} {o : OC} {P : PR OC} (h : LNext w' br B A c b o P) {n k : Nat} {os : List OC} {u : Unit} {r : List Int} (hP : loct n (.ok u r) = P) :
    lOcts n k (os ++ [o]) (stOf P) = lOcts n (k + 1) os (.ok u r) := by
  cases P with
  | bad x => exact (lOcts_bad hP).symm
  | ok o' r' =>
    obtain ⟨rfl, _⟩ := h
    exact (lOcts_ok hP).symm
set_option maxHeartbeats 4000000 in
theorem ref_Decode (A : Option Addr) (c : Nat) (b : List Int) (w : World) (hb : Bts b) (hr : Rd w w.heap.size .u8 A b.length (nth b)) (hlm : (b.length : Int) ≤ 9223372036854775807) :
    Calls Try.prog 36 #[.slice A b.length c] w (TellsD w (decP b)) := by
  have hres := CertBox.new w 40 0 0 (.slice none 0 0)
  have hb1 : Below w.heap.size w (w.alloc (.cells #[.int .u64 0, .int .i64 0, .slice none 0 0] 40)) := (Below.refl _ _).alloc (Nat.le_refl _) _
  obtain ⟨w1, hw1⟩ : ∃ w1, w1 = w.alloc (.cells #[.int .u64 0, .int .i64 0, .slice none 0 0] 40) := ⟨_, rfl⟩
  rw [← hw1] at hres hb1
  obtain ⟨PP, hPP⟩ : ∃ PP, PP = decP b := ⟨_, rfl⟩
  rw [← hPP]
  by_cases hlong : 4194304 < (b.length : Int)
  · have q0 : decide (4194304 < (b.length : Int)) = true := decide_eq_true hlong
    have HX := Lib.hid (show PP = ((0, 0, []), 196) by rw [hPP]; unfold decP; rw [if_pos (by omega)])
    have HRES := Lib.hid hres
    obtain ⟨⟨e0, e1, e2⟩, ef⟩ := id hres
    have ef0 := ef 0
    have ef1 := ef 1
    have ef2 := ef 2
    have HB1 := Lib.hid hb1
    clear hlong hPP hres hb1 hr hb ef
    go_enter Try.func36, Try.ntmps36
    rw [hw1] at e0 e1 e2 ef0 ef1 ef2
    go_wp2_with fail
    refine bodyPost_ret (v := .tuple #[.agg #[.int .u64 0, .int .i64 0, .slice none 0 0], .int .i64 196]) (by simp [results, Try.results36, go_sem, e0, e1, e2]) rfl ?_
    unfold TellsD
    rw [HX.out]
    exact ⟨⟨none, 0, [], rfl, GOcts.nil _ _, rfl⟩, by have := HB1.out; rw [hw1] at this; exact this⟩
  · have q0 : decide (4194304 < (b.length : Int)) = false := decide_eq_false hlong
    have HX := Lib.hid (show PP = dFin (certP b) by rw [hPP]; exact decP_fin (by omega))
    have hR2 : LRd (w1.alloc (.cells #[.slice A b.length c, .int .i64 0, .int .i64 0] 97)) w1.heap.size w.heap.size A c b (.ok () b) :=
      ⟨by simp [World.cell?_alloc_new], ⟨0, by simp [World.cell?_alloc_new], Nat.zero_le _, rfl⟩, by simp [World.cell?_alloc_new, lb], fun i => by simp [go_sem], (hr.below hb1).alloc hb1.size _, hb1.size, hb, by omega⟩
    have hb2 : Below w1.heap.size w1 (w1.alloc (.cells #[.slice A b.length c, .int .i64 0, .int .i64 0] 97)) := (Below.refl _ _).alloc (Nat.le_refl _) _
    obtain ⟨br, hbr⟩ : ∃ br, br = w.heap.size + 1 := ⟨_, rfl⟩
    have hsz1 : w1.heap.size = br := by rw [hbr, hw1]; simp
    have hs1 : w.heap.size < br := by omega
    obtain ⟨w2, hw2⟩ : ∃ w2, w2 = w1.alloc (.cells #[.slice A b.length c, .int .i64 0, .int .i64 0] 97) := ⟨_, rfl⟩
    rw [← hw2] at hR2 hb2
    rw [hsz1] at hR2
    have hres2 := hres.go hb2
    have HB2 := Lib.hid (hb1.trans (hb2.mono hb1.size))
    obtain ⟨x1, S1, h1⟩ : ∃ x1 S1, lbyte (.ok () b) = (x1, S1) := ⟨_, _, rfl⟩
    obtain ⟨x2, S2, h2⟩ : ∃ x2 S2, lbyte S1 = (x2, S2) := ⟨_, _, rfl⟩
    obtain ⟨x3, S3, h3⟩ : ∃ x3 S3, lbyte S2 = (x3, S3) := ⟨_, _, rfl⟩
    obtain ⟨x4, S4, h4⟩ : ∃ x4 S4, lbyte S3 = (x4, S4) := ⟨_, _, rfl⟩
    have HM := Lib.hid (lmag b h1 h2 h3 h4)
    have c1 := ref_byte br w.heap.size A c b (.ok () b) w2 hR2
    rw [h1] at c1
    have c2 := fun W => ref_byte br w.heap.size A c b S1 W
    rw [h2] at c2
    have c3 := fun W => ref_byte br w.heap.size A c b S2 W
    rw [h3] at c3
    have c4 := fun W => ref_byte br w.heap.size A c b S3 W
    rw [h4] at c4
    have HRB := Lib.hid hb
    clear h1 h2 h3 h4 hPP hlong hR2 hb1 hb2 hres hr hb hsz1
    go_enter Try.func36, Try.ntmps36
    go_wp2_with fail
    rw [← hw1, ← hw2, ← hbr]
    clear hw1 hw2 hbr
    (with_reducible refine c1.mono ?_)
    clear c1
    rintro e w3 ⟨rfl, hR3, hg3⟩
    have hres3 := hres2.only hg3 (by omega)
    have HB3 := Lib.hid (HB2.out.trans (only_back hg3 HB2.out.size (by omega)))
    clear hg3 hres2 HB2
    go_wp2_with fail
    (with_reducible refine (c2 _ hR3).mono ?_)
    clear c2 hR3
    rintro e w4 ⟨rfl, hR4, hg4⟩
    have hres4 := hres3.only hg4 (by omega)
    have HB4 := Lib.hid (HB3.out.trans (only_back hg4 HB3.out.size (by omega)))
    clear hg4 hres3 HB3
    go_wp2_with fail
    (with_reducible refine (c3 _ hR4).mono ?_)
    clear c3 hR4
    rintro e w5 ⟨rfl, hR5, hg5⟩
    have hres5 := hres4.only hg5 (by omega)
    have HB5 := Lib.hid (HB4.out.trans (only_back hg5 HB4.out.size (by omega)))
    clear hg5 hres4 HB4
    go_wp2_with fail
    (with_reducible refine (c4 _ hR5).mono ?_)
    clear c4 hR5
    rintro e w6 ⟨rfl, hR6, hg6⟩
    have hres6 := hres5.only hg6 (by omega)
    have HB6 := Lib.hid (HB5.out.trans (only_back hg6 HB5.out.size (by omega)))
    clear hg6 hres5 HB5
    go_upto_region 5 with fail
    have hb7 : Below w6.heap.size w6 (w6.alloc (.cells #[.int .u8 x1, .int .u8 x2, .int .u8 x3, .int .u8 x4] 99)) := (Below.refl _ _).alloc (Nat.le_refl _) _
    have y0 : (w6.alloc (.cells #[.int .u8 x1, .int .u8 x2, .int .u8 x3, .int .u8 x4] 99)).cell? ⟨w6.heap.size, 0, none⟩ = some (.int .u8 x1) := by simp [World.cell?_alloc_new]
    have y1 : (w6.alloc (.cells #[.int .u8 x1, .int .u8 x2, .int .u8 x3, .int .u8 x4] 99)).cell? ⟨w6.heap.size, 1, none⟩ = some (.int .u8 x2) := by simp [World.cell?_alloc_new]
    have y2 : (w6.alloc (.cells #[.int .u8 x1, .int .u8 x2, .int .u8 x3, .int .u8 x4] 99)).cell? ⟨w6.heap.size, 2, none⟩ = some (.int .u8 x3) := by simp [World.cell?_alloc_new]
    have y3 : (w6.alloc (.cells #[.int .u8 x1, .int .u8 x2, .int .u8 x3, .int .u8 x4] 99)).cell? ⟨w6.heap.size, 3, none⟩ = some (.int .u8 x4) := by simp [World.cell?_alloc_new]
    obtain ⟨w7, hw7⟩ : ∃ w7, w7 = w6.alloc (.cells #[.int .u8 x1, .int .u8 x2, .int .u8 x3, .int .u8 x4] 99) := ⟨_, rfl⟩
    rw [← hw7] at hb7 y0 y1 y2 y3
    rw [← hw7]
    have hR7 := hR6.go hb7
    have hres7 := hres6.go hb7
    have HB7 := Lib.hid (HB6.out.trans (hb7.mono HB6.out.size))
    clear hw7 hb7 hR6 hres6 HB6
    generalize w6.heap.size = ba at *
    obtain ⟨z, hz⟩ : ∃ z, z = ((lb S4 == 0) && !decide (x1 = 103 ∧ x2 = 110 ∧ x3 = 109 ∧ x4 = 49)) := ⟨_, rfl⟩
    have HZ := Lib.hid hz
    clear hz
    go_cut [37] (fun s37 wx => s37 = .bool z ∧ w7 = wx)
    case first =>
      have k2 := hR7.c2
      cases S4 with
      | bad x =>
        change w7.cell? ⟨br, 2, none⟩ = some (.int .i64 x) at k2
        obtain ⟨x0, x01, x02⟩ := hR7.ne
        have q1 : (x == 0) = false := beq_eq_false_iff_ne.2 x0
        have HZ2 : Hid (z = false) := Lib.hid (by rw [HZ.out]; show ((x == 0) && _) = false; rw [q1]; rfl)
        clear x0
        go_wp2_with fail
        go_meet
        exact ⟨by rw [HZ2.out], rfl⟩
      | ok u r =>
        change w7.cell? ⟨br, 2, none⟩ = some (.int .i64 0) at k2
        have hne : ∀ W, (binOp .neq 99 (.agg #[.int .u8 x1, .int .u8 x2, .int .u8 x3, .int .u8 x4]) (.agg #[.int .u8 103, .int .u8 110, .int .u8 109, .int .u8 49])).run Try.prog W = .ok (.bool (!decide (x1 = 103 ∧ x2 = 110 ∧ x3 = 109 ∧ x4 = 49))) W := fun W => by rw [run_neq_struct, run_eql4]; rfl
        have HZ2 : Hid (z = !decide (x1 = 103 ∧ x2 = 110 ∧ x3 = 109 ∧ x4 = 49)) := Lib.hid (by rw [HZ.out]; rfl)
        obtain ⟨zz, hzz⟩ : ∃ zz, zz = !decide (x1 = 103 ∧ x2 = 110 ∧ x3 = 109 ∧ x4 = 49) := ⟨_, rfl⟩
        rw [← hzz] at HZ2 hne
        clear hzz
        go_wp2_with fail
        go_meet
        exact ⟨by rw [HZ2.out], rfl⟩
    case rest =>
      obtain ⟨rfl, rfl⟩ := hcut
      go_upto_if 37 with fail
      go_cut [] (fun wx => ∃ S5, Hid (ldg 0 0 S5 = certP b) ∧ LRd wx br w.heap.size A c b S5 ∧ CertBox wx w.heap.size 0 0 (.slice none 0 0) ∧ Below w.heap.size w wx)
      case first =>
        clear y0 y1 y2 y3
        rcases HM.out with ⟨e1, e2⟩ | ⟨r, e1, e2, e3⟩
        · have HZ2 : Hid (z = false) := Lib.hid (by rw [HZ.out, e1]; rfl)
          have HE := Lib.hid (e2.symm)
          rw [e1] at hR7
          have HR7 := Lib.hid hR7
          clear e1 e2 hR7 HZ
          rw [HZ2.out]
          go_wp2_with fail
          go_meet
          exact ⟨.bad 192, HE, HR7.out, hres7, HB7.out⟩
        · subst e1
          cases z with
          | false =>
            have HE : Hid (ldg 0 0 (.ok () r) = certP b) := Lib.hid (e2 (by
              have := HZ.out
              by_cases hd : x1 = 103 ∧ x2 = 110 ∧ x3 = 109 ∧ x4 = 49
              · exact hd
              · rw [decide_eq_false hd] at this; cases this)).symm
            have HR7 := Lib.hid hR7
            clear e2 e3 hR7 HZ
            go_wp2_with fail
            go_meet
            exact ⟨.ok () r, HE, HR7.out, hres7, HB7.out⟩
          | true =>
            have HE : Hid (ldg 0 0 (.bad 191) = certP b) := Lib.hid (e3 (by
              have := HZ.out
              intro hd
              rw [decide_eq_true hd] at this; cases this)).symm
            have f2 := hR7.fz 2
            have k2 := hR7.c2
            obtain ⟨hR8, hg8⟩ := hR7.setBad 191 (by omega)
            have HR8 := Lib.hid hR8
            have HRES8 := Lib.hid (hres7.only hg8 (by omega))
            have HB8 := Lib.hid (HB7.out.trans (only_back hg8 HB7.out.size (by omega)))
            clear e2 e3 hR7 HZ hR8 hg8 hres7
            go_wp2_with fail
            go_meet
            exact ⟨.bad 191, HE, HR8.out, HRES8.out, HB8.out⟩
      case rest =>
        clear y0 y1 y2 y3 hR7 hres7 HB7 HM HZ
        obtain ⟨S5, HS5, hR8, hres8, hB8⟩ := hcut
        have hbc := CertBox.new wc 40 0 0 (.slice none 0 0)
        have hb9 : Below wc.heap.size wc (wc.alloc (.cells #[.int .u64 0, .int .i64 0, .slice none 0 0] 40)) := (Below.refl _ _).alloc (Nat.le_refl _) _
        obtain ⟨w9, hw9⟩ : ∃ w9, w9 = wc.alloc (.cells #[.int .u64 0, .int .i64 0, .slice none 0 0] 40) := ⟨_, rfl⟩
        rw [← hw9] at hbc hb9
        have hS9 : DSt w w9 br A c b w.heap.size wc.heap.size 0 0 (.slice none 0 0) S5 := ⟨hR8.go hb9, hbc, hres8.go hb9, hB8.trans (hb9.mono hB8.size), Nat.le_refl _, hs1, hR8.lt⟩
        clear hbc hb9 hR8 hres8 hB8
        go_wp2_with fail
        rw [← hw9]
        clear hw9
        generalize wc.heap.size = bc at *
        go_loopw [7] (fun s7 wq => ∃ k : Nat, s7 = .int .i64 k ∧ k ≤ 8 ∧ ∃ D S, Hid (ldg k D S = certP b) ∧ Hid (0 ≤ D ∧ D < 256 ^ k) ∧ DSt w wq br A c b w.heap.size bc D 0 (.slice none 0 0) S) (fun s _ => 8 - (intOf s).toNat)
        case atStart => exact ⟨0, rfl, by omega, 0, S5, HS5, Lib.hid (by decide), hS9⟩
        case round =>
          clear hS9 HS5
          obtain ⟨k, rfl, hk, D, S, HS, HD, hS⟩ := hrel
          rcases Nat.lt_or_ge k 8 with hlt8 | hge
          · have q0 : decide ((k : Int) < 8) = true := decide_eq_true (by omega)
            have hpw : (256 : Int) ^ k ≤ 256 ^ 7 := by exact_mod_cast Nat.pow_le_pow_right (n := 256) (by omega) (show k ≤ 7 by omega)
            have hD0 := HD.out.1
            have hD1 : D < 72057594037927936 := Int.lt_of_lt_of_le HD.out.2 (by exact hpw)
            have hSd := hS.go (Below.refl _ _).drew
            have cB := ref_byte br w.heap.size A c b S wr.drew hSd.rdr
            have HST := Lib.hid ((ldg_step k D S hlt8).trans HS.out)
            obtain ⟨hx0, hx1⟩ := lbyte_rng S hS.rdr.bts'
            obtain ⟨x, hx⟩ : ∃ x, x = (lbyte S).1 := ⟨_, rfl⟩
            obtain ⟨S', hS'⟩ : ∃ S', S' = (lbyte S).2 := ⟨_, rfl⟩
            rw [← hx, ← hS'] at cB HST
            rw [← hx] at hx0 hx1
            have HD2 : Hid (0 ≤ 256 * D + x ∧ 256 * D + x < 256 ^ (k + 1)) := Lib.hid (by have := HD.out; rw [Int.pow_succ]; omega)
            have d0 := hSd.c.at'.c0
            clear hx hS' hS hpw
            go_wp2_with fail
            go_region_law (first
              | (go_simp; go_at_call 59; (with_reducible refine cB.mono ?_); rintro e w10 ⟨rfl, hR10, hg10⟩; have hS10 := hSd.read hR10 hg10; have e0 := hS10.c.at'.c0; have ef0 := hS10.c.fz 0))
            all_goals
              have HS11 := Lib.hid (hS10.put (hS10.c.setD (256 * D + x)))
              clear hS10 hR10 hg10 e0 ef0 d0 hSd
              go_wp2_with fail
              go_roundw
              case rel => exact ⟨k + 1, by go_num, by omega, 256 * D + x, S', HST, HD2, HS11.out⟩
              case measure => simp [intOf]; omega
          · obtain rfl : k = 8 := by omega
            have q0 : decide ((8 : Int) < 8) = false := by simp
            obtain ⟨n, Sa, hna⟩ : ∃ n Sa, lnum S = (n, Sa) := ⟨_, _, rfl⟩
            have cN := ref_number br w.heap.size A c b S wr hS.rdr
            rw [hna] at cN
            have hnr := lnum_rng hS.rdr.bts' hna
            have HNA := Lib.hid hna
            clear hge hk hna
            go_wp2_with fail
            (with_reducible refine cN.mono ?_)
            clear cN
            rintro e w12 ⟨rfl, hR12, hg12⟩
            have hS12 := hS.read hR12 hg12
            clear hR12 hg12 hS
            go_wp2_with fail
            (with_reducible refine (ref_size br w.heap.size A c b Sa _ _ hS12.rdr).mono ?_)
            rintro e w13 ⟨rfl, hR13, hg13⟩
            have hS13 := hS12.read hR13 hg13
            rw [show decide ((n : Int) ≤ 64) = decide (n ≤ 64) by rw [decide_eq_decide]; omega] at hS13
            obtain ⟨Sb, hSb⟩ : ∃ Sb, Sb = lsize (decide (n ≤ 64)) Sa := ⟨_, rfl⟩
            rw [← hSb] at hS13
            have HSb := Lib.hid hSb
            obtain ⟨o, Sc, hoc⟩ : ∃ o Sc, lnum Sb = (o, Sc) := ⟨_, _, rfl⟩
            have cN := ref_number br w.heap.size A c b Sb w13 hS13.rdr
            rw [hoc] at cN
            have hor := lnum_rng hS13.rdr.bts' hoc
            have HOC := Lib.hid hoc
            clear hR13 hg13 hS12 hSb hoc
            go_wp2_with fail
            (with_reducible refine cN.mono ?_)
            clear cN
            rintro e w14 ⟨rfl, hR14, hg14⟩
            have hS14 := hS13.read hR14 hg14
            clear hR14 hg14 hS13
            go_upto_region 15 with fail
            go_cut [] (fun wx => DSt w wx br A c b w.heap.size bc D 0 (.slice none 0 0) (lsize (decide (1 ≤ o) && decide (o ≤ 4096)) Sc))
            case first =>
              by_cases ho : 1 ≤ o
              · have q1 : decide (1 ≤ o) = true := decide_eq_true ho
                have q2 : decide ((1 : Int) ≤ (o : Int)) = true := decide_eq_true (by omega)
                go_wp2_with fail
                all_goals (with_reducible refine (ref_size br w.heap.size A c b Sc _ _ hS14.rdr).mono ?_)
                all_goals (rintro e w15 ⟨rfl, hR15, hg15⟩)
                all_goals (have hS15 := hS14.read hR15 hg15)
                all_goals (clear hR15 hg15)
                all_goals (go_wp2_with fail)
                all_goals go_meet
                all_goals (rw [q1, Bool.true_and, show decide (o ≤ 4096) = decide ((o : Int) ≤ 4096) by rw [decide_eq_decide]; omega]; exact hS15)
              · have q1 : decide (1 ≤ o) = false := decide_eq_false ho
                have q2 : decide ((1 : Int) ≤ (o : Int)) = false := decide_eq_false (by omega)
                go_wp2_with fail
                all_goals (with_reducible refine (ref_size br w.heap.size A c b Sc _ _ hS14.rdr).mono ?_)
                all_goals (rintro e w15 ⟨rfl, hR15, hg15⟩)
                all_goals (have hS15 := hS14.read hR15 hg15)
                all_goals (clear hR15 hg15)
                all_goals (go_wp2_with fail)
                all_goals go_meet
                all_goals (rw [q1, Bool.false_and]; exact hS15)
            case rest =>
              clear hS14
              have hS := hcut
              clear hcut
              obtain ⟨Sd, hSd⟩ : ∃ Sd, Sd = lsize (decide (1 ≤ o) && decide (o ≤ 4096)) Sc := ⟨_, rfl⟩
              rw [← hSd] at hS
              have HL := Lib.hid (lhead D S HNA.out HSb.out HOC.out hSd)
              clear hSd HNA HSb HOC
              cases Sd with
              | bad x =>
                have HCB := Lib.hid (HS.out.symm.trans (HL.out.1 x rfl))
                clear HS HL
                have HXB := Lib.hid (show PP = ((0, 0, []), x) by rw [HX.out, HCB.out]; rfl)
                have k2 := hS.rdr.c2
                obtain ⟨pb, _, hpb⟩ := hS.rdr.c1
                obtain ⟨xb0, xb1, xb2⟩ := hpb
                have qb1 : (x == 0) = false := beq_eq_false_iff_ne.2 xb0
                have qb2 : (x != 0) = true := bne_iff_ne.2 xb0
                have HSB := Lib.hid hS
                clear xb0
                change wc.cell? ⟨br, 2, none⟩ = some (.int .i64 x) at k2
                obtain ⟨⟨e0, e1, e2⟩, ef⟩ := id hS.res
                have ef0 := ef 0
                have ef1 := ef 1
                have ef2 := ef 2
                have hbn1 : br ≠ w.heap.size := by omega
                have hbn2 : w.heap.size ≠ br := by omega
                clear hS
                go_wp2_with fail
                go_region
                all_goals
                  have hput := (((HSB.out.res.setD 0).setN 0).set (.slice none 0 0)).go (Below.refl _ _).drew
                  have hBy := (((HSB.out.below.setCell (p := ⟨w.heap.size, 0, none⟩) (Nat.le_refl _) (.int .u64 0)).setCell (p := ⟨w.heap.size, 1, none⟩) (Nat.le_refl _) (.int .i64 0)).setCell (p := ⟨w.heap.size, 2, none⟩) (Nat.le_refl _) (.slice none 0 0)).drew
                  obtain ⟨⟨s0, s1, s2⟩, _⟩ := id hput
                  clear e0 e1 e2 k2
                  go_wp2_with fail
                  refine bodyPost_ret (v := .tuple #[.agg #[.int .u64 0, .int .i64 0, .slice none 0 0], .int .i64 x]) (by simp [results, Try.results36, go_sem, s0, s1, s2]) rfl ?_
                  unfold TellsD
                  rw [HXB.out]
                  exact ⟨⟨none, 0, [], rfl, GOcts.nil _ _, rfl⟩, hBy⟩
              | ok u r =>
                obtain ⟨hn, ho1, ho2, hB⟩ := HL.out.2 r rfl
                have HBD := Lib.hid (HS.out.symm.trans hB)
                clear hB HL HS
                have k2 := hS.rdr.c2
                change wc.cell? ⟨br, 2, none⟩ = some (.int .i64 0) at k2
                have df1 := hS.c.fz 1
                obtain ⟨d0, d1, d2⟩ := id hS.c.at'
                obtain ⟨⟨m1, m2⟩, ⟨m3, m4⟩, m5, m6⟩ := head_mul (N := n) (L := o) ⟨by omega, by omega⟩ (by omega)
                have hS2 := hS.put (hS.c.setN n)
                clear hS
                go_wp2_with fail
                have cFw := fun W => ref_few n o W ⟨m1, m2⟩ ⟨m3, m4⟩ ⟨m5, m6⟩
                (with_reducible refine (cFw _).mono ?_)
                rintro e w16 ⟨rfl, rfl⟩
                generalize (wc.setCell ⟨bc, 1, none⟩ (.int .i64 n)) = w17 at *
                clear d0 d1 d2 df1 k2 cFw
                go_wp2_with fail
                (with_reducible refine (ref_size br w.heap.size A c b (.ok u r) _ _ hS2.rdr).mono ?_)
                rintro e w18 ⟨rfl, hR18, hg18⟩
                have hS18 := hS2.read hR18 hg18
                clear hR18 hg18 hS2
                by_cases hcel : 4194304 < 4 * (n : Int) * n * o
                · have hk : decide (4 * (n : Int) * n * o ≤ 4194304) = false := decide_eq_false (by omega)
                  rw [hk] at hS18
                  have HCB := Lib.hid (HBD.out.trans (if_pos hcel))
                  have hS : DSt w w18 br A c b w.heap.size bc D n (.slice none 0 0) (.bad 194) := hS18
                  clear hS18 hcel hk m1 m2 m3 m4 m5 m6 HBD
                  obtain ⟨x, hxx⟩ : ∃ x : Int, x = 194 := ⟨_, rfl⟩
                  rw [← hxx] at hS HCB
                  clear hxx
                  have HXB := Lib.hid (show PP = ((0, 0, []), x) by rw [HX.out, HCB.out]; rfl)
                  have k2 := hS.rdr.c2
                  obtain ⟨pb, _, hpb⟩ := hS.rdr.c1
                  obtain ⟨xb0, xb1, xb2⟩ := hpb
                  have qb1 : (x == 0) = false := beq_eq_false_iff_ne.2 xb0
                  have qb2 : (x != 0) = true := bne_iff_ne.2 xb0
                  have HSB := Lib.hid hS
                  clear xb0
                  change w18.cell? ⟨br, 2, none⟩ = some (.int .i64 x) at k2
                  obtain ⟨⟨e0, e1, e2⟩, ef⟩ := id hS.res
                  have ef0 := ef 0
                  have ef1 := ef 1
                  have ef2 := ef 2
                  have hbn1 : br ≠ w.heap.size := by omega
                  have hbn2 : w.heap.size ≠ br := by omega
                  clear hS
                  go_wp2_with fail
                  go_region
                  all_goals
                    have hput := (((HSB.out.res.setD 0).setN 0).set (.slice none 0 0)).go (Below.refl _ _).drew
                    have hBy := (((HSB.out.below.setCell (p := ⟨w.heap.size, 0, none⟩) (Nat.le_refl _) (.int .u64 0)).setCell (p := ⟨w.heap.size, 1, none⟩) (Nat.le_refl _) (.int .i64 0)).setCell (p := ⟨w.heap.size, 2, none⟩) (Nat.le_refl _) (.slice none 0 0)).drew
                    obtain ⟨⟨s0, s1, s2⟩, _⟩ := id hput
                    clear e0 e1 e2 k2
                    go_wp2_with fail
                    refine bodyPost_ret (v := .tuple #[.agg #[.int .u64 0, .int .i64 0, .slice none 0 0], .int .i64 x]) (by simp [results, Try.results36, go_sem, s0, s1, s2]) rfl ?_
                    unfold TellsD
                    rw [HXB.out]
                    exact ⟨⟨none, 0, [], rfl, GOcts.nil _ _, rfl⟩, hBy⟩
                · have hk : decide (4 * (n : Int) * n * o ≤ 4194304) = true := decide_eq_true (by omega)
                  rw [hk] at hS18
                  have HCB := Lib.hid (HBD.out.trans (if_neg hcel))
                  have hS : DSt w w18 br A c b w.heap.size bc D n (.slice none 0 0) (.ok () r) := hS18
                  clear hS18 hcel hk m1 m2 m3 m4 m5 m6 HBD
                  have k2 := hS.rdr.c2
                  change w18.cell? ⟨br, 2, none⟩ = some (.int .i64 0) at k2
                  obtain ⟨d0, d1, d2⟩ := id hS.c.at'
                  have cPl := fun W => ref_places n W hn
                  go_wp2_with fail
                  (with_reducible refine (cPl _).mono ?_)
                  rintro e w19 ⟨Ap, cp, rfl, hop, hb19⟩
                  have hS19 := hS.go hb19
                  have hPB : bc < w18.heap.size := hS.c.at'.lt
                  have hPB2 : br < w18.heap.size := by have := hS.lt3; omega
                  have hsz := hb19.size
                  have HG0 := Lib.hid (GOcts.nil w19 w18.heap.size)
                  clear cPl k2 d0 d1 d2 hS hb19
                  generalize w18.heap.size = PB at *
                  obtain ⟨QT, hQT⟩ : ∃ QT, QT = octsP n (pairs n) o [] r := ⟨_, rfl⟩
                  have HQ0 := Lib.hid (show lOcts n (o - 0) (([] : List OR).map OR.oc) (.ok () r) = QT by rw [hQT]; rfl)
                  rw [← hQT] at HCB
                  clear hQT
                  have hE := Try.elOct
                  go_wp2_with fail
                  go_loopw [11] (fun s11 wq => ∃ i : Nat, s11 = .int .i64 i ∧ i ≤ o ∧ ∃ Ao co, ∃ rs : List OR, ∃ S, Hid (lOcts n (o - i) (rs.map OR.oc) S = QT) ∧ Hid (rs.length = i) ∧ DSt w wq br A c b w.heap.size bc D n (.slice Ao rs.length co) S ∧ GOcts wq PB Ao co rs ∧ wq.ownsRow PB 79 2 (.slice Ap (pairs n).length cp) (pairs n).length (pv (pairs n)) ∧ PB ≤ wq.heap.size) (fun s _ => o - (intOf s).toNat)
                  case atStart => exact ⟨0, rfl, by omega, none, 0, [], .ok () r, HQ0, Lib.hid rfl, hS19, HG0.out, hop, hsz⟩
                  case round =>
                    clear hS19 hop hsz HG0 HQ0
                    obtain ⟨i, rfl, hi, Ao, co, rs, S, HQI, HRL, hS, hG, hop, hsz⟩ := hrel
                    cases S with
                    | bad x =>
                      have HCB0 := HCB
                      clear HCB
                      have HCB := Lib.hid (show certP b = .bad x by rw [HCB0.out, ← HQI.out]; rfl)
                      rcases Nat.lt_or_ge i o with hlt9 | hge
                      · have q0 : decide ((i : Int) < (o : Int)) = true := decide_eq_true (by omega)
                        have q00 : decide (i < o) = true := decide_eq_true hlt9
                        clear hG hop hsz
                        have HXB := Lib.hid (show PP = ((0, 0, []), x) by rw [HX.out, HCB.out]; rfl)
                        have k2 := hS.rdr.c2
                        obtain ⟨pb, _, hpb⟩ := hS.rdr.c1
                        obtain ⟨xb0, xb1, xb2⟩ := hpb
                        have qb1 : (x == 0) = false := beq_eq_false_iff_ne.2 xb0
                        have qb2 : (x != 0) = true := bne_iff_ne.2 xb0
                        have HSB := Lib.hid hS
                        clear xb0
                        change wr.cell? ⟨br, 2, none⟩ = some (.int .i64 x) at k2
                        obtain ⟨⟨e0, e1, e2⟩, ef⟩ := id hS.res
                        have ef0 := ef 0
                        have ef1 := ef 1
                        have ef2 := ef 2
                        have hbn1 : br ≠ w.heap.size := by omega
                        have hbn2 : w.heap.size ≠ br := by omega
                        clear hS
                        go_wp2_with fail
                        go_region
                        all_goals
                          have hput := (((HSB.out.res.setD 0).setN 0).set (.slice none 0 0)).go (Below.refl _ _).drew
                          have hBy := (((HSB.out.below.setCell (p := ⟨w.heap.size, 0, none⟩) (Nat.le_refl _) (.int .u64 0)).setCell (p := ⟨w.heap.size, 1, none⟩) (Nat.le_refl _) (.int .i64 0)).setCell (p := ⟨w.heap.size, 2, none⟩) (Nat.le_refl _) (.slice none 0 0)).drew
                          obtain ⟨⟨s0, s1, s2⟩, _⟩ := id hput
                          clear e0 e1 e2 k2
                          go_wp2_with fail
                          refine bodyPost_ret (v := .tuple #[.agg #[.int .u64 0, .int .i64 0, .slice none 0 0], .int .i64 x]) (by simp [results, Try.results36, go_sem, s0, s1, s2]) rfl ?_
                          unfold TellsD
                          rw [HXB.out]
                          exact ⟨⟨none, 0, [], rfl, GOcts.nil _ _, rfl⟩, hBy⟩
                      · have q0 : decide ((i : Int) < (o : Int)) = false := decide_eq_false (by omega)
                        have q00 : decide (i < o) = false := decide_eq_false (by omega)
                        clear hG hop hsz
                        have HXB := Lib.hid (show PP = ((0, 0, []), x) by rw [HX.out, HCB.out]; rfl)
                        have k2 := hS.rdr.c2
                        obtain ⟨pb, _, hpb⟩ := hS.rdr.c1
                        obtain ⟨xb0, xb1, xb2⟩ := hpb
                        have qb1 : (x == 0) = false := beq_eq_false_iff_ne.2 xb0
                        have qb2 : (x != 0) = true := bne_iff_ne.2 xb0
                        have HSB := Lib.hid hS
                        clear xb0
                        change wr.cell? ⟨br, 2, none⟩ = some (.int .i64 x) at k2
                        obtain ⟨⟨e0, e1, e2⟩, ef⟩ := id hS.res
                        have ef0 := ef 0
                        have ef1 := ef 1
                        have ef2 := ef 2
                        have hbn1 : br ≠ w.heap.size := by omega
                        have hbn2 : w.heap.size ≠ br := by omega
                        clear hS
                        go_wp2_with fail
                        go_region
                        all_goals
                          have hput := (((HSB.out.res.setD 0).setN 0).set (.slice none 0 0)).go (Below.refl _ _).drew
                          have hBy := (((HSB.out.below.setCell (p := ⟨w.heap.size, 0, none⟩) (Nat.le_refl _) (.int .u64 0)).setCell (p := ⟨w.heap.size, 1, none⟩) (Nat.le_refl _) (.int .i64 0)).setCell (p := ⟨w.heap.size, 2, none⟩) (Nat.le_refl _) (.slice none 0 0)).drew
                          obtain ⟨⟨s0, s1, s2⟩, _⟩ := id hput
                          clear e0 e1 e2 k2
                          go_wp2_with fail
                          refine bodyPost_ret (v := .tuple #[.agg #[.int .u64 0, .int .i64 0, .slice none 0 0], .int .i64 x]) (by simp [results, Try.results36, go_sem, s0, s1, s2]) rfl ?_
                          unfold TellsD
                          rw [HXB.out]
                          exact ⟨⟨none, 0, [], rfl, GOcts.nil _ _, rfl⟩, hBy⟩
                    | ok u r =>
                      rcases Nat.lt_or_ge i o with hlt9 | hge
                      · have q0 : decide ((i : Int) < (o : Int)) = true := decide_eq_true (by omega)
                        have q00 : decide (i < o) = true := decide_eq_true hlt9
                        have hSd := hS.go (Below.refl _ _).drew
                        have hGd := hG.go (Below.refl _ _).drew
                        have hopd := own_below hop (Below.refl _ _).drew
                        have hszd : PB ≤ wr.drew.heap.size := hsz
                        have cO := ref_oct br w.heap.size A c b (.ok u r) Ap cp n wr.drew hSd.rdr hn (fun X hX => rdp_own (own_read hopd hX hPB2))
                        have k2 := hS.rdr.c2
                        change wr.cell? ⟨br, 2, none⟩ = some (.int .i64 0) at k2
                        have d1 := hS.c.at'.c1
                        have d2 := hS.c.at'.c2
                        have d1d := hSd.c.at'.c1
                        have d2d := hSd.c.at'.c2
                        obtain ⟨P, hP⟩ : ∃ P, P = loct n (.ok u r) := ⟨_, rfl⟩
                        rw [← hP] at cO
                        have HP := Lib.hid hP.symm
                        have hsz40 : (rs.length + 1) * 40 ≤ 140737488355328 := by have := HRL.out; omega
                        clear hP hS hG hop hsz
                        go_wp2_with fail
                        go_region_law (first
                          | (go_simp; go_at_call 62; (with_reducible refine cO.mono ?_); rintro e w5 ⟨Ao5, co5, oo, rfl, hon, hOw, hI5, hLN, hg5⟩; have hS5 := hSd.read hLN.rdr hg5; have hG5 := hGd.read hg5 hPB2; have hop5 := own_read hopd hg5 hPB2; have hs5 := Nat.le_trans hszd hg5.size; have c1 := hS5.c.at'.c1; have c2 := hS5.c.at'.c2; have hal := (Below.refl w5.heap.size w5).alloc (Nat.le_refl _) (.cells #[.int .i64 n, .bool oo.e, .slice Ao5 oo.m.length co5] 55); have c2b := (hS5.go hal).c.at'.c2; have HON := Lib.hid hon; have HLN := Lib.hid hLN; clear hon hLN)
                          | (refine step_appSg hE (w5.alloc (.cells #[.int .i64 n, .bool oo.e, .slice Ao5 oo.m.length co5] 55)) rfl (.tmp 107) (.tmp 113) rfl PB Ao co rs.length (ov rs) rfl (hG5.row.alloc _) [.int .i64 n, .bool oo.e, .slice Ao5 oo.m.length co5] w5.heap.size rfl rfl (oct_news w5 55 ⟨n, oo.e, Ao5, co5, oo.m⟩) (by simp [Value.oneCell']) hsz40 (by simp; omega) ?_; intro A' c' w9 hr9 hb9 hg9; have hS9 := (hS5.go hal).low hb9 hPB; obtain ⟨e0, e1, e2⟩ := hS9.c.at'; have ef2 := hS9.c.fz 2))
                        all_goals
                          have hG9 := (hG5.go hal).snoc (r := ⟨n, oo.e, Ao5, co5, oo.m⟩) ⟨by show I64 (n : Int); exact ⟨by omega, by omega⟩, hI5, (hOw.below hal).lower hszd⟩ hr9 hg9
                          have hop9 := own_beside (own_below hop5 hal) (hG5.go hal).row (by decide) hg9
                          have hs9 := Nat.le_trans hs5 (Nat.le_trans hal.size hb9.size)
                          have HS := Lib.hid (hS9.put (hS9.c.set (.slice A' (rs.length + 1) c')))
                          have HG := Lib.hid (hG9.low (p := ⟨bc, 2, none⟩) hPB (.slice A' (rs.length + 1) c'))
                          have HO := Lib.hid (own_low hop9 (p := ⟨bc, 2, none⟩) hPB (.slice A' (rs.length + 1) c'))
                          have HZ := Lib.hid (show PB ≤ (w9.setCell ⟨bc, 2, none⟩ (.slice A' (rs.length + 1) c')).heap.size by simpa using hs9)
                          have HQN := Lib.hid (show lOcts n (o - (i + 1)) ((rs ++ [(⟨n, oo.e, Ao5, co5, oo.m⟩ : OR)]).map OR.oc) (stOf P) = QT by
                            rw [← HQI.out, List.map_append, List.map_cons, List.map_nil, oc_mk HON.out, show o - i = (o - (i + 1)) + 1 by omega]
                            exact HLN.out.next HP.out)
                          clear hG9 hop9 hs9 hS9 hr9 hb9 hg9 hG5 hop5 hS5 hs5 c1 c2 c2b e0 e1 e2 ef2 hg5 hal hOw hI5
                          go_wp2_with fail
                          go_roundw
                          case rel => exact ⟨i + 1, by go_num, by omega, A', c', rs ++ [⟨n, oo.e, Ao5, co5, oo.m⟩], stOf P, HQN, Lib.hid (by rw [List.length_append, HRL.out]; rfl), by rw [List.length_append]; exact HS.out, HG.out, HO.out, HZ.out⟩
                          case measure => simp [intOf]; omega
                      · obtain rfl : i = o := by omega
                        have q0 : decide ((i : Int) < (i : Int)) = false := by simp
                        have q00 : decide (i < i) = false := by simp
                        have HQ2 := Lib.hid (show QT = .ok (rs.map OR.oc) r by rw [← HQI.out, Nat.sub_self]; rfl)
                        obtain ⟨pp, kp, hpp, hrp⟩ := hS.rdr.c1
                        have k2 := hS.rdr.c2
                        change wr.cell? ⟨br, 2, none⟩ = some (.int .i64 0) at k2
                        have hbl := hS.rdr.len
                        by_cases hlt9 : pp < b.length
                        · have q5 : decide ((pp : Int) < (b.length : Int)) = true := decide_eq_true (by omega)
                          have q6 : decide (pp < b.length) = true := decide_eq_true hlt9
                          have HCB0 := HCB
                          clear HCB
                          have HCB := Lib.hid (show certP b = .bad 195 by rw [HCB0.out, HQ2.out]; exact if_pos (by rw [hrp, List.length_drop]; omega))
                          have f2 := hS.rdr.fz 2
                          obtain ⟨hR21, hg21⟩ := hS.rdr.setBad 195 (by omega)
                          have HS21 := Lib.hid (hS.read hR21 hg21)
                          clear hR21 hg21 hS hrp hG hop hsz
                          go_upto_region 27 with fail
                          have hS := HS21.out
                          obtain ⟨w20, hw20⟩ : ∃ w20, w20 = wr.setCell ⟨br, 2, none⟩ (.int .i64 195) := ⟨_, rfl⟩
                          rw [← hw20] at hS
                          rw [← hw20]
                          clear hw20 HS21 k2 kp f2
                          obtain ⟨x, hxx⟩ : ∃ x : Int, x = 195 := ⟨_, rfl⟩
                          rw [← hxx] at hS HCB
                          clear hxx
                          have HXB := Lib.hid (show PP = ((0, 0, []), x) by rw [HX.out, HCB.out]; rfl)
                          have k2 := hS.rdr.c2
                          obtain ⟨pb, _, hpb⟩ := hS.rdr.c1
                          obtain ⟨xb0, xb1, xb2⟩ := hpb
                          have qb1 : (x == 0) = false := beq_eq_false_iff_ne.2 xb0
                          have qb2 : (x != 0) = true := bne_iff_ne.2 xb0
                          have HSB := Lib.hid hS
                          clear xb0
                          change w20.cell? ⟨br, 2, none⟩ = some (.int .i64 x) at k2
                          obtain ⟨⟨e0, e1, e2⟩, ef⟩ := id hS.res
                          have ef0 := ef 0
                          have ef1 := ef 1
                          have ef2 := ef 2
                          have hbn1 : br ≠ w.heap.size := by omega
                          have hbn2 : w.heap.size ≠ br := by omega
                          clear hS
                          go_wp2_with fail
                          go_region
                          all_goals
                            have hput := (((HSB.out.res.setD 0).setN 0).set (.slice none 0 0)).go (Below.refl _ _).drew
                            have hBy := (((HSB.out.below.setCell (p := ⟨w.heap.size, 0, none⟩) (Nat.le_refl _) (.int .u64 0)).setCell (p := ⟨w.heap.size, 1, none⟩) (Nat.le_refl _) (.int .i64 0)).setCell (p := ⟨w.heap.size, 2, none⟩) (Nat.le_refl _) (.slice none 0 0)).drew
                            obtain ⟨⟨s0, s1, s2⟩, _⟩ := id hput
                            clear e0 e1 e2 k2
                            go_wp2_with fail
                            refine bodyPost_ret (v := .tuple #[.agg #[.int .u64 0, .int .i64 0, .slice none 0 0], .int .i64 x]) (by simp [results, Try.results36, go_sem, s0, s1, s2]) rfl ?_
                            unfold TellsD
                            rw [HXB.out]
                            exact ⟨⟨none, 0, [], rfl, GOcts.nil _ _, rfl⟩, hBy⟩
                        · have q5 : decide ((pp : Int) < (b.length : Int)) = false := decide_eq_false (by omega)
                          have q6 : decide (pp < b.length) = false := decide_eq_false hlt9
                          have HCB0 := HCB
                          clear HCB
                          have HY := Lib.hid (show PP = ((D, (n : Int), rs.map OR.oc), 0) by
                            rw [HX.out, HCB0.out, HQ2.out]
                            show dFin (if 0 < r.length then PR.bad 195 else PR.ok (D, (n : Int), rs.map OR.oc) r) = _
                            rw [if_neg (by rw [hrp, List.length_drop]; omega)]
                            rfl)
                          obtain ⟨d0, d1, d2⟩ := id hS.c.at'
                          obtain ⟨⟨e0, e1, e2⟩, ef⟩ := id hS.res
                          have ef0 := ef 0
                          have ef1 := ef 1
                          have ef2 := ef 2
                          clear hrp
                          go_wp2_with fail
                          have hbx := ((hS.res.setD D).setN n).set (.slice Ao rs.length co)
                          obtain ⟨⟨s0, s1, s2⟩, _⟩ := id hbx
                          have hbl2 : w.heap.size < PB := by omega
                          have hGf := ((hG.low (p := ⟨w.heap.size, 0, none⟩) hbl2 (.int .u64 D)).low (p := ⟨w.heap.size, 1, none⟩) hbl2 (.int .i64 n)).low (p := ⟨w.heap.size, 2, none⟩) hbl2 (.slice Ao rs.length co)
                          have hBy := ((hS.below.setCell (p := ⟨w.heap.size, 0, none⟩) (Nat.le_refl _) (.int .u64 D)).setCell (p := ⟨w.heap.size, 1, none⟩) (Nat.le_refl _) (.int .i64 n)).setCell (p := ⟨w.heap.size, 2, none⟩) (Nat.le_refl _) (.slice Ao rs.length co)
                          refine bodyPost_ret (v := .tuple #[.agg #[.int .u64 D, .int .i64 n, .slice Ao rs.length co], .int .i64 0]) (by simp [results, Try.results36, go_sem, s0, s1, s2]) rfl ?_
                          unfold TellsD
                          rw [HY.out]
                          exact ⟨⟨Ao, co, rs, rfl, hGf.lower (Nat.le_of_lt hbl2), rfl⟩, hBy⟩
end Go.Proofs.Ytghpiofjejhegaa

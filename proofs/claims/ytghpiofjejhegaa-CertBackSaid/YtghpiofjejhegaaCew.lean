/- The walk of the reference's reader's oct. -/
import Derived.Test.YtghpiofjejhegaaCev
import Derived.StillTailTactics
namespace Go.Proofs.Ytghpiofjejhegaa
open Go.RowKit
set_option maxRecDepth 100000
set_option linter.unusedVariables false
set_option linter.unusedSimpArgs false
open Gn
/-- What the reader's oct tells. -/
def LNext (w' : World) (br B : Nat) (A : Option Addr) (c : Nat) (b : List Int) (o : OC) : PR OC → Prop
  | .bad x => LRd w' br B A c b (.bad x)
  | .ok o' r => o' = o ∧ LRd w' br B A c b (.ok () r)
def TellsL (w : World) (br B : Nat) (A : Option Addr) (c : Nat) (b : List Int) (n : Nat) (P : PR OC) (e : Ending) (w' : World) : Prop :=
  ∃ Ao co, ∃ o : OC, e = .returned (.agg #[.int .i64 n, .bool o.e, .slice Ao o.m.length co]) ∧ o.n = n ∧ Ow w' w.heap.size 2 .i64 Ao co o.m ∧ (∀ x ∈ o.m, I64 x) ∧ LNext w' br B A c b o P ∧ w.grownBy w' (some br)
/-- An octagon under way. -/
structure LSt (w0 wr : World) (br B : Nat) (A : Option Addr) (c : Nat) (b : List Int) (n b2 bo g : Nat) (M : List Int) (S : PR Unit) : Prop where
  rdr : LRd wr br B A c b S
  box : OBox wr bo n false (.slice (some ⟨g, 0, none⟩) M.length M.length)
  res : OBox wr b2 0 false (.slice none 0 0)
  row : Ow wr w0.heap.size 2 .i64 (some ⟨g, 0, none⟩) M.length M
  grow : w0.grownBy wr (some br)
  lt : br < w0.heap.size
  lt2 : w0.heap.size ≤ b2
  lt3 : b2 < g
  lt4 : g < bo
theorem LSt.go {w0 wr w' : World} {br B c n b2 bo g : Nat} {A : Option Addr} {b M : List Int} {S : PR Unit} (h : LSt w0 wr br B A c b n b2 bo g M S) (hb : Below wr.heap.size wr w') : LSt w0 w' br B A c b n b2 bo g M S :=
  ⟨h.rdr.go hb, h.box.go hb, h.res.go hb, h.row.below hb, only_below h.grow hb, h.lt, h.lt2, h.lt3, h.lt4⟩
theorem LSt.read {w0 wr w' : World} {br B c n b2 bo g : Nat} {A : Option Addr} {b M : List Int} {S S' : PR Unit} (h : LSt w0 wr br B A c b n b2 bo g M S) (hr : LRd w' br B A c b S') (hg : wr.grownBy w' (some br)) : LSt w0 w' br B A c b n b2 bo g M S' :=
  ⟨hr, h.box.only hg (by have := h.lt; have := h.lt2; have := h.lt3; have := h.lt4; omega), h.res.only hg (by have := h.lt; have := h.lt2; omega), h.row.other' hg (by have := h.lt; have := h.lt2; have := h.lt3; omega), grown_trans h.grow hg, h.lt, h.lt2, h.lt3, h.lt4⟩
theorem LSt.bound {w0 wr w' : World} {br B c n b2 bo g : Nat} {A : Option Addr} {b M M' : List Int} {S : PR Unit} (h : LSt w0 wr br B A c b n b2 bo g M S) (hl : M'.length = M.length) (hr : Ow w' w0.heap.size 2 .i64 (some ⟨g, 0, none⟩) M.length M') (hg : wr.grownBy w' (some g)) : LSt w0 w' br B A c b n b2 bo g M' S := by
  have h1 := h.lt
  have h2 := h.lt2
  have h3 := h.lt3
  have h4 := h.lt4
  exact ⟨h.rdr.only hg (by omega) (by have := h.rdr.hB; omega), by rw [hl]; exact h.box.only hg (by omega), h.res.only hg (by omega), by rw [hl]; exact hr, grown_of_new h.grow hg (by omega), h1, h2, h3, h4⟩
theorem LSt.put {w0 wr : World} {br B c n b2 bo g : Nat} {A : Option Addr} {b M : List Int} {S : PR Unit} (h : LSt w0 wr br B A c b n b2 bo g M S) :
    LSt w0 (((wr.setCell ⟨bo, 0, none⟩ (.int .i64 n)).setCell ⟨bo, 1, none⟩ (.bool false)).setCell ⟨bo, 2, none⟩ (.slice (some ⟨g, 0, none⟩) M.length M.length)) br B A c b n b2 bo g M S := by
  have h1 := h.lt
  have h2 := h.lt2
  have h3 := h.lt3
  have h4 := h.lt4
  obtain ⟨hp, hg⟩ := h.box.put n false (.slice (some ⟨g, 0, none⟩) M.length M.length)
  exact ⟨h.rdr.only hg (by omega) (by have := h.rdr.hB; omega), hp, h.res.only hg (by omega), h.row.other' hg (by omega), grown_of_new h.grow hg (by omega), h1, h2, h3, h4⟩
theorem LRd.bts' {w : World} {br B c : Nat} {A : Option Addr} {b : List Int} {S : PR Unit} (h : LRd w br B A c b S) : ∀ u r, S = .ok u r → Bts r := by
  rintro u r rfl
  obtain ⟨p, _, hp, hr⟩ := h.c1
  rw [hr]
  exact fun x hx => h.bts x (List.mem_of_mem_drop hx)
theorem LRd.ne {w : World} {br B c : Nat} {A : Option Addr} {b : List Int} {x : Int} (h : LRd w br B A c b (.bad x)) : x ≠ 0 ∧ 0 ≤ x ∧ x ≤ 1000 := by
  obtain ⟨p, _, hp⟩ := h.c1
  exact hp
set_option maxHeartbeats 4000000 in
theorem ref_oct (br B : Nat) (A : Option Addr) (c : Nat) (b : List Int) (S : PR Unit) (Ap : Option Addr) (cp : Nat) (n : Nat) (w : World) (h : LRd w br B A c b S) (hn : n ≤ 64) (hps : ∀ X, w.grownBy X (some br) → RdP X X.heap.size Ap (pairs n)) :
    Calls Try.prog 62 #[.pointer (some ⟨br, 0, none⟩), .int .i64 n, .slice Ap (pairs n).length cp] w (TellsL w br B A c b n (loct n S)) := by
  have HPS := Lib.hid hps
  have hres := OBox.new w 55 0 false (.slice none 0 0)
  have hb1 : Below w.heap.size w (w.alloc (.cells #[.int .i64 0, .bool false, .slice none 0 0] 55)) := (Below.refl _ _).alloc (Nat.le_refl _) _
  obtain ⟨w1, hw1⟩ : ∃ w1, w1 = w.alloc (.cells #[.int .i64 0, .bool false, .slice none 0 0] 55) := ⟨_, rfl⟩
  rw [← hw1] at hres hb1
  have h1 := h.go hb1
  have hlt := h.lt
  have HB1 := Lib.hid (only_of_below hb1 (some br))
  have HK := Lib.hid (lkind n S h.bts')
  obtain ⟨hf0, hf1⟩ := lbyte_rng S h.bts'
  have cB := ref_byte br B A c b S w1 h1
  obtain ⟨PP, hPP⟩ : ∃ PP, PP = loct n S := ⟨_, rfl⟩
  rw [← hPP] at HK
  rw [← hPP]
  obtain ⟨f, hf⟩ : ∃ f, f = (lbyte S).1 := ⟨_, rfl⟩
  obtain ⟨S2, hS2⟩ : ∃ S2, S2 = (lbyte S).2 := ⟨_, rfl⟩
  rw [← hf, ← hS2] at HK
  rw [← hf, ← hS2] at cB
  rw [← hf] at hf0 hf1
  have hsm := pairs_small hn
  clear hb1 hps h h1 hPP hf hS2
  go_enter Try.func62, Try.ntmps62
  go_wp2_with fail
  rw [← hw1]
  clear hw1
  (with_reducible refine cB.mono ?_)
  clear cB
  rintro e w2 ⟨rfl, hR2, hg2⟩
  have hres2 := hres.only hg2 (by omega)
  have HG2 := Lib.hid (grown_trans HB1.out hg2)
  clear hg2 hres
  go_wp2_with fail
  (with_reducible refine (ref_size br B A c b S2 _ _ hR2).mono ?_)
  rintro e w3 ⟨rfl, hR3, hg3⟩
  have hres3 := hres2.only hg3 (by omega)
  have HG3 := Lib.hid (grown_trans HG2.out hg3)
  clear hg3 hres2 hR2
  have hsz : w.heap.size < w3.heap.size := hres3.lt
  rcases HK.out with ⟨x, e1, e2⟩ | ⟨r, e1, e0, e2⟩ | ⟨r, e1, e0, e2⟩
  · rw [e1] at hR3
    have HX := Lib.hid e2
    have k2 := hR3.c2
    change w3.cell? ⟨br, 2, none⟩ = some (.int .i64 x) at k2
    obtain ⟨x0, x1, x2⟩ := hR3.ne
    have q1 : (x != 0) = true := bne_iff_ne.2 x0
    have cE := fun W => ref_Empty n W
    have HR3 := Lib.hid hR3
    have HRES := Lib.hid hres3
    clear e1 e2 HK x0 hR3 hres3
    go_wp2_with fail
    (with_reducible refine (cE _).mono ?_)
    rintro e w4 ⟨rfl, hb4⟩
    have hres4 := HRES.out.go hb4
    have hR4 := HR3.out.go hb4
    have hG4 := only_below HG3.out hb4
    obtain ⟨⟨d0, d1, d2⟩, df⟩ := id hres4
    have df0 := df 0
    have df1 := df 1
    have df2 := df 2
    clear hb4 k2
    go_wp2_with fail
    obtain ⟨hput, hpg⟩ := hres4.put n true (.slice none 0 0)
    obtain ⟨⟨s0, s1, s2⟩, _⟩ := id hput
    refine bodyPost_ret (v := .agg #[.int .i64 n, .bool true, .slice none 0 0]) (by simp [results, Try.results62, go_sem, s0, s1, s2]) rfl ?_
    refine ⟨none, 0, ⟨n, true, []⟩, rfl, rfl, Ow.nil _ _ _ _, by simp, ?_, grown_of_new hG4 hpg (Nat.le_refl _)⟩
    rw [HX.out]
    exact hR4.only hpg (by omega) (by have := hR4.hB; omega)
  · rw [e1] at hR3
    have HX := Lib.hid e2
    have k2 := hR3.c2
    change w3.cell? ⟨br, 2, none⟩ = some (.int .i64 0) at k2
    subst e0
    have cE := fun W => ref_Empty n W
    have HR3 := Lib.hid hR3
    have HRES := Lib.hid hres3
    clear e1 e2 HK hR3 hres3
    go_wp2_with fail
    (with_reducible refine (cE _).mono ?_)
    rintro e w4 ⟨rfl, hb4⟩
    have hres4 := HRES.out.go hb4
    have hR4 := HR3.out.go hb4
    have hG4 := only_below HG3.out hb4
    obtain ⟨⟨d0, d1, d2⟩, df⟩ := id hres4
    have df0 := df 0
    have df1 := df 1
    have df2 := df 2
    clear hb4 k2
    go_wp2_with fail
    obtain ⟨hput, hpg⟩ := hres4.put n true (.slice none 0 0)
    obtain ⟨⟨s0, s1, s2⟩, _⟩ := id hput
    refine bodyPost_ret (v := .agg #[.int .i64 n, .bool true, .slice none 0 0]) (by simp [results, Try.results62, go_sem, s0, s1, s2]) rfl ?_
    refine ⟨none, 0, ⟨n, true, []⟩, rfl, rfl, Ow.nil _ _ _ _, by simp, ?_, grown_of_new hG4 hpg (Nat.le_refl _)⟩
    rw [HX.out]
    exact ⟨rfl, hR4.only hpg (by omega) (by have := hR4.hB; omega)⟩
  · rw [e1] at hR3
    obtain ⟨v, S4, hv4⟩ : ∃ v S4, lnum (.ok () r) = (v, S4) := ⟨_, _, rfl⟩
    have HX := Lib.hid (e2.trans (loct_one n r hv4))
    have k2 := hR3.c2
    change w3.cell? ⟨br, 2, none⟩ = some (.int .i64 0) at k2
    subst e0
    have cD := fun W => ref_Top n W hn
    have HR3 := Lib.hid hR3
    have HRES := Lib.hid hres3
    have HV4 := Lib.hid hv4
    clear e1 e2 HK hR3 hres3 hv4
    go_wp2_with fail
    (with_reducible refine (cD _).mono ?_)
    clear cD k2
    rintro e w4 ⟨g, M, hM, rfl, hrow, hb4⟩
    have hR4 := HR3.out.go hb4
    have hres4 := HRES.out.go hb4
    have hG4 := only_below HG3.out hb4
    have hgg := hrow.blockGe
    have hMl := topM_len (2 * n)
    rw [← hM] at hMl
    have hMi : ∀ x ∈ M, I64 x := by rw [hM]; exact topM_i64'
    have hFr := fresh_top n
    rw [← hM] at hFr
    have HML := Lib.hid hMl
    have HMI := Lib.hid hMi
    have HFR := Lib.hid hFr
    have HX2 : Hid (PP = lPl n v 0 M (lsize (decide (v ≤ (pairs n).length)) S4)) := Lib.hid (by rw [HX.out, hM])
    have hbox := OBox.new w4 55 n false (.slice (some ⟨g, 0, none⟩) M.length M.length)
    have hb5 : Below w4.heap.size w4 (w4.alloc (.cells #[.int .i64 n, .bool false, .slice (some ⟨g, 0, none⟩) M.length M.length] 55)) := (Below.refl _ _).alloc (Nat.le_refl _) _
    obtain ⟨w5, hw5⟩ : ∃ w5, w5 = w4.alloc (.cells #[.int .i64 n, .bool false, .slice (some ⟨g, 0, none⟩) M.length M.length] 55) := ⟨_, rfl⟩
    rw [← hw5] at hbox hb5
    have hS5 : LSt w w5 br B A c b n w.heap.size w4.heap.size g M (.ok () r) := ⟨hR4.go hb5, hbox, hres4.go hb5, (hrow.below hb5).lower (by omega), only_below hG4 hb5, hlt, Nat.le_refl _, by omega, hgg.2⟩
    have cN := ref_number br B A c b (.ok () r) w5 hS5.rdr
    rw [HV4.out] at cN
    have hv : (v : Int) ≤ 18446744073709551615 := lnum_rng HR3.out.bts' HV4.out
    clear hb5 hbox hR4 hres4 hG4 hgg hrow hMl hMi hFr hM HX hb4
    go_wp2_with fail
    rw [← hw5]
    clear hw5
    generalize w4.heap.size = bo at *
    (with_reducible refine cN.mono ?_)
    clear cN
    rintro e w6 ⟨rfl, hR6, hg6⟩
    have hS6 := hS5.read hR6 hg6
    clear hS5 hR6 hg6
    go_wp2_with fail
    (with_reducible refine (ref_size br B A c b S4 _ _ hS6.rdr).mono ?_)
    rintro e w7 ⟨rfl, hR7, hg7⟩
    have hS7 := hS6.read hR7 hg7
    have HVL : Hid (∀ u r, lsize (decide (v ≤ (pairs n).length)) S4 = .ok u r → v ≤ (pairs n).length) := Lib.hid (fun u r hu => by
      rcases Nat.lt_or_ge (pairs n).length v with hx | hx
      · rw [decide_eq_false (by omega)] at hu
        cases S4 <;> cases hu
      · exact hx)
    have HX3 := Lib.hid HX2.out.symm
    obtain ⟨S7, hS70⟩ : ∃ S7, S7 = lsize (decide (v ≤ (pairs n).length)) S4 := ⟨_, rfl⟩
    rw [← hS70] at HX3 hS7 HVL
    clear hS6 hR7 hg7 hS70 HX2 HV4 HRES HR3 HG3 HG2
    go_wp2_with fail
    go_loopw [10, 11] (fun s10 s11 wq => ∃ i : Nat, s11 = .int .u64 i ∧ i ≤ v ∧ ∃ nx : Nat, s10 = .int .u64 nx ∧ nx ≤ (pairs n).length ∧ ∃ M S, Hid (lPl n (v - i) nx M S = PP) ∧ Hid (M.length = (2 * n) * (2 * n)) ∧ Hid (∀ x ∈ M, I64 x) ∧ Hid (Fresh n nx M) ∧ Hid (∀ u r, S = .ok u r → v ≤ (pairs n).length) ∧ LSt w wq br B A c b n w.heap.size bo g M S) (fun _ s _ => v - (intOf s).toNat)
    case atStart => exact ⟨0, rfl, by omega, 0, rfl, by omega, M, S7, HX3, HML, HMI, HFR, HVL, hS7⟩
    case round =>
      clear hS7 HML HMI HFR HVL HX3
      obtain ⟨i, rfl, hi, nx, rfl, hnx, M, S, HPP, HML, HMI, HFR, HVL, hS⟩ := hrel
      cases S with
      | bad x =>
        have HX : Hid (PP = .bad x) := Lib.hid HPP.out.symm
        have k2 := hS.rdr.c2
        change wr.cell? ⟨br, 2, none⟩ = some (.int .i64 x) at k2
        obtain ⟨x0, x1, x2⟩ := hS.rdr.ne
        have q1 : (x == 0) = false := beq_eq_false_iff_ne.2 x0
        clear x0
        rcases Nat.lt_or_ge i v with hlt2 | hge
        · have q0 : decide (i < v) = true := decide_eq_true hlt2
          obtain ⟨d0, d1, d2⟩ := hS.box.box
          obtain ⟨⟨e0, e1, e2⟩, ef⟩ := id hS.res
          have ef0 := ef 0
          have ef1 := ef 1
          have ef2 := ef 2
          go_wp2_with fail
          obtain ⟨hput, hpg⟩ := hS.res.put n false (.slice (some ⟨g, 0, none⟩) M.length M.length)
          obtain ⟨⟨s0, s1, s2⟩, _⟩ := id hput
          refine bodyPost_ret (v := .agg #[.int .i64 n, .bool false, .slice (some ⟨g, 0, none⟩) M.length M.length]) (by simp [results, Try.results62, go_sem, s0, s1, s2]) rfl ?_
          refine ⟨_, _, ⟨n, false, M⟩, rfl, rfl, hS.row.other' hpg (by have := hS.lt3; omega), HMI.out, ?_, grown_of_new hS.grow hpg (Nat.le_refl _)⟩
          rw [HX.out]
          exact hS.rdr.only hpg (by omega) (by have := hS.rdr.hB; omega)
        · have q0 : decide (i < v) = false := decide_eq_false (by omega)
          obtain ⟨d0, d1, d2⟩ := hS.box.box
          obtain ⟨⟨e0, e1, e2⟩, ef⟩ := id hS.res
          have ef0 := ef 0
          have ef1 := ef 1
          have ef2 := ef 2
          go_wp2_with fail
          obtain ⟨hput, hpg⟩ := hS.res.put n false (.slice (some ⟨g, 0, none⟩) M.length M.length)
          obtain ⟨⟨s0, s1, s2⟩, _⟩ := id hput
          refine bodyPost_ret (v := .agg #[.int .i64 n, .bool false, .slice (some ⟨g, 0, none⟩) M.length M.length]) (by simp [results, Try.results62, go_sem, s0, s1, s2]) rfl ?_
          refine ⟨_, _, ⟨n, false, M⟩, rfl, rfl, hS.row.other' hpg (by have := hS.lt3; omega), HMI.out, ?_, grown_of_new hS.grow hpg (Nat.le_refl _)⟩
          rw [HX.out]
          exact hS.rdr.only hpg (by omega) (by have := hS.rdr.hB; omega)
      | ok u r =>
        have k2 := hS.rdr.c2
        change wr.cell? ⟨br, 2, none⟩ = some (.int .i64 0) at k2
        rcases Nat.lt_or_ge i v with hlt2 | hge
        · have q0 : decide (i < v) = true := decide_eq_true hlt2
          obtain ⟨gp, S1, hgp⟩ : ∃ gp S1, lnum (.ok u r) = (gp, S1) := ⟨_, _, rfl⟩
          have cN := ref_number br B A c b (.ok u r) wr hS.rdr
          rw [hgp] at cN
          have hgr := lnum_rng hS.rdr.bts' hgp
          have HGP := Lib.hid hgp
          clear hgp
          go_wp2_with fail
          (with_reducible refine cN.mono ?_)
          clear cN k2
          rintro e w8 ⟨rfl, hR8, hg8⟩
          have hS8 := hS.read hR8 hg8
          clear hR8 hg8 hS
          have hvl2 : gp ≤ 18446744073709551615 := by omega
          go_upto_region 13 with fail
          go_cut [] (fun wx => LSt w wx br B A c b n w.heap.size bo g M (lsize (decide (gp < (pairs n).length) && decide (nx + gp < (pairs n).length)) S1))
          case first =>
            by_cases hgl : gp < (pairs n).length
            · have q1 : decide (gp < (pairs n).length) = true := decide_eq_true hgl
              go_wp2_with fail
              all_goals (with_reducible refine (ref_size br B A c b S1 _ _ hS8.rdr).mono ?_)
              all_goals (rintro e w9 ⟨rfl, hR9, hg9⟩)
              all_goals (have hS9 := hS8.read hR9 hg9)
              all_goals (clear hR9 hg9)
              all_goals (go_wp2_with fail)
              all_goals go_meet
              all_goals (rw [show (decide (gp < (pairs n).length) && decide (nx + gp < (pairs n).length)) = decide ((nx : Int) + (gp : Int) < ((pairs n).length : Int)) by rw [q1, Bool.true_and, decide_eq_decide]; omega]; exact hS9)
            · have q1 : decide (gp < (pairs n).length) = false := decide_eq_false hgl
              go_wp2_with fail
              all_goals (with_reducible refine (ref_size br B A c b S1 _ _ hS8.rdr).mono ?_)
              all_goals (rintro e w9 ⟨rfl, hR9, hg9⟩)
              all_goals (have hS9 := hS8.read hR9 hg9)
              all_goals (clear hR9 hg9)
              all_goals (go_wp2_with fail)
              all_goals go_meet
              all_goals (rw [q1, Bool.false_and]; exact hS9)
          case rest =>
            clear hS8
            have hS9 := hcut
            clear hcut
            obtain ⟨S2, hS2⟩ : ∃ S2, S2 = lsize (decide (gp < (pairs n).length) && decide (nx + gp < (pairs n).length)) S1 := ⟨_, rfl⟩
            rw [← hS2] at hS9
            obtain ⟨vv, S3, hvv⟩ : ∃ vv S3, lnum S2 = (vv, S3) := ⟨_, _, rfl⟩
            have cN := ref_number br B A c b S2 wc hS9.rdr
            rw [hvv] at cN
            have hvr := lnum_rng hS9.rdr.bts' hvv
            have hstep := lPl_step n (v - (i + 1)) nx M r (show lnum (.ok () r) = (gp, S1) from HGP.out) hS2 hvv
            rw [show v - (i + 1) + 1 = v - i by omega] at hstep
            have HST := Lib.hid hstep
            clear hS2 hvv hstep HGP
            go_wp2_with fail
            (with_reducible refine cN.mono ?_)
            clear cN
            rintro e w10 ⟨rfl, hR10, hg10⟩
            have hS := hS9.read hR10 hg10
            clear hR10 hg10 hS9
            cases S3 with
            | bad x =>
              have HX : Hid (PP = .bad x) := Lib.hid (HPP.out.symm.trans (HST.out.1 x rfl))
              have k2 := hS.rdr.c2
              change w10.cell? ⟨br, 2, none⟩ = some (.int .i64 x) at k2
              obtain ⟨x0, x1, x2⟩ := hS.rdr.ne
              have q2 : (x != 0) = true := bne_iff_ne.2 x0
              clear x0
              obtain ⟨d0, d1, d2⟩ := hS.box.box
              obtain ⟨⟨e0, e1, e2⟩, ef⟩ := id hS.res
              have ef0 := ef 0
              have ef1 := ef 1
              have ef2 := ef 2
              go_wp2_with fail
              obtain ⟨hput, hpg⟩ := hS.res.put n false (.slice (some ⟨g, 0, none⟩) M.length M.length)
              obtain ⟨⟨s0, s1, s2⟩, _⟩ := id hput
              refine bodyPost_ret (v := .agg #[.int .i64 n, .bool false, .slice (some ⟨g, 0, none⟩) M.length M.length]) (by simp [results, Try.results62, go_sem, s0, s1, s2]) rfl ?_
              refine ⟨_, _, ⟨n, false, M⟩, rfl, rfl, hS.row.other' hpg (by have := hS.lt3; omega), HMI.out, ?_, grown_of_new hS.grow hpg (Nat.le_refl _)⟩
              rw [HX.out]
              exact hS.rdr.only hpg (by omega) (by have := hS.rdr.hB; omega)
            | ok u3 r3 =>
              obtain ⟨hnl, hnx2⟩ := HST.out.2 r3 rfl
              have HNX := Lib.hid (HPP.out.symm.trans hnx2)
              have k2 := hS.rdr.c2
              change w10.cell? ⟨br, 2, none⟩ = some (.int .i64 0) at k2
              have hu9 : I64 (unfold' (vv : Int)) := by unfold unfold' I64; split <;> omega
              have cF := fun W => runfold_any (vv : Int) W (by omega) hvr
              obtain ⟨u9, hu⟩ : ∃ u9, u9 = unfold' (vv : Int) := ⟨_, rfl⟩
              rw [← hu] at cF hu9 HNX
              have cI := fun W => ref11_Is u9 W
              clear hu hnx2 HST HPP
              by_cases hk : (isB u9 && (u9 != 9223372036854775807)) = true
              · rw [hk] at HNX
                have hk1 := (Bool.and_eq_true_iff.1 hk).1
                have hk2 := (Bool.and_eq_true_iff.1 hk).2
                rw [hk1] at cI
                have HK1 := Lib.hid hk1
                go_wp2_with (first | (go_at_call 76; (with_reducible refine (cF _).mono ?_); rintro e w11 ⟨rfl, rfl⟩) | (go_at_call 68; (with_reducible refine (cI _).mono ?_); rintro e w11 ⟨rfl, rfl⟩))
                (with_reducible refine (ref_size br B A c b (.ok u3 r3) _ _ hS.rdr).mono ?_)
                rintro e w12 ⟨rfl, hR12, hg12⟩
                have hS12 := hS.read hR12 hg12
                have k2 := hS12.rdr.c2
                change w12.cell? ⟨br, 2, none⟩ = some (.int .i64 0) at k2
                clear hR12 hg12 hS
                have HBP := Lib.hid (bound_put HFR.out (show nx ≤ nx + gp by omega) hnl HK1.out)
                have HFP := Lib.hid (fresh_put (v := u9) HFR.out HML.out (show nx ≤ nx + gp by omega) hnl)
                have HML2 := Lib.hid (show (putM (2 * n) M (pfst (pairs n) (nx + gp)) (psnd (pairs n) (nx + gp)) u9).length = (2 * n) * (2 * n) by rw [putM_len]; exact HML.out)
                have HMI2 := Lib.hid (putM_i64 (m := 2 * n) (i := pfst (pairs n) (nx + gp)) (j := psnd (pairs n) (nx + gp)) HMI.out hu9)
                obtain ⟨hi1, hj1, hij⟩ := pairs_mem.1 (pget_mem hnl)
                dsimp only at hi1 hj1 hij
                have hij2 : pfst (pairs n) (nx + gp) ≠ psnd (pairs n) (nx + gp) := by unfold isP at hij; simp only [Bool.and_eq_true, decide_eq_true_eq] at hij; exact hij.1
                obtain ⟨gq, oq, hAp, hgq, hcq⟩ := HPS.out w12 hS12.grow (by omega)
                obtain ⟨p0, p1⟩ := hcq (nx + gp) hnl
                clear hcq hij hk1 hk2 hk
                obtain ⟨ii, hii⟩ : ∃ ii, ii = pfst (pairs n) (nx + gp) := ⟨_, rfl⟩
                obtain ⟨jj, hjj⟩ : ∃ jj, jj = psnd (pairs n) (nx + gp) := ⟨_, rfl⟩
                rw [← hii, ← hjj] at HBP HFP HML2 HMI2 hij2 HNX
                rw [← hii] at p0 hi1
                rw [← hjj] at p1 hj1
                clear hii hjj
                have HBL := Lib.hid (show (putM (2 * n) M ii jj u9).length = M.length from putM_len (2 * n) M ii jj u9)
                have HS12 := Lib.hid hS12
                obtain ⟨d0, d1, d2⟩ := hS12.box.box
                have a0 := After.cell d0
                have a1 := After.cell d1
                have a2 := After.cell d2
                have a3 := After.cell p0
                have a4 := After.cell p1
                have cBo := fun W (hW : Below w12.heap.size w12 W) => ref_Bound n g M.length M ii jj u9 W w.heap.size hn HML.out (HS12.out.go hW).row hi1 hj1 hij2
                rw [HBP.out] at cBo
                have HCB := Lib.hid cBo
                have q6 : (0 : Int) ≤ (nx : Int) + (gp : Int) := by omega
                have q7 : (nx : Int) + (gp : Int) < ((pairs n).length : Int) := by omega
                have q8 : ((nx : Int) + (gp : Int)).toNat = nx + gp := by omega
                have q9 : (nx : Int) + (gp : Int) ≤ 16384 := by omega
                clear cBo hS12 hij2
                subst hAp
                go_upto_region 20 with fail
                refine wp_region_mix [(12, 2)] (by kernel_rfl) (by kernel_rfl) ?_
                simp only [wpMix, List.take_succ_cons, List.take_zero, List.drop_succ_cons, List.drop_zero]
                repeat (go_big_quiet_step (fail))
                refine wpQuiet_nil ?_
                intro w13 hb13
                have hS13 := HS12.out.go hb13
                have cBo := HCB.out w13 hb13
                clear a0 a1 a2 a3 a4 d0 d1 d2 p0 p1 q6 q7 q8 hb13
                go_wp2_with fail
                (with_reducible refine cBo.mono ?_)
                rintro e w14 ⟨rfl, hrow, hg14⟩
                have hS14 := hS13.bound HBL.out hrow hg14
                clear cBo hrow hg14 hS13
                obtain ⟨⟨d0, d1, d2⟩, df⟩ := id hS14.box
                have df0 := df 0
                have df1 := df 1
                have df2 := df 2
                have HS15 := Lib.hid hS14.put
                rw [HBL.out] at d2 HS15
                go_wp2_with fail
                have HVLL : Hid (∀ u r, PR.ok () r3 = .ok u r → v ≤ (pairs n).length) := Lib.hid (fun _ _ _ => HVL.out _ _ rfl)
                refine mixQ_normal (wpQuiet_nil ?_)
                intro w15 hb15
                have HS16 := Lib.hid (HS15.out.go hb15)
                clear hb15 hS14 d0 d1 d2 df df0 df1 df2
                go_wp2_with fail
                go_roundw
                case rel => exact ⟨i + 1, by go_num, by omega, nx + gp + 1, by go_num, by omega, putM (2 * n) M ii jj u9, .ok () r3, Lib.hid HNX.out.symm, HML2, HMI2, HFP, HVLL, HS16.out⟩
                case measure => simp [intOf]; omega
              · by_cases hk1 : isB u9 = true
                · have hk2 : (u9 != 9223372036854775807) = false := by rw [hk1, Bool.true_and] at hk; simpa using hk
                  rw [hk1, hk2] at HNX
                  rw [hk1] at cI
                  have HX : Hid (PP = .bad 194) := Lib.hid HNX.out
                  clear hk hk1
                  go_wp2_with (first | (go_at_call 76; (with_reducible refine (cF _).mono ?_); rintro e w11 ⟨rfl, rfl⟩) | (go_at_call 68; (with_reducible refine (cI _).mono ?_); rintro e w11 ⟨rfl, rfl⟩))
                  (with_reducible refine (ref_size br B A c b (.ok u3 r3) _ _ hS.rdr).mono ?_)
                  rintro e w12 ⟨rfl, hR12, hg12⟩
                  have hS12 := hS.read hR12 hg12
                  clear hS
                  have hS : LSt w w12 br B A c b n w.heap.size bo g M (.bad 194) := hS12
                  clear hS12 hR12 hg12
                  have k2 := hS.rdr.c2
                  change w12.cell? ⟨br, 2, none⟩ = some (.int .i64 194) at k2
                  obtain ⟨d0, d1, d2⟩ := hS.box.box
                  obtain ⟨⟨e0, e1, e2⟩, ef⟩ := id hS.res
                  have ef0 := ef 0
                  have ef1 := ef 1
                  have ef2 := ef 2
                  go_wp2_with fail
                  obtain ⟨hput, hpg⟩ := hS.res.put n false (.slice (some ⟨g, 0, none⟩) M.length M.length)
                  obtain ⟨⟨s0, s1, s2⟩, _⟩ := id hput
                  refine bodyPost_ret (v := .agg #[.int .i64 n, .bool false, .slice (some ⟨g, 0, none⟩) M.length M.length]) (by simp [results, Try.results62, go_sem, s0, s1, s2]) rfl ?_
                  refine ⟨_, _, ⟨n, false, M⟩, rfl, rfl, hS.row.other' hpg (by have := hS.lt3; omega), HMI.out, ?_, grown_of_new hS.grow hpg (Nat.le_refl _)⟩
                  rw [HX.out]
                  exact hS.rdr.only hpg (by omega) (by have := hS.rdr.hB; omega)
                · have hk1' : isB u9 = false := by simpa using hk1
                  rw [hk1'] at HNX cI
                  have HX : Hid (PP = .bad 194) := Lib.hid HNX.out
                  clear hk hk1
                  go_wp2_with (first | (go_at_call 76; (with_reducible refine (cF _).mono ?_); rintro e w11 ⟨rfl, rfl⟩) | (go_at_call 68; (with_reducible refine (cI _).mono ?_); rintro e w11 ⟨rfl, rfl⟩))
                  (with_reducible refine (ref_size br B A c b (.ok u3 r3) _ _ hS.rdr).mono ?_)
                  rintro e w12 ⟨rfl, hR12, hg12⟩
                  have hS12 := hS.read hR12 hg12
                  clear hS
                  have hS : LSt w w12 br B A c b n w.heap.size bo g M (.bad 194) := hS12
                  clear hS12 hR12 hg12
                  have k2 := hS.rdr.c2
                  change w12.cell? ⟨br, 2, none⟩ = some (.int .i64 194) at k2
                  obtain ⟨d0, d1, d2⟩ := hS.box.box
                  obtain ⟨⟨e0, e1, e2⟩, ef⟩ := id hS.res
                  have ef0 := ef 0
                  have ef1 := ef 1
                  have ef2 := ef 2
                  go_wp2_with fail
                  obtain ⟨hput, hpg⟩ := hS.res.put n false (.slice (some ⟨g, 0, none⟩) M.length M.length)
                  obtain ⟨⟨s0, s1, s2⟩, _⟩ := id hput
                  refine bodyPost_ret (v := .agg #[.int .i64 n, .bool false, .slice (some ⟨g, 0, none⟩) M.length M.length]) (by simp [results, Try.results62, go_sem, s0, s1, s2]) rfl ?_
                  refine ⟨_, _, ⟨n, false, M⟩, rfl, rfl, hS.row.other' hpg (by have := hS.lt3; omega), HMI.out, ?_, grown_of_new hS.grow hpg (Nat.le_refl _)⟩
                  rw [HX.out]
                  exact hS.rdr.only hpg (by omega) (by have := hS.rdr.hB; omega)
        · obtain rfl : i = v := by omega
          have q0 : decide (i < i) = false := by simp
          have HX : Hid (PP = .ok ⟨n, false, M⟩ r) := Lib.hid (by rw [← HPP.out, Nat.sub_self]; rfl)
          obtain ⟨d0, d1, d2⟩ := hS.box.box
          obtain ⟨⟨e0, e1, e2⟩, ef⟩ := id hS.res
          have ef0 := ef 0
          have ef1 := ef 1
          have ef2 := ef 2
          go_wp2_with fail
          obtain ⟨hput, hpg⟩ := hS.res.put n false (.slice (some ⟨g, 0, none⟩) M.length M.length)
          obtain ⟨⟨s0, s1, s2⟩, _⟩ := id hput
          refine bodyPost_ret (v := .agg #[.int .i64 n, .bool false, .slice (some ⟨g, 0, none⟩) M.length M.length]) (by simp [results, Try.results62, go_sem, s0, s1, s2]) rfl ?_
          refine ⟨_, _, ⟨n, false, M⟩, rfl, rfl, hS.row.other' hpg (by have := hS.lt3; omega), HMI.out, ?_, grown_of_new hS.grow hpg (Nat.le_refl _)⟩
          rw [HX.out]
          exact ⟨rfl, hS.rdr.only hpg (by omega) (by have := hS.rdr.hB; omega)⟩
end Go.Proofs.Ytghpiofjejhegaa

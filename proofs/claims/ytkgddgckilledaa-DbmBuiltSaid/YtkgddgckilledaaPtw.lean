/- dbm.Points. -/
import Derived.Test.YtkgddgckilledaaPtp
import Derived.Test.YtkgddgckilledaaDbk
import Derived.Test.YtkgddgckilledaaObx
import Derived.Deep.DeepCutAuto
namespace Go.Proofs.Ytkgddgckilledaa
open Go.RowKit
set_option linter.unusedVariables false
set_option linter.unusedSimpArgs false
open Gn
set_option maxHeartbeats 2000000 in
theorem points_bad (N : Int) (A : Option Addr) (c : Nat) (x : List Int) (b : Nat) (w : World) (h : w.cell? ⟨b, 0, none⟩ = some (.int .i64 N)) (hx : (x.length : Int) ≤ 9223372036854775807) :
    Calls Try.prog 43 #[.slice A x.length c, .pointer (some ⟨b, 0, none⟩)] w fun e w' => e = .returned (.bool ((x.length : Int) != N)) ∧ w' = w := by
  go_enter Try.func43, Try.ntmps43
  go_wp2_with fail
  go_ret
  exact ⟨rfl, rfl⟩
set_option maxRecDepth 100000 in
set_option maxHeartbeats 4000000 in
theorem index_bad (N : Int) (A : Option Addr) (c : Nat) (ls : List RowV) (b : Nat) (w : World) (hb : w.cell? ⟨b, 0, none⟩ = some (.int .i64 N)) (hr : RowsIn w w.heap.size A ls) (hl : (ls.length : Int) ≤ 9223372036854775807) :
    Calls Try.prog 69 #[.slice A ls.length c, .func (.func 43) #[] #[.pointer (some ⟨b, 0, none⟩)]] w fun e w' => ∃ k : Int, e = .returned (.int .i64 k) ∧ Below w.heap.size w w' ∧ Hid (0 ≤ k ↔ badL N ls = true) := by
  have HR := Lib.hid hr
  clear hr
  go_enter Try.func69, Try.ntmps69
  go_wp2_with fail
  go_loopw [8] (fun s wr => ∃ i : Nat, s = .int .i64 i ∧ i ≤ ls.length ∧ Hid (∀ j, j < i → ((rvAt ls j).x.length : Int) = N) ∧ w = wr) (fun s _ => ls.length - (intOf s).toNat)
  case atStart => exact ⟨0, rfl, by omega, Lib.hid (fun _ h => absurd h (by omega)), rfl⟩
  case round =>
    obtain ⟨i, rfl, hi, HK, rfl⟩ := hrel
    rcases Nat.lt_or_ge i ls.length with hlt | hge
    · have di : decide ((i : Int) < (ls.length : Int)) = true := decide_eq_true (by omega)
      have q1 : (i : Int) < (ls.length : Int) := by omega
      obtain ⟨g, off, rfl, hg, hx⟩ := HR.out (by omega)
      obtain ⟨hc, _, _, hxl⟩ := hx i hlt
      have cB := points_bad N (rvAt ls i).A (rvAt ls i).c (rvAt ls i).x b w hb hxl
      have HB := Lib.hid (show ((rvAt ls i).x.length : Int) ≠ N → badL N ls = true from badL_at hlt)
      clear hx hxl
      by_cases hne : ((rvAt ls i).x.length : Int) = N
      · have hd : (((rvAt ls i).x.length : Int) != N) = false := bne_eq_false_iff_eq.2 hne
        rw [hd] at cB
        have HL := Lib.hid hne
        clear hne hd HB
        generalize (rvAt ls i).x.length = Ln at hc cB
        generalize (rvAt ls i).A = Ai at hc cB
        generalize (rvAt ls i).c = ci at hc cB
        go_wp2_with (go_at_call 43; with_reducible refine cB.mono ?_; rintro e w' ⟨rfl, rfl⟩)
        go_roundw
        case rel => exact ⟨i + 1, by go_num, by omega, Lib.hid (fun j hj => by
          rcases Nat.lt_or_ge j i with h | h
          · exact HK.out j h
          · obtain rfl : j = i := by omega
            exact HL.out), trivial⟩
        case measure => simp [intOf]; omega
      · have hd : (((rvAt ls i).x.length : Int) != N) = true := bne_iff_ne.2 hne
        rw [hd] at cB
        have HF := Lib.hid (show (0 : Int) ≤ (i : Int) ↔ badL N ls = true from ⟨fun _ => HB.out hne, fun _ => by omega⟩)
        clear hne hd HB
        generalize (rvAt ls i).x.length = Ln at hc cB
        generalize (rvAt ls i).A = Ai at hc cB
        generalize (rvAt ls i).c = ci at hc cB
        go_wp2_with (go_at_call 43; with_reducible refine cB.mono ?_; rintro e w' ⟨rfl, rfl⟩)
        go_ret
        exact ⟨_, rfl, Below.refl _ _, HF⟩
    · obtain rfl : i = ls.length := by omega
      have di : decide ((ls.length : Int) < (ls.length : Int)) = false := decide_eq_false (by omega)
      have HF := Lib.hid (show (0 : Int) ≤ -1 ↔ badL N ls = true by rw [badL_none HK.out]; exact ⟨fun h => absurd h (by omega), fun h => by cases h⟩)
      go_wp2_with fail
      go_ret
      exact ⟨_, rfl, Below.refl _ _, HF⟩
set_option maxHeartbeats 4000000 in
theorem contains_bad (N : Int) (A : Option Addr) (c : Nat) (ls : List RowV) (b : Nat) (w : World) (hb : w.cell? ⟨b, 0, none⟩ = some (.int .i64 N)) (hr : RowsIn w w.heap.size A ls) (hl : (ls.length : Int) ≤ 9223372036854775807) :
    Calls Try.prog 42 #[.slice A ls.length c, .func (.func 43) #[] #[.pointer (some ⟨b, 0, none⟩)]] w fun e w' => e = .returned (.bool (badL N ls)) ∧ Below w.heap.size w w' := by
  have cI := index_bad N A c ls b w hb hr hl
  clear hr
  go_enter Try.func42, Try.ntmps42
  go_wp2_with fail
  with_reducible refine cI.mono ?_
  clear cI
  rintro e w' ⟨k, rfl, hb', HF⟩
  have HB := Lib.hid hb'
  clear hb'
  by_cases hk : 0 ≤ k
  · have hd : decide (k ≥ 0) = true := decide_eq_true hk
    have HT := Lib.hid (HF.out.1 hk)
    clear HF hk
    go_wp2_with fail
    go_ret
    exact ⟨by rw [HT.out]; rfl, HB.out⟩
  · have hd : decide (k ≥ 0) = false := decide_eq_false hk
    have HT := Lib.hid (show badL N ls = false from Bool.eq_false_iff.2 (fun h => hk (HF.out.2 h)))
    clear HF hk
    go_wp2_with fail
    go_ret
    exact ⟨by rw [HT.out]; rfl, HB.out⟩
/-- What lies in the two blocks of Points. -/
structure Pq (w : World) (N : Int) (W : World) : Prop where
  n0 : W.cell? ⟨w.heap.size, 0, none⟩ = some (.int .i64 N)
  res : OctBox W (w.heap.size + 1) 0 false (.slice none 0 0)
  below : Below w.heap.size w W
  size : w.heap.size + 2 ≤ W.heap.size
theorem Pq.go {w W W' : World} {N : Int} (h : Pq w N W) (hb : Below W.heap.size W W') : Pq w N W' :=
  ⟨below_cell hb h.n0, h.res.below hb, h.below.trans (hb.mono h.below.size), Nat.le_trans h.size hb.size⟩
/-- An octagon under way, beside them. -/
structure Pg (w : World) (N : Int) (b base g q : Nat) (X : List Int) (W : World) : Prop where
  pq : Pq w N W
  box : OctAt W b N false (.slice (some ⟨g, 0, none⟩) q q)
  row : Ow W base 2 .i64 (some ⟨g, 0, none⟩) q X
  len : X.length = q
  ne : b ≠ g
  hb : w.heap.size + 2 ≤ base
theorem Pg.go {w W W' : World} {N : Int} {b base g q : Nat} {X : List Int} (h : Pg w N b base g q X W) (hb : Below W.heap.size W W') : Pg w N b base g q X W' :=
  ⟨h.pq.go hb, h.box.below hb, h.row.below hb, h.len, h.ne, h.hb⟩
theorem Pg.set {w W : World} {N : Int} {b base g q : Nat} {X : List Int} (h : Pg w N b base g q X W) (p : Nat) (u : Int) : Pg w N b base g q (X.set p u) (W.setCell ⟨g, p, none⟩ (.int .i64 u)) := by
  have hg := only_setCell (World.grownBy.refl W (some g)) (p := ⟨g, p, none⟩) (.inl rfl) (.int .i64 u)
  have hge := h.row.blockGe.1
  have hhb := h.hb
  refine ⟨⟨only_cell hg h.pq.n0 (by simp; omega), h.pq.res.only hg (by omega), h.pq.below.setCell (by simp; omega) _, ?_⟩, h.box.only hg h.ne, h.row.set' p u, by rw [List.length_set]; exact h.len, h.ne, h.hb⟩
  exact Nat.le_trans h.pq.size hg.size
def TellsP (w : World) (P : Int × Bool × List Int) (p : Int) (e : Ending) (w' : World) : Prop :=
  ∃ A c, e = .returned (.tuple #[.agg #[.int .i64 P.1, .bool P.2.1, .slice A P.2.2.length c], .int .i64 p]) ∧ Ow w' w.heap.size 2 .i64 A c P.2.2 ∧ Below w.heap.size w w'
theorem Ow.lay3 {w : World} {B b : Nat} {A : Option Addr} {c : Nat} {X : List Int} (h : Ow w B 2 .i64 A c X) (hb : b < B) (u0 u1 u2 : Value) : Ow (((w.setCell ⟨b, 0, none⟩ u0).setCell ⟨b, 1, none⟩ u1).setCell ⟨b, 2, none⟩ u2) B 2 .i64 A c X :=
  ((h.low (p := ⟨b, 0, none⟩) hb u0).low (p := ⟨b, 1, none⟩) hb u1).low (p := ⟨b, 2, none⟩) hb u2
theorem OctBox.fin {w0 w : World} {b : Nat} {N : Int} {E : Bool} {v : Value} (h : OctBox w b N E v) (hB : Below w0.heap.size w0 w) (hb : w0.heap.size ≤ b) (N' : Int) (E' : Bool) (v' : Value) :
    OctAt (((w.setCell ⟨b, 0, none⟩ (.int .i64 N')).setCell ⟨b, 1, none⟩ (.bool E')).setCell ⟨b, 2, none⟩ v') b N' E' v' ∧ Below w0.heap.size w0 (((w.setCell ⟨b, 0, none⟩ (.int .i64 N')).setCell ⟨b, 1, none⟩ (.bool E')).setCell ⟨b, 2, none⟩ v') :=
  ⟨(h.put N' E' v').1.box, ((hB.setCell hb _).setCell hb _).setCell hb _⟩
set_option maxRecDepth 100000 in
set_option maxHeartbeats 16000000 in
theorem dbm_Points (N : Int) (A : Option Addr) (c : Nat) (ls : List RowV) (w : World) (hr : RowsIn w w.heap.size A ls) (hl : (ls.length : Int) ≤ 1000000) (hNi : I64 N) (p : Int) (hp : pointsE N ls = p) (R : Int × Bool × List Int) (hR : pointsR N ls = R) :
    Calls Try.prog 14 #[.int .i64 N, .slice A ls.length c] w (TellsP w R p) := by
  obtain ⟨W, hW⟩ : ∃ W, W = (w.alloc (.cells #[.int .i64 N] /-T-/3)).alloc (.cells #[.int .i64 0, .bool false, .slice none 0 0] /-T-/24) := ⟨_, rfl⟩
  have hs : W.heap.size = w.heap.size + 2 := by rw [hW]; simp
  have hB : Below w.heap.size w W := by rw [hW]; exact ((Below.refl _ _).alloc (Nat.le_refl _) _).alloc (by simp) _
  have n0 : W.cell? ⟨w.heap.size, 0, none⟩ = some (.int .i64 N) := by rw [hW]; simp [go_sem]
  have hX : OctBox W (w.heap.size + 1) 0 false (.slice none 0 0) := by
    rw [hW]
    have := OctBox.new (w.alloc (.cells #[.int .i64 N] /-T-/3)) 24 0 false (.slice none 0 0)
    rwa [show (w.alloc (.cells #[.int .i64 N] /-T-/3)).heap.size = w.heap.size + 1 by simp] at this
  have hQ : Pq w N W := ⟨n0, hX, hB, by omega⟩
  have HRl := Lib.hid hr
  have hrW : RowsIn W W.heap.size A ls := fun hn => by
    obtain ⟨b, off, e, hlt, hx⟩ := (hr.below hB) hn
    refine ⟨b, off, e, by omega, fun i hi => ?_⟩
    obtain ⟨h1, h2, h3, h4⟩ := hx i hi
    exact ⟨h1, h2.more hB.size, h3, h4⟩
  have cR := fun X => dbm_right N X
  have cB := contains_bad N A c ls w.heap.size W n0 hrW (by omega)
  have HP := Lib.hid hp
  have HR := Lib.hid hR
  obtain ⟨bb, hbb⟩ : ∃ bb, bb = badL N ls := ⟨_, rfl⟩
  have HBb := Lib.hid hbb
  rw [← hbb] at cB
  clear hp hR hr hrW hbb hB hX hs
  go_enter Try.func14, Try.ntmps14
  rw [hW] at n0
  by_cases hN : 0 ≤ N ∧ N ≤ 64
  · rw [decide_eq_true hN] at cR
    obtain ⟨n, rfl⟩ := Int.eq_ofNat_of_zero_le hN.1
    have hn : n ≤ 64 := by omega
    clear hN
    go_wp2_with (go_at_call 41; with_reducible refine (cR _).mono ?_; rintro e w' ⟨rfl, rfl⟩)
    rw [← hW]
    rw [← hW] at n0
    clear hW
    with_reducible refine cB.mono ?_
    clear cB cR
    rintro e w1 ⟨rfl, hb1⟩
    have hQ1 := hQ.go hb1
    clear hQ hb1 n0
    have n0 := hQ1.n0
    rcases bb with _ | _
    · have hE : p = 0 := by rw [← HP.out]; unfold pointsE; rw [← HBb.out, if_neg (by simp; omega)]
      have hR2 : R = pointsP n ls := by rw [← HR.out]; unfold pointsR; rw [HP.out, if_pos hE]; rfl
      subst hE
      have HR2 := Lib.hid hR2
      clear HP HR hR2
      by_cases h0 : ls.length = 0
      · have hR3 : R = ((n : Int), true, []) := by rw [HR2.out]; unfold pointsP; rw [if_pos h0]
        subst hR3
        have hd : ((ls.length : Int) == 0) = true := by rw [h0]; rfl
        have cE := dbm_Empty n w1 hn
        clear HR2 HBb HRl
        have h00 := Lib.hid h0
        clear h0
        go_wp2_with fail
        refine cE.mono ?_
        clear cE
        rintro e w2 ⟨rfl, hb2⟩
        have hQ2 := hQ1.go hb2
        have hs2 := hQ2.size
        clear hQ1 n0 hb2
        obtain ⟨⟨r0, r1, r2⟩, fr⟩ := id hQ2.res
        have hS := Lib.hid (hQ2.res.fin hQ2.below (by omega) n true (.slice none 0 0))
        have hO := Lib.hid ((Ow.nil w2 (w.heap.size + 2) 2 .i64).lay3 (b := w.heap.size + 1) (by omega) (.int .i64 n) (.bool true) (.slice none 0 0))
        clear hQ2
        go_wp2_with fail
        obtain ⟨⟨s0, s1, s2⟩, hB3⟩ := hS.out
        exact bodyPost_ret (v := .tuple #[.agg #[.int .i64 n, .bool true, .slice none 0 0], .int .i64 0]) (by simp [results, Try.results14, go_sem, r0, r1, r2]) rfl ⟨none, 0, rfl, hO.out.lower (by omega), hB3⟩
      · have hd : ((ls.length : Int) == 0) = false := beq_eq_false_iff_ne.2 (by omega)
        have hR3 := Lib.hid (show R = ((n : Int), false, tabM (2 * n) (bestV ls)) by rw [HR2.out]; unfold pointsP; rw [if_neg h0])
        have hpos : 0 < ls.length := by omega
        have HPos := Lib.hid hpos
        have cT := dbm_Top n w1 hn
        clear HR2 h0 hpos
        go_wp2_with fail
        refine cT.mono ?_
        clear cT
        rintro e w2 ⟨g, M, hM, rfl, ho2, hb2⟩
        have hMl : M.length = (2 * n) * (2 * n) := by rw [hM, topM_len]
        have hq : M.length ≤ 16384 := by rw [hMl, sq2]; exact sq_le hn
        clear hM
        obtain ⟨w3, hw3⟩ : ∃ w3, w3 = w2.alloc (.cells #[.int .i64 n, .bool false, .slice (some ⟨g, 0, none⟩) M.length M.length] /-T-/24) := ⟨_, rfl⟩
        have hb3 : Below w1.heap.size w1 w3 := by rw [hw3]; exact hb2.alloc hb2.size _
        have hgl := ho2.blockGe.2
        have hP3 : Pg w n w2.heap.size w1.heap.size g M.length M w3 := ⟨hQ1.go hb3, by rw [hw3]; exact OctAt.box _ _ _ _ _, by rw [hw3]; exact ho2.alloc _, rfl, by omega, hQ1.size⟩
        have n3 := hP3.pq.n0
        rw [hw3] at n3
        have HMl := Lib.hid hMl
        clear hQ1 n0 ho2 hb2 hb3 hgl hMl
        go_wp2_with fail
        rw [← hw3]
        clear hw3 n3
        generalize w2.heap.size = bO at *
        generalize w1.heap.size = e1 at *
        generalize hqq : M.length = q at *
        have HQ := Lib.hid hqq
        clear hqq
        have HLq := Lib.hid (show q = (2 * n) * (2 * n) from HMl.out)
        go_loopw [36] (fun s wr => ∃ i : Nat, s = .int .i64 i ∧ i ≤ 2 * n ∧ ∃ X : List Int, Hid (X = fI (2 * n) (bestV ls) i M) ∧ Pg w n bO e1 g q X wr) (fun s _ => 2 * n - (intOf s).toNat)
        case atStart => exact ⟨0, rfl, by omega, M, Lib.hid rfl, hP3⟩
        case round =>
          obtain ⟨i, rfl, hi, X, HX, hS⟩ := hrel
          clear hP3
          have n0 := hS.pq.n0
          rcases Nat.lt_or_ge i (2 * n) with hit | hige
          · have di : decide ((i : Int) < 2 * (n : Int)) = true := decide_eq_true (by omega)
            go_wp2_with fail
            go_loopw [41] (fun s wr => ∃ j : Nat, s = .int .i64 j ∧ j ≤ 2 * n ∧ ∃ Y : List Int, Hid (Y = fJ (2 * n) (bestV ls) i j X) ∧ Pg w n bO e1 g q Y wr) (fun s _ => 2 * n - (intOf s).toNat)
            case atStart => exact ⟨0, rfl, by omega, X, Lib.hid rfl, hS⟩
            case round =>
              clear hS n0
              obtain ⟨j, rfl, hj, Y, HY, hS⟩ := hrel
              have n0 := hS.pq.n0
              rcases Nat.lt_or_ge j (2 * n) with hjt | hjge
              · have dj : decide ((j : Int) < 2 * (n : Int)) = true := decide_eq_true (by omega)
                have hlen : (ls.length : Int) ≤ 1000000 := hl
                have hb0 : bestV (ls.take 0) i j = -4611686018427387904 := rfl
                go_wp2_with fail
                clear n0
                go_loopw [46, 10] (fun s m wr => ∃ k : Nat, s = .int .i64 k ∧ k ≤ ls.length ∧ m = .int .i64 (bestV (ls.take k) i j) ∧ Pg w n bO e1 g q Y wr) (fun s _ _ => ls.length - (intOf s).toNat)
                case atStart => exact ⟨0, rfl, by omega, by rw [hb0], hS⟩
                case round =>
                  obtain ⟨k, rfl, hk, hm, hS⟩ := hrel
                  subst hm
                  have n0 := hS.pq.n0
                  rcases Nat.lt_or_ge k ls.length with hkt | hkge
                  · have dk : decide ((k : Int) < (ls.length : Int)) = true := decide_eq_true (by omega)
                    have q1 : (k : Int) < (ls.length : Int) := by omega
                    obtain ⟨gl, off, rfl, hgl, hx⟩ := (HRl.out.below hS.pq.below) HPos.out
                    obtain ⟨hc, hrd, hxi, hxl⟩ := hx k hkt
                    have hxn : (rvAt ls k).x.length = n := by have := badL_false HBb.out.symm hkt; omega
                    have hi2 : i / 2 < (rvAt ls k).x.length := by omega
                    have hj2 : j / 2 < (rvAt ls k).x.length := by omega
                    have cA := dbm_apart (rvAt ls k).A (rvAt ls k).c (rvAt ls k).x i j wr (hrd.more (by have := hS.pq.size; omega)) hxi hi2 hj2 hxl (by omega) (by omega)
                    have cC := fun X => dbm_counts (apartV (rvAt ls k).x i j) X (apartV_mid hxi hi2 hj2)
                    have HM := Lib.hid (show bestV (ls.take (k + 1)) i j = if bestV (ls.take k) i j < countV (apartV (rvAt ls k).x i j) then countV (apartV (rvAt ls k).x i j) else bestV (ls.take k) i j by rw [bestV_take hkt]; split <;> omega)
                    clear hx hrd hxi hxl hxn hi2 hj2
                    generalize bestV (ls.take k) i j = m0 at *
                    generalize countV (apartV (rvAt ls k).x i j) = c0 at *
                    generalize (hiW (apartV (rvAt ls k).x i j)) = ah at *
                    generalize (loW (apartV (rvAt ls k).x i j)) = al at *
                    generalize (rvAt ls k).x.length = Ln at *
                    generalize (rvAt ls k).A = Ai at *
                    generalize (rvAt ls k).c = ci at *
                    go_wp2_with fail
                    refine cA.mono ?_
                    clear cA
                    rintro e w5 ⟨rfl, hb5⟩
                    have hS5 := hS.go hb5
                    clear hS hb5 n0 hc
                    go_wp2_with fail
                    refine (cC _).mono ?_
                    clear cC
                    rintro e w6 ⟨rfl, hb6⟩
                    have hS6 := Lib.hid (hS5.go hb6)
                    clear hS5 hb6
                    by_cases hmc : m0 < c0
                    · have HM2 := Lib.hid (show bestV (ls.take (k + 1)) i j = c0 by rw [HM.out, if_pos hmc])
                      clear HM
                      go_wp2_with fail
                      go_roundw
                      case rel => exact ⟨k + 1, by go_num, by omega, by rw [HM2.out], hS6.out⟩
                      case measure => simp [intOf]; omega
                    · have HM2 := Lib.hid (show bestV (ls.take (k + 1)) i j = m0 by rw [HM.out, if_neg hmc])
                      clear HM
                      go_wp2_with fail
                      go_roundw
                      case rel => exact ⟨k + 1, by go_num, by omega, by rw [HM2.out], hS6.out⟩
                      case measure => simp [intOf]; omega
                  · obtain rfl : k = ls.length := by omega
                    have dk : decide ((ls.length : Int) < (ls.length : Int)) = false := decide_eq_false (by omega)
                    have hp1 : i * (2 * n) + j < q := by rw [HLq.out]; exact idx_lt hit hjt
                    have hst := Lib.hid (show fJ (2 * n) (bestV ls) i (j + 1) X = Y.set (i * (2 * n) + j) (bestV (ls.take ls.length) i j) by rw [List.take_length, HY.out]; rfl)
                    have cAt := fun W => cell_at i j n W (by omega) (by omega) (by omega)
                    have hYl := Lib.hid hS.len
                    generalize bestV (ls.take ls.length) i j = bv at *
                    generalize i * (2 * n) + j = pp at *
                    have q1 : (pp : Int) < (q : Int) := by omega
                    have k2 := hS.box.c2
                    go_upto_region 18 with fail
                    have a0 := After.cell n0
                    have a1 := After.cell k2
                    refine wp_region_mix [(8, 2)] (by kernel_rfl) (by kernel_rfl) ?_
                    simp only [wpMix, List.take_succ_cons, List.take_zero, List.drop_succ_cons, List.drop_zero]
                    repeat (go_big_quiet_step ((go_at_call 36; with_reducible exact after_of (cAt _))))
                    refine wpQuiet_nil ?_
                    intro w6 hb6
                    have hS6 := hS.go hb6
                    have kk := hS6.row.cellAt (i := pp) (by rw [hYl.out]; exact hp1)
                    have kf := hS6.row.frozenAt pp
                    have hP := Lib.hid (hS6.set pp bv)
                    clear hS hS6 hb6 a0 a1 n0 k2 cAt
                    go_wp2_with fail
                    refine mixQ_normal (wpQuiet_nil ?_)
                    intro w8 hb8
                    have hS8 := Lib.hid (hP.out.go hb8)
                    clear hP hb8 kk kf
                    go_wp2_with fail
                    go_roundw
                    case rel => exact ⟨j + 1, by go_num, by omega, _, Lib.hid hst.out.symm, hS8.out⟩
                    case measure => simp [intOf]; omega
              · obtain rfl : j = 2 * n := by omega
                go_wp2_with fail
                go_roundw
                case rel => exact ⟨i + 1, by go_num, by omega, Y, Lib.hid (by rw [HY.out, HX.out]; rfl), hS⟩
                case measure => simp [intOf]; omega
          · have hii : i = 2 * n := by omega
            have dk : decide ((i : Int) < 2 * (n : Int)) = false := decide_eq_false (by omega)
            have hX2 := Lib.hid (show X = tabM (2 * n) (bestV ls) by rw [HX.out, hii]; exact fI_tab (HQ.out.trans HLq.out))
            clear HX hii
            have hXl := Lib.hid hS.len
            have hs2 := hS.pq.size
            have hhb := hS.hb
            obtain ⟨k0, k1, k2⟩ := id hS.box
            obtain ⟨⟨r0, r1, r2⟩, fr⟩ := id hS.pq.res
            have hF := Lib.hid (hS.pq.res.fin hS.pq.below (by omega) n false (.slice (some ⟨g, 0, none⟩) q q))
            have hO := Lib.hid (hS.row.lay3 (b := w.heap.size + 1) (by omega) (.int .i64 n) (.bool false) (.slice (some ⟨g, 0, none⟩) q q))
            clear hS
            go_wp2_with fail
            obtain ⟨⟨s0, s1, s2⟩, hB3⟩ := hF.out
            refine bodyPost_ret (v := .tuple #[.agg #[.int .i64 n, .bool false, .slice (some ⟨g, 0, none⟩) q q], .int .i64 0]) (by simp [results, Try.results14, go_sem, r0, r1, r2]) rfl ?_
            rw [hR3.out, ← hX2.out]
            exact ⟨some ⟨g, 0, none⟩, q, by rw [hXl.out], hO.out.lower (by omega), hB3⟩
    · have hE : p = 120 := by rw [← HP.out]; unfold pointsE; rw [← HBb.out, if_pos (.inr rfl)]
      have hR2 : R = (0, false, []) := by rw [← HR.out]; unfold pointsR; rw [HP.out, if_neg (by omega)]
      subst hE hR2
      clear HP HR HBb HRl
      have hs2 := hQ1.size
      obtain ⟨⟨r0, r1, r2⟩, fr⟩ := id hQ1.res
      have hS := Lib.hid (hQ1.res.fin hQ1.below (by omega) 0 false (.slice none 0 0))
      have hO := Lib.hid ((Ow.nil w1 (w.heap.size + 2) 2 .i64).lay3 (b := w.heap.size + 1) (by omega) (.int .i64 0) (.bool false) (.slice none 0 0))
      clear hQ1
      go_wp2_with fail
      obtain ⟨⟨s0, s1, s2⟩, hB3⟩ := hS.out
      exact bodyPost_ret (v := .tuple #[.agg #[.int .i64 0, .bool false, .slice none 0 0], .int .i64 120]) (by simp [results, Try.results14, go_sem, r0, r1, r2]) rfl ⟨none, 0, rfl, hO.out.lower (by omega), hB3⟩
  · rw [decide_eq_false hN] at cR
    have hE : p = 120 := by rw [← HP.out]; unfold pointsE; rw [if_pos (.inl (by omega))]
    have hR2 : R = (0, false, []) := by rw [← HR.out]; unfold pointsR; rw [HP.out, if_neg (by omega)]
    subst hE hR2
    clear HP HR HBb HRl hN cB
    have hs2 := hQ.size
    obtain ⟨⟨r0, r1, r2⟩, fr⟩ := id hQ.res
    have hS := Lib.hid (hQ.res.fin hQ.below (by omega) 0 false (.slice none 0 0))
    have hO := Lib.hid ((Ow.nil W (w.heap.size + 2) 2 .i64).lay3 (b := w.heap.size + 1) (by omega) (.int .i64 0) (.bool false) (.slice none 0 0))
    clear hQ
    go_upto_region 2 with (go_at_call 41; with_reducible refine (cR _).mono ?_; rintro e w' ⟨rfl, rfl⟩)
    rw [← hW]
    clear hW n0
    go_wp2_with fail
    obtain ⟨⟨s0, s1, s2⟩, hB3⟩ := hS.out
    exact bodyPost_ret (v := .tuple #[.agg #[.int .i64 0, .bool false, .slice none 0 0], .int .i64 120]) (by simp [results, Try.results14, go_sem, r0, r1, r2]) rfl ⟨none, 0, rfl, hO.out.lower (by omega), hB3⟩
end Go.Proofs.Ytkgddgckilledaa

/- Plain: what closing makes where nothing saturates is closed, so is the Join of two; entailment by what is closed. No program in sight. -/
import Derived.Test.YtkogplnleiapfaaOrd
import Derived.Test.YtkogplnleiapfaaCid
import Derived.Test.YtkogplnleiapfaaOrw
import Derived.Test.YtkogplnleiapfaaRof
namespace Go.Proofs.Ytkogplnleiapfaa
open Go.RowKit
set_option linter.unusedVariables false
set_option linter.unusedSimpArgs false
namespace Gn
/-- A matrix that is closed. -/
structure Shut (n : Nat) (X : List Int) : Prop where
  len : X.length = (2 * n) * (2 * n)
  ok : okM (2 * n) X
  tri : Tri (2 * n) X
  ev : ∀ a, a < 2 * n → even (cl (2 * n) X a (ac a)) = cl (2 * n) X a (ac a)
  st : ∀ a, a < 2 * n → ∀ b, b < 2 * n → a ≠ b → cl (2 * n) X a b ≤ half (plus (cl (2 * n) X a (ac a)) (cl (2 * n) X (ac b) b))
theorem Shut.close {n : Nat} {X : List Int} (h : Shut n X) : ∃ t, closeM (2 * n) X = (some X, t) := by
  have hB := allB_of h.len h.ok
  have d0 := fun a ha => (h.ok a ha a ha).2.1 rfl
  have e1 : (paths (2 * n) (X, false)).1 = X := paths_tri hB h.tri
  have e2 : mirrors (2 * n) X = X := mat_ext ((mI_len _ _ _).trans h.len) h.len fun a ha b hb => by
    rw [cl_mirrors h.len hB a ha b hb, ← (h.ok a ha b hb).2.2, less_same (cl_bd hB _ _)]
  have e3 : loops (2 * n) X = false := by
    cases e : loops (2 * n) X
    · rfl
    · obtain ⟨a, ha, h1⟩ := loops_iff.1 e
      rw [d0 a ha] at h1
      omega
  have e4 : evens (2 * n) X = X := mat_ext ((eI_len _ _ _).trans h.len) h.len fun a ha b hb => by
    rw [cl_evens h.len a ha b hb]
    split
    · rename_i e; subst e; exact h.ev a ha
    · rfl
  have e5 : ∀ t, (sides (2 * n) X t).1 = false := fun t => by
    cases e : (sides (2 * n) X t).1
    · rfl
    · obtain ⟨a, ha, h1⟩ := sides_iff.1.1 e
      have := h.tri a ha (ac a) (ac_lt ha) a ha
      rw [d0 a ha] at this
      omega
  have e6 : ∀ t, (strong (2 * n) (X, t)).1 = X := fun t => mat_ext ((tI_len _ _ _).trans h.len) h.len fun a ha b hb => by
    rw [(cl_strong h.len hB).1 a ha b hb]
    split
    · rfl
    · rename_i hab
      exact less_of_le (cl_bd hB _ _) (half_bd _) (h.st a ha b hb hab)
  unfold closeM
  dsimp only
  rw [e1, e2, e3, e4, e5, if_neg (by simp), if_neg (by simp), e6]
  exact ⟨_, rfl⟩
theorem close_shut {n : Nat} {M Z : List Int} (hl : M.length = (2 * n) * (2 * n)) (hok : okM (2 * n) M) (h : closeM (2 * n) M = (some Z, false)) : Shut n Z := by
  obtain ⟨c⟩ := closeM_some h
  have hB := allB_of hl hok
  have fZ := c.fZ hl hB
  obtain ⟨n1, n2, n3⟩ := c.no_sat hl hB rfl
  refine ⟨fZ.1, c.okZ hl hok, c.triZ hl hok rfl, fun a ha => ?_, fun a ha b hb hab => ?_⟩
  · have u := c.uZ hl hok rfl ha
    have b1 := cl_bd (m := 2 * n) fZ.2 a (ac a)
    unfold even
    rw [asB_of b1]
    split <;> omega
  · have u1 := c.uZ hl hok rfl ha
    have u2 := c.uZ hl hok rfl (ac_lt hb)
    have y1 := c.yU hl hok n1 ha
    have y2 := c.yU hl hok n1 (ac_lt hb)
    rw [ac_ac] at u2 y2
    have z := c.zP hl hok rfl ha hb
    have f1 : cl (2 * n) Z a (ac a) = cl (2 * n) c.Y a (ac a) := by omega
    have f2 : cl (2 * n) Z (ac b) b = cl (2 * n) c.Y (ac b) b := by omega
    have w := plus_ways (cl_bd (c.fY hl hB).2 a (ac a)) (cl_bd (c.fY hl hB).2 (ac b) b) (n3 a ha b hb hab)
    rw [f1, f2]
    have bp := plus_bd (cl (2 * n) c.Y a (ac a)) (cl (2 * n) c.Y (ac b) b)
    unfold half
    rw [asB_of bp]
    have b1 := cl_bd (m := 2 * n) (c.fY hl hB).2 a (ac a)
    have b2 := cl_bd (m := 2 * n) (c.fY hl hB).2 (ac b) b
    have b3 := cl_bd (m := 2 * n) fZ.2 a b
    unfold hv at z
    unfold Bd at b1 b2 b3
    generalize cl (2 * n) c.Y a (ac a) = u at *
    generalize cl (2 * n) c.Y (ac b) b = v at *
    generalize plus u v = p at *
    split at z <;> split <;> omega
theorem cl_zip {n : Nat} {f : Int → Int → Int} {X Y : List Int} (hl : X.length = (2 * n) * (2 * n)) {a b : Nat} (ha : a < 2 * n) (hb : b < 2 * n) : cl (2 * n) (zip2 f X Y) a b = f (cl (2 * n) X a b) (cl (2 * n) Y a b) := by
  unfold cl
  rw [nth_zip2 (by rw [hl]; exact idx_lt ha hb)]
/-- The greater of two that are closed is closed. -/
theorem Shut.max {n : Nat} {X Y : List Int} (h : Shut n X) (k : Shut n Y) : Shut n (zip2 max X Y) := by
  have e := fun a b (ha : a < 2 * n) (hb : b < 2 * n) => cl_zip (f := Max.max) (Y := Y) h.len ha hb
  have hB := allB_of h.len h.ok
  have kB := allB_of k.len k.ok
  refine ⟨by rw [zip2_len, h.len], fun a ha b hb => ⟨?_, fun q => ?_, ?_⟩, fun a ha i hi b hb => ?_, fun a ha => ?_, fun a ha b hb hab => ?_⟩
  · rw [e a b ha hb]
    have h1 := cl_bd (m := 2 * n) hB a b
    have h2 := cl_bd (m := 2 * n) kB a b
    refine (isB_iff _).2 ?_
    unfold Bd at *
    omega
  · rw [e a b ha hb, (h.ok a ha b hb).2.1 q, (k.ok a ha b hb).2.1 q]; decide
  · rw [e a b ha hb, e _ _ (ac_lt hb) (ac_lt ha), (h.ok a ha b hb).2.2, (k.ok a ha b hb).2.2]
  · rw [e a b ha hb, e a i ha hi, e i b hi hb]
    have t1 := Int.le_trans (h.tri a ha i hi b hb) (plus_mono2 (Int.le_max_left (cl (2 * n) X a i) (cl (2 * n) Y a i)) (Int.le_max_left (cl (2 * n) X i b) (cl (2 * n) Y i b)))
    have t2 := Int.le_trans (k.tri a ha i hi b hb) (plus_mono2 (Int.le_max_right (cl (2 * n) X a i) (cl (2 * n) Y a i)) (Int.le_max_right (cl (2 * n) X i b) (cl (2 * n) Y i b)))
    exact Int.max_le.2 ⟨t1, t2⟩
  · rw [e a _ ha (ac_lt ha)]
    rcases Int.le_total (cl (2 * n) X a (ac a)) (cl (2 * n) Y a (ac a)) with q | q
    · rw [Int.max_eq_right q]; exact k.ev a ha
    · rw [Int.max_eq_left q]; exact h.ev a ha
  · rw [e a b ha hb, e a _ ha (ac_lt ha), e _ b (ac_lt hb) hb]
    have t1 := Int.le_trans (h.st a ha b hb hab) (half_mono (plus_mono2 (Int.le_max_left (cl (2 * n) X a (ac a)) (cl (2 * n) Y a (ac a))) (Int.le_max_left (cl (2 * n) X (ac b) b) (cl (2 * n) Y (ac b) b))))
    have t2 := Int.le_trans (k.st a ha b hb hab) (half_mono (plus_mono2 (Int.le_max_right (cl (2 * n) X a (ac a)) (cl (2 * n) Y a (ac a))) (Int.le_max_right (cl (2 * n) X (ac b) b) (cl (2 * n) Y (ac b) b))))
    exact Int.max_le.2 ⟨t1, t2⟩
/-- An octagon that is closed: empty, or its matrix is. -/
def ShutO (n : Nat) (E : Bool) (M : List Int) : Prop := (E = true ∧ M = []) ∨ (E = false ∧ Shut n M)
theorem shutO_clo {n : Nat} {E : Bool} {M : List Int} (hn : n ≤ 64) (h : ShutO n E M) : clo n E M = ((n : Int), E, M) := by
  rcases h with ⟨rfl, rfl⟩ | ⟨rfl, h⟩
  · unfold clo; rw [closeP_empty (chk_empty hn)]
  · obtain ⟨t, ht⟩ := h.close
    unfold clo
    rw [closeP_ok (chk_ok hn (by rw [h.len, sq2]) h.ok), ht]
theorem clo_shut {n : Nat} {E : Bool} {M : List Int} (hc : chk n E M = 0) (hs : (closeP n E M).1.2 = false) : ShutO n (clo n E M).2.1 (clo n E M).2.2 := by
  obtain ⟨m, hm, hn, hE1, hE0⟩ := chk_zero hc
  obtain rfl : n = m := by omega
  unfold clo
  rcases E with _ | _
  · obtain ⟨hl, hok⟩ := hE0 rfl
    rw [closeP_ok hc] at hs ⊢
    rcases hA : closeM (2 * n) M with ⟨_ | Z, s⟩
    · exact .inl ⟨rfl, rfl⟩
    · rw [hA] at hs
      have hs' : s = false := hs
      subst hs'
      exact .inr ⟨rfl, close_shut (by rw [hl, sq2]) hok hA⟩
  · rw [closeP_empty hc]; exact .inl ⟨rfl, rfl⟩
theorem joinP_shut {n : Nat} {Ea Eb : Bool} {Ma Mb : List Int} (hc : chk n Ea Ma = 0) (hd : chk n Eb Mb = 0) (hs : (closeP n Ea Ma).1.2 = false) (ht : (closeP n Eb Mb).1.2 = false) : ShutO n (joinP n Ea Ma Eb Mb).2.1 (joinP n Ea Ma Eb Mb).2.2 := by
  have h1 := clo_shut hc hs
  have h2 := clo_shut hd ht
  unfold joinP
  split
  · exact h2
  · split
    · exact h1
    · rename_i g1 g2
      rcases h1 with ⟨h1, _⟩ | ⟨_, h1⟩
      · exact absurd h1 g1
      rcases h2 with ⟨h2, _⟩ | ⟨_, h2⟩
      · exact absurd h2 g2
      exact .inr ⟨rfl, h1.max h2⟩
/-- Not above, of octagons. -/
def leO (Ea : Bool) (Ma : List Int) (Eb : Bool) (Mb : List Int) : Prop := Ea = true ∨ (Eb = false ∧ Gn.le Ma Mb)
theorem above_iff {n : Nat} {Ea Eb : Bool} {Ma Mb : List Int} (ha : chk n Ea Ma = 0) (hb : chk n Eb Mb = 0) : above Ea Ma Eb Mb = true ↔ leO Ea Ma Eb Mb := by
  unfold above leO
  rcases Ea with _ | _
  · rcases Eb with _ | _
    · simp only [Bool.false_or, Bool.not_false, Bool.true_and, decide_eq_true_eq, Bool.false_eq_true, false_or, true_and]
      have hl := chk_same_len ha hb
      refine ⟨fun h => ⟨hl, fun k => ?_⟩, fun h i _ => h.2 i⟩
      by_cases hk : k < Ma.length
      · exact h k hk
      · unfold nth
        rw [List.getD_eq_getElem?_getD, List.getElem?_eq_none (by omega), List.getD_eq_getElem?_getD, List.getElem?_eq_none (by omega)]
        exact Int.le_refl _
    · simp
  · simp
theorem leO_trans {Ea Eb Ec : Bool} {Ma Mb Mc : List Int} (h : leO Ea Ma Eb Mb) (k : leO Eb Mb Ec Mc) : leO Ea Ma Ec Mc := by
  rcases h with h | ⟨h1, h2⟩
  · exact .inl h
  · rcases k with k | ⟨k1, k2⟩
    · rw [h1] at k; cases k
    · exact .inr ⟨k1, le_trans h2 k2⟩
/-- Closing goes with what is below. -/
theorem clo_leO {n : Nat} {Ea Eb : Bool} {Ma Mb : List Int} (ha : chk n Ea Ma = 0) (hb : chk n Eb Mb = 0) (h : leO Ea Ma Eb Mb) : leO (clo n Ea Ma).2.1 (clo n Ea Ma).2.2 (clo n Eb Mb).2.1 (clo n Eb Mb).2.2 := by
  rcases h with rfl | ⟨rfl, h⟩
  · left; unfold clo; rw [closeP_empty ha]
  · rcases Ea with _ | _
    · unfold clo
      rw [closeP_ok ha, closeP_ok hb]
      rcases hA : closeM (2 * n) Ma with ⟨_ | Z, s⟩
      · exact .inl rfl
      · obtain ⟨B, hB, hle⟩ := closeM_mono (m := 2 * n) h (A := Z) (by rw [hA])
        rcases hC : closeM (2 * n) Mb with ⟨_ | Y, t⟩
        · rw [hC] at hB; cases hB
        · rw [hC] at hB
          injection hB with hB
          subst hB
          exact .inr ⟨rfl, hle⟩
    · left; unfold clo; rw [closeP_empty ha]
/-- The laws of OrderTight. -/
theorem tight_trans {n : Nat} {Ea Eb Ec : Bool} {Ma Mb Mc : List Int} (ha : chk n Ea Ma = 0) (hb : chk n Eb Mb = 0) (hc : chk n Ec Mc = 0) (hs : (closeP n Ea Ma).1.2 = false)
    (h1 : entP n Ea Ma Eb Mb = true) (h2 : entP n Eb Mb Ec Mc = true) : entP n Ea Ma Ec Mc = true := by
  obtain ⟨m, hm, hn, _, _⟩ := chk_zero ha
  have ca := clo_chk ha
  have cb := clo_chk hb
  unfold entP at *
  rw [above_iff ca.2 hb] at h1
  rw [above_iff cb.2 hc] at h2
  rw [above_iff ca.2 hc]
  have h3 := clo_leO ca.2 hb h1
  rw [shutO_clo (by omega) (clo_shut ha hs)] at h3
  exact leO_trans h3 h2
theorem tight_join {n : Nat} {Ea Eb Ec : Bool} {Ma Mb Mc : List Int} (ha : chk n Ea Ma = 0) (hb : chk n Eb Mb = 0) (hc : chk n Ec Mc = 0) (hs : (closeP n Ea Ma).1.2 = false) (ht : (closeP n Eb Mb).1.2 = false) :
    (entP n Ea Ma Ec Mc && entP n Eb Mb Ec Mc) = entP n (joinP n Ea Ma Eb Mb).2.1 (joinP n Ea Ma Eb Mb).2.2 Ec Mc := by
  obtain ⟨m, hm, hn, _, _⟩ := chk_zero ha
  have ca := clo_chk ha
  have cb := clo_chk hb
  have hj := shutO_clo (by omega) (joinP_shut ha hb hs ht)
  have cj := joinP_chk ha hb
  rw [Bool.eq_iff_iff, Bool.and_eq_true]
  unfold entP
  rw [hj, above_iff ca.2 hc, above_iff cb.2 hc, above_iff cj.2 hc]
  unfold joinP
  by_cases g1 : (clo n Ea Ma).2.1 = true
  · rw [if_pos g1]
    exact ⟨fun h => h.2, fun h => ⟨.inl g1, h⟩⟩
  · rw [if_neg g1]
    by_cases g2 : (clo n Eb Mb).2.1 = true
    · rw [if_pos g2]
      exact ⟨fun h => h.1, fun h => ⟨h, .inl g2⟩⟩
    · rw [if_neg g2]
      rw [Bool.not_eq_true] at g1 g2
      have q1 := ca.2
      have q2 := cb.2
      rw [g1] at q1
      rw [g2] at q2
      have hl := chk_same_len q1 q2
      unfold leO
      rw [g1, g2]
      simp only [Bool.false_eq_true, false_or]
      have nz : ∀ k, nth (zip2 max (clo n Ea Ma).2.2 (clo n Eb Mb).2.2) k = max (nth (clo n Ea Ma).2.2 k) (nth (clo n Eb Mb).2.2 k) := fun k => by
        by_cases hk : k < (clo n Ea Ma).2.2.length
        · exact nth_zip2 hk
        · have o : ∀ X : List Int, X.length ≤ k → nth X k = 0 := fun X hX => by
            unfold nth
            rw [List.getD_eq_getElem?_getD, List.getElem?_eq_none hX]; rfl
          rw [o _ (by rw [zip2_len]; omega), o _ (by omega), o _ (by omega)]; decide
      constructor
      · rintro ⟨⟨e, h1⟩, ⟨_, h2⟩⟩
        exact ⟨e, by rw [zip2_len]; exact h1.1, fun k => by rw [nz]; exact Int.max_le.2 ⟨h1.2 k, h2.2 k⟩⟩
      · rintro ⟨e, h1, h2⟩
        rw [zip2_len] at h1
        exact ⟨⟨e, h1, fun k => by have := h2 k; rw [nz] at this; omega⟩, ⟨e, by omega, fun k => by have := h2 k; rw [nz] at this; omega⟩⟩
/-- What lies below both, not closed yet. -/
def rawP (N : Int) (Ea : Bool) (Ma : List Int) (Eb : Bool) (Mb : List Int) : Int × Bool × List Int := if (Ea || Eb) = true then (N, true, []) else (N, false, zip2 less Ma Mb)
theorem meet_raw {n : Nat} {Ea Eb : Bool} {Ma Mb : List Int} (ha : chk n Ea Ma = 0) : meetP n Ea Ma Eb Mb = clo n (rawP n Ea Ma Eb Mb).2.1 (rawP n Ea Ma Eb Mb).2.2 := by
  obtain ⟨m, hm, hn, _, _⟩ := chk_zero ha
  unfold meetP rawP
  split
  · unfold clo; rw [closeP_empty (chk_empty (by omega))]
  · rfl
theorem rawP_chk {n : Nat} {Ea Eb : Bool} {Ma Mb : List Int} (ha : chk n Ea Ma = 0) (hb : chk n Eb Mb = 0) : (rawP n Ea Ma Eb Mb).1 = n ∧ chk n (rawP n Ea Ma Eb Mb).2.1 (rawP n Ea Ma Eb Mb).2.2 = 0 := by
  obtain ⟨m, hm, hn, _, _⟩ := chk_zero ha
  unfold rawP
  split
  · exact ⟨rfl, chk_empty (by omega)⟩
  · rename_i h
    rw [Bool.or_eq_true, not_or, Bool.not_eq_true, Bool.not_eq_true] at h
    obtain ⟨rfl, rfl⟩ := h
    exact ⟨rfl, chk_less ha hb⟩
theorem tight_meet {n : Nat} {Ea Eb : Bool} {Ma Mb : List Int} (ha : chk n Ea Ma = 0) (hb : chk n Eb Mb = 0) (hs : (closeP n (rawP n Ea Ma Eb Mb).2.1 (rawP n Ea Ma Eb Mb).2.2).1.2 = false) :
    clo n (meetP n Ea Ma Eb Mb).2.1 (meetP n Ea Ma Eb Mb).2.2 = meetP n Ea Ma Eb Mb := by
  obtain ⟨m, hm, hn, _, _⟩ := chk_zero ha
  have hc := rawP_chk ha hb
  have h1 := clo_shut hc.2 hs
  rw [← meet_raw ha] at h1
  rw [shutO_clo (by omega) h1]
  exact Prod.ext (meetP_chk ha hb).1.symm rfl
end Gn
end Go.Proofs.Ytkogplnleiapfaa
namespace Go.Proofs.Ytkogplnleiapfaa
open Go.RowKit
set_option linter.unusedVariables false
set_option linter.unusedSimpArgs false
open Gn
/-- An octagon whose cells are turned one after the other. -/
structure Fil (W w1 : World) (N : Int) (q c bX : Nat) (A : Option Addr) (X : List Int) : Prop where
  out : OctAt w1 bX N false (.slice A q c)
  row : Ow w1 W.heap.size 2 .i64 A c X
  len : X.length = q
  below : Below W.heap.size W w1
  ne : ∀ g, A = some ⟨g, 0, none⟩ → bX ≠ g
theorem Fil.go {W w1 w2 : World} {N : Int} {q c bX : Nat} {A : Option Addr} {X : List Int} (h : Fil W w1 N q c bX A X) (hb : Below w1.heap.size w1 w2) : Fil W w2 N q c bX A X :=
  ⟨h.out.below hb, h.row.below hb, h.len, h.below.trans (hb.mono h.below.size), h.ne⟩
theorem Fil.set {W w1 : World} {N : Int} {q c bX g : Nat} {X : List Int} (h : Fil W w1 N q c bX (some ⟨g, 0, none⟩) X) (p : Nat) (u : Int) : Fil W (w1.setCell ⟨g, p, none⟩ (.int .i64 u)) N q c bX (some ⟨g, 0, none⟩) (X.set p u) := by
  have hg := only_setCell (World.grownBy.refl w1 (some g)) (p := ⟨g, p, none⟩) (.inl rfl) (.int .i64 u)
  exact ⟨h.out.only hg (h.ne g rfl), h.row.set' p u, by rw [List.length_set]; exact h.len, h.below.setCell h.row.blockGe.1 _, h.ne⟩
theorem Fil.new {w w1 : World} {N : Int} {c : Nat} {A : Option Addr} {M : List Int} (ho : Ow w1 w.heap.size 2 .i64 A c M) (hb : Below w.heap.size w w1) : ∃ w2, w2 = w1.alloc (.cells #[.int .i64 N, .bool false, .slice A M.length c] 24) ∧ Fil w w2 N M.length c w1.heap.size A M := by
  refine ⟨_, rfl, OctAt.box _ _ _ _ _, ho.alloc _, rfl, hb.alloc hb.size _, fun g hg => ?_⟩
  subst hg
  have := ho.blockGe.2
  omega
theorem less_if (x y : Int) : (if y < x then y else x) = min x y := by split <;> omega
theorem more_if (x y : Int) : (if x < y then y else x) = max x y := by split <;> omega
set_option maxRecDepth 100000 in
set_option maxHeartbeats 16000000 in
theorem ref14_Raw (n : Nat) (Ea : Bool) (A : Option Addr) (ca : Nat) (Ma : List Int) (Eb : Bool) (B : Option Addr) (cb : Nat) (Mb : List Int) (w : World) (ha : OctIn w w.heap.size A ca n Ma) (hb : OctIn w w.heap.size B cb n Mb) (hc1 : chk n Ea Ma = 0) (hc2 : chk n Eb Mb = 0) (R : Int × Bool × List Int) (hR : R = rawP n Ea Ma Eb Mb) :
    Calls Try.prog 24 #[.agg #[.int .i64 n, .bool Ea, .slice A Ma.length ca], .agg #[.int .i64 n, .bool Eb, .slice B Mb.length cb]] w (TellsO w R) := by
  obtain ⟨W, hW, h1, h2, hX, hB, hs⟩ := two_res w 24 n n Ea Eb (.slice A Ma.length ca) (.slice B Mb.length cb)
  have haW := ha.go hB
  have hbW := hb.go hB
  obtain ⟨k0, k1, k2⟩ := id h1
  obtain ⟨l0, l1, l2⟩ := id h2
  obtain ⟨⟨r0, r1, r2⟩, fr⟩ := id hX
  have hma : (Ma.length : Int) ≤ 17592186043904 := by
    obtain ⟨m, _, hm, h0, h1⟩ := chk_zero hc1
    rcases Ea with _ | _
    · rw [(h1 rfl).1]; have := sq_le hm; omega
    · rw [h0 rfl]; simp
  have hmb : (Mb.length : Int) ≤ 17592186043904 := by
    obtain ⟨m, _, hm, h0, h1⟩ := chk_zero hc2
    rcases Eb with _ | _
    · rw [(h1 rfl).1]; have := sq_le hm; omega
    · rw [h0 rfl]; simp
  clear ha hb
  have cE := fun X => ref_Empty n X
  have cE := cE W
  rcases Ea with _ | _
  · rcases Eb with _ | _
    · have hR2 : R = ((n : Int), false, zip2 less Ma Mb) := by rw [hR]; rfl
      clear hR cE
      have hlen := chk_same_len hc1 hc2
      have hzz := zip_min hc1 hc2
      have hcz := chk_less hc1 hc2
      rw [← hzz] at hR2 hcz
      have HR := Lib.hid hR2
      have HCz := Lib.hid hcz
      have HL0 := Lib.hid hlen.symm
      have cC := ref_Copy n false A ca Ma W haW.rd hma
      clear hR2 hzz hcz hlen hc1 hc2 haW
      go_enter Try.func24, Try.ntmps24
      rw [hW] at k0 k1 k2 l0 l1 l2 r0 r1 r2
      go_wp2_with fail
      rw [← hW] at k0 k1 k2 l0 l1 l2 r0 r1 r2 ⊢
      clear hW
      refine cC.mono ?_
      clear cC
      rintro e w1 ⟨AX, cX, rfl, ho1, hb1⟩
      have hX1 := hX.below hb1
      have h21 := h2.below hb1
      have hB1 := hB.trans (hb1.mono hB.size)
      have hs1 : w.heap.size + 3 ≤ w1.heap.size := by rw [← hs]; exact hb1.size
      obtain ⟨w2, hw2, hS⟩ := Fil.new (N := n) ho1 hb1
      have HRY := Lib.hid hbW.rd
      clear r0 r1 r2 fr k0 k1 k2 l0 l1 l2 hb1 h1 ho1 hX1 h21 hB1
      go_wp2_with fail
      rw [← hw2]
      clear hw2
      generalize hq0 : Ma.length = q at *
      have HQ := Lib.hid hq0
      clear hq0
      have HL := HL0
      generalize w1.heap.size = bX at *
      have hY := h2
      go_loopw [6] (fun e' wr => ∃ i : Nat, e' = .int .i64 i ∧ i ≤ q ∧ ∃ X : List Int, Hid (∀ k, k < q → nth X k = if k < i then min (nth Ma k) (nth Mb k) else nth Ma k) ∧ Fil W wr n q cX bX AX X) (fun e _ => q - (intOf e).toNat)
      case atStart => exact ⟨0, rfl, by omega, _, Lib.hid (fun k hk => by rw [if_neg (by omega)]), hS⟩
      case round =>
        obtain ⟨i, rfl, hi, X, HXc, hR⟩ := hrel
        clear hS
        rcases Nat.lt_or_ge i q with hlt | hge
        · have q1 : (i : Int) < (q : Int) := by omega
          obtain ⟨n0, n1, n2⟩ := id (hY.below hR.below)
          obtain ⟨p0, p1, p2⟩ := id hR.out
          obtain ⟨g1, rfl, hg1, hg2⟩ := hR.row.blockOf (by rw [hR.len]; omega)
          obtain ⟨g2, o2, rfl, hgy, hc2⟩ := HRY.out (by rw [HL.out]; omega)
          have kx := hR.row.cellAt (i := i) (by rw [hR.len]; exact hlt)
          have hxi : nth X i = nth Ma i := by rw [HXc.out i hlt, if_neg (by omega)]
          rw [hxi] at kx
          have ky := (hR.below.cell (p := ⟨g2, o2 + i, none⟩) hgy).trans (hc2 i (by rw [HL.out]; omega))
          have HN := Lib.hid (show ∀ k, k < q → nth (X.set i (min (nth Ma i) (nth Mb i))) k = if k < i + 1 then min (nth Ma k) (nth Mb k) else nth Ma k from fun k hk => by
            by_cases h : k = i
            · subst h
              rw [nth_set_same (by rw [hR.len]; exact hk), if_pos (by omega)]
            · rw [nth_set_ne (by omega), HXc.out k hk]
              by_cases h2 : k < i
              · rw [if_pos h2, if_pos (by omega)]
              · rw [if_neg h2, if_neg (by omega)])
          have HLt := Lib.hid hlt
          have q2 : (i : Int) < (Mb.length : Int) := by rw [HL.out]; exact q1
          clear hc2 hxi HXc
          generalize nth Ma i = x at *
          generalize nth Mb i = y at *
          have a1 := After.cell n2
          have a2 := After.cell p2
          have a3 := After.cell kx
          have a4 := After.cell ky
          clear n0 n1 n2 kx ky hlt
          go_wp2_with fail
          refine wp_region_mix [(14, 2)] (by kernel_rfl) (by kernel_rfl) ?_
          simp only [wpMix, List.take_succ_cons, List.take_zero, List.drop_succ_cons, List.drop_zero]
          repeat (go_big_quiet_step (fail))
          refine wpQuiet_nil ?_
          intro w6 hb6
          have hR6 := hR.go hb6
          have kk := hR6.row.cellAt (i := i) (by rw [hR6.len]; exact HLt.out)
          have kf := hR6.row.frozenAt i
          have hP := Lib.hid (hR6.set i (min x y))
          clear hR hR6 hb6 a1 a2 a3 a4 p0 p1 p2
          rw [less_if x y]
          generalize min x y = z at *
          go_wp2_with fail
          refine mixQ_normal (wpQuiet_nil ?_)
          intro w8 hb8
          have hR8 := Lib.hid (hP.out.go hb8)
          clear hP hb8 kk kf
          go_wp2_with fail
          go_roundw
          case rel => exact ⟨i + 1, by go_num, by have := HLt.out; omega, X.set i z, Lib.hid HN.out, hR8.out⟩
          case measure => have := HLt.out; simp [intOf]; omega
        · have hiq : i = q := by omega
          have HXX := Lib.hid (show X = zip2 min Ma Mb from list_eq_nth (by rw [zip2_len, HQ.out, hR.len]) fun k hk => by
            have hk' : k < q := by rw [← hR.len]; exact hk
            rw [nth_zip2 (by rw [HQ.out]; exact hk'), HXc.out k hk', if_pos (by omega)])
          have hd : decide ((i : Int) < (q : Int)) = false := decide_eq_false (by omega)
          clear hiq HXc
          have hX9 := hX.below hR.below
          have hB9 := hB.trans (hR.below.mono hB.size)
          have hws : w.heap.size + 3 ≤ wr.heap.size := by rw [← hs]; exact hR.below.size
          obtain ⟨⟨r0, r1, r2⟩, fr⟩ := id hX9
          obtain ⟨p0, p1, p2⟩ := id hR.out
          have hS := Lib.hid (hX9.res hB9 (by omega) n false (.slice AX q cX))
          have hO := Lib.hid (hR.row.put3 (b := w.heap.size + 2) (by rw [hs]; omega) (.int .i64 n) (.bool false) (.slice AX q cX))
          have hRe := Lib.hid (show R = ((n : Int), false, X) by rw [HR.out, HXX.out])
          have HXl := Lib.hid hR.len
          clear hX9
          go_wp2_with fail
          obtain ⟨⟨s0, s1, s2⟩, hB3⟩ := hS.out
          refine bodyPost_ret (v := .agg #[.int .i64 n, .bool false, .slice AX q cX]) (by simp [results, Try.results24, go_sem, r0, r1, r2]) rfl ?_
          rw [hRe.out]
          exact ⟨AX, cX, by rw [HXl.out], hO.out.lower (by omega), hB3⟩
    · have hR2 : R = ((n : Int), true, []) := by rw [hR]; rfl
      subst hR2
      go_enter Try.func24, Try.ntmps24
      rw [hW] at k0 k1 k2 l0 l1 l2 r0 r1 r2
      go_wp2_with fail
      rw [← hW] at k0 k1 k2 l0 l1 l2 r0 r1 r2 ⊢
      clear hW
      refine cE.mono ?_
      clear cE
      rintro e w1 ⟨rfl, hb1⟩
      have hX1 := hX.below hb1
      have hB1 := hB.trans (hb1.mono hB.size)
      have hs1 : w.heap.size + 3 ≤ w1.heap.size := by rw [← hs]; exact hb1.size
      clear hX r0 r1 r2 fr k0 k1 k2 l0 l1 l2 hb1
      obtain ⟨⟨r0, r1, r2⟩, fr⟩ := id hX1
      have hS := Lib.hid (hX1.res hB1 (by omega) n true (.slice none 0 0))
      have hO := Lib.hid ((Ow.nil w1 (w.heap.size + 3) 2 .i64).put3 (b := w.heap.size + 2) (by omega) (.int .i64 n) (.bool true) (.slice none 0 0))
      clear hX1
      go_wp2_with fail
      obtain ⟨⟨s0, s1, s2⟩, hB3⟩ := hS.out
      exact bodyPost_ret (v := .agg #[.int .i64 n, .bool true, .slice none 0 0]) (by simp [results, Try.results24, go_sem, r0, r1, r2]) rfl ⟨none, 0, rfl, hO.out.lower (by omega), hB3⟩
  · have hR2 : R = ((n : Int), true, []) := by rw [hR]; rfl
    subst hR2
    go_enter Try.func24, Try.ntmps24
    rw [hW] at k0 k1 k2 l0 l1 l2 r0 r1 r2
    go_wp2_with fail
    rw [← hW] at k0 k1 k2 l0 l1 l2 r0 r1 r2 ⊢
    clear hW
    refine cE.mono ?_
    clear cE
    rintro e w1 ⟨rfl, hb1⟩
    have hX1 := hX.below hb1
    have hB1 := hB.trans (hb1.mono hB.size)
    have hs1 : w.heap.size + 3 ≤ w1.heap.size := by rw [← hs]; exact hb1.size
    clear hX r0 r1 r2 fr k0 k1 k2 l0 l1 l2 hb1
    obtain ⟨⟨r0, r1, r2⟩, fr⟩ := id hX1
    have hS := Lib.hid (hX1.res hB1 (by omega) n true (.slice none 0 0))
    have hO := Lib.hid ((Ow.nil w1 (w.heap.size + 3) 2 .i64).put3 (b := w.heap.size + 2) (by omega) (.int .i64 n) (.bool true) (.slice none 0 0))
    clear hX1
    go_wp2_with fail
    obtain ⟨⟨s0, s1, s2⟩, hB3⟩ := hS.out
    exact bodyPost_ret (v := .agg #[.int .i64 n, .bool true, .slice none 0 0]) (by simp [results, Try.results24, go_sem, r0, r1, r2]) rfl ⟨none, 0, rfl, hO.out.lower (by omega), hB3⟩
set_option maxRecDepth 100000 in
set_option maxHeartbeats 16000000 in
theorem ref14_Meet (n : Nat) (Ea : Bool) (A : Option Addr) (ca : Nat) (Ma : List Int) (Eb : Bool) (B : Option Addr) (cb : Nat) (Mb : List Int) (w : World) (ha : OctIn w w.heap.size A ca n Ma) (hb : OctIn w w.heap.size B cb n Mb) (hc1 : chk n Ea Ma = 0) (hc2 : chk n Eb Mb = 0) (R : Int × Bool × List Int) (hR : R = meetP n Ea Ma Eb Mb) :
    Calls Try.prog 21 #[.agg #[.int .i64 n, .bool Ea, .slice A Ma.length ca], .agg #[.int .i64 n, .bool Eb, .slice B Mb.length cb]] w (TellsO w R) := by
  obtain ⟨W, hW, h1, h2, hX, hB, hs⟩ := two_res w 24 n n Ea Eb (.slice A Ma.length ca) (.slice B Mb.length cb)
  have haW := ha.go hB
  have hbW := hb.go hB
  obtain ⟨k0, k1, k2⟩ := id h1
  obtain ⟨l0, l1, l2⟩ := id h2
  obtain ⟨⟨r0, r1, r2⟩, fr⟩ := id hX
  have hma : (Ma.length : Int) ≤ 17592186043904 := by
    obtain ⟨m, _, hm, h0, h1⟩ := chk_zero hc1
    rcases Ea with _ | _
    · rw [(h1 rfl).1]; have := sq_le hm; omega
    · rw [h0 rfl]; simp
  have hmb : (Mb.length : Int) ≤ 17592186043904 := by
    obtain ⟨m, _, hm, h0, h1⟩ := chk_zero hc2
    rcases Eb with _ | _
    · rw [(h1 rfl).1]; have := sq_le hm; omega
    · rw [h0 rfl]; simp
  clear ha hb
  have cE := fun X => ref_Empty n X
  have cE := cE W
  rcases Ea with _ | _
  · rcases Eb with _ | _
    · have hR2 : R = clo n false (zip2 less Ma Mb) := by rw [hR]; rfl
      clear hR cE
      have hlen := chk_same_len hc1 hc2
      have hzz := zip_min hc1 hc2
      have hcz := chk_less hc1 hc2
      rw [← hzz] at hR2 hcz
      have HR := Lib.hid hR2
      have HCz := Lib.hid hcz
      have HL0 := Lib.hid hlen.symm
      have cC := ref_Copy n false A ca Ma W haW.rd hma
      clear hR2 hzz hcz hlen hc1 hc2 haW
      go_enter Try.func21, Try.ntmps21
      rw [hW] at k0 k1 k2 l0 l1 l2 r0 r1 r2
      go_wp2_with fail
      rw [← hW] at k0 k1 k2 l0 l1 l2 r0 r1 r2 ⊢
      clear hW
      refine cC.mono ?_
      clear cC
      rintro e w1 ⟨AX, cX, rfl, ho1, hb1⟩
      have hX1 := hX.below hb1
      have h21 := h2.below hb1
      have hB1 := hB.trans (hb1.mono hB.size)
      have hs1 : w.heap.size + 3 ≤ w1.heap.size := by rw [← hs]; exact hb1.size
      obtain ⟨w2, hw2, hS⟩ := Fil.new (N := n) ho1 hb1
      have HRY := Lib.hid hbW.rd
      clear r0 r1 r2 fr k0 k1 k2 l0 l1 l2 hb1 h1 ho1 hX1 h21 hB1
      go_wp2_with fail
      rw [← hw2]
      clear hw2
      generalize hq0 : Ma.length = q at *
      have HQ := Lib.hid hq0
      clear hq0
      have HL := HL0
      generalize w1.heap.size = bX at *
      have hY := h2
      go_loopw [6] (fun e' wr => ∃ i : Nat, e' = .int .i64 i ∧ i ≤ q ∧ ∃ X : List Int, Hid (∀ k, k < q → nth X k = if k < i then min (nth Ma k) (nth Mb k) else nth Ma k) ∧ Fil W wr n q cX bX AX X) (fun e _ => q - (intOf e).toNat)
      case atStart => exact ⟨0, rfl, by omega, _, Lib.hid (fun k hk => by rw [if_neg (by omega)]), hS⟩
      case round =>
        obtain ⟨i, rfl, hi, X, HXc, hR⟩ := hrel
        clear hS
        rcases Nat.lt_or_ge i q with hlt | hge
        · have q1 : (i : Int) < (q : Int) := by omega
          obtain ⟨n0, n1, n2⟩ := id (hY.below hR.below)
          obtain ⟨p0, p1, p2⟩ := id hR.out
          obtain ⟨g1, rfl, hg1, hg2⟩ := hR.row.blockOf (by rw [hR.len]; omega)
          obtain ⟨g2, o2, rfl, hgy, hc2⟩ := HRY.out (by rw [HL.out]; omega)
          have kx := hR.row.cellAt (i := i) (by rw [hR.len]; exact hlt)
          have hxi : nth X i = nth Ma i := by rw [HXc.out i hlt, if_neg (by omega)]
          rw [hxi] at kx
          have ky := (hR.below.cell (p := ⟨g2, o2 + i, none⟩) hgy).trans (hc2 i (by rw [HL.out]; omega))
          have HN := Lib.hid (show ∀ k, k < q → nth (X.set i (min (nth Ma i) (nth Mb i))) k = if k < i + 1 then min (nth Ma k) (nth Mb k) else nth Ma k from fun k hk => by
            by_cases h : k = i
            · subst h
              rw [nth_set_same (by rw [hR.len]; exact hk), if_pos (by omega)]
            · rw [nth_set_ne (by omega), HXc.out k hk]
              by_cases h2 : k < i
              · rw [if_pos h2, if_pos (by omega)]
              · rw [if_neg h2, if_neg (by omega)])
          have HLt := Lib.hid hlt
          have q2 : (i : Int) < (Mb.length : Int) := by rw [HL.out]; exact q1
          clear hc2 hxi HXc
          generalize nth Ma i = x at *
          generalize nth Mb i = y at *
          have a1 := After.cell n2
          have a2 := After.cell p2
          have a3 := After.cell kx
          have a4 := After.cell ky
          clear n0 n1 n2 kx ky hlt
          go_wp2_with fail
          refine wp_region_mix [(14, 2)] (by kernel_rfl) (by kernel_rfl) ?_
          simp only [wpMix, List.take_succ_cons, List.take_zero, List.drop_succ_cons, List.drop_zero]
          repeat (go_big_quiet_step (fail))
          refine wpQuiet_nil ?_
          intro w6 hb6
          have hR6 := hR.go hb6
          have kk := hR6.row.cellAt (i := i) (by rw [hR6.len]; exact HLt.out)
          have kf := hR6.row.frozenAt i
          have hP := Lib.hid (hR6.set i (min x y))
          clear hR hR6 hb6 a1 a2 a3 a4 p0 p1 p2
          rw [less_if x y]
          generalize min x y = z at *
          go_wp2_with fail
          refine mixQ_normal (wpQuiet_nil ?_)
          intro w8 hb8
          have hR8 := Lib.hid (hP.out.go hb8)
          clear hP hb8 kk kf
          go_wp2_with fail
          go_roundw
          case rel => exact ⟨i + 1, by go_num, by have := HLt.out; omega, X.set i z, Lib.hid HN.out, hR8.out⟩
          case measure => have := HLt.out; simp [intOf]; omega
        · have hiq : i = q := by omega
          have HXX := Lib.hid (show X = zip2 min Ma Mb from list_eq_nth (by rw [zip2_len, HQ.out, hR.len]) fun k hk => by
            have hk' : k < q := by rw [← hR.len]; exact hk
            rw [nth_zip2 (by rw [HQ.out]; exact hk'), HXc.out k hk', if_pos (by omega)])
          have hd : decide ((i : Int) < (q : Int)) = false := decide_eq_false (by omega)
          clear hiq HXc
          have hX9 := hX.below hR.below
          have hB9 := hB.trans (hR.below.mono hB.size)
          have hws : w.heap.size + 3 ≤ wr.heap.size := by rw [← hs]; exact hR.below.size
          obtain ⟨⟨r0, r1, r2⟩, fr⟩ := id hX9
          obtain ⟨p0, p1, p2⟩ := id hR.out
          have hcX : chk n false X = 0 := by rw [HXX.out]; exact HCz.out
          have hqm : (q : Int) ≤ 17592186043904 := by omega
          have cO := ref_Of n false AX cX X wr (hR.row.oct (by unfold I64; obtain ⟨m, hm, hm2, _⟩ := chk_zero hcX; omega) (chk_ints hcX)) (by rw [hR.len]; exact hqm) hcX
          rw [hR.len] at cO
          obtain ⟨P, hP⟩ : ∃ P, P = ofP n false X := ⟨_, rfl⟩
          have hRe : R = P.1 := by rw [hP, HR.out, ← HXX.out]; rfl
          rw [← hP] at cO
          clear hP hcX
          obtain ⟨⟨Nc, Ec, Mc⟩, sc⟩ := P
          subst hRe
          clear HR
          go_wp2_with fail
          refine cO.mono ?_
          clear cO
          rintro e w7 ⟨A7, c7, rfl, ho7, hb7⟩
          dsimp only at ho7 ⊢
          have hX7 := hX9.below hb7
          have hB7 := hB9.trans (hb7.mono hB9.size)
          have hws7 := Nat.le_trans hws hb7.size
          clear hX9 hb7 r0 r1 r2 fr p0 p1 p2
          obtain ⟨⟨r0, r1, r2⟩, fr⟩ := id hX7
          have hS := Lib.hid (hX7.res hB7 (by omega) Nc Ec (.slice A7 Mc.length c7))
          have hO := Lib.hid (ho7.put3 (b := w.heap.size + 2) (by omega) (.int .i64 Nc) (.bool Ec) (.slice A7 Mc.length c7))
          have hlt7 : w.heap.size + 2 < w7.heap.size := by omega
          clear hX7
          go_wp2_with fail
          obtain ⟨⟨s0, s1, s2⟩, hB3⟩ := hS.out
          refine bodyPost_ret (v := .agg #[.int .i64 Nc, .bool Ec, .slice A7 Mc.length c7]) (by simp [results, Try.results21, go_sem, r0, r1, r2, hlt7]) rfl ⟨A7, c7, rfl, ?_, ?_⟩
          · exact (hO.out.alloc _).lower (by omega)
          · exact hB3.alloc (by simp; omega) _
    · have hR2 : R = ((n : Int), true, []) := by rw [hR]; rfl
      subst hR2
      go_enter Try.func21, Try.ntmps21
      rw [hW] at k0 k1 k2 l0 l1 l2 r0 r1 r2
      go_wp2_with fail
      rw [← hW] at k0 k1 k2 l0 l1 l2 r0 r1 r2 ⊢
      clear hW
      refine cE.mono ?_
      clear cE
      rintro e w1 ⟨rfl, hb1⟩
      have hX1 := hX.below hb1
      have hB1 := hB.trans (hb1.mono hB.size)
      have hs1 : w.heap.size + 3 ≤ w1.heap.size := by rw [← hs]; exact hb1.size
      clear hX r0 r1 r2 fr k0 k1 k2 l0 l1 l2 hb1
      obtain ⟨⟨r0, r1, r2⟩, fr⟩ := id hX1
      have hS := Lib.hid (hX1.res hB1 (by omega) n true (.slice none 0 0))
      have hO := Lib.hid ((Ow.nil w1 (w.heap.size + 3) 2 .i64).put3 (b := w.heap.size + 2) (by omega) (.int .i64 n) (.bool true) (.slice none 0 0))
      clear hX1
      go_wp2_with fail
      obtain ⟨⟨s0, s1, s2⟩, hB3⟩ := hS.out
      exact bodyPost_ret (v := .agg #[.int .i64 n, .bool true, .slice none 0 0]) (by simp [results, Try.results21, go_sem, r0, r1, r2]) rfl ⟨none, 0, rfl, hO.out.lower (by omega), hB3⟩
  · have hR2 : R = ((n : Int), true, []) := by rw [hR]; rfl
    subst hR2
    go_enter Try.func21, Try.ntmps21
    rw [hW] at k0 k1 k2 l0 l1 l2 r0 r1 r2
    go_wp2_with fail
    rw [← hW] at k0 k1 k2 l0 l1 l2 r0 r1 r2 ⊢
    clear hW
    refine cE.mono ?_
    clear cE
    rintro e w1 ⟨rfl, hb1⟩
    have hX1 := hX.below hb1
    have hB1 := hB.trans (hb1.mono hB.size)
    have hs1 : w.heap.size + 3 ≤ w1.heap.size := by rw [← hs]; exact hb1.size
    clear hX r0 r1 r2 fr k0 k1 k2 l0 l1 l2 hb1
    obtain ⟨⟨r0, r1, r2⟩, fr⟩ := id hX1
    have hS := Lib.hid (hX1.res hB1 (by omega) n true (.slice none 0 0))
    have hO := Lib.hid ((Ow.nil w1 (w.heap.size + 3) 2 .i64).put3 (b := w.heap.size + 2) (by omega) (.int .i64 n) (.bool true) (.slice none 0 0))
    clear hX1
    go_wp2_with fail
    obtain ⟨⟨s0, s1, s2⟩, hB3⟩ := hS.out
    exact bodyPost_ret (v := .agg #[.int .i64 n, .bool true, .slice none 0 0]) (by simp [results, Try.results21, go_sem, r0, r1, r2]) rfl ⟨none, 0, rfl, hO.out.lower (by omega), hB3⟩
end Go.Proofs.Ytkogplnleiapfaa
namespace Go.Proofs.Ytkogplnleiapfaa
open Go.RowKit
set_option linter.unusedVariables false
set_option linter.unusedSimpArgs false
open Gn
/-- The same, and whatever else lay in a world lies still. -/
structure Fil2 (wS W w1 : World) (N : Int) (q c bX : Nat) (A : Option Addr) (X : List Int) : Prop where
  f : Fil W w1 N q c bX A X
  keep : ∀ (p : Addr) (v : Value), wS.cell? p = some v → (∀ g, A = some ⟨g, 0, none⟩ → p.block ≠ g) → w1.cell? p = some v
theorem Fil2.go {wS W w1 w2 : World} {N : Int} {q c bX : Nat} {A : Option Addr} {X : List Int} (h : Fil2 wS W w1 N q c bX A X) (hb : Below w1.heap.size w1 w2) : Fil2 wS W w2 N q c bX A X :=
  ⟨h.f.go hb, fun p v hp hne => below_cell hb (h.keep p v hp hne)⟩
theorem Fil2.set {wS W w1 : World} {N : Int} {q c bX g : Nat} {X : List Int} (h : Fil2 wS W w1 N q c bX (some ⟨g, 0, none⟩) X) (p : Nat) (u : Int) : Fil2 wS W (w1.setCell ⟨g, p, none⟩ (.int .i64 u)) N q c bX (some ⟨g, 0, none⟩) (X.set p u) :=
  ⟨h.f.set p u, fun r v hr hne => (World.cell?_setCell_other _ _ _ _ (fun e => hne g rfl (by rw [← e]))).trans (h.keep r v hr hne)⟩
theorem Fil2.oct {wS W w1 : World} {N N' : Int} {E : Bool} {q c bX b : Nat} {A : Option Addr} {X : List Int} {v : Value} (h : Fil2 wS W w1 N q c bX A X) (o : OctAt wS b N' E v) (hne : ∀ g, A = some ⟨g, 0, none⟩ → b ≠ g) : OctAt w1 b N' E v :=
  ⟨h.keep _ _ o.c0 hne, h.keep _ _ o.c1 hne, h.keep _ _ o.c2 hne⟩
set_option maxRecDepth 100000 in
set_option maxHeartbeats 16000000 in
theorem ref14_Join (n : Nat) (Ea : Bool) (A : Option Addr) (ca : Nat) (Ma : List Int) (Eb : Bool) (B : Option Addr) (cb : Nat) (Mb : List Int) (w : World) (ha : OctIn w w.heap.size A ca n Ma) (hb : OctIn w w.heap.size B cb n Mb) (hc1 : chk n Ea Ma = 0) (hc2 : chk n Eb Mb = 0) (R : Int × Bool × List Int) (hR : R = joinP n Ea Ma Eb Mb) :
    Calls Try.prog 22 #[.agg #[.int .i64 n, .bool Ea, .slice A Ma.length ca], .agg #[.int .i64 n, .bool Eb, .slice B Mb.length cb]] w (TellsO w R) := by
  obtain ⟨W, hW, h1, h2, hX, hB, hs⟩ := two_res w 24 n n Ea Eb (.slice A Ma.length ca) (.slice B Mb.length cb)
  have haW := ha.go hB
  have hbW := hb.go hB
  obtain ⟨k0, k1, k2⟩ := id h1
  obtain ⟨l0, l1, l2⟩ := id h2
  obtain ⟨⟨r0, r1, r2⟩, fr⟩ := id hX
  have hma : (Ma.length : Int) ≤ 17592186043904 := by
    obtain ⟨m, _, hm, h0, h1⟩ := chk_zero hc1
    rcases Ea with _ | _
    · rw [(h1 rfl).1]; have := sq_le hm; omega
    · rw [h0 rfl]; simp
  have hmb : (Mb.length : Int) ≤ 17592186043904 := by
    obtain ⟨m, _, hm, h0, h1⟩ := chk_zero hc2
    rcases Eb with _ | _
    · rw [(h1 rfl).1]; have := sq_le hm; omega
    · rw [h0 rfl]; simp
  clear ha hb
  have cA := ref_Of n Ea A ca Ma W haW hma hc1
  have hka := clo_chk hc1
  have hkb := clo_chk hc2
  obtain ⟨P, hP⟩ : ∃ P, P = ofP n Ea Ma := ⟨_, rfl⟩
  obtain ⟨Q, hQ⟩ : ∃ Q, Q = ofP n Eb Mb := ⟨_, rfl⟩
  have hP1 : clo n Ea Ma = P.1 := by rw [hP]; rfl
  have hQ1 : clo n Eb Mb = Q.1 := by rw [hQ]; rfl
  unfold joinP at hR
  rw [hP1, hQ1] at hR
  rw [hP1] at hka
  rw [hQ1] at hkb
  rw [← hP] at cA
  have cB := fun X hX => ref_Of n Eb B cb Mb X hX hmb hc2
  rw [← hQ] at cB
  unfold TellsOf at cA cB
  clear hP hQ hP1 hQ1
  obtain ⟨⟨Nc, Ec, Mc⟩, sc⟩ := P
  obtain ⟨⟨Nd, Ed, Md⟩, sd⟩ := Q
  dsimp only at hka hkb hR
  obtain ⟨rfl, hka⟩ := hka
  obtain ⟨rfl, hkb⟩ := hkb
  have HR := Lib.hid hR
  have HKa := Lib.hid hka
  have HKb := Lib.hid hkb
  clear hR hka hkb hc1 hc2
  go_enter Try.func22, Try.ntmps22
  rw [hW] at k0 k1 k2 l0 l1 l2 r0 r1 r2
  go_wp2_with fail
  rw [← hW] at k0 k1 k2 l0 l1 l2 r0 r1 r2 ⊢
  clear hW
  refine cA.mono ?_
  clear cA
  rintro e w1 ⟨AX, cX, rfl, ho1, hb1⟩
  dsimp only at ho1 ⊢
  obtain ⟨w2, hw2⟩ : ∃ w2, w2 = w1.alloc (.cells #[.int .i64 n, .bool Ec, .slice AX Mc.length cX] /-T-/24) := ⟨_, rfl⟩
  have hC2 : OctAt w2 w1.heap.size n Ec (.slice AX Mc.length cX) := by rw [hw2]; exact OctAt.box _ _ _ _ _
  have hb2 : Below w1.heap.size w1 w2 := by rw [hw2]; exact (Below.refl _ _).alloc (Nat.le_refl _) _
  have hs2 : w2.heap.size = w1.heap.size + 1 := by rw [hw2]; simp
  have hb12 := hb1.trans (hb2.mono hb1.size)
  have hX2 := hX.below hb12
  have h22 := h2.below hb12
  have hbb2 := hbW.go hb12
  have hB2 := hB.trans (hb12.mono hB.size)
  have ho2 := ho1.below hb2
  obtain ⟨l0, l1, l2⟩ := id h22
  rw [hw2] at l0 l1 l2
  clear k0 k1 k2 r0 r1 r2 fr
  go_wp2_with fail
  rw [← hw2] at l0 l1 l2 ⊢
  clear hw2
  refine (cB _ hbb2).mono ?_
  clear cB
  rintro e w3 ⟨DX, dX, rfl, ho3, hb3⟩
  dsimp only at ho3 ⊢
  obtain ⟨w4, hw4⟩ : ∃ w4, w4 = w3.alloc (.cells #[.int .i64 n, .bool Ed, .slice DX Md.length dX] /-T-/24) := ⟨_, rfl⟩
  have hD4 : OctAt w4 w3.heap.size n Ed (.slice DX Md.length dX) := by rw [hw4]; exact OctAt.box _ _ _ _ _
  have hb4 : Below w3.heap.size w3 w4 := by rw [hw4]; exact (Below.refl _ _).alloc (Nat.le_refl _) _
  have hb24 := hb3.trans (hb4.mono hb3.size)
  have hC4 := hC2.below hb24
  have hX4 := hX2.below hb24
  have hB4 := hB2.trans (hb24.mono hB2.size)
  have hWb4 := hb12.trans (hb24.mono hb12.size)
  have hoC4 := ho2.below hb24
  have hoD4 := ho3.below hb4
  have hs14 : w1.heap.size < w3.heap.size := by have := hb3.size; omega
  have hs4 : w.heap.size + 3 ≤ w4.heap.size := by have := hb12.size; have := hb24.size; omega
  have hgc : ∀ g, AX = some ⟨g, 0, none⟩ → g < w1.heap.size ∧ W.heap.size ≤ g := fun g hg => by subst hg; exact ⟨ho1.blockGe.2, ho1.blockGe.1⟩
  have hC3 := hC2.below hb3
  have hX3 := hX2.below hb3
  have hB3 := hB2.trans (hb3.mono hB2.size)
  have hoC3 := ho2.below hb3
  have hs3 : w.heap.size + 3 ≤ w3.heap.size := by have := hb12.size; have := hb3.size; omega
  have hoD3 : Ow w3 (w.heap.size + 3) 2 .i64 DX dX Md := ho3.lower (by have := hb12.size; omega)
  have hoC3' : Ow w3 (w.heap.size + 3) 2 .i64 AX cX Mc := hoC3.lower (by omega)
  clear hX2 h22 hbb2 hB2 ho2 ho3 l0 l1 l2 hb2 hb3 hb12 hb24 hC2 ho1
  rcases Ec with _ | _
  · rcases Ed with _ | _
    · have hlen := chk_same_len HKa.out HKb.out
      have HL0 := Lib.hid hlen.symm
      clear hlen
      have hqb : (Mc.length : Int) ≤ 17592186043904 := by
        obtain ⟨m, _, hm, _, h1⟩ := chk_zero HKa.out
        rw [(h1 rfl).1]; have := sq_le hm; omega
      have HOD := Lib.hid hoD4
      have hS : Fil2 w4 W w4 n Mc.length cX w1.heap.size AX Mc := ⟨⟨hC4, hoC4, rfl, hWb4, fun g hg => by have := (hgc g hg).1; omega⟩, fun p v hp _ => hp⟩
      have hYne : ∀ g, AX = some ⟨g, 0, none⟩ → w3.heap.size ≠ g := fun g hg => by have := (hgc g hg).1; omega
      have HR2 := Lib.hid (show R = ((n : Int), false, zip2 max Mc Md) by rw [HR.out, if_neg (by simp), if_neg (by simp)])
      obtain ⟨c0, c1, c2⟩ := id hC4
      obtain ⟨d0, d1, d2⟩ := id hD4
      rw [hw4] at c0 c1 c2 d0 d1 d2
      go_wp2_with fail
      rw [← hw4]
      clear hw4 c0 c1 c2 d0 d1 d2 hb4
      generalize hq0 : Mc.length = q at *
      have HQ := Lib.hid hq0
      clear hq0
      have HL := HL0
      generalize w3.heap.size = bD at *
      have hY := hD4
      have hg12 : ∀ g, AX = some ⟨g, 0, none⟩ → g < w2.heap.size := fun g hg => by have := (hgc g hg).1; omega
      generalize w1.heap.size = bX at *
      go_loopw [9] (fun e' wr => ∃ i : Nat, e' = .int .i64 i ∧ i ≤ q ∧ ∃ X : List Int, Hid (∀ k, k < q → nth X k = if k < i then max (nth Mc k) (nth Md k) else nth Mc k) ∧ Fil2 w4 W wr n q cX bX AX X) (fun e _ => q - (intOf e).toNat)
      case atStart => exact ⟨0, rfl, by omega, _, Lib.hid (fun k hk => by rw [if_neg (by omega)]), hS⟩
      case round =>
        obtain ⟨i, rfl, hi, X, HXc, hR⟩ := hrel
        clear hS
        rcases Nat.lt_or_ge i q with hlt | hge
        · have q1 : (i : Int) < (q : Int) := by omega
          obtain ⟨n0, n1, n2⟩ := id (hR.oct hY hYne)
          obtain ⟨p0, p1, p2⟩ := id hR.f.out
          obtain ⟨g1, rfl, hg1, hg2⟩ := hR.f.row.blockOf (by rw [hR.f.len]; omega)
          obtain ⟨g2, rfl, hgy, hgy2⟩ := HOD.out.blockOf (by rw [HL.out]; omega)
          have kx := hR.f.row.cellAt (i := i) (by rw [hR.f.len]; exact hlt)
          have hxi : nth X i = nth Mc i := by rw [HXc.out i hlt, if_neg (by omega)]
          rw [hxi] at kx
          have ky := hR.keep ⟨g2, i, none⟩ _ (HOD.out.cellAt (i := i) (by rw [HL.out]; omega)) (fun g hg => by injection hg with hg; injection hg with hg; subst hg; show g2 ≠ g1; have := hg12 g1 rfl; omega)
          have HN := Lib.hid (show ∀ k, k < q → nth (X.set i (max (nth Mc i) (nth Md i))) k = if k < i + 1 then max (nth Mc k) (nth Md k) else nth Mc k from fun k hk => by
            by_cases h : k = i
            · subst h
              rw [nth_set_same (by rw [hR.f.len]; exact hk), if_pos (by omega)]
            · rw [nth_set_ne (by omega), HXc.out k hk]
              by_cases h2 : k < i
              · rw [if_pos h2, if_pos (by omega)]
              · rw [if_neg h2, if_neg (by omega)])
          have HLt := Lib.hid hlt
          have q2 : (i : Int) < (Md.length : Int) := by rw [HL.out]; exact q1
          clear hxi HXc
          generalize nth Mc i = x at *
          generalize nth Md i = y at *
          have a1 := After.cell n2
          have a2 := After.cell p2
          have a3 := After.cell kx
          have a4 := After.cell ky
          clear n0 n1 n2 kx ky hlt
          go_wp2_with fail
          refine wp_region_mix [(14, 2)] (by kernel_rfl) (by kernel_rfl) ?_
          simp only [wpMix, List.take_succ_cons, List.take_zero, List.drop_succ_cons, List.drop_zero]
          repeat (go_big_quiet_step (fail))
          refine wpQuiet_nil ?_
          intro w6 hb6
          have hR6 := hR.go hb6
          have kk := hR6.f.row.cellAt (i := i) (by rw [hR6.f.len]; exact HLt.out)
          have kf := hR6.f.row.frozenAt i
          have hP := Lib.hid (hR6.set i (max x y))
          clear hR hR6 hb6 a1 a2 a3 a4 p0 p1 p2
          rw [more_if x y]
          generalize max x y = z at *
          go_wp2_with fail
          refine mixQ_normal (wpQuiet_nil ?_)
          intro w8 hb8
          have hR8 := Lib.hid (hP.out.go hb8)
          clear hP hb8 kk kf
          go_wp2_with fail
          go_roundw
          case rel => exact ⟨i + 1, by go_num, by have := HLt.out; omega, X.set i z, Lib.hid HN.out, hR8.out⟩
          case measure => have := HLt.out; simp [intOf]; omega
        · have hiq : i = q := by omega
          have HXX := Lib.hid (show X = zip2 max Mc Md from list_eq_nth (by rw [zip2_len, HQ.out, hR.f.len]) fun k hk => by
            have hk' : k < q := by rw [← hR.f.len]; exact hk
            rw [nth_zip2 (by rw [HQ.out]; exact hk'), HXc.out k hk', if_pos (by omega)])
          have hd : decide ((i : Int) < (q : Int)) = false := decide_eq_false (by omega)
          clear hiq HXc
          have hX9 : OctBox wr (w.heap.size + 2) 0 false (.slice none 0 0) := hX.below hR.f.below
          have hB9 := hB.trans (hR.f.below.mono hB.size)
          have hws : w.heap.size + 3 ≤ wr.heap.size := by rw [← hs]; exact hR.f.below.size
          obtain ⟨⟨r0, r1, r2⟩, fr⟩ := id hX9
          obtain ⟨p0, p1, p2⟩ := id hR.f.out
          have hS := Lib.hid (hX9.res hB9 (by omega) n false (.slice AX q cX))
          have hO := Lib.hid (hR.f.row.put3 (b := w.heap.size + 2) (by rw [hs]; omega) (.int .i64 n) (.bool false) (.slice AX q cX))
          have hRe := Lib.hid (show R = ((n : Int), false, X) by rw [HR2.out, HXX.out])
          have HXl := Lib.hid hR.f.len
          clear hX9
          go_wp2_with fail
          obtain ⟨⟨s0, s1, s2⟩, hB3⟩ := hS.out
          refine bodyPost_ret (v := .agg #[.int .i64 n, .bool false, .slice AX q cX]) (by simp [results, Try.results22, go_sem, r0, r1, r2]) rfl ?_
          rw [hRe.out]
          exact ⟨AX, cX, by rw [HXl.out], hO.out.lower (by omega), hB3⟩
    · have HR2 := Lib.hid (show R = ((n : Int), false, Mc) by rw [HR.out, if_neg (by simp), if_pos rfl])
      obtain ⟨c0, c1, c2⟩ := id hC3
      obtain ⟨⟨r0, r1, r2⟩, fr⟩ := id hX3
      have hS := Lib.hid (hX3.res hB3 (by omega) n false (.slice AX Mc.length cX))
      have hO := Lib.hid (hoC3'.put3 (b := w.heap.size + 2) (by omega) (.int .i64 n) (.bool false) (.slice AX Mc.length cX))
      have hlt3 : w.heap.size + 2 < w3.heap.size := by omega
      clear hX3 hX4 hC4 hD4 hC3 hw4 HR HKa HKb
      go_wp2_with fail
      obtain ⟨⟨s0, s1, s2⟩, hB5⟩ := hS.out
      refine bodyPost_ret (v := .agg #[.int .i64 n, .bool false, .slice AX Mc.length cX]) (by simp [results, Try.results22, go_sem, r0, r1, r2, hlt3]) rfl ?_
      rw [HR2.out]
      exact ⟨AX, cX, rfl, (hO.out.alloc _).lower (by omega), hB5.alloc (by simp; omega) _⟩
  · have HR2 := Lib.hid (show R = ((n : Int), Ed, Md) by rw [HR.out, if_pos rfl])
    obtain ⟨c0, c1, c2⟩ := id hC3
    obtain ⟨⟨r0, r1, r2⟩, fr⟩ := id hX3
    have hS := Lib.hid (hX3.res hB3 (by omega) n Ed (.slice DX Md.length dX))
    have hO := Lib.hid (hoD3.put3 (b := w.heap.size + 2) (by omega) (.int .i64 n) (.bool Ed) (.slice DX Md.length dX))
    have hlt3 : w.heap.size + 2 < w3.heap.size := by omega
    clear hX3 hX4 hC4 hD4 hC3 hw4 HR HKa HKb
    go_wp2_with fail
    obtain ⟨⟨s0, s1, s2⟩, hB5⟩ := hS.out
    refine bodyPost_ret (v := .agg #[.int .i64 n, .bool Ed, .slice DX Md.length dX]) (by simp [results, Try.results22, go_sem, r0, r1, r2, hlt3]) rfl ?_
    rw [HR2.out]
    exact ⟨DX, dX, rfl, (hO.out.alloc _).lower (by omega), hB5.alloc (by simp; omega) _⟩
end Go.Proofs.Ytkogplnleiapfaa
namespace Go.Proofs.Ytkogplnleiapfaa
open Go.RowKit
set_option linter.unusedVariables false
set_option linter.unusedSimpArgs false
open Gn
/-- Two octagons that came in, and copies of them. -/
structure Ex (w W : World) (ba bb bx by' : Nat) (Na : Int) (Ea : Bool) (A : Option Addr) (ca : Nat) (Ma : List Int) (Nb : Int) (Eb : Bool) (B : Option Addr) (cb : Nat) (Mb : List Int) (A2 : Option Addr) (c2 : Nat) (B2 : Option Addr) (d2 : Nat) : Prop where
  a : OctAt W ba Na Ea (.slice A Ma.length ca)
  b : OctAt W bb Nb Eb (.slice B Mb.length cb)
  x : OctAt W bx Na Ea (.slice A2 Ma.length c2)
  y : OctAt W by' Nb Eb (.slice B2 Mb.length d2)
  ia : OctIn W W.heap.size A ca Na Ma
  ib : OctIn W W.heap.size B cb Nb Mb
  ix : OctIn W W.heap.size A2 c2 Na Ma
  iy : OctIn W W.heap.size B2 d2 Nb Mb
  below : Below w.heap.size w W
theorem Ex.go {w W W' : World} {ba bb bx by' : Nat} {Na : Int} {Ea : Bool} {A : Option Addr} {ca : Nat} {Ma : List Int} {Nb : Int} {Eb : Bool} {B : Option Addr} {cb : Nat} {Mb : List Int} {A2 : Option Addr} {c2 : Nat} {B2 : Option Addr} {d2 : Nat}
    (h : Ex w W ba bb bx by' Na Ea A ca Ma Nb Eb B cb Mb A2 c2 B2 d2) (hb : Below W.heap.size W W') : Ex w W' ba bb bx by' Na Ea A ca Ma Nb Eb B cb Mb A2 c2 B2 d2 :=
  ⟨h.a.below hb, h.b.below hb, h.x.below hb, h.y.below hb, h.ia.go hb, h.ib.go hb, h.ix.go hb, h.iy.go hb, h.below.trans (hb.mono h.below.size)⟩
theorem s13_below {w1 X Y : World} {a b m j : Nat} {x0 x1 x2 x3 x4 x5 x6 x7 x8 x9 x10 x11 : Value} (hb : Below X.heap.size X Y)
    (h : X.cell? ⟨a, 0, none⟩ = some x0 ∧ X.cell? ⟨a, 1, none⟩ = some x1 ∧ X.cell? ⟨a, 2, none⟩ = some x2 ∧ X.cell? ⟨b, 0, none⟩ = some x3 ∧ X.cell? ⟨b, 1, none⟩ = some x4 ∧ X.cell? ⟨b, 2, none⟩ = some x5 ∧ X.cell? ⟨m, 0, none⟩ = some x6 ∧ X.cell? ⟨m, 1, none⟩ = some x7 ∧ X.cell? ⟨m, 2, none⟩ = some x8 ∧ X.cell? ⟨j, 0, none⟩ = some x9 ∧ X.cell? ⟨j, 1, none⟩ = some x10 ∧ X.cell? ⟨j, 2, none⟩ = some x11 ∧ Below w1.heap.size w1 X) :
    Y.cell? ⟨a, 0, none⟩ = some x0 ∧ Y.cell? ⟨a, 1, none⟩ = some x1 ∧ Y.cell? ⟨a, 2, none⟩ = some x2 ∧ Y.cell? ⟨b, 0, none⟩ = some x3 ∧ Y.cell? ⟨b, 1, none⟩ = some x4 ∧ Y.cell? ⟨b, 2, none⟩ = some x5 ∧ Y.cell? ⟨m, 0, none⟩ = some x6 ∧ Y.cell? ⟨m, 1, none⟩ = some x7 ∧ Y.cell? ⟨m, 2, none⟩ = some x8 ∧ Y.cell? ⟨j, 0, none⟩ = some x9 ∧ Y.cell? ⟨j, 1, none⟩ = some x10 ∧ Y.cell? ⟨j, 2, none⟩ = some x11 ∧ Below w1.heap.size w1 Y :=
  ⟨below_cell hb h.1, below_cell hb h.2.1, below_cell hb h.2.2.1, below_cell hb h.2.2.2.1, below_cell hb h.2.2.2.2.1, below_cell hb h.2.2.2.2.2.1, below_cell hb h.2.2.2.2.2.2.1, below_cell hb h.2.2.2.2.2.2.2.1, below_cell hb h.2.2.2.2.2.2.2.2.1, below_cell hb h.2.2.2.2.2.2.2.2.2.1, below_cell hb h.2.2.2.2.2.2.2.2.2.2.1, below_cell hb h.2.2.2.2.2.2.2.2.2.2.2.1, h.2.2.2.2.2.2.2.2.2.2.2.2.trans (hb.mono h.2.2.2.2.2.2.2.2.2.2.2.2.size)⟩
set_option maxRecDepth 100000 in
set_option maxHeartbeats 16000000 in
theorem law_OrderExact (Na : Int) (Ea : Bool) (A : Option Addr) (ca : Nat) (Ma : List Int) (Nb : Int) (Eb : Bool) (B : Option Addr) (cb : Nat) (Mb : List Int) (w : World) (ha : OctIn w w.heap.size A ca Na Ma) (hb : OctIn w w.heap.size B cb Nb Mb) (hma : (Ma.length : Int) ≤ 17592186043904) (hmb : (Mb.length : Int) ≤ 17592186043904) :
    Calls Try.prog 3 #[.agg #[.int .i64 Na, .bool Ea, .slice A Ma.length ca], .agg #[.int .i64 Nb, .bool Eb, .slice B Mb.length cb]] w fun e w' => e = .returned (.bool true) ∧ Below w.heap.size w w' := by
  obtain ⟨W, hW, h1, h2, hB, hs⟩ := two_boxes w 24 Na Nb Ea Eb (.slice A Ma.length ca) (.slice B Mb.length cb)
  have haW := ha.go hB
  have hbW := hb.go hB
  have cK := known14 W
  obtain ⟨k0, k1, k2⟩ := id h1
  obtain ⟨l0, l1, l2⟩ := id h2
  clear ha hb
  go_enter Try.func3, Try.ntmps3
  rw [hW] at k0 k1 k2 l0 l1 l2
  go_wp2_with fail
  rw [← hW] at k0 k1 k2 l0 l1 l2 ⊢
  clear hW
  refine cK.mono ?_
  clear cK
  rintro e w1 ⟨rfl, hb1⟩
  have h11 := h1.below hb1
  have h21 := h2.below hb1
  have ha1 := haW.go hb1
  have hbb1 := hbW.go hb1
  have hB1 := hB.trans (hb1.mono hB.size)
  clear hb1 k0 k1 k2 l0 l1 l2 haW hbW h1 h2 hB hs
  obtain ⟨k0, k1, k2⟩ := id h11
  obtain ⟨l0, l1, l2⟩ := id h21
  have cA := fun X (hX : Below w1.heap.size w1 X) => help_CopyOct Na Ea A ca Ma X (ha1.go hX).rd hma
  have cB := fun X (hX : Below w1.heap.size w1 X) => help_CopyOct Nb Eb B cb Mb X (hbb1.go hX).rd hmb
  go_wp2_with fail
  refine wp_region_loose 6 (fun i => match i with | 0 => 16 | 1 => 17 | 2 => 18 | 3 => 19 | 4 => 5 | _ => 6) (octR w1.heap.size (Na, Ea, Ma) (Nb, Eb, Mb) (.agg #[.int .i64 Na, .bool Ea, .slice A Ma.length ca]) (.agg #[.int .i64 Nb, .bool Eb, .slice B Mb.length cb])) octS #[true, true, true, true, true, true, false, false] (by kernel_rfl) (by kernel_rfl) octR_below ?hd ?hi ?hop ?hend
  case hd => intro i hi; rcases (show i = 0 ∨ i = 1 ∨ i = 2 ∨ i = 3 ∨ i = 4 ∨ i = 5 by omega) with rfl | rfl | rfl | rfl | rfl | rfl <;> simp
  case hi =>
    intro i j hi hj hij h
    rcases (show i = 0 ∨ i = 1 ∨ i = 2 ∨ i = 3 ∨ i = 4 ∨ i = 5 by omega) with rfl | rfl | rfl | rfl | rfl | rfl <;> rcases (show j = 0 ∨ j = 1 ∨ j = 2 ∨ j = 3 ∨ j = 4 ∨ j = 5 by omega) with rfl | rfl | rfl | rfl | rfl | rfl <;> first | exact absurd rfl hij | exact absurd h (by decide)
  case hop =>
    intro i o hi ho
    rcases (show i = 0 ∨ i = 1 ∨ i = 2 ∨ i = 3 ∨ i = 4 ∨ i = 5 by omega) with rfl | rfl | rfl | rfl | rfl | rfl
    · injection ho with ho
      subst ho
      refine ⟨fun _ => rfl, fun a' X hX hsz hdf hrest hdep => ?_⟩
      have e2 : a'.tmps[2]? = some (.pointer (some ⟨w.heap.size, 0, none⟩)) := hrest 2 (by decide)
      have m0 := below_cell hX k0
      have m1 := below_cell hX k1
      have m2 := below_cell hX k2
      simp [Oper.wp, execOp, Act.eval, e2, go_sem, m0, m1, m2]
      exact ⟨_, rfl, Below.refl _ _, rfl, fun j u _ _ hu => octS_new (fun b _ h0 => absurd rfl h0) j u hu⟩
    · injection ho with ho
      subst ho
      refine ⟨fun _ => rfl, fun a' X hX hsz hdf hrest hdep => ?_⟩
      obtain ⟨v, e16, hv⟩ := hdep ⟨0, Ground.data⟩ (by simp) rfl
      have hv : v = .agg #[.int .i64 Na, .bool Ea, .slice A Ma.length ca] := hv
      have e16 : a'.tmps[16]? = some v := e16
      subst hv
      simp [Oper.wp, execOp, Act.eval, e16, go_sem]
      refine (cA X hX).mono ?_
      rintro e X' ⟨A2, c2, rfl, ho, hb⟩
      exact ⟨_, rfl, hb, ⟨A2, c2, rfl, ho.lower hX.size⟩, fun j u _ _ hu => octS_new (fun b hb' _ _ => own_root ho hb') j u hu⟩
    · injection ho with ho
      subst ho
      refine ⟨fun _ => rfl, fun a' X hX hsz hdf hrest hdep => ?_⟩
      have e3 : a'.tmps[3]? = some (.pointer (some ⟨w.heap.size + 1, 0, none⟩)) := hrest 3 (by decide)
      have m0 := below_cell hX l0
      have m1 := below_cell hX l1
      have m2 := below_cell hX l2
      simp [Oper.wp, execOp, Act.eval, e3, go_sem, m0, m1, m2]
      exact ⟨_, rfl, Below.refl _ _, rfl, fun j u _ _ hu => octS_new (fun b _ _ h0 => absurd rfl h0) j u hu⟩
    · injection ho with ho
      subst ho
      refine ⟨fun _ => rfl, fun a' X hX hsz hdf hrest hdep => ?_⟩
      obtain ⟨v, e18, hv⟩ := hdep ⟨2, Ground.data⟩ (by simp) rfl
      have hv : v = .agg #[.int .i64 Nb, .bool Eb, .slice B Mb.length cb] := hv
      have e18 : a'.tmps[18]? = some v := e18
      subst hv
      simp [Oper.wp, execOp, Act.eval, e18, go_sem]
      refine (cB X hX).mono ?_
      rintro e X' ⟨A2, c2, rfl, ho, hb⟩
      exact ⟨_, rfl, hb, ⟨A2, c2, rfl, ho.lower hX.size⟩, fun j u _ _ hu => octS_new (fun b hb' _ _ => own_root ho hb') j u hu⟩
    all_goals
      injection ho with ho
      subst ho
      refine ⟨fun _ => rfl, fun a' X hX hsz hdf hrest hdep => ?_⟩
      simp [Oper.wp, execOp, Act.eval, go_sem]
      exact ⟨_, rfl, (Below.refl _ _).alloc (Nat.le_refl _) _, ⟨X.heap.size, rfl, hX.size, OctBox.new _ _ _ _ _⟩, fun j u _ _ hu => octS_new (fun b hb _ _ => Nat.le_of_eq (by simpa [rootOf] using hb)) j u hu⟩
  case hend =>
    intro vs X hX hv hs
    have e0 : vs 0 = .agg #[.int .i64 Na, .bool Ea, .slice A Ma.length ca] := hv 0 (by decide)
    obtain ⟨A2, c2, e1, hoA⟩ : ∃ A c, vs 1 = .agg #[.int .i64 Na, .bool Ea, .slice A Ma.length c] ∧ Ow X w1.heap.size 2 .i64 A c Ma := hv 1 (by decide)
    have e2 : vs 2 = .agg #[.int .i64 Nb, .bool Eb, .slice B Mb.length cb] := hv 2 (by decide)
    obtain ⟨B2, d2, e3, hoB⟩ : ∃ A c, vs 3 = .agg #[.int .i64 Nb, .bool Eb, .slice A Mb.length c] ∧ Ow X w1.heap.size 2 .i64 A c Mb := hv 3 (by decide)
    obtain ⟨b7, e4, hb7, hx7⟩ : ∃ b, vs 4 = .pointer (some ⟨b, 0, none⟩) ∧ w1.heap.size ≤ b ∧ OctBox X b 0 false (.slice none 0 0) := hv 4 (by decide)
    obtain ⟨b8, e5, hb8, hx8⟩ : ∃ b, vs 5 = .pointer (some ⟨b, 0, none⟩) ∧ w1.heap.size ≤ b ∧ OctBox X b 0 false (.slice none 0 0) := hv 5 (by decide)
    have hsA7 := hs 1 4 (by decide) (by decide) (by decide) (by decide)
    have hsA8 := hs 1 5 (by decide) (by decide) (by decide) (by decide)
    have hsB7 := hs 3 4 (by decide) (by decide) (by decide) (by decide)
    have hsB8 := hs 3 5 (by decide) (by decide) (by decide) (by decide)
    have hs78 := hs 4 5 (by decide) (by decide) (by decide) (by decide)
    rw [e1, e4] at hsA7
    rw [e1, e5] at hsA8
    rw [e3, e4] at hsB7
    rw [e3, e5] at hsB8
    rw [e4, e5] at hs78
    have n78 : b7 ≠ b8 := fun e => hs78 b7 rfl (by rw [e]; rfl)
    have nA7 : ∀ g, A2 = some ⟨g, 0, none⟩ → g ≠ b7 := fun g hg e => by subst hg e; exact hsA7 g rfl rfl
    have nA8 : ∀ g, A2 = some ⟨g, 0, none⟩ → g ≠ b8 := fun g hg e => by subst hg e; exact hsA8 g rfl rfl
    have nB7 : ∀ g, B2 = some ⟨g, 0, none⟩ → g ≠ b7 := fun g hg e => by subst hg e; exact hsB7 g rfl rfl
    have nB8 : ∀ g, B2 = some ⟨g, 0, none⟩ → g ≠ b8 := fun g hg e => by subst hg e; exact hsB8 g rfl rfl
    clear hsA7 hsA8 hsB7 hsB8 hs78 hs hv
    obtain ⟨y7, g7⟩ := hx7.put Na Ea (.slice A2 Ma.length c2)
    obtain ⟨y8, g8⟩ := (hx8.only g7 (Ne.symm n78)).put Nb Eb (.slice B2 Mb.length d2)
    have y7' := y7.only g8 n78
    have hoA2 := (hoA.turn g7 nA7).turn g8 nA8
    have hoB2 := (hoB.turn g7 nB7).turn g8 nB8
    have hBY := ((((((hX.setCell hb7 (p := ⟨b7, 0, none⟩) (.int .i64 Na)).setCell hb7 (p := ⟨b7, 1, none⟩) (.bool Ea)).setCell hb7 (p := ⟨b7, 2, none⟩) (.slice A2 Ma.length c2)).setCell hb8 (p := ⟨b8, 0, none⟩) (.int .i64 Nb)).setCell hb8 (p := ⟨b8, 1, none⟩) (.bool Eb)).setCell hb8 (p := ⟨b8, 2, none⟩) (.slice B2 Mb.length d2))
    obtain ⟨⟨p0, p1, p2⟩, pf⟩ := id hx7
    obtain ⟨⟨q0, q1, q2⟩, qf⟩ := id hx8
    have n87 : ¬ b8 = b7 := fun e => n78 e.symm
    have HH := Lib.hid (And.intro y7' (And.intro y8 (And.intro hoA2 (And.intro hoB2 hBY))))
    clear y7 y8 y7' g7 g8 hoA2 hoB2 hBY hx7 hx8 hoA hoB nA7 nA8 nB7 nB8
    simp only [puts, Act.put, e0, e1, e2, e3, e4, e5, List.drop_succ_cons, List.drop_zero, List.setIfInBounds_toArray, List.set_cons_zero, List.set_cons_succ]
    go_wp2_with fail
    refine mixQ_normal ?_
    generalize ((((((X.setCell ⟨b7, 0, none⟩ (.int .i64 Na)).setCell ⟨b7, 1, none⟩ (.bool Ea)).setCell ⟨b7, 2, none⟩ (.slice A2 Ma.length c2)).setCell ⟨b8, 0, none⟩ (.int .i64 Nb)).setCell ⟨b8, 1, none⟩ (.bool Eb)).setCell ⟨b8, 2, none⟩ (.slice B2 Mb.length d2)) = Y at *
    obtain ⟨y7, y8, hoA2, hoB2, hBY⟩ := HH.out
    have hS : Ex w Y w.heap.size (w.heap.size + 1) b7 b8 Na Ea A ca Ma Nb Eb B cb Mb A2 c2 B2 d2 :=
      ⟨h11.below hBY, h21.below hBY, y7.box, y8.box, ha1.go hBY, hbb1.go hBY, hoA2.oct ha1.hN ha1.i64, hoB2.oct hbb1.hN hbb1.i64, hB1.trans (hBY.mono hB1.size)⟩
    clear HH p0 p1 p2 pf q0 q1 q2 qf k0 k1 k2 l0 l1 l2 hX n87 n78 cA cB y7 y8 hoA2 hoB2 hBY h11 h21 ha1 hbb1 hB1
    obtain ⟨p, hp⟩ : ∃ p, p = pairP Na Ea Ma Nb Eb Mb := ⟨_, rfl⟩
    obtain ⟨r, hr⟩ : ∃ r, (decide (p = 0) && entP Na Ea Ma Eb Mb) = r := ⟨_, rfl⟩
    obtain ⟨Rm, hRm⟩ : ∃ R, meetE Na Ea Ma Eb Mb p = R := ⟨_, rfl⟩
    obtain ⟨Rj, hRj⟩ : ∃ R, joinE Na Ea Ma Eb Mb p = R := ⟨_, rfl⟩
    have HP := Lib.hid hp.symm
    have HR := Lib.hid hr
    have HRm := Lib.hid hRm
    have HRj := Lib.hid hRj
    have cE := fun X (hX : Ex w X w.heap.size (w.heap.size + 1) b7 b8 Na Ea A ca Ma Nb Eb B cb Mb A2 c2 B2 d2) => order_Entails Na Ea A2 c2 Ma Nb Eb B2 d2 Mb X hX.ix hX.iy hma p HP.out r hr
    have cM := fun X (hX : Ex w X w.heap.size (w.heap.size + 1) b7 b8 Na Ea A ca Ma Nb Eb B cb Mb A2 c2 B2 d2) => order_Meet Na Ea A2 c2 Ma Nb Eb B2 d2 Mb X hX.ix hX.iy hma p HP.out Rm hRm
    have cJ := fun X (hX : Ex w X w.heap.size (w.heap.size + 1) b7 b8 Na Ea A ca Ma Nb Eb B cb Mb A2 c2 B2 d2) => order_Join Na Ea A2 c2 Ma Nb Eb B2 d2 Mb X hX.ix hX.iy hma hmb p HP.out Rj hRj
    have cP := fun X (hX : Ex w X w.heap.size (w.heap.size + 1) b7 b8 Na Ea A ca Ma Nb Eb B cb Mb A2 c2 B2 d2) => ref_Pair Na Ea A ca Ma Nb Eb B cb Mb X hX.ia hX.ib p HP.out
    unfold TellsE at cM cJ
    clear hp hr hRm hRj
    obtain ⟨m0, m1, m2⟩ := id hS.x
    obtain ⟨n0, n1, n2⟩ := id hS.y
    go_wp2_with fail
    with_reducible refine (cE _ hS).mono ?_
    rintro e w3 ⟨rfl, hb3⟩
    have hS3 := hS.go hb3
    clear hS hb3 m0 m1 m2 n0 n1 n2 cE
    obtain ⟨m0, m1, m2⟩ := id hS3.x
    obtain ⟨n0, n1, n2⟩ := id hS3.y
    go_wp2_with fail
    with_reducible refine (cM _ hS3).mono ?_
    obtain ⟨Nm, Em, Mm⟩ := Rm
    rintro e w4 ⟨Am, cm, rfl, hoM, hb4⟩
    dsimp only at hoM ⊢
    obtain ⟨w5, hw5⟩ : ∃ w5, w5 = w4.alloc (.cells #[.int .i64 Nm, .bool Em, .slice Am Mm.length cm] /-T-/24) := ⟨_, rfl⟩
    have hM5 : OctAt w5 w4.heap.size Nm Em (.slice Am Mm.length cm) := by rw [hw5]; exact OctAt.box _ _ _ _ _
    have hb5 : Below w4.heap.size w4 w5 := by rw [hw5]; exact (Below.refl _ _).alloc (Nat.le_refl _) _
    have hb45 := hb4.trans (hb5.mono hb4.size)
    have hS5 := hS3.go hb45
    have hoM5 := hoM.below hb5
    clear hS3 hb4 hb45 m0 m1 m2 n0 n1 n2 cM hoM
    obtain ⟨m0, m1, m2⟩ := id hS5.x
    obtain ⟨n0, n1, n2⟩ := id hS5.y
    rw [hw5] at m0 m1 m2 n0 n1 n2
    go_wp2_with fail
    rw [← hw5]
    clear hw5 hb5 m0 m1 m2 n0 n1 n2
    generalize w4.heap.size = bm at *
    with_reducible refine (cJ _ hS5).mono ?_
    obtain ⟨Nj, Ej, Mj⟩ := Rj
    rintro e w6 ⟨Aj, cj, rfl, hoJ, hb6⟩
    dsimp only at hoJ ⊢
    obtain ⟨w7, hw7⟩ : ∃ w7, w7 = w6.alloc (.cells #[.int .i64 Nj, .bool Ej, .slice Aj Mj.length cj] /-T-/24) := ⟨_, rfl⟩
    have hJ7 : OctAt w7 w6.heap.size Nj Ej (.slice Aj Mj.length cj) := by rw [hw7]; exact OctAt.box _ _ _ _ _
    have hb7' : Below w6.heap.size w6 w7 := by rw [hw7]; exact (Below.refl _ _).alloc (Nat.le_refl _) _
    have hb67 := hb6.trans (hb7'.mono hb6.size)
    have hS7 := hS5.go hb67
    have hM7 := hM5.below hb67
    have hoM7 := hoM5.below hb67
    have hoJ7 := hoJ.below hb7'
    clear hS5 hM5 hoM5 hb6 hb67 cJ hoJ
    obtain ⟨m0, m1, m2⟩ := id hS7.a
    obtain ⟨n0, n1, n2⟩ := id hS7.b
    rw [hw7] at m0 m1 m2 n0 n1 n2
    go_wp2_with fail
    rw [← hw7]
    clear hw7 hb7' m0 m1 m2 n0 n1 n2
    generalize w6.heap.size = bj at *
    with_reducible refine (cP _ hS7).mono ?_
    clear cP
    rintro e w8 ⟨rfl, hb8⟩
    have hS8 := hS7.go hb8
    have hM8 := hM7.below hb8
    have hJ8 := hJ7.below hb8
    have hoM8 := hoM7.below hb8
    have hoJ8 := hoJ7.below hb8
    clear hS7 hM7 hoM7 hb8 hJ7 hoJ7
    obtain ⟨m0, m1, m2⟩ := id hS8.a
    obtain ⟨n0, n1, n2⟩ := id hS8.b
    obtain ⟨u0, u1, u2⟩ := id hS8.x
    obtain ⟨v0, v1, v2⟩ := id hS8.y
    have hpp : (p != p) = false := bne_self_eq_false p
    have cX := fun X (hX : Ex w X w.heap.size (w.heap.size + 1) b7 b8 Na Ea A ca Ma Nb Eb B cb Mb A2 c2 B2 d2) => help_Oct Na Na Ea Ea A2 A c2 ca Ma Ma X hX.ix.rd hX.ia.rd (by omega) (by omega)
    have cY := fun X (hX : Ex w X w.heap.size (w.heap.size + 1) b7 b8 Na Ea A ca Ma Nb Eb B cb Mb A2 c2 B2 d2) => help_Oct Nb Nb Eb Eb B2 B d2 cb Mb Mb X hX.iy.rd hX.ib.rd (by omega) (by omega)
    simp only [decide_eq_true (show Na = Na ∧ Ea = Ea ∧ Ma = Ma from ⟨rfl, rfl, rfl⟩)] at cX
    simp only [decide_eq_true (show Nb = Nb ∧ Eb = Eb ∧ Mb = Mb from ⟨rfl, rfl, rfl⟩)] at cY
    go_wp2_with fail
    with_reducible refine (cX _ hS8).mono ?_
    clear cX
    rintro e w9 ⟨rfl, hb9⟩
    have hS9 := hS8.go hb9
    have hM9 := hM8.below hb9
    have hJ9 := hJ8.below hb9
    have hoM9 := hoM8.below hb9
    have hoJ9 := hoJ8.below hb9
    clear hS8 hM8 hoM8 hb9 hJ8 hoJ8 m0 m1 m2 n0 n1 n2 u0 u1 u2 v0 v1 v2
    obtain ⟨n0, n1, n2⟩ := id hS9.b
    obtain ⟨v0, v1, v2⟩ := id hS9.y
    go_wp2_with fail
    with_reducible refine (cY _ hS9).mono ?_
    clear cY
    rintro e w10 ⟨rfl, hb10⟩
    have hS10 := hS9.go hb10
    have hM10 := hM9.below hb10
    have hJ10 := hJ9.below hb10
    have hoM10 := hoM9.below hb10
    have hoJ10 := hoJ9.below hb10
    clear hS9 hM9 hoM9 hb10 hJ9 hoJ9 n0 n1 n2 v0 v1 v2
    by_cases hp0 : p = 0
    · subst hp0
      have hd0 : ((0 : Int) != 0) = false := rfl
      obtain ⟨hc1, hc2, hN⟩ := pairP_zero HP.out
      subst hN
      obtain ⟨n, hn1, hn, _⟩ := chk_zero hc1
      subst hn1
      have hrE : entP n Ea Ma Eb Mb = r := by rw [← HR.out]; simp
      have hrM : (Nm, Em, Mm) = meetP n Ea Ma Eb Mb := by rw [← HRm.out]; unfold meetE; rw [if_pos rfl]
      have hrJ : (Nj, Ej, Mj) = joinP n Ea Ma Eb Mb := by rw [← HRj.out]; unfold joinE; rw [if_pos rfl]
      have hkM := (meetP_chk hc1 hc2).2
      have hkJ := (joinP_chk hc1 hc2).2
      rw [← hrM] at hkM
      rw [← hrJ] at hkJ
      dsimp only at hkM hkJ
      have lnM : (Mm.length : Int) ≤ 9223372036854775807 := by
        obtain ⟨k, _, hk, h0, h1⟩ := chk_zero hkM
        rcases Em with _ | _
        · rw [(h1 rfl).1]; have := sq_le hk; omega
        · rw [h0 rfl]; simp
      have lnJ : (Mj.length : Int) ≤ 9223372036854775807 := by
        obtain ⟨k, _, hk, h0, h1⟩ := chk_zero hkJ
        rcases Ej with _ | _
        · rw [(h1 rfl).1]; have := sq_le hk; omega
        · rw [h0 rfl]; simp
      have cE := fun X (hX : Below w10.heap.size w10 X) => ref14_Entails n Ea A ca Ma Eb B cb Mb X (hS10.ia.go hX) (hS10.ib.go hX) hc1 hc2 r hrE
      have cM := fun X (hX : Below w10.heap.size w10 X) => ref14_Meet n Ea A ca Ma Eb B cb Mb X (hS10.ia.go hX) (hS10.ib.go hX) hc1 hc2 (Nm, Em, Mm) hrM
      have cJ := fun X (hX : Below w10.heap.size w10 X) => ref14_Join n Ea A ca Ma Eb B cb Mb X (hS10.ia.go hX) (hS10.ib.go hX) hc1 hc2 (Nj, Ej, Mj) hrJ
      have cOM := fun (X : World) (A' : Option Addr) (c' : Nat) (hX : Below w10.heap.size w10 X) (ho : Rd X X.heap.size .i64 A' Mm.length (nth Mm)) => help_Oct Nm Nm Em Em Am A' cm c' Mm Mm X (hoM10.below hX).rd ho lnM lnM
      have cOJ := fun (X : World) (A' : Option Addr) (c' : Nat) (hX : Below w10.heap.size w10 X) (ho : Rd X X.heap.size .i64 A' Mj.length (nth Mj)) => help_Oct Nj Nj Ej Ej Aj A' cj c' Mj Mj X (hoJ10.below hX).rd ho lnJ lnJ
      simp only [decide_eq_true (show Nm = Nm ∧ Em = Em ∧ Mm = Mm from ⟨rfl, rfl, rfl⟩)] at cOM
      simp only [decide_eq_true (show Nj = Nj ∧ Ej = Ej ∧ Mj = Mj from ⟨rfl, rfl, rfl⟩)] at cOJ
      unfold TellsO at cM cJ
      have hBf0 := Lib.hid hS10.below
      have hB0s := hS10.below.size
      have hrr : (r == r) = true := beq_self_eq_true r
      obtain ⟨m0, m1, m2⟩ := id hS10.a
      obtain ⟨n0, n1, n2⟩ := id hS10.b
      obtain ⟨u0, u1, u2⟩ := id hM10
      obtain ⟨v0, v1, v2⟩ := id hJ10
      clear hS10 hM10 hJ10 hoM10 hoJ10 hc1 hc2 hrE hrM hrJ hkM hkJ HP HR HRm HRj hpp
      go_wp2_with fail
      go_region_held3 (fun X => X.cell? ⟨w.heap.size, 0, none⟩ = some (.int .i64 n) ∧ X.cell? ⟨w.heap.size, 1, none⟩ = some (.bool Ea) ∧ X.cell? ⟨w.heap.size, 2, none⟩ = some (.slice A Ma.length ca) ∧ X.cell? ⟨w.heap.size + 1, 0, none⟩ = some (.int .i64 n) ∧ X.cell? ⟨w.heap.size + 1, 1, none⟩ = some (.bool Eb) ∧ X.cell? ⟨w.heap.size + 1, 2, none⟩ = some (.slice B Mb.length cb) ∧ X.cell? ⟨bm, 0, none⟩ = some (.int .i64 Nm) ∧ X.cell? ⟨bm, 1, none⟩ = some (.bool Em) ∧ X.cell? ⟨bm, 2, none⟩ = some (.slice Am Mm.length cm) ∧ X.cell? ⟨bj, 0, none⟩ = some (.int .i64 Nj) ∧ X.cell? ⟨bj, 1, none⟩ = some (.bool Ej) ∧ X.cell? ⟨bj, 2, none⟩ = some (.slice Aj Mj.length cj) ∧ Below w10.heap.size w10 X)
        (first | with_reducible assumption | with_reducible exact s13_below hbb (by with_reducible assumption) | exact ⟨m0, m1, m2, n0, n1, n2, u0, u1, u2, v0, v1, v2, (Below.refl _ _).drew⟩)
        (first | (go_at_call 20; have hbS := (by assumption : _ ∧ _ ∧ _ ∧ _ ∧ _ ∧ _ ∧ _ ∧ _ ∧ _ ∧ _ ∧ _ ∧ _ ∧ Below w10.heap.size w10 _).2.2.2.2.2.2.2.2.2.2.2.2; with_reducible refine (cE _ hbS).mono ?_; rintro e wE ⟨rfl, hbb⟩) | (go_at_call 21; have hbS := (by assumption : _ ∧ _ ∧ _ ∧ _ ∧ _ ∧ _ ∧ _ ∧ _ ∧ _ ∧ _ ∧ _ ∧ _ ∧ Below w10.heap.size w10 _).2.2.2.2.2.2.2.2.2.2.2.2; with_reducible refine (cM _ hbS).mono ?_; rintro e wM ⟨AM, cM', rfl, hoMM, hbb⟩) | (go_at_call 22; have hbS := (by assumption : _ ∧ _ ∧ _ ∧ _ ∧ _ ∧ _ ∧ _ ∧ _ ∧ _ ∧ _ ∧ _ ∧ _ ∧ Below w10.heap.size w10 _).2.2.2.2.2.2.2.2.2.2.2.2; with_reducible refine (cJ _ hbS).mono ?_; rintro e wJ ⟨AJ, cJ', rfl, hoJJ, hbb⟩) | (go_at_call 19; have hbS := (by assumption : _ ∧ _ ∧ _ ∧ _ ∧ _ ∧ _ ∧ _ ∧ _ ∧ _ ∧ _ ∧ _ ∧ _ ∧ Below w10.heap.size w10 _).2.2.2.2.2.2.2.2.2.2.2.2; with_reducible refine (cOJ _ _ _ hbS hoJJ.rd).mono ?_; rintro e wO ⟨rfl, hbb⟩) | (go_at_call 19; have hbS := (by assumption : _ ∧ _ ∧ _ ∧ _ ∧ _ ∧ _ ∧ _ ∧ _ ∧ _ ∧ _ ∧ _ ∧ _ ∧ Below w10.heap.size w10 _).2.2.2.2.2.2.2.2.2.2.2.2; with_reducible refine (cOM _ _ _ hbS hoMM.rd).mono ?_; rintro e wO ⟨rfl, hbb⟩))
      have hBS := (by assumption : _ ∧ _ ∧ _ ∧ _ ∧ _ ∧ _ ∧ _ ∧ _ ∧ _ ∧ _ ∧ _ ∧ _ ∧ Below w10.heap.size w10 _).2.2.2.2.2.2.2.2.2.2.2.2
      have hend := Lib.hid (hBf0.out.trans (hBS.mono hB0s))
      go_wp2_with fail
      go_ret
      exact ⟨rfl, hend.out⟩
    · have hd0 : (p != 0) = true := bne_iff_ne.2 hp0
      have h1 := HRm.out
      have h2 := HRj.out
      have h3 := HR.out
      unfold meetE at h1
      unfold joinE at h2
      rw [if_neg hp0] at h1 h2
      rw [decide_eq_false hp0] at h3
      simp only [Prod.mk.injEq] at h1 h2
      obtain ⟨rfl, rfl, rfl⟩ := h1
      obtain ⟨rfl, rfl, rfl⟩ := h2
      have hr0 : r = false := h3.symm
      subst hr0
      clear h3 HR HRm HRj HP hp0
      obtain ⟨m0, m1, m2⟩ := id hM10
      obtain ⟨n0, n1, n2⟩ := id hJ10
      have cM := help_Oct 0 0 false false Am none cm 0 [] [] w10 Rd.zero Rd.zero (by simp) (by simp)
      rw [decide_eq_true ⟨rfl, rfl, rfl⟩] at cM
      go_wp2_with fail
      refine cM.mono ?_
      clear cM
      rintro e w11 ⟨rfl, hb11⟩
      have hJ11 := hJ10.below hb11
      have hB11 := hS10.below.trans (hb11.mono hS10.below.size)
      clear m0 m1 m2 n0 n1 n2 hb11
      obtain ⟨n0, n1, n2⟩ := id hJ11
      have cM := help_Oct 0 0 false false Aj none cj 0 [] [] w11 Rd.zero Rd.zero (by simp) (by simp)
      rw [decide_eq_true ⟨rfl, rfl, rfl⟩] at cM
      go_wp2_with fail
      refine cM.mono ?_
      clear cM
      rintro e w12 ⟨rfl, hb12⟩
      have hend := Lib.hid (hB11.trans (hb12.mono hB11.size))
      clear hb12
      go_wp2_with fail
      go_ret
      exact ⟨rfl, hend.out⟩
end Go.Proofs.Ytkogplnleiapfaa

/- Plain: what closing makes where nothing saturates is closed, so is the Join of two; entailment by what is closed. No program in sight. -/
import Derived.Test.YtkgddgckilledaaOrd
import Derived.Test.YtkgddgckilledaaCid
import Derived.Test.YtkgddgckilledaaOrw
import Derived.Test.YtkgddgckilledaaRof
namespace Go.Proofs.Ytkgddgckilledaa
open Go.RowKit
set_option linter.unusedVariables false
set_option linter.unusedSimpArgs false
namespace Gn
/-- A matrix that is closed. -/
structure Shut (n : Nat) (X : List Int) : Prop where
  len : X.length = (2 * n) * (2 * n)
  ok : okM (2 * n) X
  tri : Tri (2 * n) X
  ev : ∀ a, a < 2 * n → even (cl (2 * n) X a (ac a)) = cl (2 * n) X a (ac a)
  st : ∀ a, a < 2 * n → ∀ b, b < 2 * n → a ≠ b → cl (2 * n) X a b ≤ half (plus (cl (2 * n) X a (ac a)) (cl (2 * n) X (ac b) b))
theorem Shut.close {n : Nat} {X : List Int} (h : Shut n X) : ∃ t, closeM (2 * n) X = (some X, t) := by
  have hB := allB_of h.len h.ok
  have d0 := fun a ha => (h.ok a ha a ha).2.1 rfl
  have e1 : (paths (2 * n) (X, false)).1 = X := paths_tri hB h.tri
  have e2 : mirrors (2 * n) X = X := mat_ext ((mI_len _ _ _).trans h.len) h.len fun a ha b hb => by
    rw [cl_mirrors h.len hB a ha b hb, ← (h.ok a ha b hb).2.2, less_same (cl_bd hB _ _)]
  have e3 : loops (2 * n) X = false := by
    cases e : loops (2 * n) X
    · rfl
    · obtain ⟨a, ha, h1⟩ := loops_iff.1 e
      rw [d0 a ha] at h1
      omega
  have e4 : evens (2 * n) X = X := mat_ext ((eI_len _ _ _).trans h.len) h.len fun a ha b hb => by
    rw [cl_evens h.len a ha b hb]
    split
    · rename_i e; subst e; exact h.ev a ha
    · rfl
  have e5 : ∀ t, (sides (2 * n) X t).1 = false := fun t => by
    cases e : (sides (2 * n) X t).1
    · rfl
    · obtain ⟨a, ha, h1⟩ := sides_iff.1.1 e
      have := h.tri a ha (ac a) (ac_lt ha) a ha
      rw [d0 a ha] at this
      omega
  have e6 : ∀ t, (strong (2 * n) (X, t)).1 = X := fun t => mat_ext ((tI_len _ _ _).trans h.len) h.len fun a ha b hb => by
    rw [(cl_strong h.len hB).1 a ha b hb]
    split
    · rfl
    · rename_i hab
      exact less_of_le (cl_bd hB _ _) (half_bd _) (h.st a ha b hb hab)
  unfold closeM
  dsimp only
  rw [e1, e2, e3, e4, e5, if_neg (by simp), if_neg (by simp), e6]
  exact ⟨_, rfl⟩
theorem close_shut {n : Nat} {M Z : List Int} (hl : M.length = (2 * n) * (2 * n)) (hok : okM (2 * n) M) (h : closeM (2 * n) M = (some Z, false)) : Shut n Z := by
  obtain ⟨c⟩ := closeM_some h
  have hB := allB_of hl hok
  have fZ := c.fZ hl hB
  obtain ⟨n1, n2, n3⟩ := c.no_sat hl hB rfl
  refine ⟨fZ.1, c.okZ hl hok, c.triZ hl hok rfl, fun a ha => ?_, fun a ha b hb hab => ?_⟩
  · have u := c.uZ hl hok rfl ha
    have b1 := cl_bd (m := 2 * n) fZ.2 a (ac a)
    unfold even
    rw [asB_of b1]
    split <;> omega
  · have u1 := c.uZ hl hok rfl ha
    have u2 := c.uZ hl hok rfl (ac_lt hb)
    have y1 := c.yU hl hok n1 ha
    have y2 := c.yU hl hok n1 (ac_lt hb)
    rw [ac_ac] at u2 y2
    have z := c.zP hl hok rfl ha hb
    have f1 : cl (2 * n) Z a (ac a) = cl (2 * n) c.Y a (ac a) := by omega
    have f2 : cl (2 * n) Z (ac b) b = cl (2 * n) c.Y (ac b) b := by omega
    have w := plus_ways (cl_bd (c.fY hl hB).2 a (ac a)) (cl_bd (c.fY hl hB).2 (ac b) b) (n3 a ha b hb hab)
    rw [f1, f2]
    have bp := plus_bd (cl (2 * n) c.Y a (ac a)) (cl (2 * n) c.Y (ac b) b)
    unfold half
    rw [asB_of bp]
    have b1 := cl_bd (m := 2 * n) (c.fY hl hB).2 a (ac a)
    have b2 := cl_bd (m := 2 * n) (c.fY hl hB).2 (ac b) b
    have b3 := cl_bd (m := 2 * n) fZ.2 a b
    unfold hv at z
    unfold Bd at b1 b2 b3
    generalize cl (2 * n) c.Y a (ac a) = u at *
    generalize cl (2 * n) c.Y (ac b) b = v at *
    generalize plus u v = p at *
    split at z <;> split <;> omega
theorem cl_zip {n : Nat} {f : Int → Int → Int} {X Y : List Int} (hl : X.length = (2 * n) * (2 * n)) {a b : Nat} (ha : a < 2 * n) (hb : b < 2 * n) : cl (2 * n) (zip2 f X Y) a b = f (cl (2 * n) X a b) (cl (2 * n) Y a b) := by
  unfold cl
  rw [nth_zip2 (by rw [hl]; exact idx_lt ha hb)]
/-- The greater of two that are closed is closed. -/
theorem Shut.max {n : Nat} {X Y : List Int} (h : Shut n X) (k : Shut n Y) : Shut n (zip2 max X Y) := by
  have e := fun a b (ha : a < 2 * n) (hb : b < 2 * n) => cl_zip (f := Max.max) (Y := Y) h.len ha hb
  have hB := allB_of h.len h.ok
  have kB := allB_of k.len k.ok
  refine ⟨by rw [zip2_len, h.len], fun a ha b hb => ⟨?_, fun q => ?_, ?_⟩, fun a ha i hi b hb => ?_, fun a ha => ?_, fun a ha b hb hab => ?_⟩
  · rw [e a b ha hb]
    have h1 := cl_bd (m := 2 * n) hB a b
    have h2 := cl_bd (m := 2 * n) kB a b
    refine (isB_iff _).2 ?_
    unfold Bd at *
    omega
  · rw [e a b ha hb, (h.ok a ha b hb).2.1 q, (k.ok a ha b hb).2.1 q]; decide
  · rw [e a b ha hb, e _ _ (ac_lt hb) (ac_lt ha), (h.ok a ha b hb).2.2, (k.ok a ha b hb).2.2]
  · rw [e a b ha hb, e a i ha hi, e i b hi hb]
    have t1 := Int.le_trans (h.tri a ha i hi b hb) (plus_mono2 (Int.le_max_left (cl (2 * n) X a i) (cl (2 * n) Y a i)) (Int.le_max_left (cl (2 * n) X i b) (cl (2 * n) Y i b)))
    have t2 := Int.le_trans (k.tri a ha i hi b hb) (plus_mono2 (Int.le_max_right (cl (2 * n) X a i) (cl (2 * n) Y a i)) (Int.le_max_right (cl (2 * n) X i b) (cl (2 * n) Y i b)))
    exact Int.max_le.2 ⟨t1, t2⟩
  · rw [e a _ ha (ac_lt ha)]
    rcases Int.le_total (cl (2 * n) X a (ac a)) (cl (2 * n) Y a (ac a)) with q | q
    · rw [Int.max_eq_right q]; exact k.ev a ha
    · rw [Int.max_eq_left q]; exact h.ev a ha
  · rw [e a b ha hb, e a _ ha (ac_lt ha), e _ b (ac_lt hb) hb]
    have t1 := Int.le_trans (h.st a ha b hb hab) (half_mono (plus_mono2 (Int.le_max_left (cl (2 * n) X a (ac a)) (cl (2 * n) Y a (ac a))) (Int.le_max_left (cl (2 * n) X (ac b) b) (cl (2 * n) Y (ac b) b))))
    have t2 := Int.le_trans (k.st a ha b hb hab) (half_mono (plus_mono2 (Int.le_max_right (cl (2 * n) X a (ac a)) (cl (2 * n) Y a (ac a))) (Int.le_max_right (cl (2 * n) X (ac b) b) (cl (2 * n) Y (ac b) b))))
    exact Int.max_le.2 ⟨t1, t2⟩
/-- An octagon that is closed: empty, or its matrix is. -/
def ShutO (n : Nat) (E : Bool) (M : List Int) : Prop := (E = true ∧ M = []) ∨ (E = false ∧ Shut n M)
theorem shutO_clo {n : Nat} {E : Bool} {M : List Int} (hn : n ≤ 64) (h : ShutO n E M) : clo n E M = ((n : Int), E, M) := by
  rcases h with ⟨rfl, rfl⟩ | ⟨rfl, h⟩
  · unfold clo; rw [closeP_empty (chk_empty hn)]
  · obtain ⟨t, ht⟩ := h.close
    unfold clo
    rw [closeP_ok (chk_ok hn (by rw [h.len, sq2]) h.ok), ht]
theorem clo_shut {n : Nat} {E : Bool} {M : List Int} (hc : chk n E M = 0) (hs : (closeP n E M).1.2 = false) : ShutO n (clo n E M).2.1 (clo n E M).2.2 := by
  obtain ⟨m, hm, hn, hE1, hE0⟩ := chk_zero hc
  obtain rfl : n = m := by omega
  unfold clo
  rcases E with _ | _
  · obtain ⟨hl, hok⟩ := hE0 rfl
    rw [closeP_ok hc] at hs ⊢
    rcases hA : closeM (2 * n) M with ⟨_ | Z, s⟩
    · exact .inl ⟨rfl, rfl⟩
    · rw [hA] at hs
      have hs' : s = false := hs
      subst hs'
      exact .inr ⟨rfl, close_shut (by rw [hl, sq2]) hok hA⟩
  · rw [closeP_empty hc]; exact .inl ⟨rfl, rfl⟩
theorem joinP_shut {n : Nat} {Ea Eb : Bool} {Ma Mb : List Int} (hc : chk n Ea Ma = 0) (hd : chk n Eb Mb = 0) (hs : (closeP n Ea Ma).1.2 = false) (ht : (closeP n Eb Mb).1.2 = false) : ShutO n (joinP n Ea Ma Eb Mb).2.1 (joinP n Ea Ma Eb Mb).2.2 := by
  have h1 := clo_shut hc hs
  have h2 := clo_shut hd ht
  unfold joinP
  split
  · exact h2
  · split
    · exact h1
    · rename_i g1 g2
      rcases h1 with ⟨h1, _⟩ | ⟨_, h1⟩
      · exact absurd h1 g1
      rcases h2 with ⟨h2, _⟩ | ⟨_, h2⟩
      · exact absurd h2 g2
      exact .inr ⟨rfl, h1.max h2⟩
/-- Not above, of octagons. -/
def leO (Ea : Bool) (Ma : List Int) (Eb : Bool) (Mb : List Int) : Prop := Ea = true ∨ (Eb = false ∧ Gn.le Ma Mb)
theorem above_iff {n : Nat} {Ea Eb : Bool} {Ma Mb : List Int} (ha : chk n Ea Ma = 0) (hb : chk n Eb Mb = 0) : above Ea Ma Eb Mb = true ↔ leO Ea Ma Eb Mb := by
  unfold above leO
  rcases Ea with _ | _
  · rcases Eb with _ | _
    · simp only [Bool.false_or, Bool.not_false, Bool.true_and, decide_eq_true_eq, Bool.false_eq_true, false_or, true_and]
      have hl := chk_same_len ha hb
      refine ⟨fun h => ⟨hl, fun k => ?_⟩, fun h i _ => h.2 i⟩
      by_cases hk : k < Ma.length
      · exact h k hk
      · unfold nth
        rw [List.getD_eq_getElem?_getD, List.getElem?_eq_none (by omega), List.getD_eq_getElem?_getD, List.getElem?_eq_none (by omega)]
        exact Int.le_refl _
    · simp
  · simp
theorem leO_trans {Ea Eb Ec : Bool} {Ma Mb Mc : List Int} (h : leO Ea Ma Eb Mb) (k : leO Eb Mb Ec Mc) : leO Ea Ma Ec Mc := by
  rcases h with h | ⟨h1, h2⟩
  · exact .inl h
  · rcases k with k | ⟨k1, k2⟩
    · rw [h1] at k; cases k
    · exact .inr ⟨k1, le_trans h2 k2⟩
/-- Closing goes with what is below. -/
theorem clo_leO {n : Nat} {Ea Eb : Bool} {Ma Mb : List Int} (ha : chk n Ea Ma = 0) (hb : chk n Eb Mb = 0) (h : leO Ea Ma Eb Mb) : leO (clo n Ea Ma).2.1 (clo n Ea Ma).2.2 (clo n Eb Mb).2.1 (clo n Eb Mb).2.2 := by
  rcases h with rfl | ⟨rfl, h⟩
  · left; unfold clo; rw [closeP_empty ha]
  · rcases Ea with _ | _
    · unfold clo
      rw [closeP_ok ha, closeP_ok hb]
      rcases hA : closeM (2 * n) Ma with ⟨_ | Z, s⟩
      · exact .inl rfl
      · obtain ⟨B, hB, hle⟩ := closeM_mono (m := 2 * n) h (A := Z) (by rw [hA])
        rcases hC : closeM (2 * n) Mb with ⟨_ | Y, t⟩
        · rw [hC] at hB; cases hB
        · rw [hC] at hB
          injection hB with hB
          subst hB
          exact .inr ⟨rfl, hle⟩
    · left; unfold clo; rw [closeP_empty ha]
/-- The laws of OrderTight. -/
theorem tight_trans {n : Nat} {Ea Eb Ec : Bool} {Ma Mb Mc : List Int} (ha : chk n Ea Ma = 0) (hb : chk n Eb Mb = 0) (hc : chk n Ec Mc = 0) (hs : (closeP n Ea Ma).1.2 = false)
    (h1 : entP n Ea Ma Eb Mb = true) (h2 : entP n Eb Mb Ec Mc = true) : entP n Ea Ma Ec Mc = true := by
  obtain ⟨m, hm, hn, _, _⟩ := chk_zero ha
  have ca := clo_chk ha
  have cb := clo_chk hb
  unfold entP at *
  rw [above_iff ca.2 hb] at h1
  rw [above_iff cb.2 hc] at h2
  rw [above_iff ca.2 hc]
  have h3 := clo_leO ca.2 hb h1
  rw [shutO_clo (by omega) (clo_shut ha hs)] at h3
  exact leO_trans h3 h2
theorem tight_join {n : Nat} {Ea Eb Ec : Bool} {Ma Mb Mc : List Int} (ha : chk n Ea Ma = 0) (hb : chk n Eb Mb = 0) (hc : chk n Ec Mc = 0) (hs : (closeP n Ea Ma).1.2 = false) (ht : (closeP n Eb Mb).1.2 = false) :
    (entP n Ea Ma Ec Mc && entP n Eb Mb Ec Mc) = entP n (joinP n Ea Ma Eb Mb).2.1 (joinP n Ea Ma Eb Mb).2.2 Ec Mc := by
  obtain ⟨m, hm, hn, _, _⟩ := chk_zero ha
  have ca := clo_chk ha
  have cb := clo_chk hb
  have hj := shutO_clo (by omega) (joinP_shut ha hb hs ht)
  have cj := joinP_chk ha hb
  rw [Bool.eq_iff_iff, Bool.and_eq_true]
  unfold entP
  rw [hj, above_iff ca.2 hc, above_iff cb.2 hc, above_iff cj.2 hc]
  unfold joinP
  by_cases g1 : (clo n Ea Ma).2.1 = true
  · rw [if_pos g1]
    exact ⟨fun h => h.2, fun h => ⟨.inl g1, h⟩⟩
  · rw [if_neg g1]
    by_cases g2 : (clo n Eb Mb).2.1 = true
    · rw [if_pos g2]
      exact ⟨fun h => h.1, fun h => ⟨h, .inl g2⟩⟩
    · rw [if_neg g2]
      rw [Bool.not_eq_true] at g1 g2
      have q1 := ca.2
      have q2 := cb.2
      rw [g1] at q1
      rw [g2] at q2
      have hl := chk_same_len q1 q2
      unfold leO
      rw [g1, g2]
      simp only [Bool.false_eq_true, false_or]
      have nz : ∀ k, nth (zip2 max (clo n Ea Ma).2.2 (clo n Eb Mb).2.2) k = max (nth (clo n Ea Ma).2.2 k) (nth (clo n Eb Mb).2.2 k) := fun k => by
        by_cases hk : k < (clo n Ea Ma).2.2.length
        · exact nth_zip2 hk
        · have o : ∀ X : List Int, X.length ≤ k → nth X k = 0 := fun X hX => by
            unfold nth
            rw [List.getD_eq_getElem?_getD, List.getElem?_eq_none hX]; rfl
          rw [o _ (by rw [zip2_len]; omega), o _ (by omega), o _ (by omega)]; decide
      constructor
      · rintro ⟨⟨e, h1⟩, ⟨_, h2⟩⟩
        exact ⟨e, by rw [zip2_len]; exact h1.1, fun k => by rw [nz]; exact Int.max_le.2 ⟨h1.2 k, h2.2 k⟩⟩
      · rintro ⟨e, h1, h2⟩
        rw [zip2_len] at h1
        exact ⟨⟨e, h1, fun k => by have := h2 k; rw [nz] at this; omega⟩, ⟨e, by omega, fun k => by have := h2 k; rw [nz] at this; omega⟩⟩
/-- What lies below both, not closed yet. -/
def rawP (N : Int) (Ea : Bool) (Ma : List Int) (Eb : Bool) (Mb : List Int) : Int × Bool × List Int := if (Ea || Eb) = true then (N, true, []) else (N, false, zip2 less Ma Mb)
theorem meet_raw {n : Nat} {Ea Eb : Bool} {Ma Mb : List Int} (ha : chk n Ea Ma = 0) : meetP n Ea Ma Eb Mb = clo n (rawP n Ea Ma Eb Mb).2.1 (rawP n Ea Ma Eb Mb).2.2 := by
  obtain ⟨m, hm, hn, _, _⟩ := chk_zero ha
  unfold meetP rawP
  split
  · unfold clo; rw [closeP_empty (chk_empty (by omega))]
  · rfl
theorem rawP_chk {n : Nat} {Ea Eb : Bool} {Ma Mb : List Int} (ha : chk n Ea Ma = 0) (hb : chk n Eb Mb = 0) : (rawP n Ea Ma Eb Mb).1 = n ∧ chk n (rawP n Ea Ma Eb Mb).2.1 (rawP n Ea Ma Eb Mb).2.2 = 0 := by
  obtain ⟨m, hm, hn, _, _⟩ := chk_zero ha
  unfold rawP
  split
  · exact ⟨rfl, chk_empty (by omega)⟩
  · rename_i h
    rw [Bool.or_eq_true, not_or, Bool.not_eq_true, Bool.not_eq_true] at h
    obtain ⟨rfl, rfl⟩ := h
    exact ⟨rfl, chk_less ha hb⟩
theorem tight_meet {n : Nat} {Ea Eb : Bool} {Ma Mb : List Int} (ha : chk n Ea Ma = 0) (hb : chk n Eb Mb = 0) (hs : (closeP n (rawP n Ea Ma Eb Mb).2.1 (rawP n Ea Ma Eb Mb).2.2).1.2 = false) :
    clo n (meetP n Ea Ma Eb Mb).2.1 (meetP n Ea Ma Eb Mb).2.2 = meetP n Ea Ma Eb Mb := by
  obtain ⟨m, hm, hn, _, _⟩ := chk_zero ha
  have hc := rawP_chk ha hb
  have h1 := clo_shut hc.2 hs
  rw [← meet_raw ha] at h1
  rw [shutO_clo (by omega) h1]
  exact Prod.ext (meetP_chk ha hb).1.symm rfl
end Gn
end Go.Proofs.Ytkgddgckilledaa
namespace Go.Proofs.Ytkgddgckilledaa
open Go.RowKit
set_option linter.unusedVariables false
set_option linter.unusedSimpArgs false
open Gn
/-- An octagon whose cells are turned one after the other. -/
structure Fil (W w1 : World) (N : Int) (q c bX : Nat) (A : Option Addr) (X : List Int) : Prop where
  out : OctAt w1 bX N false (.slice A q c)
  row : Ow w1 W.heap.size 2 .i64 A c X
  len : X.length = q
  below : Below W.heap.size W w1
  ne : ∀ g, A = some ⟨g, 0, none⟩ → bX ≠ g
theorem Fil.go {W w1 w2 : World} {N : Int} {q c bX : Nat} {A : Option Addr} {X : List Int} (h : Fil W w1 N q c bX A X) (hb : Below w1.heap.size w1 w2) : Fil W w2 N q c bX A X :=
  ⟨h.out.below hb, h.row.below hb, h.len, h.below.trans (hb.mono h.below.size), h.ne⟩
theorem Fil.set {W w1 : World} {N : Int} {q c bX g : Nat} {X : List Int} (h : Fil W w1 N q c bX (some ⟨g, 0, none⟩) X) (p : Nat) (u : Int) : Fil W (w1.setCell ⟨g, p, none⟩ (.int .i64 u)) N q c bX (some ⟨g, 0, none⟩) (X.set p u) := by
  have hg := only_setCell (World.grownBy.refl w1 (some g)) (p := ⟨g, p, none⟩) (.inl rfl) (.int .i64 u)
  exact ⟨h.out.only hg (h.ne g rfl), h.row.set' p u, by rw [List.length_set]; exact h.len, h.below.setCell h.row.blockGe.1 _, h.ne⟩
theorem Fil.new {w w1 : World} {N : Int} {c : Nat} {A : Option Addr} {M : List Int} (ho : Ow w1 w.heap.size 2 .i64 A c M) (hb : Below w.heap.size w w1) : ∃ w2, w2 = w1.alloc (.cells #[.int .i64 N, .bool false, .slice A M.length c] 24) ∧ Fil w w2 N M.length c w1.heap.size A M := by
  refine ⟨_, rfl, OctAt.box _ _ _ _ _, ho.alloc _, rfl, hb.alloc hb.size _, fun g hg => ?_⟩
  subst hg
  have := ho.blockGe.2
  omega
theorem less_if (x y : Int) : (if y < x then y else x) = min x y := by split <;> omega
theorem more_if (x y : Int) : (if x < y then y else x) = max x y := by split <;> omega
end Go.Proofs.Ytkgddgckilledaa
namespace Go.Proofs.Ytkgddgckilledaa
open Go.RowKit
set_option linter.unusedVariables false
set_option linter.unusedSimpArgs false
open Gn
/-- The same, and whatever else lay in a world lies still. -/
structure Fil2 (wS W w1 : World) (N : Int) (q c bX : Nat) (A : Option Addr) (X : List Int) : Prop where
  f : Fil W w1 N q c bX A X
  keep : ∀ (p : Addr) (v : Value), wS.cell? p = some v → (∀ g, A = some ⟨g, 0, none⟩ → p.block ≠ g) → w1.cell? p = some v
theorem Fil2.go {wS W w1 w2 : World} {N : Int} {q c bX : Nat} {A : Option Addr} {X : List Int} (h : Fil2 wS W w1 N q c bX A X) (hb : Below w1.heap.size w1 w2) : Fil2 wS W w2 N q c bX A X :=
  ⟨h.f.go hb, fun p v hp hne => below_cell hb (h.keep p v hp hne)⟩
theorem Fil2.set {wS W w1 : World} {N : Int} {q c bX g : Nat} {X : List Int} (h : Fil2 wS W w1 N q c bX (some ⟨g, 0, none⟩) X) (p : Nat) (u : Int) : Fil2 wS W (w1.setCell ⟨g, p, none⟩ (.int .i64 u)) N q c bX (some ⟨g, 0, none⟩) (X.set p u) :=
  ⟨h.f.set p u, fun r v hr hne => (World.cell?_setCell_other _ _ _ _ (fun e => hne g rfl (by rw [← e]))).trans (h.keep r v hr hne)⟩
theorem Fil2.oct {wS W w1 : World} {N N' : Int} {E : Bool} {q c bX b : Nat} {A : Option Addr} {X : List Int} {v : Value} (h : Fil2 wS W w1 N q c bX A X) (o : OctAt wS b N' E v) (hne : ∀ g, A = some ⟨g, 0, none⟩ → b ≠ g) : OctAt w1 b N' E v :=
  ⟨h.keep _ _ o.c0 hne, h.keep _ _ o.c1 hne, h.keep _ _ o.c2 hne⟩
end Go.Proofs.Ytkgddgckilledaa
namespace Go.Proofs.Ytkgddgckilledaa
open Go.RowKit
set_option linter.unusedVariables false
set_option linter.unusedSimpArgs false
open Gn
/-- Two octagons that came in, and copies of them. -/
structure Ex (w W : World) (ba bb bx by' : Nat) (Na : Int) (Ea : Bool) (A : Option Addr) (ca : Nat) (Ma : List Int) (Nb : Int) (Eb : Bool) (B : Option Addr) (cb : Nat) (Mb : List Int) (A2 : Option Addr) (c2 : Nat) (B2 : Option Addr) (d2 : Nat) : Prop where
  a : OctAt W ba Na Ea (.slice A Ma.length ca)
  b : OctAt W bb Nb Eb (.slice B Mb.length cb)
  x : OctAt W bx Na Ea (.slice A2 Ma.length c2)
  y : OctAt W by' Nb Eb (.slice B2 Mb.length d2)
  ia : OctIn W W.heap.size A ca Na Ma
  ib : OctIn W W.heap.size B cb Nb Mb
  ix : OctIn W W.heap.size A2 c2 Na Ma
  iy : OctIn W W.heap.size B2 d2 Nb Mb
  below : Below w.heap.size w W
theorem Ex.go {w W W' : World} {ba bb bx by' : Nat} {Na : Int} {Ea : Bool} {A : Option Addr} {ca : Nat} {Ma : List Int} {Nb : Int} {Eb : Bool} {B : Option Addr} {cb : Nat} {Mb : List Int} {A2 : Option Addr} {c2 : Nat} {B2 : Option Addr} {d2 : Nat}
    (h : Ex w W ba bb bx by' Na Ea A ca Ma Nb Eb B cb Mb A2 c2 B2 d2) (hb : Below W.heap.size W W') : Ex w W' ba bb bx by' Na Ea A ca Ma Nb Eb B cb Mb A2 c2 B2 d2 :=
  ⟨h.a.below hb, h.b.below hb, h.x.below hb, h.y.below hb, h.ia.go hb, h.ib.go hb, h.ix.go hb, h.iy.go hb, h.below.trans (hb.mono h.below.size)⟩
theorem s13_below {w1 X Y : World} {a b m j : Nat} {x0 x1 x2 x3 x4 x5 x6 x7 x8 x9 x10 x11 : Value} (hb : Below X.heap.size X Y)
    (h : X.cell? ⟨a, 0, none⟩ = some x0 ∧ X.cell? ⟨a, 1, none⟩ = some x1 ∧ X.cell? ⟨a, 2, none⟩ = some x2 ∧ X.cell? ⟨b, 0, none⟩ = some x3 ∧ X.cell? ⟨b, 1, none⟩ = some x4 ∧ X.cell? ⟨b, 2, none⟩ = some x5 ∧ X.cell? ⟨m, 0, none⟩ = some x6 ∧ X.cell? ⟨m, 1, none⟩ = some x7 ∧ X.cell? ⟨m, 2, none⟩ = some x8 ∧ X.cell? ⟨j, 0, none⟩ = some x9 ∧ X.cell? ⟨j, 1, none⟩ = some x10 ∧ X.cell? ⟨j, 2, none⟩ = some x11 ∧ Below w1.heap.size w1 X) :
    Y.cell? ⟨a, 0, none⟩ = some x0 ∧ Y.cell? ⟨a, 1, none⟩ = some x1 ∧ Y.cell? ⟨a, 2, none⟩ = some x2 ∧ Y.cell? ⟨b, 0, none⟩ = some x3 ∧ Y.cell? ⟨b, 1, none⟩ = some x4 ∧ Y.cell? ⟨b, 2, none⟩ = some x5 ∧ Y.cell? ⟨m, 0, none⟩ = some x6 ∧ Y.cell? ⟨m, 1, none⟩ = some x7 ∧ Y.cell? ⟨m, 2, none⟩ = some x8 ∧ Y.cell? ⟨j, 0, none⟩ = some x9 ∧ Y.cell? ⟨j, 1, none⟩ = some x10 ∧ Y.cell? ⟨j, 2, none⟩ = some x11 ∧ Below w1.heap.size w1 Y :=
  ⟨below_cell hb h.1, below_cell hb h.2.1, below_cell hb h.2.2.1, below_cell hb h.2.2.2.1, below_cell hb h.2.2.2.2.1, below_cell hb h.2.2.2.2.2.1, below_cell hb h.2.2.2.2.2.2.1, below_cell hb h.2.2.2.2.2.2.2.1, below_cell hb h.2.2.2.2.2.2.2.2.1, below_cell hb h.2.2.2.2.2.2.2.2.2.1, below_cell hb h.2.2.2.2.2.2.2.2.2.2.1, below_cell hb h.2.2.2.2.2.2.2.2.2.2.2.1, h.2.2.2.2.2.2.2.2.2.2.2.2.trans (hb.mono h.2.2.2.2.2.2.2.2.2.2.2.2.size)⟩
end Go.Proofs.Ytkgddgckilledaa

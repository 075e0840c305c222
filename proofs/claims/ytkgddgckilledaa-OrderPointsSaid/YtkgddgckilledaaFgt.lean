/- order.Forget. -/
import Derived.Test.YtkgddgckilledaaFrw
import Derived.Test.YtkgddgckilledaaFky
namespace Go.Proofs.Ytkgddgckilledaa
open Go.RowKit
set_option linter.unusedVariables false
set_option linter.unusedSimpArgs false
open Gn
/-- An octagon told, in a row that lay at base or above. -/
def TellsB (base : Nat) (w : World) (A : Option Addr) (c : Nat) (P : Int × Bool × List Int) (e : Ending) (w' : World) : Prop :=
  e = .returned (.agg #[.int .i64 P.1, .bool P.2.1, .slice A P.2.2.length c]) ∧ Ow w' base 2 .i64 A c P.2.2 ∧ Below base w w'
set_option maxRecDepth 100000 in
set_option maxHeartbeats 16000000 in
theorem order_forgetsAll (n : Nat) (E : Bool) (A : Option Addr) (c : Nat) (M : List Int) (hc : chk n E M = 0) (bM nn : Nat) (g : Int → Bool) (w : World) (base : Nat) (hbs : base ≤ w.heap.size) (ho : Ow w base 2 .i64 A c M) (hg : Gm w bM nn g) (hin : ∀ x, g x = true → ∃ v : Nat, x = v ∧ v < n) (P : Int × Bool × List Int) (hP : P = dropO (n, E, M) (fun v => g v)) :
    Calls Try.prog 55 #[.agg #[.int .i64 n, .bool E, .slice A M.length c], .map (some bM)] w (TellsB base w A c P) := by
  obtain ⟨m, hm, hn, h1, h0⟩ := chk_zero hc
  obtain rfl : n = m := by omega
  rcases E with _ | _
  · have hl : M.length = (2 * n) * (2 * n) := by rw [(h0 rfl).1, sq2]
    refine ((callsIn_wide (n := 6)).1 (order_forgets n hn A c M bM nn g w base hbs ho hl hg hin)).mono ?_
    rintro e w' ⟨rfl, h2, h3⟩
    have : P = ((n : Int), false, dropM (2 * n) (fun v => g v) M) := by rw [hP]; unfold dropO; rw [if_neg (by simp)]; simp
    subst this
    exact ⟨by rw [dropM_len, hl], h2, h3⟩
  · have hP2 : P = ((n : Int), true, M) := by rw [hP]; rfl
    subst hP2
    have hO := (ho.alloc (.cells #[.int .i64 n, .bool true, .slice A M.length c] 24)).alloc (.cells #[.int .i64 n, .bool true, .slice A M.length c] 24)
    have hB3 := ((Below.refl base w).alloc hbs (.cells #[.int .i64 n, .bool true, .slice A M.length c] 24)).alloc (by simp; omega) (.cells #[.int .i64 n, .bool true, .slice A M.length c] 24)
    have HH := Lib.hid (And.intro hO hB3)
    clear hP hc h1 h0 hm hg hin ho hO hB3
    go_enter Try.func55, Try.ntmps55
    go_wp2_with fail
    obtain ⟨hO, hB3⟩ := HH.out
    exact bodyPost_ret (v := .agg #[.int .i64 n, .bool true, .slice A M.length c]) (by simp [results, Try.results55, go_sem]) rfl ⟨rfl, hO, hB3⟩
set_option maxRecDepth 100000 in
set_option maxHeartbeats 16000000 in
theorem order_Forget (N : Int) (E : Bool) (A : Option Addr) (c : Nat) (M : List Int) (v : Int) (w : World) (h : OctIn w w.heap.size A c N M) (hv : I64 v) (hM : (M.length : Int) ≤ 17592186043904) (p : Int) (hp : forgetE N E M v = p) (R : Int × Bool × List Int) (hR : forgetR N E M v = R) :
    Calls Try.prog 24 #[.agg #[.int .i64 N, .bool E, .slice A M.length c], .int .i64 v] w (TellsE w R p) := by
  obtain ⟨W, hW, hR0, hs⟩ := box_res w 24 N E (.slice A M.length c)
  have h1 := h.go hR0.below
  obtain ⟨k0, k1, k2, r0, r1, r2, fc, fr, hB, hlt⟩ := id hR0
  have hK : OctAt W w.heap.size N E (.slice A M.length c) := ⟨k0, k1, k2⟩
  have hX : OctBox W (w.heap.size + 1) 0 false (.slice none 0 0) := ⟨⟨r0, r1, r2⟩, fr⟩
  have cC := dbm_Check A c N E M W h1
  have HP := Lib.hid hp
  have HR := Lib.hid hR
  have HIn := Lib.hid h
  obtain ⟨x1, hx1⟩ : ∃ x, x = chk N E M := ⟨_, rfl⟩
  have HX1 := Lib.hid hx1
  rw [← hx1] at cC
  clear hp hR hR0 h hx1
  go_enter Try.func24, Try.ntmps24
  go_wp2_with fail
  rw [← hW]
  clear hW
  refine cC.mono ?_
  clear cC
  rintro e w1 ⟨rfl, hb1⟩
  have hK1 := hK.below hb1
  have hX1 := hX.below hb1
  have hi1 := h1.go hb1
  have hB1 := hB.trans (hb1.mono hB.size)
  have hs1 : w.heap.size + 2 ≤ w1.heap.size := by rw [← hs]; exact hb1.size
  clear hb1 k0 k1 k2 r0 r1 r2 fc fr hB hK hX h1 hs hlt
  obtain ⟨k0, k1, k2⟩ := id hK1
  obtain ⟨⟨r0, r1, r2⟩, fr⟩ := id hX1
  by_cases hx0 : x1 = 0
  · have hd : (x1 != 0) = false := bne_eq_false_iff_eq.2 hx0
    have hc : chk N E M = 0 := by rw [← HX1.out]; exact hx0
    clear hx0
    by_cases hin : v < 0 ∨ v ≥ N
    · have hE : p = 122 := by rw [← HP.out]; unfold forgetE; rw [if_neg (fun k => k hc), if_pos hin]
      have hR2 : R = (0, false, []) := by rw [← HR.out]; unfold forgetR; rw [HP.out, if_neg (by omega)]
      subst hE hR2
      clear HP HR hc HX1
      have hS := Lib.hid (hX1.res hB1 (by omega) 0 false (.slice none 0 0))
      have hO := Lib.hid ((Ow.nil w1 (w.heap.size + 2) 2 .i64).put3 (b := w.heap.size + 1) (by omega) (.int .i64 0) (.bool false) (.slice none 0 0))
      clear hX1
      by_cases hv0 : v < 0
      · go_wp2_with fail
        obtain ⟨⟨s0, s1, s2⟩, hB3⟩ := hS.out
        exact bodyPost_ret (v := .tuple #[.agg #[.int .i64 0, .bool false, .slice none 0 0], .int .i64 122]) (by simp [results, Try.results24, go_sem, r0, r1, r2]) rfl ⟨none, 0, rfl, hO.out.lower (by omega), hB3⟩
      · have hv1 : N ≤ v := by omega
        clear hin
        go_wp2_with fail
        obtain ⟨⟨s0, s1, s2⟩, hB3⟩ := hS.out
        exact bodyPost_ret (v := .tuple #[.agg #[.int .i64 0, .bool false, .slice none 0 0], .int .i64 122]) (by simp [results, Try.results24, go_sem, r0, r1, r2]) rfl ⟨none, 0, rfl, hO.out.lower (by omega), hB3⟩
    · have hE : p = 0 := by rw [← HP.out]; unfold forgetE; rw [if_neg (fun k => k hc), if_neg hin]
      subst hE
      have hR2 : R = forgetP N E M (fun u => decide ((u : Int) = v)) := by rw [← HR.out]; unfold forgetR; rw [HP.out, if_pos rfl]
      obtain ⟨n, rfl, hn, _⟩ := chk_zero hc
      have hck := clo_chk hc
      have cO := order_closed n E A c M w1 hi1 hM
      unfold forgetP at hR2
      obtain ⟨Q, hQ⟩ : ∃ Q, Q = clo n E M := ⟨_, rfl⟩
      rw [← hQ] at hR2 hck cO
      clear hQ HR HP HX1
      obtain ⟨Nc, Ec, Mc⟩ := Q
      dsimp only at hck
      obtain ⟨rfl, hck⟩ := hck
      have g1 : ¬ v < 0 := by omega
      have g2 : v < (n : Int) := by omega
      have HR2 := Lib.hid hR2
      have HCk := Lib.hid hck
      clear hin hc hR2 hck hi1
      have hmm := @run_makeMap Try.prog
      go_wp2_with fail
      with_reducible refine cO.mono ?_
      clear cO
      rintro e w2 ⟨A2, c2, rfl, ho2, hb2⟩
      dsimp only at ho2 ⊢
      clear k0 k1 k2 r0 r1 r2 fr
      go_wp2_with (refine wpList_insert_gm _ rfl _ _ _ rfl w2.heap.size 0 (fun _ => false) rfl (Gm.made w2) (by decide) v hv rfl rfl ?_; intro w3 hG3 hg3)
      have hs2 := hb2.size
      have hb3 : Below w1.heap.size w1 w3 := (hb2.alloc hb2.size _).grown hg3 (by simp; omega) (fun k e => by cases e; exact hs2)
      have ho3 := (ho2.alloc (.map #[] 0)).turn hg3 (fun g' hg' => by subst hg'; have := ho2.blockGe.2; omega)
      have hG3' := hG3.congr (g' := fun y => decide (y = v)) (fun y => by simp)
      have cF := order_forgetsAll n Ec A2 c2 Mc HCk.out w2.heap.size (0 + 1) (fun y => decide (y = v)) w3 w1.heap.size hb3.size ho3 hG3' (fun x hx => ⟨v.toNat, by have := of_decide_eq_true hx; omega, by omega⟩) R HR2.out
      clear hG3 hg3 ho3 hG3' ho2 hb2 hs2 hmm
      with_reducible refine cF.mono ?_
      clear cF
      obtain ⟨Nr, Er, Mr⟩ := R
      rintro e w4 ⟨rfl, ho4, hb4⟩
      dsimp only at ho4 ⊢
      have hb14 := hb3.trans hb4
      have hX4 := hX1.below hb14
      have hB4 := hB1.trans (hb14.mono hB1.size)
      have hs4 := Nat.le_trans hs1 hb14.size
      clear hX1 hb3 hb4 hb14
      obtain ⟨⟨r0, r1, r2⟩, fr⟩ := id hX4
      have hS := Lib.hid (hX4.res hB4 (by omega) Nr Er (.slice A2 Mr.length c2))
      have hO := Lib.hid (ho4.put3 (b := w.heap.size + 1) (by omega) (.int .i64 Nr) (.bool Er) (.slice A2 Mr.length c2))
      clear hX4 HR2 HCk
      go_wp2_with fail
      obtain ⟨⟨s0, s1, s2⟩, hB5⟩ := hS.out
      exact bodyPost_ret (v := .tuple #[.agg #[.int .i64 Nr, .bool Er, .slice A2 Mr.length c2], .int .i64 0]) (by simp [results, Try.results24, go_sem, r0, r1, r2]) rfl ⟨A2, c2, rfl, hO.out.lower (by omega), hB5⟩
  · have hd : (x1 != 0) = true := bne_iff_ne.2 hx0
    have hE : p = x1 := by rw [← HP.out, HX1.out]; unfold forgetE; rw [if_pos (by rw [← HX1.out]; exact hx0)]
    have hR2 : R = (0, false, []) := by rw [← HR.out]; unfold forgetR; rw [HP.out, if_neg (by omega)]
    subst hE hR2
    clear HP HR HX1 hx0
    have hS := Lib.hid (hX1.res hB1 (by omega) 0 false (.slice none 0 0))
    have hO := Lib.hid ((Ow.nil w1 (w.heap.size + 2) 2 .i64).put3 (b := w.heap.size + 1) (by omega) (.int .i64 0) (.bool false) (.slice none 0 0))
    clear hX1
    go_wp2_with fail
    obtain ⟨⟨s0, s1, s2⟩, hB3⟩ := hS.out
    exact bodyPost_ret (v := .tuple #[.agg #[.int .i64 0, .bool false, .slice none 0 0], .int .i64 p]) (by simp [results, Try.results24, go_sem, r0, r1, r2]) rfl ⟨none, 0, rfl, hO.out.lower (by omega), hB3⟩
end Go.Proofs.Ytkgddgckilledaa
namespace Go.Proofs.Ytkgddgckilledaa
open Go.RowKit
set_option linter.unusedVariables false
set_option linter.unusedSimpArgs false
open Gn
namespace Gn
theorem dropM_congr {n : Nat} {g g' : Nat → Bool} {X : List Int} (h : ∀ v, v < n → g v = g' v) : dropM (2 * n) g X = dropM (2 * n) g' X := by
  unfold dropM
  refine List.map_congr_left fun k hk => ?_
  obtain ⟨h1, h2, _⟩ := div_mod_lt (List.mem_range.1 hk)
  rw [h _ (by omega), h _ (by omega)]
theorem dropO_congr {n : Nat} {E : Bool} {X : List Int} {g g' : Nat → Bool} (h : ∀ v, v < n → g v = g' v) : dropO (n, E, X) g = dropO (n, E, X) g' := by
  unfold dropO
  dsimp only
  rw [show ((n : Int).toNat) = n by omega, dropM_congr h]
theorem inN_take {N : Int} {l : List Int} {k : Nat} (hk : k < l.length) (h : inN N (l.take k) = true) (h0 : 0 ≤ nth l k) (h1 : nth l k < N) : inN N (l.take (k + 1)) = true := by
  rw [take_nth hk]
  unfold inN at *
  rw [List.all_append, h]
  simp [h0, h1]
theorem inN_bad {N : Int} {l : List Int} {k : Nat} (hk : k < l.length) (h : nth l k < 0 ∨ N ≤ nth l k) : inN N l = false := by
  unfold inN
  rw [List.all_eq_false]
  refine ⟨nth l k, nth_mem hk, ?_⟩
  simp only [Bool.and_eq_true, decide_eq_true_eq]
  omega
/-- What is left of a set of the first n when some are struck. -/
def leftN (n : Int) (l : List Int) (y : Int) : Bool := decide (0 ≤ y ∧ y < n) && !(l.contains y)
theorem leftN_take {n : Int} {l : List Int} {k : Nat} (hk : k < l.length) (y : Int) : (!decide (y = nth l k) && leftN n (l.take k) y) = leftN n (l.take (k + 1)) y := by
  rw [take_nth hk]
  unfold leftN
  generalize l.take k = t
  by_cases h : y = nth l k
  · simp [h]
  · simp [h]
end Gn
/-- What lies in the two blocks of Keep. -/
structure Kp (w : World) (N : Int) (E : Bool) (v : Value) (W : World) : Prop where
  box : OctAt W w.heap.size N E v
  res : OctBox W (w.heap.size + 1) 0 false (.slice none 0 0)
  below : Below w.heap.size w W
  size : w.heap.size + 2 ≤ W.heap.size
theorem Kp.go {w W W' : World} {N : Int} {E : Bool} {v : Value} (h : Kp w N E v W) (hb : Below W.heap.size W W') : Kp w N E v W' :=
  ⟨h.box.below hb, h.res.below hb, h.below.trans (hb.mono h.below.size), Nat.le_trans h.size hb.size⟩
theorem Kp.turn {w W W' : World} {N : Int} {E : Bool} {v : Value} {b : Nat} (h : Kp w N E v W) (hg : W.grownBy W' (some b)) (hb : w.heap.size + 2 ≤ b) : Kp w N E v W' :=
  ⟨h.box.only hg (by omega), h.res.only hg (by omega), h.below.grown hg h.below.size (fun k e => by cases e; omega), Nat.le_trans h.size hg.size⟩
set_option maxRecDepth 100000 in
set_option maxHeartbeats 16000000 in
theorem order_Keep (N : Int) (E : Bool) (A : Option Addr) (c : Nat) (M : List Int) (AL : Option Addr) (cL : Nat) (l : List Int) (w : World) (h : OctIn w w.heap.size A c N M) (hr : Rd w w.heap.size .i64 AL l.length (nth l)) (hl : ∀ x ∈ l, I64 x) (hln : l.length ≤ 9223372036854775807) (hM : (M.length : Int) ≤ 17592186043904) (p : Int) (hp : keepE N E M l = p) (R : Int × Bool × List Int) (hR : keepR N E M l = R) :
    Calls Try.prog 25 #[.agg #[.int .i64 N, .bool E, .slice A M.length c], .slice AL l.length cL] w (TellsE w R p) := by
  obtain ⟨W, hW, hR0, hs⟩ := box_res w 24 N E (.slice A M.length c)
  have h1 := h.go hR0.below
  obtain ⟨k0, k1, k2, r0, r1, r2, fc, fr, hB, hlt⟩ := id hR0
  have hK : Kp w N E (.slice A M.length c) W := ⟨⟨k0, k1, k2⟩, ⟨⟨r0, r1, r2⟩, fr⟩, hB, by omega⟩
  have cC := dbm_Check A c N E M W h1
  have HP := Lib.hid hp
  have HR := Lib.hid hR
  have HIn := Lib.hid h
  have HRl := Lib.hid hr
  have HLi := Lib.hid hl
  obtain ⟨x1, hx1⟩ : ∃ x, x = chk N E M := ⟨_, rfl⟩
  have HX1 := Lib.hid hx1
  rw [← hx1] at cC
  clear hp hR hR0 h hx1 hr hl
  go_enter Try.func25, Try.ntmps25
  go_wp2_with fail
  rw [← hW]
  clear hW
  refine cC.mono ?_
  clear cC
  rintro e w1 ⟨rfl, hb1⟩
  have hK1 := hK.go hb1
  clear hb1 k0 k1 k2 r0 r1 r2 fc fr hB hK h1 hs hlt
  obtain ⟨k0, k1, k2⟩ := id hK1.box
  obtain ⟨⟨r0, r1, r2⟩, fr⟩ := id hK1.res
  by_cases hx0 : x1 = 0
  · have hd : (x1 != 0) = false := bne_eq_false_iff_eq.2 hx0
    have hc : chk N E M = 0 := by rw [← HX1.out]; exact hx0
    clear hx0
    have HP2 := Lib.hid (show p = if inN N l = true then 0 else 122 by rw [← HP.out]; unfold keepE; rw [if_neg (fun k => k hc)])
    obtain ⟨n, rfl, hn, _⟩ := chk_zero hc
    have hck := clo_chk hc
    have cO := fun X (hX : Below w.heap.size w X) => order_closed n E A c M X (HIn.out.go hX) hM
    have HRf := Lib.hid (show p = 0 → R = dropO (clo n E M) (outOf l) from fun h => by rw [← HR.out]; unfold keepR forgetP; rw [HP.out, if_pos h])
    have HRz := Lib.hid (show p ≠ 0 → R = (0, false, []) from fun h => by rw [← HR.out]; unfold keepR; rw [HP.out, if_neg h])
    obtain ⟨Q, hQ⟩ : ∃ Q, Q = clo n E M := ⟨_, rfl⟩
    rw [← hQ] at hck cO HRf
    clear hQ HR HP HX1 hc
    obtain ⟨Nc, Ec, Mc⟩ := Q
    dsimp only at hck
    obtain ⟨rfl, hck⟩ := hck
    have HCk := Lib.hid hck
    clear hck
    have hmm := @run_makeMap Try.prog
    have hG0 := Gm.made w1
    have hKm := hK1.go ((Below.refl _ w1).alloc (Nat.le_refl _) (.map #[] 0))
    have hbm : w.heap.size + 2 ≤ w1.heap.size := hK1.size
    obtain ⟨m0, m1, m2⟩ := id hKm.box
    clear hK1
    go_wp2_with fail
    clear hmm k0 k1 k2 r0 r1 r2 fr m0 m1 m2
    generalize w1.alloc (.map #[] 0) = wm at *
    generalize w1.heap.size = b at *
    go_loopw [20] (fun s' wr => ∃ i : Nat, s' = .int .i64 i ∧ i ≤ n ∧ Gm wr b i (fun y => decide (0 ≤ y ∧ y < (i : Int))) ∧ Kp w n E (.slice A M.length c) wr) (fun s _ => n - (Go.RowKit.intOf s).toNat)
    case atStart => exact ⟨0, rfl, by omega, hG0.congr (fun y => (decide_eq_false (by omega)).symm), hKm⟩
    case round =>
      obtain ⟨i, rfl, hi, hG, hK⟩ := hrel
      clear hG0 hKm
      obtain ⟨k0, k1, k2⟩ := id hK.box
      obtain ⟨⟨r0, r1, r2⟩, fr⟩ := id hK.res
      rcases Nat.lt_or_ge i n with hin | hin
      · have di : decide ((i : Int) < (n : Int)) = true := decide_eq_true (by omega)
        have hii : I64 (i : Int) := by unfold I64; omega
        have hil : i < maxLen := by unfold maxLen; omega
        go_wp2_with (refine wpList_update_gm _ rfl _ _ _ rfl b i (fun y => decide (0 ≤ y ∧ y < (i : Int))) rfl hG hil i hii rfl rfl ?_; intro w3 hG3 hg3)
        have hK3 := hK.turn hg3 hbm
        have hG4 := hG3.congr (g' := fun y => decide (0 ≤ y ∧ y < ((i + 1 : Nat) : Int))) (fun y => by
          rw [Bool.eq_iff_iff]
          simp only [Bool.or_eq_true, decide_eq_true_eq]
          omega)
        have HH := Lib.hid (And.intro hG4 hK3)
        clear hG hK k0 k1 k2 r0 r1 r2 fr hG3 hg3 hK3 hG4
        go_roundw
        case rel => exact ⟨i + 1, by go_num, by omega, HH.out⟩
        case measure => simp [Go.RowKit.intOf]; omega
      · obtain rfl : n = i := by omega
        have di : decide ((n : Int) < (n : Int)) = false := decide_eq_false (by omega)
        have HG := Lib.hid (hG.congr (g' := leftN n (l.take 0)) (fun y => by simp [leftN]))
        have HK := Lib.hid hK
        clear hG hK
        have hlen : (l.length : Int) ≤ 9223372036854775807 := by omega
        go_wp2_with fail
        clear k0 k1 k2 r0 r1 r2 fr
        go_loopw [29] (fun s' wr => ∃ k : Nat, s' = .int .i64 k ∧ k ≤ l.length ∧ Hid (inN n (l.take k) = true) ∧ Hid (Gm wr b n (leftN n (l.take k))) ∧ Kp w n E (.slice A M.length c) wr) (fun s _ => l.length - (Go.RowKit.intOf s).toNat)
        case atStart => exact ⟨0, rfl, by omega, Lib.hid rfl, HG, HK.out⟩
        case round =>
          obtain ⟨k, rfl, hk, HI, HG1, hK⟩ := hrel
          clear HG HK
          obtain ⟨k0, k1, k2⟩ := id hK.box
          obtain ⟨⟨r0, r1, r2⟩, fr⟩ := id hK.res
          rcases Nat.lt_or_ge k l.length with hkt | hkge
          · have dk : decide ((k : Int) < (l.length : Int)) = true := decide_eq_true (by omega)
            obtain ⟨gl, off, rfl, hgl, hcell⟩ := HRl.out (by omega)
            have kc := (hK.below.cell (p := ⟨gl, off + k, none⟩) hgl).trans (hcell k hkt)
            have hxi : I64 (nth l k) := HLi.out _ (nth_mem hkt)
            have q1 : (k : Int) < (l.length : Int) := by omega
            have hG1 := HG1.out
            by_cases hbad : nth l k < 0 ∨ (n : Int) ≤ nth l k
            · have hE : p = 122 := by rw [HP2.out, if_neg (by rw [inN_bad hkt hbad]; simp)]
              have hR2 := HRz.out (by omega)
              subst hE hR2
              clear HP2 HRz HRf hcell HI HG1
              generalize nth l k = x at *
              by_cases hx0 : x < 0
              · go_wp2_with (refine wpList_clear_gm _ rfl _ rfl b n (leftN n (l.take k)) rfl hG1 ?_; intro w3 hg3; have hK3 := hK.turn hg3 hbm; have hs3 := hK3.size; obtain ⟨⟨t0, t1, t2⟩, tr⟩ := id hK3.res; have hS := Lib.hid (hK3.res.res hK3.below (by omega) 0 false (.slice none 0 0)); have hO := Lib.hid ((Ow.nil w3 (w.heap.size + 2) 2 .i64).put3 (b := w.heap.size + 1) (by omega) (.int .i64 0) (.bool false) (.slice none 0 0)); clear hK hG1 hg3 hK3 k0 k1 k2 r0 r1 r2 fr kc)
                obtain ⟨⟨s0, s1, s2⟩, hB3⟩ := hS.out
                exact bodyPost_ret (v := .tuple #[.agg #[.int .i64 0, .bool false, .slice none 0 0], .int .i64 122]) (by simp [results, Try.results25, go_sem, t0, t1, t2]) rfl ⟨none, 0, rfl, hO.out.lower (by omega), hB3⟩
              · have hx1 : (n : Int) ≤ x := by omega
                clear hbad
                go_wp2_with (refine wpList_clear_gm _ rfl _ rfl b n (leftN n (l.take k)) rfl hG1 ?_; intro w3 hg3; have hK3 := hK.turn hg3 hbm; have hs3 := hK3.size; obtain ⟨⟨t0, t1, t2⟩, tr⟩ := id hK3.res; have hS := Lib.hid (hK3.res.res hK3.below (by omega) 0 false (.slice none 0 0)); have hO := Lib.hid ((Ow.nil w3 (w.heap.size + 2) 2 .i64).put3 (b := w.heap.size + 1) (by omega) (.int .i64 0) (.bool false) (.slice none 0 0)); clear hK hG1 hg3 hK3 k0 k1 k2 r0 r1 r2 fr kc)
                obtain ⟨⟨s0, s1, s2⟩, hB3⟩ := hS.out
                exact bodyPost_ret (v := .tuple #[.agg #[.int .i64 0, .bool false, .slice none 0 0], .int .i64 122]) (by simp [results, Try.results25, go_sem, t0, t1, t2]) rfl ⟨none, 0, rfl, hO.out.lower (by omega), hB3⟩
            · have g1 : ¬ nth l k < 0 := by omega
              have g2 : nth l k < (n : Int) := by omega
              have HI2 := Lib.hid (inN_take hkt HI.out (by omega) g2)
              have HT := Lib.hid (leftN_take (n := n) hkt)
              clear hbad hcell HI HG1
              generalize nth l k = x at *
              go_wp2_with (refine wpList_delete_gm _ rfl _ _ rfl b n (leftN n (l.take k)) rfl hG1 x hxi rfl ?_; intro w3 hG3 hg3; have hK3 := Lib.hid (hK.turn hg3 hbm); have HG3 := Lib.hid (hG3.congr HT.out); clear hK hG1 hg3 hG3 k0 k1 k2 r0 r1 r2 fr kc)
              go_roundw
              case rel => exact ⟨k + 1, by go_num, by omega, HI2, HG3, hK3.out⟩
              case measure => simp [Go.RowKit.intOf]; omega
          · obtain rfl : k = l.length := by omega
            have dk : decide ((l.length : Int) < (l.length : Int)) = false := decide_eq_false (by omega)
            have hI := HI.out
            have hG1 := HG1.out
            rw [List.take_length] at hI hG1
            have hE : p = 0 := by rw [HP2.out, if_pos hI]
            have hR2 : R = dropO (n, Ec, Mc) (fun v => leftN n l v) := by
              rw [HRf.out hE]
              exact dropO_congr fun v hv => by
                unfold leftN outOf
                rw [decide_eq_true (show (0 : Int) ≤ v ∧ (v : Int) < n by omega)]; simp
            subst hE
            have HR2 := Lib.hid hR2
            have cC := cO wr hK.below
            clear HP2 HRz HRf HI HG1 hI hR2 cO
            go_wp2_with fail
            with_reducible refine cC.mono ?_
            clear cC
            rintro e w2 ⟨A2, c2, rfl, ho2, hb2⟩
            dsimp only at ho2 ⊢
            clear k0 k1 k2 r0 r1 r2 fr
            have cF := order_forgetsAll n Ec A2 c2 Mc HCk.out b n (leftN n l) w2 wr.heap.size hb2.size ho2 (hG1.below hb2) (fun x hx => by
              unfold leftN at hx
              rw [Bool.and_eq_true, decide_eq_true_eq] at hx
              exact ⟨x.toNat, by omega, by omega⟩) R HR2.out
            clear hG1 ho2
            go_wp2_with fail
            with_reducible refine cF.mono ?_
            clear cF
            obtain ⟨Nr, Er, Mr⟩ := R
            rintro e w4 ⟨rfl, ho4, hb4⟩
            dsimp only at ho4 ⊢
            have hb14 := hb2.trans hb4
            have hK4 := hK.go hb14
            have hs1 := hK.size
            have hs4 := hK4.size
            clear hK hb2 hb4 hb14
            obtain ⟨⟨r0, r1, r2⟩, fr⟩ := id hK4.res
            have hS := Lib.hid (hK4.res.res hK4.below (by omega) Nr Er (.slice A2 Mr.length c2))
            have hO := Lib.hid (ho4.put3 (b := w.heap.size + 1) (by omega) (.int .i64 Nr) (.bool Er) (.slice A2 Mr.length c2))
            clear hK4 HR2 HCk
            go_wp2_with fail
            obtain ⟨⟨s0, s1, s2⟩, hB5⟩ := hS.out
            exact bodyPost_ret (v := .tuple #[.agg #[.int .i64 Nr, .bool Er, .slice A2 Mr.length c2], .int .i64 0]) (by simp [results, Try.results25, go_sem, r0, r1, r2]) rfl ⟨A2, c2, rfl, hO.out.lower (by omega), hB5⟩
  · have hd : (x1 != 0) = true := bne_iff_ne.2 hx0
    have hE : p = x1 := by rw [← HP.out, HX1.out]; unfold keepE; rw [if_pos (by rw [← HX1.out]; exact hx0)]
    have hR2 : R = (0, false, []) := by rw [← HR.out]; unfold keepR; rw [HP.out, if_neg (by omega)]
    subst hE hR2
    clear HP HR HX1 hx0
    have hB1 := hK1.below
    have hs1 := hK1.size
    have hS := Lib.hid (hK1.res.res hB1 (by omega) 0 false (.slice none 0 0))
    have hO := Lib.hid ((Ow.nil w1 (w.heap.size + 2) 2 .i64).put3 (b := w.heap.size + 1) (by omega) (.int .i64 0) (.bool false) (.slice none 0 0))
    clear hK1
    go_wp2_with fail
    obtain ⟨⟨s0, s1, s2⟩, hB3⟩ := hS.out
    exact bodyPost_ret (v := .tuple #[.agg #[.int .i64 0, .bool false, .slice none 0 0], .int .i64 p]) (by simp [results, Try.results25, go_sem, r0, r1, r2]) rfl ⟨none, 0, rfl, hO.out.lower (by omega), hB3⟩
end Go.Proofs.Ytkgddgckilledaa

/- order.Forget. -/
import Derived.Test.YtkgddgckilledaaFrw
import Derived.Test.YtkgddgckilledaaFgm
namespace Go.Proofs.Ytkgddgckilledaa
open Go.RowKit
set_option linter.unusedVariables false
set_option linter.unusedSimpArgs false
open Gn
/-- An octagon told, in a row that lay at base or above. -/
def TellsB (base : Nat) (w : World) (A : Option Addr) (c : Nat) (P : Int × Bool × List Int) (e : Ending) (w' : World) : Prop :=
  e = .returned (.agg #[.int .i64 P.1, .bool P.2.1, .slice A P.2.2.length c]) ∧ Ow w' base 2 .i64 A c P.2.2 ∧ Below base w w'
set_option maxRecDepth 100000 in
set_option maxHeartbeats 16000000 in
theorem order_forgetsAll (n : Nat) (E : Bool) (A : Option Addr) (c : Nat) (M : List Int) (hc : chk n E M = 0) (bM nn : Nat) (g : Int → Bool) (w : World) (base : Nat) (hbs : base ≤ w.heap.size) (ho : Ow w base 2 .i64 A c M) (hg : Gm w bM nn g) (hin : ∀ x, g x = true → ∃ v : Nat, x = v ∧ v < n) (P : Int × Bool × List Int) (hP : P = dropO (n, E, M) (fun v => g v)) :
    Calls Try.prog 55 #[.agg #[.int .i64 n, .bool E, .slice A M.length c], .map (some bM)] w (TellsB base w A c P) := by
  obtain ⟨m, hm, hn, h1, h0⟩ := chk_zero hc
  obtain rfl : n = m := by omega
  rcases E with _ | _
  · have hl : M.length = (2 * n) * (2 * n) := by rw [(h0 rfl).1, sq2]
    refine ((callsIn_wide (n := 6)).1 (order_forgets n hn A c M bM nn g w base hbs ho hl hg hin)).mono ?_
    rintro e w' ⟨rfl, h2, h3⟩
    have : P = ((n : Int), false, dropM (2 * n) (fun v => g v) M) := by rw [hP]; unfold dropO; rw [if_neg (by simp)]; simp
    subst this
    exact ⟨by rw [dropM_len, hl], h2, h3⟩
  · have hP2 : P = ((n : Int), true, M) := by rw [hP]; rfl
    subst hP2
    have hO := (ho.alloc (.cells #[.int .i64 n, .bool true, .slice A M.length c] 24)).alloc (.cells #[.int .i64 n, .bool true, .slice A M.length c] 24)
    have hB3 := ((Below.refl base w).alloc hbs (.cells #[.int .i64 n, .bool true, .slice A M.length c] 24)).alloc (by simp; omega) (.cells #[.int .i64 n, .bool true, .slice A M.length c] 24)
    have HH := Lib.hid (And.intro hO hB3)
    clear hP hc h1 h0 hm hg hin ho hO hB3
    go_enter Try.func55, Try.ntmps55
    go_wp2_with fail
    obtain ⟨hO, hB3⟩ := HH.out
    exact bodyPost_ret (v := .agg #[.int .i64 n, .bool true, .slice A M.length c]) (by simp [results, Try.results55, go_sem]) rfl ⟨rfl, hO, hB3⟩
set_option maxRecDepth 100000 in
set_option maxHeartbeats 16000000 in
theorem order_Forget (N : Int) (E : Bool) (A : Option Addr) (c : Nat) (M : List Int) (v : Int) (w : World) (h : OctIn w w.heap.size A c N M) (hv : I64 v) (hM : (M.length : Int) ≤ 17592186043904) (p : Int) (hp : forgetE N E M v = p) (R : Int × Bool × List Int) (hR : forgetR N E M v = R) :
    Calls Try.prog 24 #[.agg #[.int .i64 N, .bool E, .slice A M.length c], .int .i64 v] w (TellsE w R p) := by
  obtain ⟨W, hW, hR0, hs⟩ := box_res w 24 N E (.slice A M.length c)
  have h1 := h.go hR0.below
  obtain ⟨k0, k1, k2, r0, r1, r2, fc, fr, hB, hlt⟩ := id hR0
  have hK : OctAt W w.heap.size N E (.slice A M.length c) := ⟨k0, k1, k2⟩
  have hX : OctBox W (w.heap.size + 1) 0 false (.slice none 0 0) := ⟨⟨r0, r1, r2⟩, fr⟩
  have cC := dbm_Check A c N E M W h1
  have HP := Lib.hid hp
  have HR := Lib.hid hR
  have HIn := Lib.hid h
  obtain ⟨x1, hx1⟩ : ∃ x, x = chk N E M := ⟨_, rfl⟩
  have HX1 := Lib.hid hx1
  rw [← hx1] at cC
  clear hp hR hR0 h hx1
  go_enter Try.func24, Try.ntmps24
  go_wp2_with fail
  rw [← hW]
  clear hW
  refine cC.mono ?_
  clear cC
  rintro e w1 ⟨rfl, hb1⟩
  have hK1 := hK.below hb1
  have hX1 := hX.below hb1
  have hi1 := h1.go hb1
  have hB1 := hB.trans (hb1.mono hB.size)
  have hs1 : w.heap.size + 2 ≤ w1.heap.size := by rw [← hs]; exact hb1.size
  clear hb1 k0 k1 k2 r0 r1 r2 fc fr hB hK hX h1 hs hlt
  obtain ⟨k0, k1, k2⟩ := id hK1
  obtain ⟨⟨r0, r1, r2⟩, fr⟩ := id hX1
  by_cases hx0 : x1 = 0
  · have hd : (x1 != 0) = false := bne_eq_false_iff_eq.2 hx0
    have hc : chk N E M = 0 := by rw [← HX1.out]; exact hx0
    clear hx0
    by_cases hin : v < 0 ∨ v ≥ N
    · have hE : p = 122 := by rw [← HP.out]; unfold forgetE; rw [if_neg (fun k => k hc), if_pos hin]
      have hR2 : R = (0, false, []) := by rw [← HR.out]; unfold forgetR; rw [HP.out, if_neg (by omega)]
      subst hE hR2
      clear HP HR hc HX1
      have hS := Lib.hid (hX1.res hB1 (by omega) 0 false (.slice none 0 0))
      have hO := Lib.hid ((Ow.nil w1 (w.heap.size + 2) 2 .i64).put3 (b := w.heap.size + 1) (by omega) (.int .i64 0) (.bool false) (.slice none 0 0))
      clear hX1
      by_cases hv0 : v < 0
      · go_wp2_with fail
        obtain ⟨⟨s0, s1, s2⟩, hB3⟩ := hS.out
        exact bodyPost_ret (v := .tuple #[.agg #[.int .i64 0, .bool false, .slice none 0 0], .int .i64 122]) (by simp [results, Try.results24, go_sem, r0, r1, r2]) rfl ⟨none, 0, rfl, hO.out.lower (by omega), hB3⟩
      · have hv1 : N ≤ v := by omega
        clear hin
        go_wp2_with fail
        obtain ⟨⟨s0, s1, s2⟩, hB3⟩ := hS.out
        exact bodyPost_ret (v := .tuple #[.agg #[.int .i64 0, .bool false, .slice none 0 0], .int .i64 122]) (by simp [results, Try.results24, go_sem, r0, r1, r2]) rfl ⟨none, 0, rfl, hO.out.lower (by omega), hB3⟩
    · have hE : p = 0 := by rw [← HP.out]; unfold forgetE; rw [if_neg (fun k => k hc), if_neg hin]
      subst hE
      have hR2 : R = forgetP N E M (fun u => decide ((u : Int) = v)) := by rw [← HR.out]; unfold forgetR; rw [HP.out, if_pos rfl]
      obtain ⟨n, rfl, hn, _⟩ := chk_zero hc
      have hck := clo_chk hc
      have cO := order_closed n E A c M w1 hi1 hM
      unfold forgetP at hR2
      obtain ⟨Q, hQ⟩ : ∃ Q, Q = clo n E M := ⟨_, rfl⟩
      rw [← hQ] at hR2 hck cO
      clear hQ HR HP HX1
      obtain ⟨Nc, Ec, Mc⟩ := Q
      dsimp only at hck
      obtain ⟨rfl, hck⟩ := hck
      have g1 : ¬ v < 0 := by omega
      have g2 : v < (n : Int) := by omega
      have HR2 := Lib.hid hR2
      have HCk := Lib.hid hck
      clear hin hc hR2 hck hi1
      have hmm := @run_makeMap Try.prog
      go_wp2_with fail
      with_reducible refine cO.mono ?_
      clear cO
      rintro e w2 ⟨A2, c2, rfl, ho2, hb2⟩
      dsimp only at ho2 ⊢
      clear k0 k1 k2 r0 r1 r2 fr
      go_wp2_with (refine wpList_insert_gm _ rfl _ _ _ rfl w2.heap.size 0 (fun _ => false) rfl (Gm.made w2) (by decide) v hv rfl rfl ?_; intro w3 hG3 hg3)
      have hs2 := hb2.size
      have hb3 : Below w1.heap.size w1 w3 := (hb2.alloc hb2.size _).grown hg3 (by simp; omega) (fun k e => by cases e; exact hs2)
      have ho3 := (ho2.alloc (.map #[] 0)).turn hg3 (fun g' hg' => by subst hg'; have := ho2.blockGe.2; omega)
      have hG3' := hG3.congr (g' := fun y => decide (y = v)) (fun y => by simp)
      have cF := order_forgetsAll n Ec A2 c2 Mc HCk.out w2.heap.size (0 + 1) (fun y => decide (y = v)) w3 w1.heap.size hb3.size ho3 hG3' (fun x hx => ⟨v.toNat, by have := of_decide_eq_true hx; omega, by omega⟩) R HR2.out
      clear hG3 hg3 ho3 hG3' ho2 hb2 hs2 hmm
      with_reducible refine cF.mono ?_
      clear cF
      obtain ⟨Nr, Er, Mr⟩ := R
      rintro e w4 ⟨rfl, ho4, hb4⟩
      dsimp only at ho4 ⊢
      have hb14 := hb3.trans hb4
      have hX4 := hX1.below hb14
      have hB4 := hB1.trans (hb14.mono hB1.size)
      have hs4 := Nat.le_trans hs1 hb14.size
      clear hX1 hb3 hb4 hb14
      obtain ⟨⟨r0, r1, r2⟩, fr⟩ := id hX4
      have hS := Lib.hid (hX4.res hB4 (by omega) Nr Er (.slice A2 Mr.length c2))
      have hO := Lib.hid (ho4.put3 (b := w.heap.size + 1) (by omega) (.int .i64 Nr) (.bool Er) (.slice A2 Mr.length c2))
      clear hX4 HR2 HCk
      go_wp2_with fail
      obtain ⟨⟨s0, s1, s2⟩, hB5⟩ := hS.out
      exact bodyPost_ret (v := .tuple #[.agg #[.int .i64 Nr, .bool Er, .slice A2 Mr.length c2], .int .i64 0]) (by simp [results, Try.results24, go_sem, r0, r1, r2]) rfl ⟨A2, c2, rfl, hO.out.lower (by omega), hB5⟩
  · have hd : (x1 != 0) = true := bne_iff_ne.2 hx0
    have hE : p = x1 := by rw [← HP.out, HX1.out]; unfold forgetE; rw [if_pos (by rw [← HX1.out]; exact hx0)]
    have hR2 : R = (0, false, []) := by rw [← HR.out]; unfold forgetR; rw [HP.out, if_neg (by omega)]
    subst hE hR2
    clear HP HR HX1 hx0
    have hS := Lib.hid (hX1.res hB1 (by omega) 0 false (.slice none 0 0))
    have hO := Lib.hid ((Ow.nil w1 (w.heap.size + 2) 2 .i64).put3 (b := w.heap.size + 1) (by omega) (.int .i64 0) (.bool false) (.slice none 0 0))
    clear hX1
    go_wp2_with fail
    obtain ⟨⟨s0, s1, s2⟩, hB3⟩ := hS.out
    exact bodyPost_ret (v := .tuple #[.agg #[.int .i64 0, .bool false, .slice none 0 0], .int .i64 p]) (by simp [results, Try.results24, go_sem, r0, r1, r2]) rfl ⟨none, 0, rfl, hO.out.lower (by omega), hB3⟩
end Go.Proofs.Ytkgddgckilledaa

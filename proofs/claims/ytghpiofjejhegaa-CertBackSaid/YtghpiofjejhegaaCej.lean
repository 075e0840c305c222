/- The walk of cert.Encode. -/
import Derived.Test.YtghpiofjejhegaaCei
import Derived.Test.YtghpiofjejhegaaApp
namespace Go.Proofs.Ytghpiofjejhegaa
open Go.RowKit
set_option linter.unusedVariables false
set_option linter.unusedSimpArgs false
open Gn
namespace Gn
def digAt (D : Int) (i : Nat) : Int := D / 2 ^ (8 * (7 - i)) % 256
def digTo (D : Int) (k : Nat) : List Int := (List.range k).map (digAt D)
theorem digTo_succ (D : Int) (k : Nat) : digTo D (k + 1) = digTo D k ++ [digAt D k] := by unfold digTo; rw [List.range_succ, List.map_append]; rfl
theorem digTo_len (D : Int) (k : Nat) : (digTo D k).length = k := by simp [digTo]
def headB (D : Int) (n L : Nat) : List Int := ([103, 110, 109, 49] ++ digTo D 8) ++ putAll [n, L]
def octsTo (n : Nat) (os : List OC) (k : Nat) : List Int := (List.range k).flatMap fun i => octB n (ocAt os i).e (ocAt os i).m
theorem octsTo_succ (n : Nat) (os : List OC) (k : Nat) : octsTo n os (k + 1) = octsTo n os k ++ octB n (ocAt os k).e (ocAt os k).m := by unfold octsTo; rw [List.range_succ, List.flatMap_append]; simp
def bytesTo (D : Int) (n : Nat) (os : List OC) (k : Nat) : List Int := headB D n os.length ++ octsTo n os k
theorem bytesTo_succ (D : Int) (n : Nat) (os : List OC) (k : Nat) : bytesTo D n os (k + 1) = bytesTo D n os k ++ octB n (ocAt os k).e (ocAt os k).m := by unfold bytesTo; rw [octsTo_succ, List.append_assoc]
theorem bytesTo_mono (D : Int) (n : Nat) (os : List OC) : ∀ (k j : Nat), (bytesTo D n os k).length ≤ (bytesTo D n os (k + j)).length
  | k, 0 => Nat.le_refl _
  | k, j + 1 => by
    rw [← Nat.add_assoc, bytesTo_succ, List.length_append]
    exact Nat.le_trans (bytesTo_mono D n os k j) (Nat.le_add_right _ _)
/-- A certificate's bytes, or what is wrong. -/
def encP (D N : Int) (os : List OC) : List Int × Int :=
  if chkC N os ≠ 0 then ([], chkC N os) else if 4194304 < (bytesTo D N.toNat os os.length).length then ([], 196) else (bytesTo D N.toNat os os.length, 0)
theorem encP_bad {D N : Int} {os : List OC} (h : chkC N os ≠ 0) : encP D N os = ([], chkC N os) := by unfold encP; rw [if_pos h]
theorem encP_long {D : Int} {n : Nat} {os : List OC} {k : Nat} (h : chkC n os = 0) (hk : k ≤ os.length) (hl : 4194304 < (bytesTo D n os k).length) : encP D n os = ([], 196) := by
  unfold encP
  rw [if_neg (by omega), if_pos]
  have := bytesTo_mono D n os k (os.length - k)
  rw [show k + (os.length - k) = os.length by omega] at this
  rw [Int.toNat_natCast]
  omega
theorem encP_ok {D : Int} {n : Nat} {os : List OC} (h : chkC n os = 0) (hl : ¬ 4194304 < (bytesTo D n os os.length).length) : encP D n os = (bytesTo D n os os.length, 0) := by
  unfold encP
  rw [if_neg (by omega), Int.toNat_natCast, if_neg hl]
theorem octB_len {n : Nat} (hn : n ≤ 64) (E : Bool) {M : List Int} (h : ∀ x ∈ M, I64 x) : (octB n E M).length ≤ 400000 := by
  unfold octB
  split
  · simp
  · have hk := pairs_small hn
    obtain ⟨a, b, c, d⟩ := encTo_is (m := 2 * n) (ps := pairs n) h hk
    have h1 := putAll_len10 _ d
    have h2 := put_len10 (n := (encTo (2 * n) M (pairs n) (pairs n).length).cnt) (by omega)
    unfold encAll
    simp only [List.length_append, List.length_cons, List.length_nil]
    omega
end Gn
theorem ow_row {w : World} {base c : Nat} {e : TypeId} {k : IntKind} {A : Option Addr} {xs : List Int} (h : Ow w base e k A c xs) : w.ownsRow base e 1 (.slice A xs.length c) xs.length (xs.map (Value.int k)) := h
def TellsEnc (w : World) (P : List Int × Int) (e : Ending) (w' : World) : Prop := ∃ A c, e = .returned (.tuple #[.slice A P.1.length c, .int .i64 P.2]) ∧ Ow w' w.heap.size 5 .u8 A c P.1 ∧ Below w.heap.size w w'
theorem tellsEnc {w w' : World} {P : List Int × Int} {xs : List Int} {x : Int} {A : Option Addr} {l c : Nat} {e : Ending} (hP : P = (xs, x)) (hl : l = xs.length) (he : e = .returned (.tuple #[.slice A l c, .int .i64 x])) (ho : Ow w' w.heap.size 5 .u8 A c xs) (hb : Below w.heap.size w w') : TellsEnc w P e w' := by
  subst hP hl; exact ⟨A, c, he, ho, hb⟩
theorem cert_magic (w : World) : Calls Try.prog 38 #[] w fun e w' => e = .returned (.slice (some ⟨w.heap.size, 0, none⟩) 4 4) ∧ w' = w.alloc (.cells #[.int .u8 103, .int .u8 110, .int .u8 109, .int .u8 49] 5) := by
  go_enter Try.func38, Try.ntmps38
  go_wp2_with fail
  go_ret
  exact ⟨rfl, rfl⟩
set_option maxRecDepth 100000 in
set_option maxHeartbeats 4000000 in
theorem cert_Encode (D N : Int) (A : Option Addr) (c : Nat) (os : List OC) (w : World) (h : OctsIn w A os) (hD : 0 ≤ D ∧ D ≤ 18446744073709551615) (hN : I64 N) (hcm : (os.length : Int) ≤ 9223372036854775807) :
    Calls Try.prog 22 #[.agg #[.int .u64 D, .int .i64 N, .slice A os.length c]] w (TellsEnc w (encP D N os)) := by
  obtain ⟨W, hW, h1, hB, hs⟩ := cert_box w 40 D N (.slice A os.length c)
  have cC := cert_Check D N A c os W (h.go hB) hN hcm
  have h2 := h.go hB
  have hU8 := Try.elU8
  obtain ⟨k0, k1, k2⟩ := id h1
  go_enter Try.func22, Try.ntmps22
  rw [hW] at k0 k1 k2
  go_wp2_with fail
  rw [← hW]
  rw [← hW] at k0 k1 k2
  clear hW
  (with_reducible refine cC.mono ?_)
  rintro e w1 ⟨rfl, hb1⟩
  clear cC h
  have HB1 := Lib.hid (hB.trans (hb1.mono hB.size))
  have h3 := h2.go hb1
  have m0 := below_cell hb1 k0
  have m1 := below_cell hb1 k1
  have m2 := below_cell hb1 k2
  clear k0 k1 k2 h1 h2 hb1 hB hs
  by_cases hc : chkC N os = 0
  · obtain ⟨hh, hg⟩ := chkC_zero hc
    obtain ⟨⟨hn0, hn1⟩, hL1, hL2, _⟩ := hh
    obtain ⟨n, rfl⟩ := Int.eq_ofNat_of_zero_le hn0
    have HC := Lib.hid hc
    rw [hc]
    clear hc
    have hlen0 : Hid (∀ i, i < os.length → (octB n (ocAt os i).e (ocAt os i).m).length ≤ 400000) := Lib.hid (fun i hi => by
      obtain ⟨b, off, _, _, hcell⟩ := h3 (by omega)
      obtain ⟨Ai, ci, _, _, _, ho⟩ := hcell i hi
      exact octB_len (by omega) _ ho.i64)
    have HG := Lib.hid hg
    clear hg
    go_wp2_with fail
    (with_reducible refine (cert_magic _).mono ?_)
    rintro e w2 ⟨rfl, hw2⟩
    have hlit : Ow w2 w1.heap.size 5 .u8 (some ⟨w1.heap.size, 0, none⟩) 4 [103, 110, 109, 49] := by rw [hw2]; exact Ow.lit w1 w1.heap.size 5 .u8 [103, 110, 109, 49] (Nat.le_refl _) (by unfold maxLen; simp)
    have hb2 : Below w1.heap.size w1 w2 := by rw [hw2]; exact (Below.refl _ _).alloc (Nat.le_refl _) _
    clear hw2
    go_wp2_with fail
    go_loopw [5, 16] (fun s5 s16 wr => ∃ k : Nat, s16 = .int .i64 k ∧ k ≤ 8 ∧ ∃ A1 c1, ∃ xs : List Int, Hid (xs = [103, 110, 109, 49] ++ digTo D k) ∧ s5 = .slice A1 xs.length c1 ∧ Ow wr w1.heap.size 5 .u8 A1 c1 xs ∧ Below w1.heap.size w1 wr) (fun _ s _ => 8 - (intOf s).toNat)
    case atStart => exact ⟨0, rfl, by omega, _, _, _, Lib.hid rfl, rfl, hlit, hb2⟩
    case round =>
      clear hlit hb2
      obtain ⟨k, rfl, hk, A1, c1, xs, HX, rfl, hown, hBr⟩ := hrel
      rename_i wr _
      have n0 := below_cell hBr m0
      rcases Nat.lt_or_ge k 8 with hlt | hge
      · have q0 : decide ((k : Int) < 8) = true := decide_eq_true (by omega)
        have hxl : Hid (xs.length = 4 + k) := Lib.hid (by rw [HX.out, List.length_append, digTo_len]; rfl)
        have hsz : (xs.length + 1) * 1 ≤ 140737488355328 := by have := hxl.out; omega
        obtain ⟨hd0, hd1⟩ := hD
        have hbs := hBr.size
        go_wp2_with (at_builtin; refine wpList_app1 hU8 wr rfl _ _ rfl w1.heap.size .u8 A1 c1 xs rfl hown (D / 2 ^ (8 * (7 - k)) % 256) rfl hsz hbs ?_; intro A2 c2 w5 ho5 hb5)
        have HO5 := Lib.hid ho5
        have HB5 := Lib.hid (hBr.trans hb5)
        clear ho5 hb5 hown hBr hbs
        go_roundw
        case rel => exact ⟨k + 1, by go_num, by omega, A2, c2, xs ++ [D / 2 ^ (8 * (7 - k)) % 256], Lib.hid (by rw [HX.out, digTo_succ, List.append_assoc]; rfl), val_slice (by simp), HO5.out, HB5.out⟩
        case measure => simp [intOf]; omega
      · obtain rfl : k = 8 := by omega
        have q0 : decide ((8 : Int) < 8) = false := by simp
        have n1 := below_cell hBr m1
        have n2 := below_cell hBr m2
        have HOW := Lib.hid hown
        have HBR := Lib.hid hBr
        have h4 := h3.go hBr
        have hlit : Ow (wr.alloc (.cells #[.int .u64 n, .int .u64 os.length] 26)) wr.heap.size 26 .u64 (some ⟨wr.heap.size, 0, none⟩) 2 (nats [n, os.length]) := Ow.lit wr wr.heap.size 26 .u64 [n, os.length] (Nat.le_refl _) (by unfold maxLen; simp)
        have hb5 : Below wr.heap.size wr (wr.alloc (.cells #[.int .u64 n, .int .u64 os.length] 26)) := (Below.refl _ _).alloc (Nat.le_refl _) _
        obtain ⟨W4, hW4⟩ : ∃ W4, W4 = wr.alloc (.cells #[.int .u64 n, .int .u64 os.length] 26) := ⟨_, rfl⟩
        rw [← hW4] at hlit hb5
        have h2l : ∀ x ∈ [n, os.length], (x : Int) ≤ 18446744073709551615 := by
          intro x hx
          simp only [List.mem_cons, List.not_mem_nil, or_false] at hx
          omega
        have cA : Calls Try.prog 12 #[.slice (some ⟨wr.heap.size, 0, none⟩) 2 2] W4 (fun e w' => ∃ A' c', e = .returned (.slice A' (putAll [n, os.length]).length c') ∧ Ow w' W4.heap.size 5 .u8 A' c' (putAll [n, os.length]) ∧ Below W4.heap.size W4 w') := code_PutAll _ 2 [n, os.length] W4 h2l hlit.rd (by simp)
        have hpa := putAll_len10 [n, os.length] h2l
        have hxl : xs.length = 12 := by rw [HX.out, List.length_append, digTo_len]; rfl
        have HXL := Lib.hid hxl
        have hsz5 : (xs.length + (putAll [n, os.length]).length) * 1 ≤ 140737488355328 := by simp only [List.length_cons, List.length_nil] at hpa; omega
        have hbl : (xs ++ putAll [n, os.length]).length ≤ 4194304 := by rw [List.length_append]; simp only [List.length_cons, List.length_nil] at hpa; omega
        have HHD := Lib.hid (show xs ++ putAll [n, os.length] = bytesTo D n os 0 by rw [HX.out]; unfold bytesTo octsTo; rw [List.range_zero, List.flatMap_nil, List.append_nil]; rfl)
        clear hown hBr hge hk q0 h2l hpa hxl hlit
        go_wp2_with fail
        rw [← hW4]
        clear hW4
        (with_reducible refine cA.mono ?_)
        rintro e w5 ⟨A5, c5, rfl, ho5, hb6⟩
        have hr5 := ho5.rd
        have hbw := hb5.trans (hb6.mono hb5.size)
        have hown5 := HOW.out.below hbw
        have hB5 := HBR.out.trans (hbw.mono HBR.out.size)
        have hbs5 := hB5.size
        have j1 := below_cell hbw n1
        have j2 := below_cell hbw n2
        have h5 := h4.go hbw
        clear ho5 hb6 cA hb5 hbw n1 n2 h4
        generalize putAll [n, os.length] = ys at *
        obtain ⟨zs, hzs⟩ : ∃ zs, zs = xs ++ ys := ⟨_, rfl⟩
        have hzl : xs.length + ys.length = zs.length := by rw [hzs, List.length_append]
        rw [← hzs] at hbl HHD
        have HZ := Lib.hid hzs
        have HZL := Lib.hid hzl
        clear hzs hzl
        go_wp2_with (at_builtin; refine wpList_appN hU8 w5 rfl _ _ rfl w1.heap.size .u8 A1 c1 xs rfl hown5 _ A5 c5 ys rfl hr5 hsz5 hbs5 ?_; rw [HZL.out]; intro A6 c6 w6 ho6 hb6; have s1 := below_cell (hB5.trans hb6) m1)
        (with_reducible refine (cert_places n _ (by omega)).mono ?_)
        rintro e w7 ⟨Ap, cp, rfl, hop, hb7⟩
        have ho7 : Ow w7 w1.heap.size 5 .u8 A6 c6 zs := by
          have := ho6
          rw [← HZ.out] at this
          exact this.below hb7
        have hB6 := hB5.trans hb6
        have hop7 := own_lower hop hB6.size
        have hB7 := hB6.trans (hb7.mono hB6.size)
        have s2 := below_cell hB7 m2
        clear s1 ho6 hb6 hop hb7 hr5 hown5 hB5 hbs5 hsz5 j1 j2 h5 hB6 HOW HBR
        go_wp2_with fail
        have hpl := pairs_small (n := n) (by omega)
        have HC0 := Lib.hid (fun i (hi : i < os.length) => HG.out i hi)
        go_loopw [5, 47] (fun s5 s47 wr => ∃ k : Nat, s47 = .int .i64 k ∧ k ≤ os.length ∧ ∃ A1 c1, ∃ xs : List Int, Hid (xs = bytesTo D n os k) ∧ s5 = .slice A1 xs.length c1 ∧ Hid (xs.length ≤ 4194304) ∧ Ow wr w1.heap.size 5 .u8 A1 c1 xs ∧ wr.ownsRow w1.heap.size 84 2 (.slice Ap (pairs n).length cp) (pairs n).length (pv (pairs n)) ∧ Below w1.heap.size w1 wr) (fun _ s _ => os.length - (intOf s).toNat)
        case atStart => exact ⟨0, rfl, by omega, _, _, _, HHD, rfl, Lib.hid hbl, ho7, hop7, hB7⟩
        case round =>
          clear ho7 hop7 hB7 s2
          obtain ⟨k, rfl, hk, A1, c1, xs, HX, rfl, HXL, hown, hop, hBr⟩ := hrel
          rename_i wr _
          rcases Nat.lt_or_ge k os.length with hlt | hge
          · have q0 : decide (k < os.length) = true := decide_eq_true hlt
            obtain ⟨b, off, rfl, hlb, hcell⟩ := (h3.go hBr) (by omega)
            obtain ⟨Ai, ci, e0, e1, e2, hoct⟩ := hcell k hlt
            clear hcell
            obtain ⟨go1, go2⟩ := HC0.out k hlt
            have HNX := Lib.hid (bytesTo_succ D n os k)
            have hol := hlen0.out k hlt
            obtain ⟨o, ho⟩ : ∃ o, o = ocAt os k := ⟨_, rfl⟩
            rw [← ho] at e0 e1 e2 hoct go1 go2 HNX hol
            clear ho
            obtain ⟨on, oe, om⟩ := o
            dsimp only at e0 e1 e2 hoct go1 go2 HNX hol
            subst go1
            obtain ⟨W3, hW3, hb3, hB3, hs3⟩ := one_box wr 55 n oe (.slice Ai om.length ci)
            have hoct3 := hoct.go hB3
            have hop3 := own_below hop hB3
            have cO := cert_octagon n oe Ai ci om Ap cp W3 hoct3 go2 (by omega) (rdp_own hop3)
            have hown3 := hown.below hB3
            have hbw := hBr.trans (hB3.mono hBr.size)
            obtain ⟨l0, l1, l2⟩ := id hb3
            clear hoct hoct3 hop hown hB3 hBr hs3
            rw [hW3] at l0 l1 l2
            go_wp2_with fail
            rw [← hW3]
            clear hW3 l0 l1 l2 hb3
            (with_reducible refine cO.mono ?_)
            rintro e w8 ⟨A8, c8, rfl, ho8, hb8⟩
            have hr8 := ho8.rd
            have hown8 := hown3.below hb8
            have hop8 := own_below hop3 hb8
            have hB8 := hbw.trans (hb8.mono hbw.size)
            have hbs8 := hB8.size
            clear hb8 ho8 cO hown3 hop3 hbw
            generalize octB n oe om = bs at *
            have hsz8 : (xs.length + bs.length) * 1 ≤ 140737488355328 := by have := HXL.out; omega
            obtain ⟨vs, hvs⟩ : ∃ vs, vs = xs ++ bs := ⟨_, rfl⟩
            have hvl : xs.length + bs.length = vs.length := by rw [hvs, List.length_append]
            have HN : Hid (vs = bytesTo D n os (k + 1)) := Lib.hid (by rw [HNX.out, hvs, HX.out])
            have HV := Lib.hid hvs
            have HVL := Lib.hid hvl
            clear hvs hvl hol HNX
            by_cases hlong : 4194304 < (vs.length : Int)
            · have q1 : decide (4194304 < (vs.length : Int)) = true := decide_eq_true hlong
              have HE := Lib.hid (encP_long HC.out (show k + 1 ≤ os.length by omega) (by rw [← HN.out]; omega))
              go_wp2_with (at_builtin; refine wpList_appNg hU8 w8 rfl _ _ rfl w1.heap.size .u8 A1 c1 xs rfl hown8 _ A8 c8 bs rfl hr8 hsz8 hbs8 ?_; rw [HVL.out]; intro A9 c9 w9 ho9 hb9 hg9)
              go_ret2
              exact tellsEnc HE.out rfl rfl (Ow.nil _ _ _ _) (HB1.out.trans ((hB8.trans hb9).mono HB1.out.size))
            · have q1 : decide (4194304 < (vs.length : Int)) = false := decide_eq_false hlong
              have HL2 := Lib.hid (show vs.length ≤ 4194304 by omega)
              clear hlong
              go_wp2_with (at_builtin; refine wpList_appNg hU8 w8 rfl _ _ rfl w1.heap.size .u8 A1 c1 xs rfl hown8 _ A8 c8 bs rfl hr8 hsz8 hbs8 ?_; rw [HVL.out]; intro A9 c9 w9 ho9 hb9 hg9)
              have HO9 := Lib.hid ho9
              have HP9 := Lib.hid (own_beside hop8 (ow_row hown8) (by decide) hg9)
              have HB9 := Lib.hid (hB8.trans hb9)
              clear ho9 hb9 hg9 hown8 hop8 hB8 hbs8 hr8
              go_roundw
              case rel => exact ⟨k + 1, by go_num, by omega, A9, c9, vs, HN, rfl, HL2, by rw [HV.out]; exact HO9.out, HP9.out, HB9.out⟩
              case measure => simp [intOf]; omega
          · obtain rfl : k = os.length := by omega
            have q0 : decide (os.length < os.length) = false := by simp
            have HE := Lib.hid (encP_ok (D := D) HC.out (by rw [← HX.out]; have := HXL.out; omega))
            have HO := Lib.hid hown
            have HB := Lib.hid (HB1.out.trans (hBr.mono HB1.out.size))
            clear hown hop hBr hge hk
            go_wp2_with fail
            go_ret2
            refine tellsEnc HE.out (by rw [HX.out]) rfl ?_ HB.out
            rw [← HX.out]
            exact HO.out.lower HB1.out.size
  · have HE := Lib.hid (encP_bad (D := D) hc)
    have hc' : (chkC N os != 0) = true := bne_iff_ne.2 hc
    clear hc
    generalize chkC N os = cc at *
    go_wp2_with fail
    go_ret2
    exact tellsEnc HE.out rfl rfl (Ow.nil _ _ _ _) HB1.out
end Go.Proofs.Ytghpiofjejhegaa

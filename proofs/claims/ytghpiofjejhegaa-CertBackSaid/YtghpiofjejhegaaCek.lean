/- The walk of gnomonref19.Encode. -/
import Derived.Test.YtghpiofjejhegaaCej
import Derived.Test.YtghpiofjejhegaaCeh
import Derived.Test.YtghpiofjejhegaaCed
namespace Go.Proofs.Ytghpiofjejhegaa
open Go.RowKit
set_option linter.unusedVariables false
set_option linter.unusedSimpArgs false
open Gn
namespace Gn
theorem octB_true (n : Nat) (M : List Int) : octB n true M = [0] := rfl
theorem octB_false (n : Nat) (M : List Int) : octB n false M = [1] ++ put (encTo (2 * n) M (pairs n) (pairs n).length).cnt ++ putAll (encTo (2 * n) M (pairs n) (pairs n).length).l := rfl
theorem chk_len {n : Nat} {M : List Int} (h : chk n false M = 0) : M.length = (2 * n) * (2 * n) := by
  obtain ⟨m, hm, _, _, h4⟩ := chk_zero h
  obtain rfl : n = m := by exact_mod_cast hm
  rw [(h4 rfl).1, sq2]
theorem cells_cnt {n : Nat} {M : List Int} (h : chk n false M = 0) : (cellsL n false M).length = (encTo (2 * n) M (pairs n) (pairs n).length).cnt := by
  rw [cellsL_ok h, encTo_cnt _ _ _ _ (Nat.le_refl _), List.take_length]
theorem putAll_snoc2 (l : List Nat) (a b : Nat) : putAll (l ++ [a, b]) = putAll l ++ put a ++ put b := by rw [putAll_app, putAll_two, List.append_assoc]
theorem bytesTo_len {D : Int} {n : Nat} {os : List OC} (h : ∀ i, i < os.length → (octB n (ocAt os i).e (ocAt os i).m).length ≤ 400000) (h0 : (bytesTo D n os 0).length ≤ 1000) : ∀ k, k ≤ os.length → (bytesTo D n os k).length ≤ 1000 + k * 400000
  | 0, _ => by omega
  | k + 1, hk => by
    rw [bytesTo_succ, List.length_append]
    have := bytesTo_len h h0 k (by omega)
    have := h k (by omega)
    omega
end Gn
/-- One byte appended, told which block may have turned. -/
theorem lit_u8 (w : World) (x : Int) : Ow (w.alloc (.cells #[.int .u8 x] 5)) w.heap.size 5 .u8 (some ⟨w.heap.size, 0, none⟩) 1 [x] ∧ Below w.heap.size w (w.alloc (.cells #[.int .u8 x] 5)) :=
  ⟨Ow.lit w w.heap.size 5 .u8 [x] (Nat.le_refl _) (by unfold maxLen; simp), (Below.refl _ _).alloc (Nat.le_refl _) _⟩
/-- An octagon's variable, known whole. -/
def OctOb (w : World) (b : Nat) (N : Int) (E : Bool) (v : Value) : Prop := w.heap[b]? = some (.cells #[.int .i64 N, .bool E, v] 55 (0, 0))
theorem OctOb.at {w : World} {b : Nat} {N : Int} {E : Bool} {v : Value} (h : OctOb w b N E v) : OctAt w b N E v := by
  unfold OctOb at h
  exact ⟨by simp [World.cell?, h], by simp [World.cell?, h], by simp [World.cell?, h]⟩
theorem OctOb.lt {w : World} {b : Nat} {N : Int} {E : Bool} {v : Value} (h : OctOb w b N E v) : b < w.heap.size := (Array.getElem?_eq_some_iff.1 h).1
theorem OctOb.go {w w' : World} {b : Nat} {N : Int} {E : Bool} {v : Value} (h : OctOb w b N E v) (hb : Below w.heap.size w w') : OctOb w' b N E v := (hb.block b h.lt).trans h
theorem OctOb.beside {w w' : World} {b base size n : Nat} {N : Int} {E : Bool} {v v' : Value} {e : TypeId} {vs : List Value} (h : OctOb w b N E v) (h' : w.ownsRow base e size v' n vs) (hne : e ≠ 55) (hg : w.grownBy w' v'.ownBlock) : OctOb w' b N E v := by
  have hb : some b ≠ v'.ownBlock := by
    rcases h'.2 with ⟨rfl, _⟩ | ⟨g, cap, cur, rfl, _, hh, _⟩
    · simp [Value.ownBlock]
    · intro e0
      simp only [Value.ownBlock, Option.some.injEq] at e0
      subst e0
      unfold OctOb at h
      rw [hh] at h
      simp only [Option.some.injEq, Obj.cells.injEq] at h
      exact hne h.2.1
  exact (hg.block b h.lt hb).trans h
theorem OctOb.new (w : World) (N : Int) (E : Bool) (v : Value) : OctOb (w.alloc (.cells #[.int .i64 N, .bool E, v] 55)) w.heap.size N E v := heap_alloc_new w _
set_option maxRecDepth 100000 in
set_option maxHeartbeats 8000000 in
theorem ref_Encode (D N : Int) (A : Option Addr) (c : Nat) (os : List OC) (w : World) (h : OctsIn w A os) (hD : 0 ≤ D ∧ D ≤ 18446744073709551615) (hN : I64 N) (hcm : (os.length : Int) ≤ 9223372036854775807) :
    Calls Try.prog 23 #[.agg #[.int .u64 D, .int .i64 N, .slice A os.length c]] w (TellsEnc w (encP D N os)) := by
  obtain ⟨W, hW, h1, hB, hs⟩ := cert_box w 40 D N (.slice A os.length c)
  have cC := ref_CertCheck D N A c os W (h.go hB) hN hcm
  have h2 := h.go hB
  have hU8 := Try.elU8
  obtain ⟨k0, k1, k2⟩ := id h1
  go_enter Try.func23, Try.ntmps23
  rw [hW] at k0 k1 k2
  go_wp2_with fail
  rw [← hW]
  rw [← hW] at k0 k1 k2
  clear hW
  (with_reducible refine cC.mono ?_)
  rintro e w1 ⟨rfl, hb1⟩
  clear cC h
  have HB1 := Lib.hid (hB.trans (hb1.mono hB.size))
  have h3 := h2.go hb1
  have m0 := below_cell hb1 k0
  have m1 := below_cell hb1 k1
  have m2 := below_cell hb1 k2
  clear k0 k1 k2 h1 h2 hb1 hB hs
  by_cases hc : chkC N os = 0
  · obtain ⟨hh, hg⟩ := chkC_zero hc
    obtain ⟨⟨hn0, hn1⟩, hL1, hL2, _⟩ := hh
    obtain ⟨n, rfl⟩ := Int.eq_ofNat_of_zero_le hn0
    have HC := Lib.hid hc
    rw [hc]
    clear hc
    have hlen0 : Hid (∀ i, i < os.length → (octB n (ocAt os i).e (ocAt os i).m).length ≤ 400000) := Lib.hid (fun i hi => by
      obtain ⟨b, off, _, _, hcell⟩ := h3 (by omega)
      obtain ⟨Ai, ci, _, _, _, ho⟩ := hcell i hi
      exact octB_len (by omega) _ ho.i64)
    have HG := Lib.hid hg
    clear hg
    have hlit : Ow (w1.alloc (.cells #[.int .u8 103, .int .u8 110, .int .u8 109, .int .u8 49] 5)) w1.heap.size 5 .u8 (some ⟨w1.heap.size, 0, none⟩) 4 [103, 110, 109, 49] := Ow.lit w1 w1.heap.size 5 .u8 [103, 110, 109, 49] (Nat.le_refl _) (by unfold maxLen; simp)
    have hb2 : Below w1.heap.size w1 (w1.alloc (.cells #[.int .u8 103, .int .u8 110, .int .u8 109, .int .u8 49] 5)) := (Below.refl _ _).alloc (Nat.le_refl _) _
    obtain ⟨w2, hw2⟩ : ∃ w2, w2 = w1.alloc (.cells #[.int .u8 103, .int .u8 110, .int .u8 109, .int .u8 49] 5) := ⟨_, rfl⟩
    rw [← hw2] at hlit hb2
    go_wp2_with fail
    rw [← hw2]
    clear hw2
    go_loopw [5, 6] (fun s5 s6 wr => ∃ k : Nat, s6 = .int .i64 (7 - (k : Int)) ∧ k ≤ 8 ∧ ∃ A1 c1, ∃ xs : List Int, Hid (xs = [103, 110, 109, 49] ++ digTo D k) ∧ s5 = .slice A1 xs.length c1 ∧ Ow wr w1.heap.size 5 .u8 A1 c1 xs ∧ Below w1.heap.size w1 wr) (fun _ s _ => (intOf s + 1).toNat)
    case atStart => exact ⟨0, rfl, by omega, _, _, _, Lib.hid rfl, rfl, hlit, hb2⟩
    case round =>
      clear hlit hb2
      obtain ⟨k, rfl, hk, A1, c1, xs, HX, rfl, hown, hBr⟩ := hrel
      rename_i wr _
      have n0 := below_cell hBr m0
      rcases Nat.lt_or_ge k 8 with hlt | hge
      · have q0 : decide ((0 : Int) ≤ 7 - (k : Int)) = true := decide_eq_true (by omega)
        have hxl : Hid (xs.length = 4 + k) := Lib.hid (by rw [HX.out, List.length_append, digTo_len]; rfl)
        have hsz : (xs.length + 1) * 1 ≤ 140737488355328 := by have := hxl.out; omega
        obtain ⟨hd0, hd1⟩ := hD
        have hbs := hBr.size
        have hk2 : (k : Int) ≤ 7 := by omega
        go_wp2_with (at_builtin; refine wpList_app1 hU8 wr rfl _ _ rfl w1.heap.size .u8 A1 c1 xs rfl hown (D / 2 ^ (8 * (7 - k)) % 256) rfl hsz hbs ?_; intro A2 c2 w5 ho5 hb5)
        have HO5 := Lib.hid ho5
        have HB5 := Lib.hid (hBr.trans hb5)
        clear ho5 hb5 hown hBr hbs
        exact ⟨⟨k + 1, by congr 1; push_cast; omega, by omega, A2, c2, xs ++ [D / 2 ^ (8 * (7 - k)) % 256], Lib.hid (by rw [HX.out, digTo_succ, List.append_assoc]; rfl), val_slice (by simp), HO5.out, HB5.out⟩, by simp [intOf]; omega⟩
      · obtain rfl : k = 8 := by omega
        have n1 := below_cell hBr m1
        have n2 := below_cell hBr m2
        have HOW := Lib.hid hown
        have HBR := Lib.hid hBr
        have hxl : xs.length = 12 := by rw [HX.out, List.length_append, digTo_len]; rfl
        have HXL := Lib.hid hxl
        have hp1 := put_len10 (n := n) (by omega)
        have hp2 := put_len10 (n := os.length) (by omega)
        have cN := fun W => ref_Put n W (by omega)
        have cL := fun W => ref_Put os.length W (by omega)
        have HHD := Lib.hid (show xs ++ put n ++ put os.length = bytesTo D n os 0 by rw [HX.out, List.append_assoc, ← putAll_two]; unfold bytesTo octsTo; rw [List.range_zero, List.flatMap_nil, List.append_nil]; rfl)
        have hbl : (xs ++ put n ++ put os.length).length ≤ 1000 := by rw [List.length_append, List.length_append]; omega
        have hsz5 : (xs.length + (put n).length) * 1 ≤ 140737488355328 := by omega
        have hsz6 : ((xs ++ put n).length + (put os.length).length) * 1 ≤ 140737488355328 := by rw [List.length_append]; omega
        clear hown hBr hge hk hxl hp1 hp2
        go_wp2_with fail
        (with_reducible refine (cN _).mono ?_)
        rintro e w5 ⟨A5, c5, rfl, ho5, hb5⟩
        have hr5 := ho5.rd
        have hown5 := HOW.out.below hb5
        have hB5 := HBR.out.trans (hb5.mono HBR.out.size)
        have hbs5 := hB5.size
        clear ho5 hb5 cN n1 n2
        generalize put n = ys at *
        obtain ⟨zs, hzs⟩ : ∃ zs, zs = xs ++ ys := ⟨_, rfl⟩
        have HZL := Lib.hid (show xs.length + ys.length = zs.length by rw [hzs, List.length_append])
        rw [← hzs] at hbl HHD hsz6
        have HZ := Lib.hid hzs
        clear hzs
        go_wp2_with (at_builtin; refine wpList_appN hU8 w5 rfl _ _ rfl w1.heap.size .u8 A1 c1 xs rfl hown5 _ A5 c5 ys rfl hr5 hsz5 hbs5 ?_; rw [HZL.out]; intro A6 c6 w6 ho6 hb6; have s1 := below_cell (hB5.trans hb6) m2)
        rw [← HZ.out] at ho6
        have hB6 := hB5.trans hb6
        (with_reducible refine (cL _).mono ?_)
        rintro e w7 ⟨A7, c7, rfl, ho7, hb7⟩
        have hr7 := ho7.rd
        have hown7 := ho6.below hb7
        have hB7 := hB6.trans (hb7.mono hB6.size)
        have hbs7 := hB7.size
        clear ho7 hb7 cL s1 ho6 hb6 hB6 hr5 hown5 hB5 hbs5 hsz5
        generalize put os.length = ys' at *
        obtain ⟨vs, hvs⟩ : ∃ vs, vs = zs ++ ys' := ⟨_, rfl⟩
        have HVL := Lib.hid (show zs.length + ys'.length = vs.length by rw [hvs, List.length_append])
        rw [← hvs] at hbl HHD
        have HV := Lib.hid hvs
        clear hvs
        go_wp2_with (at_builtin; refine wpList_appN hU8 w7 rfl _ _ rfl w1.heap.size .u8 A6 c6 zs rfl hown7 _ A7 c7 ys' rfl hr7 hsz6 hbs7 ?_; rw [HVL.out]; intro A8 c8 w8 ho8 hb8; have s1 := below_cell (hB7.trans hb8) m1)
        rw [← HV.out] at ho8
        have hB8 := hB7.trans hb8
        (with_reducible refine (ref_places n _ (by omega)).mono ?_)
        rintro e w9 ⟨Ap, cp, rfl, hop, hb9⟩
        have ho9 := ho8.below hb9
        have hop9 := own_lower hop hB8.size
        have hB9 := hB8.trans (hb9.mono hB8.size)
        clear s1 ho8 hb8 hop hb9 hr7 hown7 hB7 hbs7 hsz6 hB8 HOW HBR
        go_wp2_with fail
        have hpl := pairs_small (n := n) (by omega)
        have HC0 := Lib.hid (fun i (hi : i < os.length) => HG.out i hi)
        have HBL := Lib.hid (fun k hk => bytesTo_len hlen0.out (by rw [← HHD.out]; exact hbl) k hk)
        clear hbl
        go_loopw [5, 8] (fun s5 s8 wr => ∃ k : Nat, s8 = .int .i64 k ∧ k ≤ os.length ∧ ∃ A1 c1, ∃ xs : List Int, Hid (xs = bytesTo D n os k) ∧ s5 = .slice A1 xs.length c1 ∧ Ow wr w1.heap.size 5 .u8 A1 c1 xs ∧ wr.ownsRow w1.heap.size 79 2 (.slice Ap (pairs n).length cp) (pairs n).length (pv (pairs n)) ∧ Below w1.heap.size w1 wr) (fun _ s _ => os.length - (intOf s).toNat)
        case atStart => exact ⟨0, rfl, by omega, _, _, _, HHD, rfl, ho9, hop9, hB9⟩
        case round =>
          clear ho9 hop9 hB9
          obtain ⟨k, rfl, hk, A1, c1, xs, HX, rfl, hown, hop, hBr⟩ := hrel
          rename_i wr _
          have n2 := below_cell hBr m2
          have n1 := below_cell hBr m1
          rcases Nat.lt_or_ge k os.length with hlt | hge
          · have q0 : decide (k < os.length) = true := decide_eq_true hlt
            have q3 : (k : Int) < (os.length : Int) := by omega
            have q4 : (0 : Int) ≤ (k : Int) := by omega
            obtain ⟨b, off, rfl, hlb, hcell⟩ := h3 (by omega)
            obtain ⟨Ai, ci, e0, e1, e2, hoct⟩ := hcell k hlt
            replace e0 := below_cell hBr e0
            replace e1 := below_cell hBr e1
            replace e2 := below_cell hBr e2
            clear hcell
            obtain ⟨go1, go2⟩ := HC0.out k hlt
            have HNX := Lib.hid (bytesTo_succ D n os k)
            have hol := hlen0.out k hlt
            have HXL := Lib.hid (show xs.length ≤ 1638401000 by rw [HX.out]; have := HBL.out k hk; omega)
            obtain ⟨o, ho⟩ : ∃ o, o = ocAt os k := ⟨_, rfl⟩
            rw [← ho] at e0 e1 e2 hoct go1 go2 HNX hol
            clear ho
            obtain ⟨on, oe, om⟩ := o
            dsimp only at e0 e1 e2 hoct go1 go2 HNX hol
            subst go1
            obtain ⟨W3, hW3, hb3, hB3, hs3⟩ := one_box wr 55 n oe (.slice Ai om.length ci)
            have hOb : OctOb W3 wr.heap.size n oe (.slice Ai om.length ci) := by rw [hW3]; exact OctOb.new _ _ _ _
            have hop3 := own_below hop hB3
            have hown3 := hown.below hB3
            have hbw := hBr.trans (hB3.mono hBr.size)
            obtain ⟨l0, l1, l2⟩ := id hb3
            clear hop hown hB3 hBr hb3
            rw [hW3] at l0 l1 l2
            rcases oe with _ | _
            · obtain ⟨hli, hb4⟩ := lit_u8 W3 1
              obtain ⟨W4, hW4⟩ : ∃ W4, W4 = W3.alloc (.cells #[.int .u8 1] 5) := ⟨_, rfl⟩
              rw [← hW4] at hli hb4
              have hr4 := hli.rd
              rw [hs3] at hr4
              have hown4 := hown3.below hb4
              have hop4 := own_below hop3 hb4
              have hOb4 := hOb.go hb4
              have hB4 := hbw.trans (hb4.mono hbw.size)
              have hbs4 := hB4.size
              have hsz4 : (xs.length + ([1] : List Int).length) * 1 ≤ 140737488355328 := by have := HXL.out; simp; omega
              have hci64 := hoct.i64
              have hinv := encTo_is (m := 2 * n) (ps := pairs n) hci64 hpl
              have hcc := cells_cnt go2
              have hcnt := hinv.cnt
              have hp10 := put_len10 (n := (encTo (2 * n) om (pairs n) (pairs n).length).cnt) (by omega)
              have cU := fun W => ref_Put (encTo (2 * n) om (pairs n) (pairs n).length).cnt W (by omega)
              have HOF := Lib.hid (octB_false n om)
              have HML := Lib.hid (chk_len go2)
              obtain ⟨ct0, hct0⟩ : ∃ ct0, ct0 = (encTo (2 * n) om (pairs n) (pairs n).length).cnt := ⟨_, rfl⟩
              rw [← hct0] at hcc hcnt hp10 cU HOF
              clear hct0 hinv
              have HCC := Lib.hid hcc
              clear hli hb4 hown3 hop3 hbw hs3 hOb hcc
              go_wp2_with (at_builtin; rw [← hW3, ← hW4]; refine wpList_appNg hU8 W4 rfl _ _ rfl w1.heap.size .u8 A1 c1 xs rfl hown4 _ (some ⟨wr.heap.size + 1, 0, none⟩) 1 [1] rfl hr4 hsz4 hbs4 ?_; intro A9 c9 w9 ho9 hb9 hg9; obtain ⟨j0, j1, j2⟩ := (hOb4.beside (ow_row hown4) (by decide) hg9).at)
              have hOb9 := hOb4.beside (ow_row hown4) (by decide) hg9
              have hop9 := own_beside hop4 (ow_row hown4) (by decide) hg9
              have hB9 := hB4.trans hb9
              clear hown4 hop4 hB4 hbs4 hr4 hOb4 hg9 hb9 hsz4 l0 l1 l2
              have cK := ref_Cells n false Ai ci om w9 (hoct.go hB9)
              (with_reducible refine cK.mono ?_)
              clear cK j0 j1 j2
              rintro e w10 ⟨Ac, cc, rfl, _, hb10⟩
              have hOb10 := hOb9.go hb10
              have hop10 := own_below hop9 hb10
              have ho10 := ho9.below hb10
              have hB10 := hB9.trans (hb10.mono hB9.size)
              rw [HCC.out]
              clear hOb9 hop9 ho9 hb10 hB9
              have hct1 : (ct0 : Int) ≤ 9223372036854775807 := by omega
              go_wp2_with fail
              (with_reducible refine (cU _).mono ?_)
              rintro e w11 ⟨A11, c11, rfl, ho11, hb11⟩
              have hr11 := ho11.rd
              have hown11 := ho10.below hb11
              have hop11 := own_below hop10 hb11
              have hOb11 := hOb10.go hb11
              have hB11 := hB10.trans (hb11.mono hB10.size)
              have hbs11 := hB11.size
              clear ho11 hb11 cU ho10 hop10 hOb10 hB10
              generalize put ct0 = pc at *
              obtain ⟨zs, hzs⟩ : ∃ zs, zs = xs ++ [1] := ⟨_, rfl⟩
              have hzl : xs.length + 1 = zs.length := by rw [hzs, List.length_append]; rfl
              rw [← hzs] at hown11
              have hsz11 : (zs.length + pc.length) * 1 ≤ 140737488355328 := by have := HXL.out; omega
              obtain ⟨pre, hpre⟩ : ∃ pre, pre = zs ++ pc := ⟨_, rfl⟩
              have hprel : zs.length + pc.length = pre.length := by rw [hpre, List.length_append]
              have HPL := Lib.hid hprel
              have HPRE := Lib.hid (show pre ++ putAll (encTo (2 * n) om (pairs n) (pairs n).length).l = bytesTo D n os (k + 1) by rw [HNX.out, HOF.out, hpre, hzs, HX.out]; simp)
              have HPB := Lib.hid (show pre.length ≤ 1638401100 by have := HXL.out; omega)
              have HP := Lib.hid hpre
              have hzl2 : xs.length + ([1] : List Int).length = zs.length := hzl
              first | rw [hzl] | rw [hzl2]
              clear hzs hzl hzl2 hpre hprel
              go_wp2_with (at_builtin; refine wpList_appNg hU8 w11 rfl _ _ rfl w1.heap.size .u8 A9 c9 zs rfl hown11 _ A11 c11 pc rfl hr11 hsz11 hbs11 ?_; rw [HPL.out]; intro A12 c12 w12 ho12 hb12 hg12)
              have hOb12 := hOb11.beside (ow_row hown11) (by decide) hg12
              have hop12 := own_beside hop11 (ow_row hown11) (by decide) hg12
              have hB12 := hB11.trans hb12
              rw [← HP.out] at ho12
              clear hown11 hop11 hOb11 hB11 hb12 hg12 hr11 hbs11 hsz11
              have HI : Hid (∀ q, q ≤ 16384 → EInv (encTo (2 * n) om (pairs n) q) q) := Lib.hid (fun q hq => encTo_is hci64 hq)
              have HM : Hid (∀ q, q < (pairs n).length → pfst (pairs n) q < 2 * n ∧ psnd (pairs n) q < 2 * n) := Lib.hid (fun q hq => by
                have := pairs_mem.1 (pget_mem hq)
                exact ⟨this.1, this.2.1⟩)
              have HI64 : Hid (∀ q, I64 (nth om q)) := Lib.hid (cl_i64 hci64)
              have HSU : Hid (∀ q, encTo (2 * n) om (pairs n) (q + 1) = encStep (2 * n) om (pairs n) q (encTo (2 * n) om (pairs n) q)) := Lib.hid (fun q => rfl)
              have HZ0 : Hid (encTo (2 * n) om (pairs n) 0 = ⟨[], 0, 0⟩) := Lib.hid rfl
              obtain ⟨ps, hps⟩ : ∃ ps, ps = pairs n := ⟨_, rfl⟩
              rw [← hps] at HI HM HSU HZ0 hop12 hpl HPRE ⊢
              obtain ⟨enc, henc⟩ : ∃ enc, enc = encTo (2 * n) om ps := ⟨_, rfl⟩
              rw [← henc] at HI HSU HZ0 HPRE
              have HPS := Lib.hid hps
              clear henc hps hci64 hcnt hp10 hct1 n1 n2 e0 e1 e2
              have hml : (om.length : Int) ≤ 9223372036854775807 := hoct.len
              go_loopw [5, 10, 11] (fun s5 s10 s11 wq => ∃ q : Nat, s11 = .int .i64 q ∧ q ≤ ps.length ∧ ∃ A1 c1, ∃ xs : List Int, ∃ l : List Nat, ∃ nx ct : Nat, Hid (enc q = ⟨l, nx, ct⟩) ∧ Hid (xs = pre ++ putAll l) ∧ s5 = .slice A1 xs.length c1 ∧ s10 = .int .i64 ((nx : Int) - 1) ∧ Ow wq w1.heap.size 5 .u8 A1 c1 xs ∧ wq.ownsRow w1.heap.size 79 2 (.slice Ap ps.length cp) ps.length (pv ps) ∧ OctOb wq wr.heap.size n false (.slice Ai om.length ci) ∧ Below w1.heap.size w1 wq) (fun _ _ s _ => ps.length - (intOf s).toNat)
              case atStart => exact ⟨0, rfl, by omega, _, _, _, [], 0, 0, HZ0, Lib.hid (by simp [putAll]), rfl, rfl, ho12, hop12, hOb12, hB12⟩
              case round =>
                clear ho12 hop12 hOb12 hB12
                obtain ⟨q, rfl, hq, A1, c1, xs, l, nx, ct, HE, HX, rfl, rfl, hown, hop, hOb, hBr⟩ := hrel
                rename_i wq _
                have hinv := HI.out q (by omega)
                rw [HE.out] at hinv
                obtain ⟨i1, i2, i3, i4⟩ := hinv
                dsimp only at i1 i2 i3 i4
                have hpa := putAll_len10 l i4
                have hxl : xs.length ≤ 1638801100 := by rw [HX.out, List.length_append]; have := HPB.out; omega
                rcases Nat.lt_or_ge q ps.length with hql | hqg
                · have q0 : decide (q < ps.length) = true := decide_eq_true hql
                  have q5 : (0 : Int) ≤ (q : Int) := by omega
                  have q6 : (q : Int) < (ps.length : Int) := by omega
                  obtain ⟨j0, j1, j2⟩ := hOb.at
                  have j3 := below_cell hBr m1
                  obtain ⟨gp, op, rfl, hgp, hcp⟩ := (rdp_own hop) (by omega)
                  obtain ⟨p0, p1⟩ := hcp q hql
                  obtain ⟨b1, b2⟩ := HM.out q hql
                  have HST := Lib.hid (HSU.out q)
                  clear hcp
                  obtain ⟨i, hi⟩ : ∃ i, i = pfst ps q := ⟨_, rfl⟩
                  obtain ⟨j, hj⟩ : ∃ j, j = psnd ps q := ⟨_, rfl⟩
                  rw [← hi] at p0 b1
                  rw [← hj] at p1 b2
                  have HV : Hid (nth om (i * (2 * n) + j) = cl (2 * n) om (pfst ps q) (psnd ps q)) := Lib.hid (by rw [hi, hj]; rfl)
                  clear hi hj
                  have hpx : i * (2 * n) + j < om.length := by rw [HML.out]; exact idx_lt b1 b2
                  obtain ⟨gm, om', rfl, hgm, hcm2⟩ := hoct.rd (by omega)
                  have j4 := (hBr.cell (p := ⟨gm, om' + (i * (2 * n) + j), none⟩) hgm).trans (hcm2 _ hpx)
                  have hvi := HI64.out (i * (2 * n) + j)
                  have ei : (i : Int) * 2 * (n : Int) = ((i * (2 * n) : Nat) : Int) := by push_cast; rw [Int.mul_assoc]
                  have hmm := Nat.mul_le_mul (show i ≤ 128 by omega) (show 2 * n ≤ 128 by omega)
                  clear hcm2
                  generalize nth om (i * (2 * n) + j) = v at *
                  generalize i * (2 * n) = pp at *
                  have a0 := After.cell j0
                  have a2 := After.cell j2
                  have a3 := After.cell j3
                  have a4 := After.cell j4
                  have a5 := After.cell p0
                  have a6 := After.cell p1
                  have HOWN := Lib.hid hown
                  have HOP := Lib.hid hop
                  have HOB := Lib.hid hOb
                  have HBR := Lib.hid hBr
                  clear hop hown hOb hBr
                  have ini : I64 v := hvi
                  have hsz1 : (xs.length + 10) * 1 ≤ 140737488355328 := by omega
                  by_cases hv : v = 9223372036854775807
                  · have q7 : (v == 9223372036854775807) = true := beq_iff_eq.2 hv
                    have HN : Hid (enc (q + 1) = ⟨l, nx, ct⟩) := Lib.hid (by rw [HST.out, encStep_inf (by rw [← HV.out]; exact hv)]; exact HE.out)
                    clear hv hvi ini
                    go_wp2_with fail
                    refine wp_region_after (by kernel_rfl) (by kernel_rfl) ?_
                    repeat (go_big_quiet_step (fail))
                    refine wpQuiet_nil ?_
                    intro w5 hb5
                    have HO5 := Lib.hid (HOWN.out.below hb5)
                    have HP5 := Lib.hid (own_below HOP.out hb5)
                    have HOB5 := Lib.hid (HOB.out.go hb5)
                    have HB5 := Lib.hid (HBR.out.trans (hb5.mono HBR.out.size))
                    clear hb5 a0 a2 a3 a4 a5 a6
                    go_wp2_with fail
                    go_roundw
                    case rel => exact ⟨q + 1, by go_num, by omega, A1, c1, xs, l, nx, ct, HN, HX, rfl, rfl, HO5.out, HP5.out, HOB5.out, HB5.out⟩
                    case measure => simp [intOf]; omega
                  · have q7 : (v == 9223372036854775807) = false := beq_eq_false_iff_ne.2 hv
                    have hf := fold_u64 hvi
                    have HN : Hid (enc (q + 1) = ⟨l ++ [q - nx, (fold v).toNat], q + 1, ct + 1⟩) := Lib.hid (by rw [HST.out, encStep_fin (by rw [← HV.out]; exact hv), HE.out, ← HV.out])
                    have cF := fun W => rfold_any v W hvi
                    have cG := fun W => ref_Put (q - nx) W (by omega)
                    have cV := fun W => ref_Put (fold v).toNat W (by omega)
                    have e1 : (((q - nx : Nat)) : Int) = (q : Int) - ((nx : Int) - 1) - 1 := by omega
                    rw [e1] at cG
                    rw [hf.1] at cV
                    have hg10 := put_len10 (n := q - nx) (by omega)
                    have hv10 := put_len10 (n := (fold v).toNat) (by omega)
                    have HPU := Lib.hid (putAll_snoc2 l (q - nx) (fold v).toNat)
                    generalize fold v = fv at *
                    clear hv hvi ini e1 hf
                    have q8 : 0 ≤ (q : Int) - ((nx : Int) - 1) - 1 := by omega
                    go_wp2_with fail
                    refine wp_region_after (by kernel_rfl) (by kernel_rfl) ?_
                    repeat (go_big_quiet_step (fail))
                    refine wpQuiet_nil ?_
                    intro w5 hb5
                    have HO5 := Lib.hid (HOWN.out.below hb5)
                    have HP5 := Lib.hid (own_below HOP.out hb5)
                    have HOB5 := Lib.hid (HOB.out.go hb5)
                    have HB5 := Lib.hid (HBR.out.trans (hb5.mono HBR.out.size))
                    clear hb5 a0 a2 a3 a4 a5 a6 HOWN HOP HOB HBR
                    go_wp2_with fail
                    (with_reducible refine (cG _).mono ?_)
                    clear cG
                    rintro e w6 ⟨A6, c6, rfl, ho6, hb6⟩
                    have hr6 := ho6.rd
                    have hown6 := HO5.out.below hb6
                    have hop6 := own_below HP5.out hb6
                    have hob6 := HOB5.out.go hb6
                    have hB6 := HB5.out.trans (hb6.mono HB5.out.size)
                    have hbs6 := hB6.size
                    generalize put (q - nx) = g1 at *
                    have hsz6 : (xs.length + g1.length) * 1 ≤ 140737488355328 := by omega
                    obtain ⟨us, hus⟩ : ∃ us, us = xs ++ g1 := ⟨_, rfl⟩
                    have HUL := Lib.hid (show xs.length + g1.length = us.length by rw [hus, List.length_append])
                    have hul : us.length ≤ xs.length + 10 := by rw [hus, List.length_append]; omega
                    have HU := Lib.hid hus
                    clear hus ho6 hb6
                    go_wp2_with (at_builtin; refine wpList_appNg hU8 w6 rfl _ _ rfl w1.heap.size .u8 A1 c1 xs rfl hown6 _ A6 c6 g1 rfl hr6 hsz6 hbs6 ?_; rw [HUL.out]; intro A7 c7 w7 ho7 hb7 hg7)
                    have hop7 := own_beside hop6 (ow_row hown6) (by decide) hg7
                    have hob7 := hob6.beside (ow_row hown6) (by decide) hg7
                    have hB7 := hB6.trans hb7
                    rw [← HU.out] at ho7
                    clear hown6 hop6 hob6 hB6 hbs6 hr6 hsz6 hb7 hg7
                    (with_reducible refine (cF _).mono ?_)
                    clear cF
                    rintro e w' ⟨rfl, rfl⟩
                    go_wp2_with fail
                    (with_reducible refine (cV _).mono ?_)
                    clear cV
                    rintro e w8 ⟨A8, c8, rfl, ho8, hb8⟩
                    have hr8 := ho8.rd
                    have hown8 := ho7.below hb8
                    have hop8 := own_below hop7 hb8
                    have hob8 := hob7.go hb8
                    have hB8 := hB7.trans (hb8.mono hB7.size)
                    have hbs8 := hB8.size
                    generalize put fv.toNat = g2 at *
                    have hsz8 : (us.length + g2.length) * 1 ≤ 140737488355328 := by omega
                    have HTL := Lib.hid (show us.length + g2.length = (us ++ g2).length by rw [List.length_append])
                    clear ho8 hb8 ho7 hop7 hob7 hB7
                    go_wp2_with (at_builtin; refine wpList_appNg hU8 w8 rfl _ _ rfl w1.heap.size .u8 A7 c7 us rfl hown8 _ A8 c8 g2 rfl hr8 hsz8 hbs8 ?_; intro A9 c9 w9 ho9 hb9 hg9)
                    have HP9 := Lib.hid (own_beside hop8 (ow_row hown8) (by decide) hg9)
                    have HOB9 := Lib.hid (hob8.beside (ow_row hown8) (by decide) hg9)
                    have HB9 := Lib.hid (hB8.trans hb9)
                    have HO9 := Lib.hid ho9
                    clear hown8 hop8 hob8 hB8 hbs8 hr8 hsz8 hb9 hg9 ho9
                    go_roundw
                    case rel => exact ⟨q + 1, by go_num, by omega, A9, c9, us ++ g2, l ++ [q - nx, fv.toNat], q + 1, ct + 1, HN, Lib.hid (by rw [HPU.out, HU.out, HX.out, List.append_assoc, List.append_assoc, List.append_assoc]), by rw [HTL.out], by congr 1; push_cast; omega, HO9.out, HP9.out, HOB9.out, HB9.out⟩
                    case measure => simp [intOf]; omega
                · obtain rfl : q = ps.length := by omega
                  have q0 : decide (ps.length < ps.length) = false := by simp
                  have HFIN := Lib.hid (show xs = bytesTo D n os (k + 1) by rw [HX.out, ← HPRE.out, HE.out])
                  have HO := Lib.hid hown
                  have HP := Lib.hid (show World.ownsRow _ w1.heap.size 79 2 (.slice Ap (pairs n).length cp) (pairs n).length (pv (pairs n)) by rw [← HPS.out]; exact hop)
                  have HB := Lib.hid hBr
                  clear hown hop hOb hBr hqg hq i3 i4 hpa hxl
                  go_wp2_with fail
                  have eps := HPS.out
                  subst eps
                  go_roundw
                  case rel => exact ⟨k + 1, by go_num, by omega, A1, c1, xs, HFIN, rfl, HO.out, HP.out, HB.out⟩
                  case measure => simp [intOf]; omega
            · obtain ⟨hli, hb4⟩ := lit_u8 W3 0
              obtain ⟨W4, hW4⟩ : ∃ W4, W4 = W3.alloc (.cells #[.int .u8 0] 5) := ⟨_, rfl⟩
              rw [← hW4] at hli hb4
              have hr4 := hli.rd
              rw [hs3] at hr4
              have hown4 := hown3.below hb4
              have hop4 := own_below hop3 hb4
              have hB4 := hbw.trans (hb4.mono hbw.size)
              have hbs4 := hB4.size
              have hsz4 : (xs.length + ([0] : List Int).length) * 1 ≤ 140737488355328 := by have := HXL.out; simp; omega
              clear hli hb4 hown3 hop3 hbw hs3 hOb hoct
              go_wp2_with (at_builtin; rw [← hW3, ← hW4]; refine wpList_appNg hU8 W4 rfl _ _ rfl w1.heap.size .u8 A1 c1 xs rfl hown4 _ (some ⟨wr.heap.size + 1, 0, none⟩) 1 [0] rfl hr4 hsz4 hbs4 ?_; intro A9 c9 w9 ho9 hb9 hg9)
              have HO9 := Lib.hid ho9
              have HP9 := Lib.hid (own_beside hop4 (ow_row hown4) (by decide) hg9)
              have HB9 := Lib.hid (hB4.trans hb9)
              clear ho9 hb9 hg9 hown4 hop4 hB4 hbs4 hr4
              go_roundw
              case rel => exact ⟨k + 1, by go_num, by omega, A9, c9, xs ++ [0], Lib.hid (by rw [HNX.out, HX.out]; rfl), val_slice (by simp), HO9.out, HP9.out, HB9.out⟩
              case measure => simp [intOf]; omega
          · obtain rfl : k = os.length := by omega
            have q0 : decide (os.length < os.length) = false := by simp
            have HO := Lib.hid hown
            have HB := Lib.hid (HB1.out.trans (hBr.mono HB1.out.size))
            by_cases hlong : 4194304 < (xs.length : Int)
            · have q1 : decide (4194304 < (xs.length : Int)) = true := decide_eq_true hlong
              have HE := Lib.hid (encP_long HC.out (Nat.le_refl _) (by rw [← HX.out]; omega))
              clear hown hop hBr hge hk
              go_wp2_with fail
              go_ret2
              exact tellsEnc HE.out rfl rfl (Ow.nil _ _ _ _) HB.out
            · have q1 : decide (4194304 < (xs.length : Int)) = false := decide_eq_false hlong
              have HE := Lib.hid (encP_ok (D := D) HC.out (by rw [← HX.out]; omega))
              clear hown hop hBr hge hk
              go_wp2_with fail
              go_ret2
              refine tellsEnc HE.out (by rw [HX.out]) rfl ?_ HB.out
              rw [← HX.out]
              exact HO.out.lower HB1.out.size
  · have HE := Lib.hid (encP_bad (D := D) hc)
    have hc' : (chkC N os != 0) = true := bne_iff_ne.2 hc
    clear hc
    generalize chkC N os = cc at *
    go_wp2_with fail
    go_ret2
    exact tellsEnc HE.out rfl rfl (Ow.nil _ _ _ _) HB1.out
end Go.Proofs.Ytghpiofjejhegaa

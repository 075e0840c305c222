/- The walk of cert.octagon: an octagon's bytes. -/
import Derived.Test.YtghpiofjejhegaaCeg
import Derived.Test.YtghpiofjejhegaaCodQ
import Derived.Test.YtghpiofjejhegaaCodX
namespace Go.Proofs.Ytghpiofjejhegaa
open Go.RowKit
set_option linter.unusedVariables false
set_option linter.unusedSimpArgs false
open Gn
namespace Gn
theorem pairs_small {n : Nat} (hn : n ≤ 64) : (pairs n).length ≤ 16384 := Nat.le_trans (pairs_len n) (Nat.mul_le_mul (show 2 * n ≤ 128 by omega) (show 2 * n ≤ 128 by omega))
theorem encStep_inf {m : Nat} {M : List Int} {ps : List (Nat × Nat)} {k : Nat} {s : ES} (h : cl m M (pfst ps k) (psnd ps k) = 9223372036854775807) : encStep m M ps k s = s := by unfold encStep; rw [if_pos h]
theorem encStep_fin {m : Nat} {M : List Int} {ps : List (Nat × Nat)} {k : Nat} {s : ES} (h : cl m M (pfst ps k) (psnd ps k) ≠ 9223372036854775807) :
    encStep m M ps k s = ⟨s.l ++ [k - s.nxt, (fold (cl m M (pfst ps k) (psnd ps k))).toNat], k + 1, s.cnt + 1⟩ := by unfold encStep; rw [if_neg h]
theorem cl_i64 {M : List Int} (h : ∀ x ∈ M, I64 x) (p : Nat) : I64 (nth M p) := by
  by_cases hp : p < M.length
  · exact h _ (nth_mem hp)
  · have : nth M p = 0 := by unfold nth; rw [List.getD_eq_getElem?_getD, List.getElem?_eq_none (by omega)]; rfl
    rw [this]; unfold I64; omega
/-- What is known of the numbers under way. -/
structure EInv (s : ES) (k : Nat) : Prop where
  nxt : s.nxt ≤ k
  cnt : s.cnt ≤ k
  len : s.l.length = 2 * s.cnt
  rng : ∀ x ∈ s.l, (x : Int) ≤ 18446744073709551615
theorem encTo_is {m : Nat} {M : List Int} {ps : List (Nat × Nat)} (h : ∀ x ∈ M, I64 x) {k : Nat} (hk : k ≤ 16384) : EInv (encTo m M ps k) k := by
  obtain ⟨a, b, c, d⟩ := encTo_inv m M ps (fun k => cl_i64 h _) k (by omega)
  exact ⟨a, b, c, d⟩
end Gn
theorem nats_two (l : List Nat) (a b : Nat) {x y : Int} (hx : x = a) (hy : y = b) : nats l ++ [x, y] = nats (l ++ [a, b]) := by subst hx hy; simp [nats]
def TellsBytes (w : World) (xs : List Int) (e : Ending) (w' : World) : Prop := ∃ A c, e = .returned (.slice A xs.length c) ∧ Ow w' w.heap.size 5 .u8 A c xs ∧ Below w.heap.size w w'
set_option maxRecDepth 100000 in
set_option maxHeartbeats 4000000 in
theorem cert_octagon (n : Nat) (E : Bool) (A : Option Addr) (c : Nat) (M : List Int) (Ap : Option Addr) (cp : Nat) (w : World) (h : OctIn w w.heap.size A c n M) (hk : chk n E M = 0) (hn : n ≤ 64) (hp : RdP w w.heap.size Ap (pairs n)) :
    Calls Try.prog 40 #[.agg #[.int .i64 n, .bool E, .slice A M.length c], .slice Ap (pairs n).length cp] w (TellsBytes w (octB n E M)) := by
  obtain ⟨W, hW, h1, hB, hs⟩ := one_box w 55 n E (.slice A M.length c)
  have hU8 := Try.elU8
  have hU64 := Try.elU64
  rcases E with _ | _
  · obtain ⟨_, hnn, _, hE1, hE0⟩ := chk_zero hk
    obtain rfl : n = _ := by exact_mod_cast hnn
    obtain ⟨hl, hok⟩ := hE0 rfl
    have hlen : M.length = (2 * n) * (2 * n) := by rw [hl, sq2]
    have HL := Lib.hid hlen
    have HI : Hid (∀ k, k ≤ 16384 → EInv (encTo (2 * n) M (pairs n) k) k) := Lib.hid (fun k hk => encTo_is h.i64 hk)
    have HI64 : Hid (∀ p, I64 (nth M p)) := Lib.hid (cl_i64 h.i64)
    have hpl := pairs_small hn
    have HM : Hid (∀ k, k < (pairs n).length → pfst (pairs n) k < 2 * n ∧ psnd (pairs n) k < 2 * n) := Lib.hid (fun k hk => by
      have := pairs_mem.1 (pget_mem hk)
      exact ⟨this.1, this.2.1⟩)
    have HS : Hid (∀ k, encTo (2 * n) M (pairs n) (k + 1) = encStep (2 * n) M (pairs n) k (encTo (2 * n) M (pairs n) k)) := Lib.hid (fun k => rfl)
    have HR : Hid (octB n false M = [1] ++ put (encTo (2 * n) M (pairs n) (pairs n).length).cnt ++ putAll (encTo (2 * n) M (pairs n) (pairs n).length).l) := Lib.hid rfl
    have hM : (M.length : Int) ≤ 9223372036854775807 := h.len
    have hrd := (h.go hB).rd
    have hp1 := hp.go hB
    clear hlen hl hok hE0 hE1 hnn h hp hk
    obtain ⟨ps, hps⟩ : ∃ ps, ps = pairs n := ⟨_, rfl⟩
    rw [← hps] at HI HM HS HR hpl hp1 ⊢
    clear hps
    obtain ⟨r, hr⟩ : ∃ r, r = octB n false M := ⟨_, rfl⟩
    rw [← hr] at HR ⊢
    clear hr
    obtain ⟨enc, henc⟩ : ∃ enc, enc = encTo (2 * n) M ps := ⟨_, rfl⟩
    rw [← henc] at HI HS HR
    have HZ : Hid (enc 0 = ⟨[], 0, 0⟩) := Lib.hid (by rw [henc]; rfl)
    clear henc
    obtain ⟨k0, k1, k2⟩ := id h1
    go_enter Try.func40, Try.ntmps40
    go_wp2_with fail
    rw [← hW]
    clear hW
    go_loopw [5, 6, 7, 16] (fun s5 s6 s7 s16 wr => ∃ k : Nat, s16 = .int .i64 k ∧ k ≤ ps.length ∧ ∃ A1 c1, ∃ l : List Nat, ∃ nx ct : Nat, Hid (enc k = ⟨l, nx, ct⟩) ∧ ∃ xs : List Int, Hid (xs = nats l) ∧ s5 = .slice A1 xs.length c1 ∧ s6 = .int .i64 ((nx : Int) - 1) ∧ s7 = .int .i64 ct ∧ Ow wr W.heap.size 26 .u64 A1 c1 xs ∧ Below W.heap.size W wr) (fun _ _ _ s _ => ps.length - (intOf s).toNat)
    case atStart => exact ⟨0, rfl, by omega, none, 0, [], 0, 0, HZ, [], Lib.hid rfl, rfl, rfl, rfl, Ow.nil _ _ _ _, Below.refl _ _⟩
    case round =>
      obtain ⟨k, rfl, hk, A1, c1, l, nx, ct, HE, xs, HXS, rfl, rfl, rfl, hown, hBr⟩ := hrel
      rename_i wr _
      have hinv := HI.out k (by omega)
      rw [HE.out] at hinv
      obtain ⟨i1, i2, i3, i4⟩ := hinv
      dsimp only at i1 i2 i3 i4
      have hxl : xs.length = 2 * ct := by rw [HXS.out, nats_len]; exact i3
      rcases Nat.lt_or_ge k ps.length with hlt | hge
      · have q0 : decide (k < ps.length) = true := decide_eq_true hlt
        have q3 : (0 : Int) ≤ (k : Int) := by omega
        have q4 : (k : Int) < (ps.length : Int) := by omega
        have m0 := below_cell hBr k0
        have m2 := below_cell hBr k2
        obtain ⟨g, off, rfl, hg, hc⟩ := (hp1.go hBr) (by omega)
        obtain ⟨p0, p1⟩ := hc k hlt
        obtain ⟨b1, b2⟩ := HM.out k hlt
        have HST := Lib.hid (HS.out k)
        clear hc
        have HPF : Hid (pfst ps k = pfst ps k ∧ psnd ps k = psnd ps k) := Lib.hid ⟨rfl, rfl⟩
        obtain ⟨i, hi⟩ : ∃ i, i = pfst ps k := ⟨_, rfl⟩
        obtain ⟨j, hj⟩ : ∃ j, j = psnd ps k := ⟨_, rfl⟩
        rw [← hi] at p0 b1
        rw [← hj] at p1 b2
        have HV : Hid (nth M (i * (2 * n) + j) = cl (2 * n) M (pfst ps k) (psnd ps k)) := Lib.hid (by rw [hi, hj]; rfl)
        clear hi hj HPF
        have hpx : i * (2 * n) + j < M.length := by rw [HL.out]; exact idx_lt b1 b2
        obtain ⟨gm, om, hA, hgm, hcm⟩ := hrd (by omega)
        have n0 := (hBr.cell (p := ⟨gm, om + (i * (2 * n) + j), none⟩) hgm).trans (hcm _ hpx)
        have hvi := HI64.out (i * (2 * n) + j)
        have ei : 2 * (n : Int) * (i : Int) = ((i * (2 * n) : Nat) : Int) := by push_cast; rw [Int.mul_comm]
        have hq := Nat.mul_le_mul (show i ≤ 128 by omega) (show 2 * n ≤ 128 by omega)
        subst hA
        clear hcm hrd
        generalize nth M (i * (2 * n) + j) = v at *
        generalize i * (2 * n) = pp at *
        have hb3 : Below wr.heap.size wr (wr.alloc (.cells #[.int .i64 i, .int .i64 j] 84)) := (Below.refl _ _).alloc (Nat.le_refl _) _
        have hX := PrBox.new wr 84 i j
        obtain ⟨W3, hW3⟩ : ∃ W3, W3 = wr.alloc (.cells #[.int .i64 i, .int .i64 j] 84) := ⟨_, rfl⟩
        rw [← hW3] at hb3 hX
        obtain ⟨l0, l1, _⟩ := id hX
        have m0' := below_cell hb3 m0
        have m2' := below_cell hb3 m2
        have n0' := below_cell hb3 n0
        have hown3 := hown.below hb3
        have hB3 := hBr.trans (hb3.mono hBr.size)
        have HB3 := Lib.hid hB3
        have HO3 := Lib.hid hown3
        clear hBr hB3 hb3 hown hown3 m0 m2 n0 hp1
        rw [hW3] at l0 l1 m0' m2' n0'
        by_cases hv : v = 9223372036854775807
        · have q5 : (v == 9223372036854775807) = true := beq_iff_eq.2 hv
          have HN : Hid (enc (k + 1) = ⟨l, nx, ct⟩) := Lib.hid (by rw [HST.out, encStep_inf (by rw [← HV.out]; exact hv)]; exact HE.out)
          clear hv hvi
          go_wp2_with fail
          rw [← hW3]
          clear l0 l1 m0' m2' n0' hW3
          go_roundw
          case rel => exact ⟨k + 1, by go_num, by omega, A1, c1, l, nx, ct, HN, xs, HXS, rfl, rfl, rfl, HO3.out, HB3.out⟩
          case measure => simp [intOf]; omega
        · have q5 : (v == 9223372036854775807) = false := beq_eq_false_iff_ne.2 hv
          have hf := fold_u64 hvi
          have HN : Hid (enc (k + 1) = ⟨l ++ [k - nx, (fold v).toNat], k + 1, ct + 1⟩) := Lib.hid (by rw [HST.out, encStep_fin (by rw [← HV.out]; exact hv), HE.out, ← HV.out])
          have cF := fun W => fold_any v W hvi
          clear hv hvi
          have hsz : (xs.length + 2) * 8 ≤ 140737488355328 := by omega
          have HXL := Lib.hid hxl
          have HI3 := Lib.hid i3
          clear hxl i3
          have q6 : 0 ≤ (k : Int) - ((nx : Int) - 1) - 1 := by omega
          go_wp2_with fail
          rw [← hW3]
          rw [← hW3] at l0 l1 m0' m2' n0'
          clear hW3
          (with_reducible refine (cF _).mono ?_)
          rintro e w' ⟨rfl, rfl⟩
          clear cF l0 l1 m0' m2' n0'
          have hlit : Ow (W3.alloc (.cells #[.int .u64 ((k : Int) - ((nx : Int) - 1) - 1), .int .u64 (fold v)] 26)) W3.heap.size 26 .u64 (some ⟨W3.heap.size, 0, none⟩) 2 [(k : Int) - ((nx : Int) - 1) - 1, fold v] := Ow.lit W3 W3.heap.size 26 .u64 [(k : Int) - ((nx : Int) - 1) - 1, fold v] (Nat.le_refl _) (by unfold maxLen; simp)
          have hown4 := HO3.out.alloc (.cells #[.int .u64 ((k : Int) - ((nx : Int) - 1) - 1), .int .u64 (fold v)] 26)
          have hB4 := HB3.out.alloc HB3.out.size (.cells #[.int .u64 ((k : Int) - ((nx : Int) - 1) - 1), .int .u64 (fold v)] 26)
          have hr4 := hlit.rd
          have hbs4 := hB4.size
          generalize hF : fold v = fv at *
          clear hF
          go_wp2_with (at_builtin; refine wpList_appN hU64 (W3.alloc (.cells #[.int .u64 ((k : Int) - ((nx : Int) - 1) - 1), .int .u64 fv] 26)) rfl _ _ rfl W.heap.size .u64 A1 c1 xs rfl hown4 _ (some ⟨W3.heap.size, 0, none⟩) 2 [(k : Int) - ((nx : Int) - 1) - 1, fv] rfl hr4 hsz hbs4 ?_; intro A2 c2 w5 ho5 hb5)
          have HO5 := Lib.hid ho5
          have HB5 := Lib.hid (hB4.trans hb5)
          clear ho5 hb5 hB4 hown4 hlit hr4 hbs4
          go_roundw
          case rel => exact ⟨k + 1, by go_num, by omega, A2, c2, l ++ [k - nx, fv.toNat], k + 1, ct + 1, HN, xs ++ [(k : Int) - ((nx : Int) - 1) - 1, fv], Lib.hid (by rw [HXS.out]; exact nats_two l (k - nx) fv.toNat (by omega) (by omega)), val_slice (by simp), by congr 1; push_cast; omega, by go_num, HO5.out, HB5.out⟩
          case measure => simp [intOf]; omega
      · obtain rfl : k = ps.length := by omega
        have q0 : decide (ps.length < ps.length) = false := by simp
        have cP := fun W => code_Put ct W (by omega)
        have hpt := put_len10 (n := ct) (by omega)
        have cA : ∀ A c (W : World), Rd W W.heap.size .u64 A xs.length (nth xs) → Calls Try.prog 12 #[.slice A xs.length c] W fun e w' => ∃ A' c', e = .returned (.slice A' (putAll l).length c') ∧ Ow w' W.heap.size 5 .u8 A' c' (putAll l) ∧ Below W.heap.size W w' := fun A c W hr => by
          have hx2 : xs.length = l.length := by rw [HXS.out, nats_len]
          rw [hx2] at hr ⊢
          rw [HXS.out] at hr
          exact code_PutAll A c l W i4 hr (by omega)
        have hpa := putAll_len10 l i4
        have hxl2 : xs.length = l.length := by rw [HXS.out, nats_len]
        have HXL2 := Lib.hid hxl2
        have HRR := Lib.hid (show r = [1] ++ put ct ++ putAll l by rw [HR.out, HE.out])
        have HB1 := Lib.hid hB
        have HI3 := Lib.hid i3
        clear hge hk hxl hxl2 hB i3 i4
        have hlit : Ow (wr.alloc (.cells #[.int .u8 1] 5)) wr.heap.size 5 .u8 (some ⟨wr.heap.size, 0, none⟩) 1 [1] := Ow.lit wr wr.heap.size 5 .u8 [1] (Nat.le_refl _) (by unfold maxLen; simp)
        have hb4 : Below wr.heap.size wr (wr.alloc (.cells #[.int .u8 1] 5)) := (Below.refl _ _).alloc (Nat.le_refl _) _
        obtain ⟨W4, hW4⟩ : ∃ W4, W4 = wr.alloc (.cells #[.int .u8 1] 5) := ⟨_, rfl⟩
        rw [← hW4] at hlit hb4
        have HB4 := Lib.hid hb4
        have HBR := Lib.hid hBr
        have HLI := Lib.hid hlit
        have HOW := Lib.hid hown
        clear hlit hb4 hBr hown
        go_wp2_with fail
        rw [← hW4]
        clear hW4
        (with_reducible refine (cP _).mono ?_)
        rintro e w5 ⟨A5, c5, rfl, ho5, hb5⟩
        have hr5 := ho5.rd
        have hli5 := HLI.out.below hb5
        have HB5 := Lib.hid (HB4.out.trans (hb5.mono HB4.out.size))
        have hbs5 := HB5.out.size
        have hsz5 : (([1] : List Int).length + (put ct).length) * 1 ≤ 140737488355328 := by simp; omega
        have hpt2 : (([1] : List Int) ++ put ct).length ≤ 11 := by simp; omega
        clear hb5 ho5 cP
        obtain ⟨pc, hpc⟩ : ∃ pc, pc = put ct := ⟨_, rfl⟩
        rw [← hpc] at hr5 hsz5 hpt2 HRR ⊢
        clear hpc hpt
        go_wp2_with (at_builtin; refine wpList_appN hU8 w5 rfl _ _ rfl wr.heap.size .u8 (some ⟨wr.heap.size, 0, none⟩) 1 [1] rfl hli5 _ A5 c5 pc rfl hr5 hsz5 hbs5 ?_; intro A6 c6 w6 ho6 hb6)
        have HB6 := Lib.hid (HB5.out.trans hb6)
        have hr6 := (HOW.out.below HB6.out).rd
        have HO6 := Lib.hid ho6
        clear hb6 ho6 hr5 hli5 hsz5 hbs5
        (with_reducible refine (cA _ _ _ hr6).mono ?_)
        rintro e w7 ⟨A7, c7, rfl, ho7, hb7⟩
        have hr7 := ho7.rd
        have hli7 := HO6.out.below hb7
        have HB7 := Lib.hid (HB6.out.trans (hb7.mono HB6.out.size))
        have hbs7 := HB7.out.size
        have hsz7 : (([1] ++ pc : List Int).length + (putAll l).length) * 1 ≤ 140737488355328 := by have := HI3.out; omega
        clear hb7 ho7 cA hr6
        obtain ⟨bs, hbs⟩ : ∃ bs, bs = ([1] : List Int) ++ pc := ⟨_, rfl⟩
        have hpl : ([1] : List Int).length + pc.length = bs.length := by rw [hbs, List.length_append]
        rw [← hbs] at hli7 hsz7 HRR hpt2
        have hpl2 : 1 + pc.length = bs.length := by rw [← hpl]; rfl
        first | rw [hpl] | rw [hpl2]
        clear hbs hpl hpl2
        go_wp2_with (at_builtin; refine wpList_appN hU8 w7 rfl _ _ rfl wr.heap.size .u8 A6 c6 bs rfl hli7 _ A7 c7 (putAll l) rfl hr7 hsz7 hbs7 ?_; intro A8 c8 w8 ho8 hb8)
        have HB8 := Lib.hid (HB1.out.trans ((HBR.out.trans ((HB7.out.trans hb8).mono HBR.out.size)).mono HB1.out.size))
        have HO8 := Lib.hid ho8
        have HW := Lib.hid (Nat.le_trans HB1.out.size HBR.out.size)
        clear hb8 ho8 hr7 hli7 hsz7 hbs7
        go_ret
        rw [HRR.out]
        exact ⟨A8, c8, ret_slice (by simp), HO8.out.lower HW.out, HB8.out⟩
  · have HR : Hid (octB n true M = [0]) := Lib.hid rfl
    obtain ⟨r, hr⟩ : ∃ r, r = octB n true M := ⟨_, rfl⟩
    rw [← hr] at HR ⊢
    clear hr h hk hp
    obtain ⟨k0, k1, k2⟩ := id h1
    have hlit : Ow (W.alloc (.cells #[.int .u8 0] 5)) W.heap.size 5 .u8 (some ⟨W.heap.size, 0, none⟩) 1 [0] := Ow.lit W W.heap.size 5 .u8 [0] (Nat.le_refl _) (by unfold maxLen; simp)
    have hb4 : Below W.heap.size W (W.alloc (.cells #[.int .u8 0] 5)) := (Below.refl _ _).alloc (Nat.le_refl _) _
    obtain ⟨W4, hW4⟩ : ∃ W4, W4 = W.alloc (.cells #[.int .u8 0] 5) := ⟨_, rfl⟩
    rw [← hW4] at hlit hb4
    have HB4 := Lib.hid (hB.trans (hb4.mono hB.size))
    have HLI := Lib.hid (hlit.lower hB.size)
    clear hlit hb4 hB
    go_enter Try.func40, Try.ntmps40
    rw [hW] at k0 k1 k2
    go_wp2_with fail
    rw [← hW]
    rw [← hW4]
    clear hW hW4
    go_ret
    rw [HR.out]
    exact ⟨_, _, rfl, by rw [← hs]; exact HLI.out, HB4.out⟩
end Go.Proofs.Ytghpiofjejhegaa

/- dbm.Cells: what its iterator gives a loop's body: each pair whose cell is not Inf, in order. -/
import Derived.Test.YtkgddgckilledaaDca
import Derived.Test.YtkgddgckilledaaCef
import Derived.Test.YtkgddgckilledaaFky
import Derived.Test.YtkgddgckilledaaQy
import Derived.Sort.CutIn
import Derived.Laws.StructEq
namespace Go.Proofs.Ytkgddgckilledaa
open Go.RowKit
attribute [local go_sem] Oper.semAt_some
set_option linter.unusedVariables false
set_option linter.unusedSimpArgs false
open Gn
namespace Gn
theorem rowP_pre (i : Nat) {k k' : Nat} (h : k ≤ k') : rowP i k <+: rowP i k' := by
  induction h with
  | refl => exact List.prefix_refl _
  | step _ ih =>
    refine ih.trans ?_
    rw [rowP_succ]
    split
    · exact List.prefix_append _ _
    · exact List.prefix_refl _
theorem pairsTo_pre (n : Nat) {k k' : Nat} (h : k ≤ k') : pairsTo n k <+: pairsTo n k' := by
  induction h with
  | refl => exact List.prefix_refl _
  | step _ ih =>
    refine ih.trans ?_
    rw [pairsTo_succ]
    exact List.prefix_append _ _
theorem cells_pre {n i j : Nat} {f : Nat × Nat → Bool} (hi : i < 2 * n) (hj : j < 2 * n) : (pairsTo n i).filter f ++ (rowP i (j + 1)).filter f <+: (pairs n).filter f := by
  have h1 := (pairsTo_pre n (show i + 1 ≤ 2 * n by omega)).filter f
  rw [pairsTo_succ, List.filter_append] at h1
  exact (List.prefix_append_right_inj _ |>.2 ((rowP_pre i (show j + 1 ≤ 2 * n by omega)).filter f)).trans h1
theorem skipE {i j : Nat} {x : Int} : (isP i j = true ∧ x ≠ 9223372036854775807) ↔ ¬ ((i = j) ∨ (fst2 i j = false) ∨ x = 9223372036854775807) := by
  unfold isP
  by_cases h : i = j <;> cases fst2 i j <;> simp [h]
end Gn
theorem run_eql2 (t : TypeId) (hu : Try.prog.underlying t = some (.array 2 3)) (x1 x2 y1 y2 : Int) (w : World) :
    (Op.equalIn 10000 t (.agg #[.int .i64 x1, .int .i64 x2]) (.agg #[.int .i64 y1, .int .i64 y2])).run Try.prog w = .ok (decide (x1 = y1 ∧ x2 = y2)) w := by
  have he : ∀ a b : Int, ∀ W : World, (Op.equalIn 9999 3 (.int .i64 a) (.int .i64 b)).run Try.prog W = .ok (a == b) W := fun a b W => run_equalIn_int W 9998 3 .i64 .i64 a b (by kernel_rfl)
  have hs : ∀ W : World, (sizeOf 3).run Try.prog W = .ok 1 W := fun W => by kernel_rfl
  have p0 : ∀ (a b : Int) (W : World), (part 3 #[.int .i64 a, .int .i64 b] 0).run Try.prog W = .ok (.int .i64 a) W := fun _ _ _ => by kernel_rfl
  have p1 : ∀ (a b : Int) (W : World), (part 3 #[.int .i64 a, .int .i64 b] 1).run Try.prog W = .ok (.int .i64 b) W := fun _ _ _ => by kernel_rfl
  rw [show (10000 : Nat) = 9999 + 1 from rfl]
  unfold Op.equalIn
  simp only [Sem.run_bind, run_underlying hu, Result.andThen_ok, hs]
  simp only [Std.Legacy.Range.forIn_eq_forIn_range', Std.Legacy.Range.size]
  simp [List.range'_succ, p0, p1, he, Sem.run_bind]
  by_cases h1 : x1 = y1 <;> by_cases h2 : x2 = y2 <;> simp [h1, h2, he, p0, p1]
theorem ulCell : Try.prog.underlying 64 = some (.array 2 3) := by kernel_rfl
theorem callsIn_w {n : Nat} {P : Program} {f : FuncId} {args : Array Value} {w : World} {R R' : Ending → World → Prop} (h : Calls P f args w R) (hr : ∀ e w', R e w' → R' e w') : CallsIn Fence.wide n P f args w R' := callsIn_wide.2 (h.mono hr)
theorem abide_below {β : Type} {B : Nat} {J : β → World → Prop} (hJ : AbidesFrom B J) {s : β} {X Y : World} (h : J s X) (hb : Below X.heap.size X Y) : J s Y :=
  hJ s X Y none h ⟨hb.1, hb.2, hb.3, hb.size, fun k hk _ => hb.block k hk⟩ (fun r e => by cases e)
/-- What the iterator needs: all below nM, and the box that it holds, are as they were. -/
structure Kx (nM Bo : Nat) (X Y : World) : Prop where
  size : X.heap.size ≤ Y.heap.size
  low : ∀ k, k < nM → Y.heap[k]? = X.heap[k]?
  own : Y.heap[Bo]? = X.heap[Bo]?
theorem Kx.of {nM Bo : Nat} {X Y : World} (hM : nM ≤ X.heap.size) (hBo : Bo < X.heap.size) (h : Below X.heap.size X Y) : Kx nM Bo X Y := ⟨h.size, fun k hk => h.block k (by omega), h.block Bo hBo⟩
theorem Kx.trans {nM Bo : Nat} {X Y Z : World} (h : Kx nM Bo X Y) (k : Kx nM Bo Y Z) : Kx nM Bo X Z := ⟨Nat.le_trans h.size k.size, fun i hi => (k.low i hi).trans (h.low i hi), k.own.trans h.own⟩
theorem Kx.go {nM Bo : Nat} {X Y Z : World} (h : Kx nM Bo X Y) (hM : nM ≤ X.heap.size) (hBo : Bo < X.heap.size) (hb : Below Y.heap.size Y Z) : Kx nM Bo X Z := h.trans (Kx.of (Nat.le_trans hM h.size) (Nat.lt_of_lt_of_le hBo h.size) hb)
theorem Kx.cell {nM Bo : Nat} {X Y : World} (h : Kx nM Bo X Y) {p : Addr} (hp : p.block < nM) : Y.cell? p = X.cell? p := World.cell?_of_block (h.low _ hp)
theorem Kx.box {nM Bo : Nat} {X Y : World} (h : Kx nM Bo X Y) (p : Addr) (hp : p.block = Bo) : Y.cell? p = X.cell? p := World.cell?_of_block (by rw [hp]; exact h.own)
theorem Kx.ofBelow {n0 Bo : Nat} {X Y : World} (hBo : Bo < n0) (h : Below n0 X Y) : Kx n0 Bo X Y := ⟨h.size, fun k hk => h.block k hk, h.block Bo hBo⟩
set_option maxRecDepth 100000 in
set_option maxHeartbeats 8000000 in
theorem cells1_in (N : Int) (E : Bool) (A : Option Addr) (c : Nat) (M : List Int) (nM l Bo : Nat) (J Jx : List (Nat × Nat) → World → Prop) (W : World) (hBo : Bo < W.heap.size) (hn0 : nM ≤ W.heap.size) (hbox : OctAt W Bo N E (.slice A M.length c)) (ho : OctIn W nM A c N M)
    (hJ : AbidesFrom W.heap.size J)
    (hY : ∀ pre x W1, x ∈ cellsL N E M → J pre W1 → pre.length < (cellsL N E M).length → YieldAt Fence.wide 4 Try.prog l #[.agg #[.int .i64 x.1, .int .i64 x.2], .int .i64 (cl (2 * N.toNat) M x.1 x.2)] W1 fun e W' =>
      (e = .returned (.bool true) ∧ J (pre ++ [x]) W' ∧ Kx nM Bo W1 W') ∨ (e = .returned (.bool false) ∧ Jx (pre ++ [x]) W'))
    (h0 : J [] W) :
    CallsIn Fence.wide 5 Try.prog 33 #[.func (.yield l) #[] #[], .pointer (some ⟨Bo, 0, none⟩)] W fun e W' => (∃ v, e = .returned v) ∧
      ((∃ xs, xs = cellsL N E M ∧ J xs W') ∨ (∃ pre, pre <+: cellsL N E M ∧ Jx pre W')) := by
  have cC := dbm_Check A c N E M W (ho.more hn0)
  have cB : ∀ X, Below W.heap.size W X → OctAt X Bo N E (.slice A M.length c) := fun X hX => hbox.below hX
  have cJ : ∀ X, Below W.heap.size W X → J [] X := fun X hX => abide_below hJ h0 hX
  by_cases hc : chk N E M = 0 ∧ E = false
  · obtain ⟨hc1, rfl⟩ := hc
    obtain ⟨n, rfl, hn, hE1, hE0⟩ := chk_zero hc1
    have HC := Lib.hid (cellsL_ok hc1)
    rw [hc1] at cC
    obtain ⟨hl, hok⟩ := hE0 rfl
    have HL := Lib.hid (show M.length = (2 * n) * (2 * n) by rw [hl, sq2])
    have hM : (M.length : Int) ≤ 9223372036854775807 := ho.len
    have hcm : M.length ≤ c := ho.le
    have hrd := ho.rd
    have e2 : 2 * (n : Int).toNat = 2 * n := by simp
    rw [e2] at hY
    clear hc1 hE1 hE0 hl hok e2
    refine callsIn_of_wp Try.func33 rfl trivial ?_ rfl
    simp only [Try.ntmps33, List.size_toArray, List.length_cons, List.length_nil, Nat.reduceAdd, Nat.reduceSub, Array.replicate_succ, Array.replicate_zero, List.push_toArray, List.append_toArray, List.nil_append, List.cons_append]
    obtain ⟨k0, k1, k2⟩ := id hbox
    gi_wp2_with (refine ⟨trivial, ?_⟩; gi_at_call 19; refine callsIn_w cC ?_; clear cC; rintro e w1 ⟨rfl, hb1⟩; have hJ1 := Lib.hid (cJ w1 hb1); obtain ⟨m0, m1, m2⟩ := id (cB w1 hb1))
    have hB1 := Kx.of hn0 hBo hb1
    clear k0 k1 k2 cJ
    gi_loopw [17] (fun s wr => ∃ i : Nat, s = .int .i64 i ∧ i ≤ 2 * n ∧ Kx nM Bo W wr ∧ Hid (J ((pairsTo n i).filter (fin2 (2 * n) M)) wr)) (fun s _ => 2 * n - (Go.RowKit.intOf s).toNat)
    case atStart => exact ⟨0, rfl, by omega, hB1, Lib.hid hJ1.out⟩
    case round =>
      clear hJ1 hB1 hb1 m0 m1 m2
      obtain ⟨i, rfl, hi, hB, hJi⟩ := hrel
      have m0 := (hB.box ⟨Bo, 0, none⟩ rfl).trans hbox.c0
      rcases Nat.lt_or_ge i (2 * n) with hlt | hge
      · have hdi : decide ((i : Int) < 2 * (n : Int)) = true := decide_eq_true (by omega)
        gi_wp2
        gi_loopw [23] (fun s wr => ∃ j : Nat, s = .int .i64 j ∧ j ≤ 2 * n ∧ Kx nM Bo W wr ∧ Hid (J ((pairsTo n i).filter (fin2 (2 * n) M) ++ (rowP i j).filter (fin2 (2 * n) M)) wr)) (fun s _ => 2 * n - (Go.RowKit.intOf s).toNat)
        case atStart => exact ⟨0, rfl, by omega, hB, Lib.hid (by rw [rowP_zero]; simpa using hJi.out)⟩
        case round =>
          clear hB hJi m0
          obtain ⟨j, rfl, hj, hB, hJj⟩ := hrel
          have m0 := (hB.box ⟨Bo, 0, none⟩ rfl).trans hbox.c0
          have m2 := (hB.box ⟨Bo, 2, none⟩ rfl).trans hbox.c2
          rcases Nat.lt_or_ge j (2 * n) with hjl | hjg
          · have hdj : decide ((j : Int) < 2 * (n : Int)) = true := decide_eq_true (by omega)
            have hix : i * (2 * n) + j < (2 * n) * (2 * n) := idx_lt hlt hjl
            have hp : i * (2 * n) + j < M.length := by rw [HL.out]; exact hix
            obtain ⟨g, off, rfl, hg, hcell⟩ := hrd (by omega)
            have hcv : wr.cell? ⟨g, off + (i * (2 * n) + j), none⟩ = some (Value.int .i64 (cl (2 * n) M i j)) := (hB.cell (p := ⟨g, off + (i * (2 * n) + j), none⟩) hg).trans (hcell _ hp)
            have HP := Lib.hid (cells_pre (f := fin2 (2 * n) M) hlt hjl)
            have HS := Lib.hid (rowF_succ (2 * n) M i j)
            have cM := fun X => cell_mirror i j X (by omega) (by omega)
            have cA := fun X => cell_ahead (ac j) (ac i) i j X
            rw [fst2_ahead] at cA
            have cT := fun X => cell_at i j n X (by omega) (by omega) (by omega)
            have hYc := fun W1 => hY ((pairsTo n i).filter (fin2 (2 * n) M) ++ (rowP i j).filter (fin2 (2 * n) M)) (i, j) W1
            dsimp only at hYc
            generalize cl (2 * n) M i j = v at *
            clear hix hcell hrd hY
            obtain ⟨z, hz⟩ : ∃ z : Bool, z = !(isP i j && decide (v ≠ 9223372036854775807)) := ⟨_, rfl⟩
            have HZ := Lib.hid hz
            clear hz
            have hgl : g < wr.heap.size := World.block_lt_of_cell? wr _ hcv
            have hBl : Bo < wr.heap.size := World.block_lt_of_cell? wr _ m0
            gi_upto_region 8 with fail
            obtain ⟨X1, hX1⟩ : ∃ X1, X1 = wr.alloc (.cells #[.int .i64 i, .int .i64 j] /-T-/64) := ⟨_, rfl⟩
            have f0 : X1.cell? ⟨wr.heap.size, 0, none⟩ = some (.int .i64 i) := by rw [hX1]; simp [go_sem]
            have f1 : X1.cell? ⟨wr.heap.size, 1, none⟩ = some (.int .i64 j) := by rw [hX1]; simp [go_sem]
            have hX : Below wr.heap.size wr X1 := by rw [hX1]; exact (Below.refl _ _).alloc (Nat.le_refl _) _
            rw [← hX1]
            clear hX1
            gi_upto_region 9 with (refine ⟨trivial, ?_⟩; gi_at_call 34; refine callsIn_w (cM X1) ?_; clear cM; rintro e w2 ⟨rfl, hb2⟩)
            obtain ⟨X2, hX2⟩ : ∃ X2, X2 = w2.alloc (.cells #[.int .i64 (ac j), .int .i64 (ac i)] /-T-/64) := ⟨_, rfl⟩
            have hB2 : Below wr.heap.size wr X2 := by rw [hX2]; exact (hX.trans (hb2.mono hX.size)).alloc (by have := hX.size; have := hb2.size; omega) _
            have hw2 : wr.heap.size < w2.heap.size := Nat.lt_of_lt_of_le (World.block_lt_of_cell? X1 ⟨wr.heap.size, 0, none⟩ f0) hb2.size
            have g0 : X2.cell? ⟨w2.heap.size, 0, none⟩ = some (.int .i64 (ac j)) := by rw [hX2]; simp [go_sem]
            have g1 : X2.cell? ⟨w2.heap.size, 1, none⟩ = some (.int .i64 (ac i)) := by rw [hX2]; simp [go_sem]
            have hb3 : Below w2.heap.size w2 X2 := by rw [hX2]; exact (Below.refl _ _).alloc (Nat.le_refl _) _
            have f2 := below_cell hb3 (below_cell hb2 f0)
            have f3 := below_cell hb3 (below_cell hb2 f1)
            have n0' := below_cell hB2 m0
            have n2' := below_cell hB2 m2
            have hcv2 := below_cell hB2 hcv
            rw [← hX2]
            clear hX2 hX hb2 hb3 f0 f1
            gi_cut [54] from 1000 (fun s wx => s = .bool z ∧ Below X2.heap.size X2 wx)
            case first =>
              have a0 := After.cell n0'
              have a2 := After.cell n2'
              have a3 := After.cell hcv2
              have a4 := After.cell f2
              have a5 := After.cell f3
              have a6 := After.cell g0
              have a7 := After.cell g1
              have hne : ∀ W, (binOp .neq 64 (.agg #[.int .i64 i, .int .i64 j]) (.agg #[.int .i64 (ac j), .int .i64 (ac i)])).run Try.prog W = .ok (.bool (!decide ((i : Int) = (ac j : Int) ∧ (j : Int) = (ac i : Int)))) W := fun W => by rw [run_neq_struct, run_eql2 _ ulCell]; rfl
              have q2 : (0 : Int) ≤ ((i * (2 * n) + j : Nat) : Int) := by omega
              have q1 : ((i * (2 * n) + j : Nat) : Int) < (M.length : Int) := by omega
              generalize i * (2 * n) + j = p at *
              clear hYc HP n0' n2' hcv2 f2 f3 g0 g1 hcv m0 m2 hJj
              refine wpIn_wide.2 ?_
              by_cases hij : i = j
              · have d1 : ((i : Int) == (j : Int)) = true := beq_iff_eq.2 (by omega)
                have HZ2 := Lib.hid (show true = z by rw [HZ.out]; unfold isP; simp [hij])
                refine wp_region_after (by kernel_rfl) (by kernel_rfl) ?_
                repeat (go_big_quiet_step (fail))
                refine wpQuiet_nil ?_
                intro w5 hb5
                gi_wp2
                gi_meet
                exact ⟨by rw [HZ2.out], hb5⟩
              · have d1 : ((i : Int) == (j : Int)) = false := beq_eq_false_iff_ne.2 (by omega)
                by_cases hm : ac j = i ∧ ac i = j
                · have d2 : decide ((i : Int) = (ac j : Int) ∧ (j : Int) = (ac i : Int)) = true := decide_eq_true ⟨by omega, by omega⟩
                  have hf : fst2 i j = true := by unfold fst2; exact decide_eq_true (.inr ⟨by omega, by omega⟩)
                  rw [d2, Bool.not_true] at hne
                  by_cases hv : v = 9223372036854775807
                  · have d3 : (v == 9223372036854775807) = true := beq_iff_eq.2 hv
                    have HZ2 := Lib.hid (show true = z by rw [HZ.out]; unfold isP; simp [hv])
                    clear hv hf hm d2 hij
                    refine wp_region_after (by kernel_rfl) (by kernel_rfl) ?_
                    repeat (go_big_quiet_step ((go_at_call 36; with_reducible exact after_of (cT _))))
                    refine wpQuiet_nil ?_
                    intro w5 hb5
                    gi_wp2
                    gi_meet
                    exact ⟨by rw [HZ2.out], hb5⟩
                  · have d3 : (v == 9223372036854775807) = false := beq_eq_false_iff_ne.2 hv
                    have HZ2 := Lib.hid (show false = z by rw [HZ.out]; unfold isP; simp [hv, hij, hf])
                    clear hv hf hm d2 hij
                    refine wp_region_after (by kernel_rfl) (by kernel_rfl) ?_
                    repeat (go_big_quiet_step ((go_at_call 36; with_reducible exact after_of (cT _))))
                    refine wpQuiet_nil ?_
                    intro w5 hb5
                    gi_wp2
                    gi_meet
                    exact ⟨by rw [HZ2.out], hb5⟩
                · have d2 : decide ((i : Int) = (ac j : Int) ∧ (j : Int) = (ac i : Int)) = false := decide_eq_false (fun h => hm ⟨by omega, by omega⟩)
                  rw [d2, Bool.not_false] at hne
                  clear hm d2
                  obtain ⟨f, hf⟩ : ∃ f, f = fst2 i j := ⟨_, rfl⟩
                  rw [← hf] at cA
                  rcases f with _ | _
                  · have HZ2 := Lib.hid (show true = z by rw [HZ.out]; unfold isP; simp [← hf])
                    clear hf hij
                    refine wp_region_after (by kernel_rfl) (by kernel_rfl) ?_
                    repeat (go_big_quiet_step ((go_at_call 35; with_reducible exact after_of (cA _))))
                    refine wpQuiet_nil ?_
                    intro w5 hb5
                    gi_wp2
                    gi_meet
                    exact ⟨by rw [HZ2.out], hb5⟩
                  · by_cases hv : v = 9223372036854775807
                    · have d3 : (v == 9223372036854775807) = true := beq_iff_eq.2 hv
                      have HZ2 := Lib.hid (show true = z by rw [HZ.out]; unfold isP; simp [hv])
                      clear hv hf hij
                      refine wp_region_after (by kernel_rfl) (by kernel_rfl) ?_
                      repeat (go_big_quiet_step (first | (go_at_call 35; with_reducible exact after_of (cA _)) | (go_at_call 36; with_reducible exact after_of (cT _))))
                      refine wpQuiet_nil ?_
                      intro w5 hb5
                      gi_wp2
                      gi_meet
                      exact ⟨by rw [HZ2.out], hb5⟩
                    · have d3 : (v == 9223372036854775807) = false := beq_eq_false_iff_ne.2 hv
                      have HZ2 := Lib.hid (show false = z by rw [HZ.out]; unfold isP; simp [hv, hij, ← hf])
                      clear hv hf hij
                      refine wp_region_after (by kernel_rfl) (by kernel_rfl) ?_
                      repeat (go_big_quiet_step (first | (go_at_call 35; with_reducible exact after_of (cA _)) | (go_at_call 36; with_reducible exact after_of (cT _))))
                      refine wpQuiet_nil ?_
                      intro w5 hb5
                      gi_wp2
                      gi_meet
                      exact ⟨by rw [HZ2.out], hb5⟩
            case rest =>
              obtain ⟨rfl, hb5⟩ := hcut
              clear cA
              have hB5 := hB2.trans (hb5.mono hB2.size)
              clear hB2 n0' n2' hcv2 g0 g1 hw2
              have p0 := below_cell hB5 m0
              have p2 := below_cell hB5 m2
              have p3 := below_cell hB5 hcv
              have p4 := below_cell hb5 f2
              have p5 := below_cell hb5 f3
              clear m0 m2 hcv f2 f3 hb5
              have hN5 : Kx nM Bo W wc := hB.go hn0 hBo hB5
              have hJ5 := abide_below hJ hJj.out hB5
              clear hB hJj hB5
              cases z with
              | true =>
                have HK := Lib.hid (show (rowP i (j + 1)).filter (fin2 (2 * n) M) = (rowP i j).filter (fin2 (2 * n) M) by
                  rw [HS.out, if_neg (fun h => by have := HZ.out; rw [h.1, decide_eq_true h.2] at this; cases this), List.append_nil])
                have HJ := Lib.hid hJ5
                clear hYc HP HS HZ hJ5 p3
                gi_wp2
                go_roundw
                case rel => exact ⟨j + 1, by go_num, by omega, hN5, Lib.hid (by rw [HK.out]; exact HJ.out)⟩
                case measure => simp [Go.RowKit.intOf]; omega
              | false =>
                have HK := Lib.hid (show (rowP i (j + 1)).filter (fin2 (2 * n) M) = (rowP i j).filter (fin2 (2 * n) M) ++ [(i, j)] by
                  have h := HZ.out
                  cases h1 : isP i j with
                  | false => rw [h1] at h; cases h
                  | true =>
                    rw [h1, Bool.true_and] at h
                    rw [HS.out, if_pos ⟨h1, by simpa using h⟩])
                clear HS HZ
                have hlen : ((pairsTo n i).filter (fin2 (2 * n) M) ++ (rowP i j).filter (fin2 (2 * n) M)).length < (cellsL n false M).length := by
                  have h1 := HP.out
                  rw [HK.out, ← List.append_assoc] at h1
                  have h2 := h1.length_le
                  rw [HC.out]
                  simp only [List.length_append, List.length_cons, List.length_nil] at h2 ⊢
                  omega
                have hmem : (i, j) ∈ cellsL n false M := by
                  have h1 := HP.out
                  rw [HK.out, ← HC.out] at h1
                  exact h1.subset (by simp)
                have hyc := fun W1 h => hYc W1 hmem h hlen
                clear hmem
                clear hlen hYc
                have q2 : (0 : Int) ≤ ((i * (2 * n) + j : Nat) : Int) := by omega
                have q1 : ((i * (2 * n) + j : Nat) : Int) < (M.length : Int) := by omega
                generalize i * (2 * n) + j = p at *
                gi_upto_region 10 with fail
                refine wpIn_region_yield 10 (by kernel_rfl) (by kernel_rfl) ?_
                simp only [List.take_succ_cons, List.take_zero, List.drop_succ_cons, List.drop_zero]
                have a0 := After.cell p0
                have a2 := After.cell p2
                have a3 := After.cell p3
                have a4 := After.cell p4
                have a5 := After.cell p5
                repeat (go_big_quiet_step ((go_at_call 36; with_reducible exact after_of (cT _))))
                refine wpQuiet_nil ?_
                intro w6 hb6
                have hN6 := Lib.hid (hN5.go hn0 hBo hb6)
                obtain ⟨fn, tmps, assign, body, hy, hR⟩ := hyc w6 (abide_below hJ hJ5 hb6)
                clear a0 a2 a3 a4 a5 p0 p2 p3 p4 p5 hyc hJ5 hN5 hb6
                gi_wp2
                refine hR.mono ?_
                rintro e W3 (⟨rfl, hJ3, hk3⟩ | ⟨rfl, hJx3⟩)
                · have HJ3 := Lib.hid hJ3
                  have hN7 := hN6.out.trans hk3
                  clear hJ3 hk3 hR hy
                  gi_wp2
                  go_roundw
                  case rel => exact ⟨j + 1, by go_num, by omega, hN7, Lib.hid (by rw [HK.out, ← List.append_assoc]; exact HJ3.out)⟩
                  case measure => simp [Go.RowKit.intOf]; omega
                · have HJx3 := Lib.hid hJx3
                  clear hJx3 hR hy
                  gi_wp2
                  refine bodyPost_ret (results_none rfl _ _ _) rfl ?_
                  exact ⟨⟨_, rfl⟩, .inr ⟨_, by have h1 := HP.out; rw [HK.out, ← List.append_assoc, ← HC.out] at h1; exact h1, HJx3.out⟩⟩
          · obtain rfl : j = 2 * n := by omega
            have hdj : decide (((2 * n : Nat) : Int) < 2 * (n : Int)) = false := decide_eq_false (by omega)
            gi_wp2
            go_roundw
            case rel => exact ⟨i + 1, by go_num, by omega, hB, Lib.hid (by rw [pairsTo_succ, List.filter_append]; exact hJj.out)⟩
            case measure => simp [Go.RowKit.intOf]; omega
      · obtain rfl : i = 2 * n := by omega
        have hdi : decide (((2 * n : Nat) : Int) < 2 * (n : Int)) = false := decide_eq_false (by omega)
        gi_wp2
        go_end0
        exact ⟨⟨_, rfl⟩, .inl ⟨_, rfl, by rw [HC.out]; exact hJi.out⟩⟩
  · have HN := Lib.hid (cellsL_none hc)
    have hq : (chk N E M != 0) = true ∨ E = true := by
      by_cases h : chk N E M = 0
      · right
        rcases E with _ | _
        · exact absurd ⟨h, rfl⟩ hc
        · rfl
      · left; exact bne_iff_ne.2 h
    clear hc hY
    refine callsIn_of_wp Try.func33 rfl trivial ?_ rfl
    simp only [Try.ntmps33, List.size_toArray, List.length_cons, List.length_nil, Nat.reduceAdd, Nat.reduceSub, Array.replicate_succ, Array.replicate_zero, List.push_toArray, List.append_toArray, List.nil_append, List.cons_append]
    obtain ⟨k0, k1, k2⟩ := id hbox
    generalize chk N E M = q at *
    rcases Bool.eq_false_or_eq_true (q != 0) with hq1 | hq1
    · gi_wp2_with (refine ⟨trivial, ?_⟩; gi_at_call 19; refine callsIn_w cC ?_; clear cC; rintro e w1 ⟨rfl, hb1⟩; have hJ1 := Lib.hid (cJ w1 hb1); obtain ⟨m0, m1, m2⟩ := id (cB w1 hb1))
      refine bodyPost_ret (results_none rfl _ _ _) rfl ?_
      exact ⟨⟨_, rfl⟩, .inl ⟨_, rfl, by rw [HN.out]; exact hJ1.out⟩⟩
    · obtain rfl : E = true := by
        rcases hq with h | h
        · rw [hq1] at h; cases h
        · exact h
      gi_wp2_with (refine ⟨trivial, ?_⟩; gi_at_call 19; refine callsIn_w cC ?_; clear cC; rintro e w1 ⟨rfl, hb1⟩; have hJ1 := Lib.hid (cJ w1 hb1); obtain ⟨m0, m1, m2⟩ := id (cB w1 hb1))
      refine bodyPost_ret (results_none rfl _ _ _) rfl ?_
      exact ⟨⟨_, rfl⟩, .inl ⟨_, rfl, by rw [HN.out]; exact hJ1.out⟩⟩
theorem cells_stops (N : Int) (E : Bool) (A : Option Addr) (c : Nat) (M : List Int) (Bo : Nat) (w : World) (hBo : Bo < w.heap.size) (hbox : OctAt w Bo N E (.slice A M.length c)) (ho : OctIn w w.heap.size A c N M) :
    SeqStopsK Fence.wide 5 Try.prog 33 #[.pointer (some ⟨Bo, 0, none⟩)] (fun x : Nat × Nat => #[.agg #[.int .i64 x.1, .int .i64 x.2], .int .i64 (cl (2 * N.toNat) M x.1 x.2)]) (Below w.heap.size) (fun xs => xs = cellsL N E M) (fun pre => pre <+: cellsL N E M) (cellsL N E M).length w := fun l J Jx W hW hJ _ hY h0 =>
  cells1_in N E A c M w.heap.size l Bo J Jx W (Nat.lt_of_lt_of_le hBo hW.size) hW.size (hbox.below hW) (ho.below hW) hJ (fun pre x W1 _ h hl => (hY pre x W1 h hl).mono fun e W' h' => by
    rcases h' with ⟨h1, h2, h3⟩ | h'
    · exact .inl ⟨h1, h2, Kx.ofBelow hBo h3⟩
    · exact .inr h') h0
/-- The same, where the body is told that what comes is a pair of the octagon's. -/
theorem cells_stopsS (N : Int) (E : Bool) (A : Option Addr) (c : Nat) (M : List Int) (nM Bo : Nat) (w : World) (hBo : Bo < w.heap.size) (hn : nM ≤ w.heap.size) (hbox : OctAt w Bo N E (.slice A M.length c)) (ho : OctIn w nM A c N M) :
    SeqStopsK Fence.wide 5 Try.prog 33 #[.pointer (some ⟨Bo, 0, none⟩)] (fun x : {p : Nat × Nat // p ∈ cellsL N E M} => #[.agg #[.int .i64 x.1.1, .int .i64 x.1.2], .int .i64 (cl (2 * N.toNat) M x.1.1 x.1.2)]) (Kx nM Bo) (fun xs => xs.map Subtype.val = cellsL N E M) (fun _ => True) (cellsL N E M).length w := fun l J Jx W hW hJ _ hY h0 =>
  (cells1_in N E A c M nM l Bo (fun pre X => ∃ ss : List {p : Nat × Nat // p ∈ cellsL N E M}, ss.map Subtype.val = pre ∧ J ss X) (fun pre X => ∃ ss : List {p : Nat × Nat // p ∈ cellsL N E M}, ss.map Subtype.val = pre ∧ Jx ss X) W (Nat.lt_of_lt_of_le hBo hW.size) (Nat.le_trans hn hW.size) (hbox.below hW) (ho.below (hW.mono hn))
    (fun s X Y row ⟨ss, e, h⟩ hg hr => ⟨ss, e, hJ ss X Y row h hg hr⟩)
    (fun pre x W1 hx ⟨ss, e, h⟩ hl => (hY ss ⟨x, hx⟩ W1 h (by rw [← e, List.length_map] at hl; exact hl)).mono fun e' W' h' => by
      rcases h' with ⟨h1, h2, h3⟩ | ⟨h1, h2⟩
      · exact .inl ⟨h1, ⟨ss ++ [⟨x, hx⟩], by rw [List.map_append, e]; rfl, h2⟩, h3⟩
      · exact .inr ⟨h1, ⟨ss ++ [⟨x, hx⟩], by rw [List.map_append, e]; rfl, h2⟩⟩)
    ⟨[], rfl, h0⟩).mono fun e W' h => by
      obtain ⟨hv, h⟩ := h
      refine ⟨hv, ?_⟩
      rcases h with ⟨xs, rfl, ss, e1, h⟩ | ⟨pre, _, ss, _, h⟩
      · exact .inl ⟨ss, e1, h⟩
      · exact .inr ⟨ss, trivial, h⟩
theorem dbm_Cells (N : Int) (E : Bool) (v : Value) (w : World) :
    Calls Try.prog 11 #[.agg #[.int .i64 N, .bool E, v]] w fun e w' => e = .returned (.func (.func 33) #[] #[.pointer (some ⟨w.heap.size, 0, none⟩)]) ∧ w' = w.alloc (.cells #[.int .i64 N, .bool E, v] /-T-/24) := by
  go_enter Try.func11, Try.ntmps11
  go_wp2_with fail
  go_ret
  exact ⟨rfl, rfl⟩
end Go.Proofs.Ytkgddgckilledaa

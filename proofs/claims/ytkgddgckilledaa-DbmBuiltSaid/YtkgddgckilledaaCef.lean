/- The walk of gnomonref12.Cells: the cells that are not Inf. -/
import Derived.Test.YtkgddgckilledaaCec
namespace Go.Proofs.Ytkgddgckilledaa
open Go.RowKit
set_option linter.unusedVariables false
set_option linter.unusedSimpArgs false
open Gn
namespace Gn
/-- The pairs whose cells an octagon tells. -/
def cellsL (N : Int) (E : Bool) (M : List Int) : List (Nat × Nat) := if chk N E M = 0 ∧ E = false then (pairs N.toNat).filter (fin2 (2 * N.toNat) M) else []
theorem cellsL_none {N : Int} {E : Bool} {M : List Int} (h : ¬ (chk N E M = 0 ∧ E = false)) : cellsL N E M = [] := by unfold cellsL; rw [if_neg h]
theorem cellsL_ok {n : Nat} {M : List Int} (h : chk n false M = 0) : cellsL n false M = (pairs n).filter (fin2 (2 * n) M) := by unfold cellsL; rw [if_pos ⟨h, rfl⟩]; rfl
theorem rowF_succ (m : Nat) (M : List Int) (i k : Nat) : (rowP i (k + 1)).filter (fin2 m M) = (rowP i k).filter (fin2 m M) ++ (if isP i k = true ∧ cl m M i k ≠ 9223372036854775807 then [(i, k)] else []) := by
  rw [rowP_succ]
  by_cases h : isP i k = true
  · rw [if_pos h, List.filter_append]
    by_cases h2 : cl m M i k = 9223372036854775807
    · rw [if_neg (by simp [h2])]; simp [fin2, h2]
    · rw [if_pos ⟨h, h2⟩]; simp [fin2, h2]
  · rw [if_neg h, if_neg (fun x => h x.1), List.append_nil]
end Gn
/-- Pairs with their cells, as they lie in memory. -/
def pv3 (m : Nat) (M : List Int) (ps : List (Nat × Nat)) : List Value := ps.flatMap fun p => [.int .i64 (p.1 : Int), .int .i64 (p.2 : Int), .int .i64 (cl m M p.1 p.2)]
theorem pv3_snoc (m : Nat) (M : List Int) (ps : List (Nat × Nat)) (p : Nat × Nat) : pv3 m M (ps ++ [p]) = pv3 m M ps ++ [.int .i64 (p.1 : Int), .int .i64 (p.2 : Int), .int .i64 (cl m M p.1 p.2)] := by unfold pv3; rw [List.flatMap_append]; simp
theorem Try.elCell : ElTyS Try.prog 26 33 (.agg #[.int .i64 0, .int .i64 0, .int .i64 0]) 3 24 := ⟨Try.underlying26, by kernel_rfl, rfl, by decide, by decide⟩
def TellsCells (w : World) (m : Nat) (M : List Int) (ps : List (Nat × Nat)) (e : Ending) (w' : World) : Prop :=
  ∃ A c, e = .returned (.slice A ps.length c) ∧ w'.ownsRow w.heap.size 33 3 (.slice A ps.length c) ps.length (pv3 m M ps) ∧ Below w.heap.size w w'
set_option maxRecDepth 100000 in
set_option maxHeartbeats 4000000 in
theorem ref_Cells (N : Int) (E : Bool) (A : Option Addr) (c : Nat) (M : List Int) (w : World) (h : OctIn w w.heap.size A c N M) :
    Calls Try.prog 10 #[.agg #[.int .i64 N, .bool E, .slice A M.length c]] w (TellsCells w (2 * N.toNat) M (cellsL N E M)) := by
  obtain ⟨W, hW, h1, hB, hs⟩ := one_box w 24 N E (.slice A M.length c)
  have hW1 := h.go hB
  have cC := ref_Check A c N E M W hW1
  obtain ⟨k0, k1, k2⟩ := id h1
  go_enter Try.func10, Try.ntmps10
  go_wp2_with fail
  rw [← hW]
  clear hW
  refine cC.mono ?_
  clear cC
  rintro e w1 ⟨rfl, hb1⟩
  have HB1 := Lib.hid (hB.trans (hb1.mono (by omega)))
  have hoct := hW1.go hb1
  obtain ⟨m0, m1, m2⟩ := id (h1.below hb1)
  have hlt1 : w.heap.size < w1.heap.size := Nat.lt_of_lt_of_le h1.lt hb1.size
  clear k0 k1 k2 hb1 hB h1 hW1 h hs
  by_cases hc : chk N E M = 0
  · obtain ⟨n, rfl, hn, hE1, hE0⟩ := chk_zero hc
    have hc' : (chk n E M != 0) = false := bne_eq_false_iff_eq.2 hc
    have HC := Lib.hid hc
    rw [hc]
    clear hc hc'
    rcases E with _ | _
    · have HF := Lib.hid (cellsL_ok HC.out)
      obtain ⟨hl, hok⟩ := hE0 rfl
      have hlen : M.length = (2 * n) * (2 * n) := by rw [hl, sq2]
      clear hl hok hE0 hE1
      have HL := Lib.hid hlen
      clear hlen
      have hE := Try.elCell
      have hq : (2 * n) * (2 * n) ≤ 128 * 128 := Nat.mul_le_mul (by omega) (by omega)
      have HQ := Lib.hid hq
      clear hq
      have hM : (M.length : Int) ≤ 9223372036854775807 := hoct.len
      have hcm : M.length ≤ c := hoct.le
      have hrd := hoct.rd
      clear hoct
      go_wp2_with fail
      go_loopw [3, 4] (fun s3 s9 wr => ∃ i : Nat, s9 = .int .i64 i ∧ i ≤ 2 * n ∧ ∃ A c, ∃ ps : List (Nat × Nat), Hid (ps = (pairsTo n i).filter (fin2 (2 * n) M)) ∧ s3 = .slice A ps.length c ∧ wr.ownsRow w1.heap.size 33 3 (.slice A ps.length c) ps.length (pv3 (2 * n) M ps) ∧ Below w1.heap.size w1 wr) (fun _ s _ => 2 * n - (intOf s).toNat)
      case atStart => exact ⟨0, rfl, by omega, none, 0, [], Lib.hid rfl, rfl, World.ownsRow_nil _ _ _ _, Below.refl _ _⟩
      case round =>
        obtain ⟨i, rfl, hi, A1, c1, ps, HP, rfl, hown, hBr⟩ := hrel
        rename_i wr _
        have n0 := (hBr.cell (p := ⟨w.heap.size, 0, none⟩) hlt1).trans m0
        rcases Nat.lt_or_ge i (2 * n) with hlt | hge
        · have hdi : decide ((i : Int) < 2 * (n : Int)) = true := decide_eq_true (by omega)
          have hps : ps.length ≤ i * (2 * n) := by rw [HP.out]; exact Nat.le_trans (List.length_filter_le _ _) (pairsTo_len n i)
          have HPS := Lib.hid hps
          clear hps
          go_wp2_with fail
          obtain ⟨wo, hwo⟩ : ∃ wo : World, wo = wr := ⟨_, rfl⟩
          go_loopw [3, 5] (fun s3 s14 wr => ∃ j : Nat, s14 = .int .i64 j ∧ j ≤ 2 * n ∧ ∃ A c, ∃ qs : List (Nat × Nat), Hid (qs = ps ++ (rowP i j).filter (fin2 (2 * n) M)) ∧ s3 = .slice A qs.length c ∧ wr.ownsRow w1.heap.size 33 3 (.slice A qs.length c) qs.length (pv3 (2 * n) M qs) ∧ Below w1.heap.size w1 wr) (fun _ s _ => 2 * n - (intOf s).toNat)
          case atStart => exact ⟨0, rfl, by omega, A1, c1, ps, Lib.hid (by rw [rowP_zero]; simp), rfl, hown, hBr⟩
          case round =>
            clear hown hBr hwo n0
            obtain ⟨j, rfl, hj, A2, c2, qs, HQS, rfl, hown, hB⟩ := hrel
            rename_i wr _
            have n0 := (hB.cell (p := ⟨w.heap.size, 0, none⟩) hlt1).trans m0
            have n2 := (hB.cell (p := ⟨w.heap.size, 2, none⟩) hlt1).trans m2
            rcases Nat.lt_or_ge j (2 * n) with hjl | hjg
            · have hdj : decide ((j : Int) < 2 * (n : Int)) = true := decide_eq_true (by omega)
              have hql : qs.length ≤ i * (2 * n) + j := by
                have h1 := Nat.le_trans (List.length_filter_le (fin2 (2 * n) M) (rowP i j)) (rowP_len i j)
                have := HPS.out
                rw [HQS.out, List.length_append]; omega
              have hix : i * (2 * n) + j < (2 * n) * (2 * n) := idx_lt hlt hjl
              have hsz : (qs.length + 1) * 24 ≤ 140737488355328 := by have := HQ.out; omega
              have hp : i * (2 * n) + j < M.length := by rw [HL.out]; exact hix
              obtain ⟨g, off, rfl, hg, hcell⟩ := hrd (by omega)
              have hcv := (hB.cell (p := ⟨g, off + (i * (2 * n) + j), none⟩) hg).trans (hcell _ hp)
              clear hcell hql hix hrd
              have ei : (i : Int) * 2 * (n : Int) = ((i * (2 * n) : Nat) : Int) := by push_cast; rw [Int.mul_assoc]
              have hq := Nat.mul_le_mul (show i ≤ 128 by omega) (show 2 * n ≤ 128 by omega)
              have HV : Hid (nth M (i * (2 * n) + j) = cl (2 * n) M i j) := Lib.hid rfl
              have HS : Hid ((rowP i (j + 1)).filter (fin2 (2 * n) M) = (rowP i j).filter (fin2 (2 * n) M) ++ (if isP i j = true ∧ cl (2 * n) M i j ≠ 9223372036854775807 then [(i, j)] else [])) := Lib.hid (rowF_succ _ _ _ _)
              have cP := fun W => ref_First i j W (by omega) (by omega)
              generalize nth M (i * (2 * n) + j) = v at *
              generalize i * (2 * n) = p at *
              by_cases hij : i = j
              · have q0 : ((i : Int) != (j : Int)) = false := bne_eq_false_iff_eq.2 (by omega)
                have HN := Lib.hid (show qs = ps ++ (rowP i (j + 1)).filter (fin2 (2 * n) M) by rw [HQS.out, HS.out, if_neg (fun x => by unfold isP at x; simp [hij] at x), List.append_nil])
                clear hij
                have HO := Lib.hid hown
                have HB := Lib.hid hB
                clear hown hB
                go_wp2_with fail
                go_roundw
                case rel => exact ⟨j + 1, by go_num, by omega, A2, c2, qs, HN, rfl, HO.out, HB.out⟩
                case measure => simp [intOf]; omega
              · have q0 : ((i : Int) != (j : Int)) = true := bne_iff_ne.2 (by omega)
                have HF2 : Hid (isP i j = fst2 i j) := Lib.hid (by unfold isP; rw [decide_eq_true hij]; rfl)
                clear hij
                obtain ⟨f, hf⟩ : ∃ f, f = fst2 i j := ⟨_, rfl⟩
                rw [← hf] at cP HF2
                clear hf
                rcases f with _ | _
                · have HN := Lib.hid (show qs = ps ++ (rowP i (j + 1)).filter (fin2 (2 * n) M) by rw [HQS.out, HS.out, if_neg (fun x => by rw [HF2.out] at x; simp at x), List.append_nil])
                  go_wp2_with fail
                  with_reducible refine (cP _).mono ?_
                  clear cP
                  rintro e w2 ⟨rfl, rfl⟩
                  have HO := Lib.hid hown
                  have HB := Lib.hid hB
                  clear hown hB
                  go_wp2_with fail
                  go_roundw
                  case rel => exact ⟨j + 1, by go_num, by omega, A2, c2, qs, HN, rfl, HO.out, HB.out⟩
                  case measure => simp [intOf]; omega
                · by_cases hv : v = 9223372036854775807
                  · have q1 : (v != 9223372036854775807) = false := bne_eq_false_iff_eq.2 hv
                    have HN := Lib.hid (show qs = ps ++ (rowP i (j + 1)).filter (fin2 (2 * n) M) by rw [HQS.out, HS.out, if_neg (fun x => by rw [← HV.out] at x; exact x.2 hv), List.append_nil])
                    clear hv
                    go_wp2_with fail
                    with_reducible refine (cP _).mono ?_
                    clear cP
                    rintro e w2 ⟨rfl, rfl⟩
                    have HO := Lib.hid hown
                    have HB := Lib.hid hB
                    clear hown hB
                    go_wp2_with fail
                    go_roundw
                    case rel => exact ⟨j + 1, by go_num, by omega, A2, c2, qs, HN, rfl, HO.out, HB.out⟩
                    case measure => simp [intOf]; omega
                  · have q1 : (v != 9223372036854775807) = true := bne_iff_ne.2 hv
                    have HN := Lib.hid (show qs ++ [(i, j)] = ps ++ (rowP i (j + 1)).filter (fin2 (2 * n) M) by rw [HQS.out, HS.out, if_pos ⟨by rw [HF2.out], by rw [← HV.out]; exact hv⟩, List.append_assoc])
                    clear hv
                    go_wp2_with fail
                    with_reducible refine (cP _).mono ?_
                    clear cP
                    rintro e w2 ⟨rfl, rfl⟩
                    have hown2 := hown.alloc (.cells #[.int .i64 i, .int .i64 j, .int .i64 v] 33)
                    have hB3 := hB.alloc hB.size (.cells #[.int .i64 i, .int .i64 j, .int .i64 v] 33)
                    have hbs := hB3.size
                    clear hown hB
                    go_wp2_with (at_builtin; refine wpList_appS hE (wr.alloc (.cells #[.int .i64 i, .int .i64 j, .int .i64 v] 33)) rfl _ _ rfl w1.heap.size A2 c2 qs.length _ rfl hown2 [.int .i64 i, .int .i64 j, .int .i64 v] wr.heap.size rfl rfl (World.news_of_block (heap_alloc_new wr _)) (by simp [Value.oneCell']) hsz hbs ?_; intro A' c' w3 ho hb)
                    have HB := Lib.hid (hB3.trans hb)
                    have HO := Lib.hid ho
                    clear ho hb hB3 hown2 hbs
                    go_roundw
                    case rel => exact ⟨j + 1, by go_num, by omega, A', c', qs ++ [(i, j)], HN, val_slice' (by simp), by rw [pv3_snoc, ← HV.out, List.length_append]; exact HO.out, HB.out⟩
                    case measure => simp [intOf]; omega
            · obtain rfl : j = 2 * n := by omega
              have HN := Lib.hid (show qs = (pairsTo n (i + 1)).filter (fin2 (2 * n) M) by rw [HQS.out, HP.out, pairsTo_succ, List.filter_append])
              have HO := Lib.hid hown
              have HB := Lib.hid hB
              clear hown hB
              go_wp2_with fail
              go_roundw
              case rel => exact ⟨i + 1, by go_num, by omega, A2, c2, qs, HN, rfl, HO.out, HB.out⟩
              case measure => simp [intOf]; omega
        · obtain rfl : i = 2 * n := by omega
          have HF2 := Lib.hid (show ps = cellsL n false M by rw [HF.out]; exact HP.out)
          have HO := Lib.hid hown
          have HB := Lib.hid (HB1.out.trans (hBr.mono HB1.out.size))
          clear hown hBr hge hi
          go_wp2_with fail
          go_ret
          exact ⟨A1, c1, ret_slice' (by rw [HF2.out]), by rw [← HF2.out]; exact own_lower HO.out HB1.out.size, HB.out⟩
    · have HF := Lib.hid (cellsL_none (N := n) (E := true) (M := M) (fun x => by cases x.2))
      go_wp2_with fail
      go_ret
      exact ⟨none, 0, by rw [HF.out]; rfl, by rw [HF.out]; exact World.ownsRow_nil _ _ _ _, HB1.out⟩
  · have HF := Lib.hid (cellsL_none (N := N) (E := E) (M := M) (fun x => hc x.1))
    have hc' : (chk N E M != 0) = true := bne_iff_ne.2 hc
    clear hc
    generalize chk N E M = cc at *
    go_wp2_with fail
    go_ret
    exact ⟨none, 0, by rw [HF.out]; rfl, by rw [HF.out]; exact World.ownsRow_nil _ _ _ _, HB1.out⟩
end Go.Proofs.Ytkgddgckilledaa

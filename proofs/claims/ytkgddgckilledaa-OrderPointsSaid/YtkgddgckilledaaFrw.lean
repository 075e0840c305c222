/- order.forgets: the cells of the variables that a map holds are let go. -/
import Derived.Test.YtkgddgckilledaaOrw
import Derived.Test.YtkgddgckilledaaFrg
import Derived.Test.YtkgddgckilledaaFky
import Derived.Test.YtkgddgckilledaaQi
import Derived.Sort.CutIn
namespace Go.Proofs.Ytkgddgckilledaa
open Go.RowKit
attribute [local go_sem] Oper.semAt_some
set_option linter.unusedVariables false
set_option linter.unusedSimpArgs false
open Gn
theorem keepsOthers_below {W W' : World} (h : Below W.heap.size W W') : KeepsOthers W W' :=
  ⟨h.size, fun k o hk _ => (h.block k (Array.getElem?_eq_some_iff.1 hk).1).trans hk⟩
theorem Ow.ownTurn {w w' : World} {base c : Nat} {e : TypeId} {k : IntKind} {A : Option Addr} {xs : List Int} {row : Option Nat} (h : Ow w base e k A c xs) (hg : w.grownBy w' row) (hr : ∀ r, row = some r → ∃ o : Obj, w.heap[r]? = some o ∧ o.isCells = false) : Ow w' base e k A c xs := by
  rcases h.form with ⟨rfl, rfl, rfl⟩ | ⟨g, rfl, _⟩
  · exact Ow.nil _ _ _ _
  · refine World.ownsRow.kept (row := row) h hg (.inr ?_)
    intro e
    rcases h.2 with ⟨h1, _⟩ | ⟨g', cap, cur, hv, _, hh, _⟩
    · cases h1
    · cases hv
      obtain ⟨o, ho, hc⟩ := hr _ (by rw [← e]; rfl)
      rw [hh] at ho
      cases ho
      cases hc
theorem OctAt.ownTurn {w w' : World} {b : Nat} {N : Int} {E : Bool} {v : Value} {row : Option Nat} (h : OctAt w b N E v) (hg : w.grownBy w' row) (hr : ∀ r, row = some r → ∃ o : Obj, w.heap[r]? = some o ∧ o.isCells = false) : OctAt w' b N E v :=
  ⟨cell_kept h.c0 hg hr, cell_kept h.c1 hg hr, cell_kept h.c2 hg hr⟩
theorem frozen_turn {w w' : World} {a : Addr} {v : Value} {row : Option Nat} {i : Nat} (h : w.cell? ⟨a.block, 0, none⟩ = some v) (hg : w.grownBy w' row) (hr : ∀ r, row = some r → ∃ o : Obj, w.heap[r]? = some o ∧ o.isCells = false) : w'.frozen? ⟨a.block, i, none⟩ = w.frozen? ⟨a.block, i, none⟩ := by
  obtain ⟨o, ho, hc⟩ := cells_of_cell h
  exact World.frozen?_of_block (grownBy_keeps_cells hg hr ho hc)
theorem OctBox.ownTurn {w w' : World} {b : Nat} {N : Int} {E : Bool} {v : Value} {row : Option Nat} (h : OctBox w b N E v) (hg : w.grownBy w' row) (hr : ∀ r, row = some r → ∃ o : Obj, w.heap[r]? = some o ∧ o.isCells = false) : OctBox w' b N E v :=
  ⟨h.box.ownTurn hg hr, fun i => (frozen_turn (a := ⟨b, 0, none⟩) h.box.c0 hg hr).trans (h.fz i)⟩
/-- An octagon's cells are let go one after the other, in a row that lies below what the call has made. -/
structure Fg (w : World) (base : Nat) (N : Int) (q c : Nat) (A : Option Addr) (X : List Int) (W : World) : Prop where
  out : OctAt W w.heap.size N false (.slice A q c)
  res : OctBox W (w.heap.size + 1) 0 false (.slice none 0 0)
  row : Ow W base 2 .i64 A c X
  len : X.length = q
  below : Below base w W
  bs : base ≤ w.heap.size
  ne : ∀ g, A = some ⟨g, 0, none⟩ → g < w.heap.size
theorem Fg.go {w W W' : World} {base : Nat} {N : Int} {q c : Nat} {A : Option Addr} {X : List Int} (h : Fg w base N q c A X W) (hb : Below W.heap.size W W') : Fg w base N q c A X W' :=
  ⟨h.out.below hb, h.res.below hb, h.row.below hb, h.len, h.below.trans (hb.mono (Nat.le_trans h.bs h.below.size)), h.bs, h.ne⟩
theorem Fg.set {w W : World} {base g : Nat} {N : Int} {q c : Nat} {X : List Int} (h : Fg w base N q c (some ⟨g, 0, none⟩) X W) (p : Nat) (u : Int) : Fg w base N q c (some ⟨g, 0, none⟩) (X.set p u) (W.setCell ⟨g, p, none⟩ (.int .i64 u)) := by
  have hg := only_setCell (World.grownBy.refl W (some g)) (p := ⟨g, p, none⟩) (.inl rfl) (.int .i64 u)
  have hn := h.ne g rfl
  exact ⟨h.out.only hg (by omega), h.res.only hg (by omega), h.row.set' p u, by rw [List.length_set]; exact h.len, h.below.setCell h.row.blockGe.1 _, h.bs, h.ne⟩
theorem Fg.own {w W W' : World} {base B : Nat} {N : Int} {q c : Nat} {A : Option Addr} {X : List Int} {row : Option Nat} (hB : base ≤ B) (h : Fg w base N q c A X W) (hg : W.grownBy W' row) (hr : ∀ r, row = some r → B ≤ r ∧ ∃ o : Obj, W.heap[r]? = some o ∧ o.isCells = false) : Fg w base N q c A X W' :=
  ⟨h.out.ownTurn hg (fun r e => (hr r e).2), h.res.ownTurn hg (fun r e => (hr r e).2), h.row.ownTurn hg (fun r e => (hr r e).2), h.len,
    h.below.grown hg (Nat.le_trans h.bs h.below.size) (fun k e => Nat.le_trans hB (hr k e).1), h.bs, h.ne⟩
namespace Gn
/-- A row of a round, behind k of its two cells. -/
def wSub (m v i : Nat) (X : List Int) : Nat → List Int
  | 0 => X
  | 1 => wStep m i (2 * v) X
  | _ => wRow m v i X
theorem wSub_len (m v i k : Nat) (X : List Int) : (wSub m v i X k).length = X.length := by
  match k with
  | 0 => rfl
  | 1 => exact wStep_len _ _ _ _
  | k + 2 => exact wRow_len _ _ _ _
theorem wSub_at {n v i k : Nat} {X : List Int} (hv : v < n) (hk : k < 2) : ∃ j, j < 2 * n ∧ (j : Int) = 2 * (v : Int) + k ∧ wSub (2 * n) v i X (k + 1) = wStep (2 * n) i j (wSub (2 * n) v i X k) := by
  rcases (by omega : k = 0 ∨ k = 1) with rfl | rfl
  · exact ⟨2 * v, by omega, by omega, rfl⟩
  · exact ⟨2 * v + 1, by omega, by omega, rfl⟩
end Gn
set_option maxRecDepth 100000 in
set_option maxHeartbeats 16000000 in
theorem order_forgets (n : Nat) (hn : n ≤ 64) (A : Option Addr) (c : Nat) (M : List Int) (bM nn : Nat) (g : Int → Bool) (w : World) (base : Nat) (hbs : base ≤ w.heap.size) (ho : Ow w base 2 .i64 A c M) (hlen : M.length = (2 * n) * (2 * n)) (hg : Gm w bM nn g) (hin : ∀ x, g x = true → ∃ v : Nat, x = v ∧ v < n) :
    CallsIn Fence.wide 6 Try.prog 55 #[.agg #[.int .i64 n, .bool false, .slice A M.length c], .map (some bM)] w fun e w' => e = .returned (.agg #[.int .i64 n, .bool false, .slice A M.length c]) ∧ Ow w' base 2 .i64 A c (dropM (2 * n) (fun v => g v) M) ∧ Below base w w' := by
  obtain ⟨W, hW, hR, hs⟩ := box_res w 24 n false (.slice A M.length c)
  obtain ⟨k0, k1, k2, r0, r1, r2, fc, fr, hB, hlt⟩ := id hR
  have hq : M.length ≤ 16384 := by rw [hlen, sq2]; exact sq_le hn
  have hF : Fg w base n M.length c A M W := ⟨⟨k0, k1, k2⟩, ⟨⟨r0, r1, r2⟩, fr⟩, ho.below hB, rfl, hB.mono hbs, hbs, fun g' hg' => by subst hg'; exact ho.blockGe.2⟩
  have hG : Gm W bM nn g := by
    obtain ⟨D0, hown, hD⟩ := hg
    have hbl := hown.lt
    obtain ⟨es, clock, hb, Ft, hs, hDD⟩ := hown
    exact ⟨D0, ⟨es, clock, (hB.block bM hbl).trans hb, Ft, hs, hDD⟩, hD⟩
  have HLen := Lib.hid hlen
  clear hg ho hlen
  refine callsIn_of_wp_marks Try.func55 rfl trivial ?_ rfl
  simp only [Try.ntmps55, List.size_toArray, List.length_cons, List.length_nil, Nat.reduceAdd, Nat.reduceSub, Array.replicate_succ, Array.replicate_zero, List.push_toArray, List.append_toArray, List.nil_append, List.cons_append]
  gi_wp2_with (refine ⟨trivial, ?_⟩; gi_at_call 73; refine (keys_in Fence.wide 5 trivial rfl _ _).mono ?_; rintro e w' ⟨rfl, rfl⟩)
  rw [← hW]
  have hb1 : Below W.heap.size W (W.alloc (.cells #[.map (some bM)] 91)) := (Below.refl _ _).alloc (Nat.le_refl _) _
  obtain ⟨W1, hW1⟩ : ∃ W1, W1 = W.alloc (.cells #[.map (some bM)] 91) := ⟨_, rfl⟩
  have hs1 : W1.heap.size = w.heap.size + 3 := by rw [hW1]; simp; omega
  have cK : W1.cell? ⟨W.heap.size, 0, none⟩ = some (.map (some bM)) := by rw [hW1]; simp [go_sem]
  rw [← hW1] at hb1 ⊢
  have hF1 := hF.go hb1
  have hG1 : Gm W1 bM nn g := by
    obtain ⟨D0, hown, hD⟩ := hG
    have hbl := hown.lt
    obtain ⟨es, clock, hb, Ft, hs, hDD⟩ := hown
    exact ⟨D0, ⟨es, clock, (hb1.block bM hbl).trans hb, Ft, hs, hDD⟩, hD⟩
  have HB := Lib.hid hB
  clear hW hW1 hR k0 k1 k2 r0 r1 r2 fc fr hB hF hG hlt
  have hbK : W.heap.size = w.heap.size + 1 + 1 := hs
  rw [hbK] at cK hb1
  obtain ⟨bK, hbK'⟩ : ∃ bK, bK = w.heap.size + 1 + 1 := ⟨_, rfl⟩
  rw [← hbK'] at cK hb1 ⊢
  refine wpIn_rangeFunc_ownF (F := Fence.wide) rfl (by omega) (gf := 82) (lb := #[.pointer (some ⟨bK, 0, none⟩)]) rfl trivial (enters_of Try.func82 (by kernel_rfl) rfl)
    (keys_stops Fence.wide 5 trivial rfl (by omega) bK bM nn g W1 (by omega) cK hG1) walksK_t walksK_b (Below.refl _ _) (fun _ => rfl)
    (fun pre X => ∃ Z, Hid (Z = wL (2 * n) (pre.map fun x : {x : Int // g x = true} => x.1.toNat) M) ∧ Fg w base n M.length c A Z X)
    (fun _ _ _ => False)
    (fun s X X' row ⟨Z, hZ, h⟩ hg hr => ⟨Z, hZ, Fg.own (W := X) (W' := X') (by omega) h hg hr⟩)
    (fun _ _ _ _ _ h _ _ => h)
    ⟨M, Lib.hid rfl, hF1⟩ ?a1 ?assign ?body ?done ?stop
  case assign =>
    intro l x X K hK
    gi_wp2
    exact hK
  case body =>
    rintro l pre ⟨xv, hxv⟩ X ⟨Z, HZ0, hI⟩ _
    obtain ⟨v, rfl, hv⟩ := hin xv hxv
    have HZl := Lib.hid (show Z.length = (2 * n) * (2 * n) by rw [HZ0.out, wL_len, HLen.out])
    dsimp only
    generalize hq0 : M.length = q at *
    have HQ := Lib.hid hq0
    clear hq0 cK hb1 hF1 hG1 hbK hbK' hs hs1 HB hin
    obtain ⟨k0, k1, k2⟩ := id hI.out
    obtain ⟨a0, ha0⟩ : ∃ a0 : Nat, a0 = 2 * v := ⟨_, rfl⟩
    have e0 : 2 * (v : Int) = (a0 : Int) := by omega
    have b0 : a0 + 1 < 2 * n := by omega
    have HA := Lib.hid ha0
    clear ha0
    gi_wp2
    gi_loopw [18] (fun s' wr => ∃ i : Nat, s' = .int .i64 i ∧ i ≤ 2 * n ∧ ∃ Y : List Int, Hid (Y = wI (2 * n) v i Z) ∧ Fg w base n q c A Y wr ∧ KeepsOthers X wr) (fun s _ => 2 * n - (Go.RowKit.intOf s).toNat)
    case atStart => exact ⟨0, rfl, by omega, Z, Lib.hid rfl, hI, KeepsOthers.refl _⟩
    case round =>
      obtain ⟨i, rfl, hi, Y, HY, hR, hK⟩ := hrel
      clear hI k0 k1 k2
      obtain ⟨k0, k1, k2⟩ := id hR.out
      rcases Nat.lt_or_ge i (2 * n) with hit | hige
      · have di : decide ((i : Int) < 2 * (n : Int)) = true := decide_eq_true (by omega)
        have HYl := Lib.hid (show Y.length = (2 * n) * (2 * n) by rw [HY.out, wI_len, HZl.out])
        gi_wp2
        gi_loopw [27] (fun s' wr => ∃ k : Nat, s' = .int .i64 k ∧ k ≤ 2 ∧ ∃ U : List Int, Hid (U = wSub (2 * n) v i Y k) ∧ Fg w base n q c A U wr ∧ KeepsOthers X wr) (fun s _ => 2 - (Go.RowKit.intOf s).toNat)
        case atStart => exact ⟨0, rfl, by omega, Y, Lib.hid rfl, hR, hK⟩
        case round =>
          obtain ⟨k, rfl, hk, U, HU, hS, hK2⟩ := hrel
          clear hR hK k0 k1 k2
          obtain ⟨k0, k1, k2⟩ := id hS.out
          rcases Nat.lt_or_ge k 2 with hkt | hkge
          · have dk : decide ((k : Int) < 2) = true := decide_eq_true (by omega)
            obtain ⟨j, hj, hje, hst⟩ := wSub_at (n := n) (v := v) (i := i) (X := Y) hv hkt
            rw [← HU.out] at hst
            have ha0 := HA.out
            have ix : ∀ X : World, (Instr.index 31 (.agg #[.int .i64 (a0 : Int), .int .i64 ((a0 : Int) + 1)]) (.int .i64 k)).run Try.prog X = .ok (.int .i64 j) X := fun X => by
              rcases (by omega : k = 0 ∨ k = 1) with rfl | rfl
              · rw [show (j : Int) = (a0 : Int) by omega]; kernel_rfl
              · rw [show (j : Int) = (a0 : Int) + 1 by omega]; kernel_rfl
            clear hje ha0
            have HUl := Lib.hid (show U.length = q from hS.len)
            by_cases hij : i = j
            · have dij : ((i : Int) != (j : Int)) = false := by rw [hij]; exact bne_self_eq_false _
              have HS := Lib.hid (show wSub (2 * n) v i Y (k + 1) = U by rw [hst]; unfold wStep; rw [if_pos hij])
              clear hst hij
              gi_wp2
              go_roundw
              case rel => exact ⟨k + 1, by go_num, by omega, U, Lib.hid HS.out.symm, hS, hK2⟩
              case measure => simp [Go.RowKit.intOf]; omega
            · have dij : ((i : Int) != (j : Int)) = true := bne_iff_ne.2 (by omega)
              have HS := Lib.hid (show wSub (2 * n) v i Y (k + 1) = (U.set (i * (2 * n) + j) 9223372036854775807).set (j * (2 * n) + i) 9223372036854775807 by rw [hst]; unfold wStep; rw [if_neg hij])
              have hp1 : i * (2 * n) + j < q := by rw [HLen.out]; exact idx_lt hit hj
              have hp2 : j * (2 * n) + i < q := by rw [HLen.out]; exact idx_lt hj hit
              obtain ⟨g', rfl, hg1, hg2⟩ := hS.row.blockOf (by rw [HUl.out]; omega)
              have ei : 2 * (n : Int) * (i : Int) = ((i * (2 * n) : Nat) : Int) := by push_cast; exact Int.mul_comm _ _
              have ej : 2 * (n : Int) * (j : Int) = ((j * (2 * n) : Nat) : Int) := by push_cast; exact Int.mul_comm _ _
              generalize i * (2 * n) = pi at *
              generalize j * (2 * n) = pj at *
              have q1 : (pi : Int) + (j : Int) < (q : Int) := by omega
              have q2 : (pj : Int) + (i : Int) < (q : Int) := by omega
              clear hst hij
              gi_upto_region 12 with fail
              obtain ⟨T, hT⟩ : ∃ T : Bool → World → Prop, T = fun t W' => Fg w base n q c (some ⟨g', 0, none⟩) (bif t then U.set (pi + j) 9223372036854775807 else U) W' ∧ KeepsOthers X W' := ⟨_, rfl⟩
              have hT' : ∀ t W', T t W' ↔ Fg w base n q c (some ⟨g', 0, none⟩) (bif t then U.set (pi + j) 9223372036854775807 else U) W' ∧ KeepsOthers X W' := fun t W => by rw [hT]
              clear hT
              have l0 : ∀ x : TW T, x.w.cell? ⟨w.heap.size, 0, none⟩ = some (.int .i64 n) := fun x => ((hT' _ _).1 x.h).1.out.c0
              have l2 : ∀ x : TW T, x.w.cell? ⟨w.heap.size, 2, none⟩ = some (.slice (some ⟨g', 0, none⟩) q c) := fun x => ((hT' _ _).1 x.h).1.out.c2
              haveI : Nonempty (TW T) := ⟨⟨false, wr, (hT' _ _).2 ⟨hS, hK2⟩⟩⟩
              refine wpIn_region_store T 19 20 (by kernel_rfl) ?hQ (by kernel_rfl) (by kernel_rfl) ((hT' _ _).2 ⟨hS.go (Below.refl _ _).drew, hK2.trans (KeepsOthers.drew _)⟩) ?_
              case hQ => rintro ⟨_, _, h⟩; exact h
              simp only [List.take_succ_cons, List.take_zero, List.drop_succ_cons, List.drop_zero]
              clear hS hK2 k0 k1 k2
              iterate 19 (refine wpS_plain (by decide) (by rfl) rfl ?_; intro K hK; go_big_quiet_op; go_big_quiet_on)
              refine wpS_store rfl (by rfl) ?_ (wpS_nil ?_)
              · intro W' hW
                have hW := (hT' _ _).1 hW
                have hW1 : Fg w base n q c (some ⟨g', 0, none⟩) U W' := hW.1
                have kk := hW1.row.cellAt (i := pi + j) (by rw [HUl.out]; exact hp1)
                have kf := hW1.row.frozenAt (pi + j)
                refine ⟨W'.setCell ⟨g', pi + j, none⟩ (.int .i64 9223372036854775807), ?_, (hT' _ _).2 ⟨hW1.set _ _, hW.2.trans (KeepsOthers.setCell _ _ _)⟩⟩
                simp [execOp, Act.eval, go_sem, kk, kf]
              intro w5 hw5
              have hW := (hT' _ _).1 hw5
              have hS5 : Fg w base n q c (some ⟨g', 0, none⟩) (U.set (pi + j) 9223372036854775807) w5 := hW.1
              have kk := hS5.row.cellAt (i := pj + i) (by rw [hS5.len]; exact hp2)
              have kf := hS5.row.frozenAt (pj + i)
              have hS8 := Lib.hid (hS5.set (pj + i) 9223372036854775807)
              have hK8 := Lib.hid (hW.2.trans (KeepsOthers.setCell _ ⟨g', pj + i, none⟩ (.int .i64 9223372036854775807)))
              clear hW hS5 hw5 l0 l2 hT'
              go_wp2_with fail
              refine mixQ_normal ?_
              clear kk kf
              gi_wp2
              go_roundw
              case rel => exact ⟨k + 1, by go_num, by omega, _, Lib.hid HS.out.symm, hS8.out, hK8.out⟩
              case measure => simp [Go.RowKit.intOf]; omega
          · obtain rfl : k = 2 := by omega
            gi_wp2
            go_roundw
            case rel => exact ⟨i + 1, by go_num, by omega, U, Lib.hid (by rw [HU.out, HY.out]; rfl), hS, hK2⟩
            case measure => simp [Go.RowKit.intOf]; omega
      · obtain rfl : i = 2 * n := by omega
        have di : decide (((2 * n : Nat) : Int) < 2 * (n : Int)) = false := decide_eq_false (by omega)
        gi_wp2
        exact ⟨hK, hK.walks, Y, Lib.hid (by rw [HY.out, HZ0.out, List.map_append]; exact (wL_snoc _ _ _ _).symm), hR⟩
  case done =>
    rintro D ys X hD hall ⟨Z, HZ, hI⟩ hK
    have HZ1 : Z = dropM (2 * n) (fun v => g v) M := by
      rw [HZ.out]
      refine wL_drop HLen.out (fun u hu => ?_) (fun u hu => ⟨fun h => ?_, fun h => ?_⟩)
      · obtain ⟨⟨x, hx⟩, _, rfl⟩ := List.mem_map.1 hu
        obtain ⟨v, rfl, hv⟩ := hin x hx
        exact hv
      · exact List.mem_map.2 ⟨⟨(u : Int), h⟩, hall _, rfl⟩
      · obtain ⟨⟨x, hx⟩, _, rfl⟩ := List.mem_map.1 h
        obtain ⟨v, rfl, hv⟩ := hin x hx
        exact hx
    have HZ2 := Lib.hid HZ1
    clear HZ1 HZ
    obtain ⟨y7, g7⟩ := hI.res.put n false (.slice A M.length c)
    have hO := hI.row.turn g7 (fun g' hg' => by have := hI.ne g' hg'; omega)
    have hB := ((hI.below.setCell (p := ⟨w.heap.size + 1, 0, none⟩) (by simp; omega) (.int .i64 n)).setCell (p := ⟨w.heap.size + 1, 1, none⟩) (by simp; omega) (.bool false)).setCell (p := ⟨w.heap.size + 1, 2, none⟩) (by simp; omega) (.slice A M.length c)
    have hK3 := ((KeepsOthers.setCell X ⟨w.heap.size + 1, 0, none⟩ (.int .i64 n)).trans ((KeepsOthers.setCell _ ⟨w.heap.size + 1, 1, none⟩ (.bool false)).trans (KeepsOthers.setCell _ ⟨w.heap.size + 1, 2, none⟩ (.slice A M.length c)))).same D _ hK rfl
    have hDs : base ≤ D := by omega
    obtain ⟨k0, k1, k2⟩ := id hI.out
    obtain ⟨⟨r0, r1, r2⟩, fr⟩ := id hI.res
    have HH := Lib.hid (And.intro y7.box (And.intro hO (And.intro hB hK3)))
    clear y7 g7 hO hB hK3 cK hb1 hF1 hG1 hbK hbK' HB hin hall hI
    gi_wp2
    obtain ⟨hb, hO, hB, hK3⟩ := HH.out
    refine ⟨by simp, .inl ⟨_, _, rfl, run_takeDeferred hK3, ?_⟩⟩
    have hb2 := hb.ownTurn (grownBy_putObj' _ D (.deferred none)) (fun r e => by cases e; exact ⟨_, hK3, rfl⟩)
    have hO2 := hO.ownTurn (grownBy_putObj' _ D (.deferred none)) (fun r e => by cases e; exact ⟨_, hK3, rfl⟩)
    obtain ⟨c0, c1, c2⟩ := hb2
    refine ⟨.agg #[.int .i64 n, .bool false, .slice A M.length c], by simp [results, Try.f55, go_sem, c0, c1, c2], rfl, ?_, hB.trans ?_⟩
    · rw [← HZ2.out]; exact hO2
    · exact belowK_b (w := w) hbs _ D _ _ (by omega) hK3 rfl rfl
  case stop =>
    rintro D c pre X _ _ h _
    exact h.elim
end Go.Proofs.Ytkgddgckilledaa

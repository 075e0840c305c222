/- Walks: octagons copied. -/
import Derived.Test.YtkgddgckilledaaOctE
import Derived.Test.YtkgddgckilledaaMem
import Derived.WalkSpells
import Derived.Deep.RegionHeld3
namespace Go.Proofs.Ytkgddgckilledaa
open Go.RowKit
set_option linter.unusedVariables false
set_option linter.unusedSimpArgs false
open Gn
set_option maxHeartbeats 1000000 in
theorem slices_CloneI64 (A : Option Addr) (c : Nat) (M : List Int) (w : World) (hr : Rd w w.heap.size .i64 A M.length (nth M)) (hM : (M.length : Int) ≤ 17592186043904) :
    Calls Try.prog 70 #[.slice A M.length c] w fun e w' => ∃ A' c', e = .returned (.slice A' M.length c') ∧ Ow w' w.heap.size 2 .i64 A' c' M ∧ Below w.heap.size w w' := by
  have hE := Try.elI64
  have hq := fun W n c => Lib.run_eql_slice_nil (P := Try.prog) W 22 2 A n c 0 0 Try.underlying22
  rcases A with _ | ad
  · have h0 : M.length = 0 := by
      rcases Nat.eq_zero_or_pos M.length with h | h
      · exact h
      · obtain ⟨b, o, e, _⟩ := hr h; cases e
    obtain rfl := List.eq_nil_of_length_eq_zero h0
    go_enter Try.func70, Try.ntmps70
    go_wp2_with fail
    go_ret
    exact ⟨none, 0, rfl, Ow.nil _ _ _ _, Below.refl _ _⟩
  · have hB : Below w.heap.size w (w.alloc (.cells #[] /-T-/2)) := (Below.refl _ _).alloc (Nat.le_refl _) _
    have hO : Ow (w.alloc (.cells #[] /-T-/2)) w.heap.size 2 .i64 (some ⟨w.heap.size, 0, none⟩) 0 [] := Ow.lit w w.heap.size 2 .i64 [] (Nat.le_refl _) (by simp)
    have hr1 := hr.below hB
    have hsz : (([] : List Int).length + M.length) * 8 ≤ 140737488355328 := by simp; omega
    have hbs : w.heap.size ≤ (w.alloc (.cells #[] /-T-/2)).heap.size := by simp
    go_enter Try.func70, Try.ntmps70
    go_wp2_with (at_builtin; refine wpList_appN hE (w.alloc (.cells #[] /-T-/2)) rfl _ _ rfl w.heap.size .i64 (some ⟨w.heap.size, 0, none⟩) 0 [] rfl hO _ (some ad) c M rfl hr1 hsz hbs ?_; intro A' c' w1 ho hb)
    go_ret
    rw [List.nil_append] at ho
    exact ⟨A', c', retS (by simp), ho, hB.trans hb⟩
/-- An argument's struct (an octagon) in a block of its own, and the result variable behind it. -/
structure BoxRes (w W : World) (N : Int) (E : Bool) (v : Value) : Prop where
  c0 : W.cell? ⟨w.heap.size, 0, none⟩ = some (.int .i64 N)
  c1 : W.cell? ⟨w.heap.size, 1, none⟩ = some (.bool E)
  c2 : W.cell? ⟨w.heap.size, 2, none⟩ = some v
  r0 : W.cell? ⟨w.heap.size + 1, 0, none⟩ = some (.int .i64 0)
  r1 : W.cell? ⟨w.heap.size + 1, 1, none⟩ = some (.bool false)
  r2 : W.cell? ⟨w.heap.size + 1, 2, none⟩ = some (.slice none 0 0)
  fc : ∀ i, W.frozen? ⟨w.heap.size, i, none⟩ = false
  fr : ∀ i, W.frozen? ⟨w.heap.size + 1, i, none⟩ = false
  below : Below w.heap.size w W
  lt : w.heap.size + 1 < W.heap.size
theorem BoxRes.go {w W W' : World} {N : Int} {E : Bool} {v : Value} (h : BoxRes w W N E v) (hb : Below W.heap.size W W') : BoxRes w W' N E v :=
  ⟨below_cell hb h.c0, below_cell hb h.c1, below_cell hb h.c2, below_cell hb h.r0, below_cell hb h.r1, below_cell hb h.r2,
    fun i => (hb.frozen (p := ⟨w.heap.size, i, none⟩) (Nat.lt_of_succ_lt h.lt)).trans (h.fc i), fun i => (hb.frozen (p := ⟨w.heap.size + 1, i, none⟩) h.lt).trans (h.fr i),
    h.below.trans (hb.mono (Nat.le_of_lt (Nat.lt_of_succ_lt h.lt))), Nat.lt_of_lt_of_le h.lt hb.size⟩
theorem box_res (w : World) (t : TypeId) (N : Int) (E : Bool) (v : Value) : ∃ W, W = (w.alloc (.cells #[.int .i64 N, .bool E, v] t)).alloc (.cells #[.int .i64 0, .bool false, .slice none 0 0] t) ∧ BoxRes w W N E v ∧ W.heap.size = w.heap.size + 2 := by
  have h1 : OctAt ((w.alloc (.cells #[.int .i64 N, .bool E, v] t)).alloc (.cells #[.int .i64 0, .bool false, .slice none 0 0] t)) w.heap.size N E v := (OctAt.box _ _ _ _ _).alloc _
  have h2 := OctAt.box (w.alloc (.cells #[.int .i64 N, .bool E, v] t)) t 0 false (.slice none 0 0)
  rw [show (w.alloc (.cells #[.int .i64 N, .bool E, v] t)).heap.size = w.heap.size + 1 by simp] at h2
  exact ⟨_, rfl, ⟨h1.c0, h1.c1, h1.c2, h2.c0, h2.c1, h2.c2, fun i => by simp [go_sem], fun i => by simp [go_sem], ((Below.refl _ _).alloc (Nat.le_refl _) _).alloc (by simp) _, by simp⟩, by simp⟩
theorem cells_res {w W : World} {N N' : Int} {E E' : Bool} {v v' : Value} (h : BoxRes w W N E v) : Below w.heap.size w (((W.setCell ⟨w.heap.size + 1, 0, none⟩ (.int .i64 N')).setCell ⟨w.heap.size + 1, 1, none⟩ (.bool E')).setCell ⟨w.heap.size + 1, 2, none⟩ v') :=
  ((h.below.setCell (by simp) _).setCell (by simp) _).setCell (by simp) _
/-- A row of the call's own outlasts a store below its base. -/
theorem Ow.low {w : World} {base : Nat} {e : TypeId} {k : IntKind} {A : Option Addr} {c : Nat} {xs : List Int} (h : Ow w base e k A c xs) {p : Addr} (hp : p.block < base) (u : Value) : Ow (w.setCell p u) base e k A c xs :=
  ownsRow_setCell_below h hp u
set_option maxHeartbeats 1000000 in
theorem dbm_copied (N : Int) (E : Bool) (A : Option Addr) (c : Nat) (M : List Int) (w : World) (hr : Rd w w.heap.size .i64 A M.length (nth M)) (hM : (M.length : Int) ≤ 17592186043904) :
    Calls Try.prog 49 #[.agg #[.int .i64 N, .bool E, .slice A M.length c]] w fun e w' => ∃ A' c', e = .returned (.agg #[.int .i64 N, .bool E, .slice A' M.length c']) ∧ Ow w' w.heap.size 2 .i64 A' c' M ∧ Below w.heap.size w w' := by
  obtain ⟨W, hW, hR, hs⟩ := box_res w 24 N E (.slice A M.length c)
  have hr1 := (hr.below hR.below).more hR.below.size
  have hlt := hR.lt
  have cC := slices_CloneI64 A c M W.drew hr1.drew hM
  obtain ⟨k0, k1, k2, _, _, _, _, _, _, _⟩ := id hR
  go_enter Try.func49, Try.ntmps49
  go_wp2_with fail
  rw [← hW]
  clear hW
  go_region_held3 (fun X => X.cell? ⟨w.heap.size, 0, none⟩ = some (.int .i64 N) ∧ X.cell? ⟨w.heap.size, 1, none⟩ = some (.bool E) ∧ X.cell? ⟨w.heap.size, 2, none⟩ = some (.slice A M.length c))
    (first | exact ⟨k0, k1, k2⟩ | exact ⟨c0, c1, c2⟩ | go_keep)
    ((go_at_call 70; refine cC.mono ?_; rintro e w1 ⟨A', c', rfl, ho, hb⟩; obtain ⟨c0, c1, c2, r0, r1, r2, fc, fr, hB, hl⟩ := hR.go ((Below.refl W.heap.size W).drew.trans hb)))
  have ho' : Ow w1 W.heap.size 2 .i64 A' c' M := ho
  go_wp2_with fail
  refine bodyPost_ret (v := .agg #[.int .i64 N, .bool E, .slice A' M.length c']) (by simp [results, Try.results49, go_sem, r0, r1, r2]) rfl ?_
  refine ⟨A', c', rfl, ?_, ?_⟩
  · exact (((ho'.low (by first | (simp; done) | (simp; omega)) _).low (by first | (simp; done) | (simp; omega)) _).low (by first | (simp; done) | (simp; omega)) _).lower (by omega)
  · exact ((hB.setCell (by simp) _).setCell (by simp) _).setCell (by simp) _
end Go.Proofs.Ytkgddgckilledaa

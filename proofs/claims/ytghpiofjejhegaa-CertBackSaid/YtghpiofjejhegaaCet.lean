/- The walks of cert.Decode and its deferred closure. -/
import Derived.Test.YtghpiofjejhegaaCes
import Derived.Recover
import Derived.Defers
namespace Go.Proofs.Ytghpiofjejhegaa
open Go.RowKit
set_option linter.unusedVariables false
set_option linter.unusedSimpArgs false
open Gn
theorem catch_panicking (bC bE : Nat) (D N : Int) (v : Value) (y x : Int) (older : List PanicEntry) (w : World) (hC : CertBox w bC D N v) (hE : w.cell? ⟨bE, 0, none⟩ = some (.int .i64 y)) (hEz : w.frozen? ⟨bE, 0, none⟩ = false) (hne : bC ≠ bE) :
    CallsD Try.prog 57 #[.pointer (some ⟨bC, 0, none⟩), .pointer (some ⟨bE, 0, none⟩)] (.panicking ({ v := .iface 90 (.agg #[.int .i64 x]), recovered := false } :: older)) w fun e u' w' =>
      e = .returned (.tuple #[]) ∧ u' = .panicking ({ v := .iface 90 (.agg #[.int .i64 x]), recovered := true } :: older) ∧
        w' = ((((w.drew.setCell ⟨bC, 0, none⟩ (.int .u64 0)).setCell ⟨bC, 1, none⟩ (.int .i64 0)).setCell ⟨bC, 2, none⟩ (.slice none 0 0)).setCell ⟨bE, 0, none⟩ (.int .i64 x)) := by
  refine callsD_of_wpS Try.func57 rfl fun c₀ cs hu => ?_
  apply wpS_seq
  apply wpS_region
  simp [wpOpsS, go_sem, recoverD, hu, Try.ntmps57, Exit.thenS]
  refine wpS_of_wp ?_
  simp only [Array.replicate_succ, Array.replicate_zero, List.push_toArray, List.append_toArray, List.nil_append, List.cons_append, List.setIfInBounds_toArray, List.set_cons_zero, List.set_cons_succ]
  obtain ⟨⟨k0, k1, k2⟩, kf⟩ := id hC
  have f0 := kf 0
  have f1 := kf 1
  have f2 := kf 2
  go_wp2_with fail
  have hta : ∀ W : World, (Instr.typeAssert (.iface 90 (.agg #[.int .i64 x])) 20 90 false).run Try.prog W = .ok (.agg #[.int .i64 x]) W := fun _ => by kernel_rfl
  have hfl : ∀ W : World, (Instr.field 90 (.agg #[.int .i64 x]) 0).run Try.prog W = .ok (.int .i64 x) W := fun _ => by kernel_rfl
  go_region
  show bodyPostS _ _ _ _ _ _ _ _ _
  simp [bodyPostS, results, Try.results57, World.drew]
theorem catch_idle (bC bE : Nat) (w : World) :
    CallsD Try.prog 57 #[.pointer (some ⟨bC, 0, none⟩), .pointer (some ⟨bE, 0, none⟩)] .returning w fun e u' w' => e = .returned (.tuple #[]) ∧ u' = .returning ∧ w' = w := by
  refine callsD_of_wpS Try.func57 rfl fun c₀ cs hu => ?_
  apply wpS_seq
  apply wpS_region
  simp [wpOpsS, go_sem, recoverD, hu, Try.ntmps57, Exit.thenS]
  refine wpS_of_wp ?_
  simp only [Array.replicate_succ, Array.replicate_zero, List.push_toArray, List.append_toArray, List.nil_append, List.cons_append, List.setIfInBounds_toArray, List.set_cons_zero, List.set_cons_succ]
  cases c₀
  go_wp2_with fail
  simp_all [bodyPostS, results, Try.results57]
/-- What a decoding tells. -/
def TellsD (w : World) (P : (Int × Int × List OC) × Int) (e : Ending) (w' : World) : Prop :=
  (∃ Ao co, ∃ rs : List OR, e = .returned (.tuple #[.agg #[.int .u64 P.1.1, .int .i64 P.1.2.1, .slice Ao rs.length co], .int .i64 P.2]) ∧ GOcts w' w.heap.size Ao co rs ∧ rs.map OR.oc = P.1.2.2) ∧ Below w.heap.size w w'
set_option maxRecDepth 100000 in
set_option maxHeartbeats 2000000 in
theorem cert_Decode (A : Option Addr) (c : Nat) (b : List Int) (w : World) (hb : Bts b) (hr : Rd w w.heap.size .u8 A b.length (nth b)) (hc : b.length ≤ c) (hcm : c ≤ maxLen) (hlm : (b.length : Int) ≤ 9223372036854775807) :
    Calls Try.prog 35 #[.slice A b.length c] w (TellsD w (decP b)) := by
  have hmf : ∀ (fn : Fn) (first cap : Array Value) (w : World), (Instr.makeFunc fn first cap).run Try.prog w = .ok (.func fn first cap) w := fun _ _ _ _ => rfl
  have hC := CertBox.new w 40 0 0 (.slice none 0 0)
  have hb1 : Below w.heap.size w (w.alloc (.cells #[.int .u64 0, .int .i64 0, .slice none 0 0] 40)) := (Below.refl _ _).alloc (Nat.le_refl _) _
  obtain ⟨w1, hw1⟩ : ∃ w1, w1 = w.alloc (.cells #[.int .u64 0, .int .i64 0, .slice none 0 0] 40) := ⟨_, rfl⟩
  rw [← hw1] at hC hb1
  have hs1 : w1.heap.size = w.heap.size + 1 := by rw [hw1]; simp
  have hE : (w1.alloc (.cells #[.int .i64 0] 27)).cell? ⟨w.heap.size + 1, 0, none⟩ = some (.int .i64 0) := by rw [← hs1]; simp [World.cell?_alloc_new]
  have hEz : (w1.alloc (.cells #[.int .i64 0] 27)).frozen? ⟨w.heap.size + 1, 0, none⟩ = false := by rw [← hs1]; simp [go_sem]
  have hb2 : Below w1.heap.size w1 (w1.alloc (.cells #[.int .i64 0] 27)) := (Below.refl _ _).alloc (Nat.le_refl _) _
  obtain ⟨w2, hw2⟩ : ∃ w2, w2 = w1.alloc (.cells #[.int .i64 0] 27) := ⟨_, rfl⟩
  rw [← hw2] at hE hEz hb2
  have hs2 : w2.heap.size = w.heap.size + 2 := by rw [hw2]; simp; omega
  have hC2 := hC.go hb2
  have hB2 := hb1.trans (hb2.mono hb1.size)
  have hr2 := hr.below hB2
  clear hC hb1 hb2 hr
  by_cases hlong : 4194304 < (b.length : Int)
  · have q0 : decide (4194304 < (b.length : Int)) = true := decide_eq_true hlong
    have HP := Lib.hid (show decP b = ((0, 0, []), 196) by unfold decP; rw [if_pos (by omega)])
    generalize decP b = PP at *
    obtain ⟨⟨k0, k1, k2⟩, kf⟩ := id hC2
    have f0 := kf 0
    have f1 := kf 1
    have f2 := kf 2
    clear hlong
    go_enter_defers Try.func35, Try.ntmps35
    rw [hw2, hw1] at k0 k1 k2 f0 f1 f2 hE hEz
    go_wp2_with fail
    have hal : Below (w.alloc (.cells #[.int .u64 0, .int .i64 0, .slice none 0 0] 40)).heap.size (w.alloc (.cells #[.int .u64 0, .int .i64 0, .slice none 0 0] 40)) ((w.alloc (.cells #[.int .u64 0, .int .i64 0, .slice none 0 0] 40)).alloc (.cells #[.int .i64 196] 27)) := (Below.refl _ _).alloc (Nat.le_refl _) _
    obtain ⟨⟨s0, s1, s2⟩, _⟩ := (CertBox.new w 40 0 0 (.slice none 0 0)).go hal
    have s3 : ((w.alloc (.cells #[.int .u64 0, .int .i64 0, .slice none 0 0] 40)).alloc (.cells #[.int .i64 196] 27)).cell? ⟨w.heap.size + 1, 0, none⟩ = some (.int .i64 196) := by
      rw [show w.heap.size + 1 = (w.alloc (.cells #[.int .u64 0, .int .i64 0, .slice none 0 0] 40)).heap.size by simp]
      simp [World.cell?_alloc_new]
    refine ⟨.tuple #[.agg #[.int .u64 0, .int .i64 0, .slice none 0 0], .int .i64 196], by simp [results, Try.results35, go_sem, s0, s1, s2, s3], ?_⟩
    unfold TellsD
    rw [HP.out]
    exact ⟨⟨none, 0, [], rfl, GOcts.nil _ _, rfl⟩, ((Below.refl _ _).alloc (Nat.le_refl _) _).alloc (by simp) _⟩
  · have q0 : decide (4194304 < (b.length : Int)) = false := decide_eq_false hlong
    have HP := Lib.hid (show decP b = match certP b with | .bad e => ((0, 0, []), e) | .ok v _ => (v, 0) by unfold decP; rw [if_neg (by omega)]; cases certP b <;> rfl)
    generalize decP b = PP at *
    have hR : Rdr (w2.alloc (.cells #[.slice A b.length c, .slice none 0 0, .int .i64 0] 93)) (w.heap.size + 2) w.heap.size A c b none 0 0 0 := by
      rw [← hs2]
      exact ⟨by simp [World.cell?_alloc_new], by simp [World.cell?_alloc_new], by simp [World.cell?_alloc_new], fun i => by simp [go_sem], hr2.alloc hB2.size _, hB2.size, hb, hc, hcm, by omega⟩
    have hb3 : Below w2.heap.size w2 (w2.alloc (.cells #[.slice A b.length c, .slice none 0 0, .int .i64 0] 93)) := (Below.refl _ _).alloc (Nat.le_refl _) _
    obtain ⟨w3, hw3⟩ : ∃ w3, w3 = w2.alloc (.cells #[.slice A b.length c, .slice none 0 0, .int .i64 0] 93) := ⟨_, rfl⟩
    rw [← hw3] at hR hb3
    have hC3 := hC2.go hb3
    have hE3 := below_cell hb3 hE
    have hEz3 := (hb3.frozen (p := ⟨w.heap.size + 1, 0, none⟩) (by simp only; omega)).trans hEz
    have hB3 := hB2.trans (hb3.mono hB2.size)
    have hs3 : w.heap.size + 2 < w3.heap.size := by rw [hw3]; simp; omega
    have cK := reader_cert (w.heap.size + 2) w.heap.size A c b w3 hR
    have HB3 := Lib.hid hB3
    clear hb3 hC2 hE hEz hB2 hr2 hR hb hlong hB3
    go_enter_defers Try.func35, Try.ntmps35
    go_wp2_with fail
    rw [← hw1, ← hw2, ← hw3]
    cases hK : certP b with
    | bad x =>
      rw [hK] at cK HP
      clear hK
      (with_reducible refine cK.mono ?_)
      clear cK hw1 hw2 hw3
      rintro e w5 ⟨rfl, hg5⟩
      have hC5 := hC3.only hg5 (by omega)
      have hE5 := only_cell hg5 hE3 (by simp)
      have hEz5 := only_frozen hg5 hEz3 (by simp only; omega) (by simp)
      have HB5 := Lib.hid (HB3.out.trans (only_back hg5 (by omega) (by omega)))
      clear hg5 hC3 hE3 hEz3
      go_wp2_with fail
      refine leaves_cons (f := 57) (args := #[.pointer (some ⟨w.heap.size, 0, none⟩), .pointer (some ⟨w.heap.size + 1, 0, none⟩)]) (by simp) (by simp [go_sem]) ?_
      refine (catch_panicking w.heap.size (w.heap.size + 1) 0 0 _ 0 x [] w5 hC5 hE5 hEz5 (by omega)).mono ?_
      rintro e u' w'' ⟨rfl, rfl, rfl⟩
      have hCd := (((hC5.go (Below.refl _ _).drew).setD 0).setN 0).set (.slice none 0 0)
      have hEd : ((((w5.drew.setCell ⟨w.heap.size, 0, none⟩ (.int .u64 0)).setCell ⟨w.heap.size, 1, none⟩ (.int .i64 0)).setCell ⟨w.heap.size, 2, none⟩ (.slice none 0 0))).cell? ⟨w.heap.size + 1, 0, none⟩ = some (.int .i64 0) := by
        rw [World.cell?_setCell_far _ _ _ _ (by simp), World.cell?_setCell_far _ _ _ _ (by simp), World.cell?_setCell_far _ _ _ _ (by simp)]
        exact hE5
      have hBd := Lib.hid ((((HB5.out.drew.setCell (p := ⟨w.heap.size, 0, none⟩) (Nat.le_refl _) (.int .u64 0)).setCell (p := ⟨w.heap.size, 1, none⟩) (Nat.le_refl _) (.int .i64 0)).setCell (p := ⟨w.heap.size, 2, none⟩) (Nat.le_refl _) (.slice none 0 0)).setCell (p := ⟨w.heap.size + 1, 0, none⟩) (Nat.le_succ _) (.int .i64 x))
      generalize (((w5.drew.setCell ⟨w.heap.size, 0, none⟩ (.int .u64 0)).setCell ⟨w.heap.size, 1, none⟩ (.int .i64 0)).setCell ⟨w.heap.size, 2, none⟩ (.slice none 0 0)) = w6 at *
      obtain ⟨⟨s0, s1, s2⟩, _⟩ := hCd.only (only_setCell (p := ⟨w.heap.size + 1, 0, none⟩) (World.grownBy.refl w6 (some (w.heap.size + 1))) (.inl rfl) (.int .i64 x)) (by omega)
      have s3 : (w6.setCell ⟨w.heap.size + 1, 0, none⟩ (.int .i64 x)).cell? ⟨w.heap.size + 1, 0, none⟩ = some (.int .i64 x) := World.cell?_setCell_same _ _ _ hEd
      simp only [settle, List.dropWhile_nil]
      refine ⟨.tuple #[.agg #[.int .u64 0, .int .i64 0, .slice none 0 0], .int .i64 x], by simp [results, Try.results35, go_sem, s0, s1, s2, s3], ?_⟩
      unfold TellsD
      rw [HP.out]
      exact ⟨⟨none, 0, [], rfl, GOcts.nil _ _, rfl⟩, hBd.out⟩
    | ok v r =>
      rw [hK] at cK HP
      clear hK
      obtain ⟨D, N, os⟩ := v
      (with_reducible refine cK.mono ?_)
      clear cK hw1 hw2 hw3
      rintro e w5 ⟨⟨Ao, co, rs, rfl, hG5, hrs⟩, hg5⟩
      dsimp only at hrs ⊢
      have hC5 := hC3.only hg5 (by omega)
      have hE5 := only_cell hg5 hE3 (by simp)
      have hEz5 := only_frozen hg5 hEz3 (by simp only; omega) (by simp)
      have HB5 := Lib.hid (HB3.out.trans (only_back hg5 (by omega) (by omega)))
      have HG5 := Lib.hid (hG5)
      have HRS := Lib.hid hrs
      obtain ⟨⟨k0, k1, k2⟩, kf⟩ := id hC5
      have f0 := kf 0
      have f1 := kf 1
      have f2 := kf 2
      clear hg5 hC3 hE3 hEz3 hG5 hrs
      go_wp2_with fail
      refine leaves_cons (f := 57) (args := #[.pointer (some ⟨w.heap.size, 0, none⟩), .pointer (some ⟨w.heap.size + 1, 0, none⟩)]) (by simp) (by simp [go_sem]) ?_
      refine (catch_idle w.heap.size (w.heap.size + 1) _).mono ?_
      rintro e u' w'' ⟨rfl, rfl, rfl⟩
      have hCd := ((hC5.setD D).setN N).set (.slice Ao rs.length co)
      have hEd : (((w5.setCell ⟨w.heap.size, 0, none⟩ (.int .u64 D)).setCell ⟨w.heap.size, 1, none⟩ (.int .i64 N)).setCell ⟨w.heap.size, 2, none⟩ (.slice Ao rs.length co)).cell? ⟨w.heap.size + 1, 0, none⟩ = some (.int .i64 0) := by
        rw [World.cell?_setCell_far _ _ _ _ (by simp), World.cell?_setCell_far _ _ _ _ (by simp), World.cell?_setCell_far _ _ _ _ (by simp)]
        exact hE5
      have hBd := Lib.hid ((((HB5.out.setCell (p := ⟨w.heap.size, 0, none⟩) (Nat.le_refl _) (.int .u64 D)).setCell (p := ⟨w.heap.size, 1, none⟩) (Nat.le_refl _) (.int .i64 N)).setCell (p := ⟨w.heap.size, 2, none⟩) (Nat.le_refl _) (.slice Ao rs.length co)).setCell (p := ⟨w.heap.size + 1, 0, none⟩) (Nat.le_succ _) (.int .i64 0))
      have hl0 : w.heap.size < w3.heap.size := by omega
      have hl1 : w.heap.size + 1 < w3.heap.size := by omega
      have hGd := Lib.hid ((((HG5.out.low (p := ⟨w.heap.size, 0, none⟩) hl0 (.int .u64 D)).low (p := ⟨w.heap.size, 1, none⟩) hl0 (.int .i64 N)).low (p := ⟨w.heap.size, 2, none⟩) hl0 (.slice Ao rs.length co)).low (p := ⟨w.heap.size + 1, 0, none⟩) hl1 (.int .i64 0))
      generalize (((w5.setCell ⟨w.heap.size, 0, none⟩ (.int .u64 D)).setCell ⟨w.heap.size, 1, none⟩ (.int .i64 N)).setCell ⟨w.heap.size, 2, none⟩ (.slice Ao rs.length co)) = w6 at *
      obtain ⟨⟨s0, s1, s2⟩, _⟩ := hCd.only (only_setCell (p := ⟨w.heap.size + 1, 0, none⟩) (World.grownBy.refl w6 (some (w.heap.size + 1))) (.inl rfl) (.int .i64 0)) (by omega)
      have s3 : (w6.setCell ⟨w.heap.size + 1, 0, none⟩ (.int .i64 0)).cell? ⟨w.heap.size + 1, 0, none⟩ = some (.int .i64 0) := World.cell?_setCell_same _ _ _ hEd
      simp only [settle]
      refine ⟨.tuple #[.agg #[.int .u64 D, .int .i64 N, .slice Ao rs.length co], .int .i64 0], by simp [results, Try.results35, go_sem, s0, s1, s2, s3], ?_⟩
      unfold TellsD
      rw [HP.out]
      exact ⟨⟨Ao, co, rs, rfl, hGd.out.lower (Nat.le_of_lt hl0), HRS.out⟩, hBd.out⟩
end Go.Proofs.Ytghpiofjejhegaa

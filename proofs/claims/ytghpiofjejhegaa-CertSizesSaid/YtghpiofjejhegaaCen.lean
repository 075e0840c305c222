/- Sizes of certificates: the walk of CertSizes. -/
import Derived.Test.YtghpiofjejhegaaCel
import Derived.Test.YtghpiofjejhegaaGro
import Derived.Test.YtghpiofjejhegaaCodP
import Derived.Test.YtghpiofjejhegaaOctK
namespace Go.Proofs.Ytghpiofjejhegaa
open Go.RowKit
set_option linter.unusedVariables false
set_option linter.unusedSimpArgs false
open Gn
/-- A certificate's variable that can be written. -/
structure CertBox (w : World) (b : Nat) (D N : Int) (v : Value) : Prop where
  at' : CertAt w b D N v
  fz : ∀ i, w.frozen? ⟨b, i, none⟩ = false
theorem CertBox.go {w w' : World} {b : Nat} {D N : Int} {v : Value} (h : CertBox w b D N v) (hb : Below w.heap.size w w') : CertBox w' b D N v := ⟨h.at'.go hb, fun i => (hb.frozen (p := ⟨b, i, none⟩) h.at'.lt).trans (h.fz i)⟩
theorem CertBox.low {w w' : World} {b base : Nat} {D N : Int} {v : Value} (h : CertBox w b D N v) (hb : Below base w w') (hl : b < base) : CertBox w' b D N v :=
  ⟨⟨(hb.cell (p := ⟨b, 0, none⟩) hl).trans h.at'.c0, (hb.cell (p := ⟨b, 1, none⟩) hl).trans h.at'.c1, (hb.cell (p := ⟨b, 2, none⟩) hl).trans h.at'.c2⟩, fun i => (hb.frozen (p := ⟨b, i, none⟩) hl).trans (h.fz i)⟩
theorem CertBox.new (w : World) (t : TypeId) (D N : Int) (v : Value) : CertBox (w.alloc (.cells #[.int .u64 D, .int .i64 N, v] t)) w.heap.size D N v :=
  ⟨⟨by simp [World.cell?_alloc_new], by simp [World.cell?_alloc_new], by simp [World.cell?_alloc_new]⟩, fun i => by simp [go_sem]⟩
theorem CertBox.set {w : World} {b : Nat} {D N : Int} {v : Value} (h : CertBox w b D N v) (v' : Value) : CertBox (w.setCell ⟨b, 2, none⟩ v') b D N v' := by
  obtain ⟨⟨c0, c1, c2⟩, fz⟩ := h
  exact ⟨⟨by simp [go_sem, c0], by simp [go_sem, c1], by simp [go_sem, c2]⟩, fun i => by simp [go_sem, fz]⟩
theorem own_low {w : World} {base size n : Nat} {e : TypeId} {v : Value} {vs : List Value} (h : w.ownsRow base e size v n vs) {p : Addr} (hp : p.block < base) (u : Value) : (w.setCell p u).ownsRow base e size v n vs :=
  ownsRow_setCell_other h (fun e0 => by have := (h.lt _ e0).1; omega) u
theorem GOcts.low {w : World} {base : Nat} {A : Option Addr} {c : Nat} {rs : List OR} (h : GOcts w base A c rs) {p : Addr} (hp : p.block < base) (u : Value) : GOcts (w.setCell p u) base A c rs :=
  ⟨own_low h.row hp u, fun r hr => ⟨(h.each r hr).1, (h.each r hr).2.1, (h.each r hr).2.2.low hp u⟩⟩
namespace Gn
theorem encTo_top {n : Nat} : ∀ k, k ≤ (pairs n).length → encTo (2 * n) (topM (2 * n)) (pairs n) k = ⟨[], 0, 0⟩
  | 0, _ => rfl
  | k + 1, hk => by
    rw [encTo_succ, encTo_top k (by omega)]
    refine encStep_inf ?_
    have hm := pairs_mem.1 (pget_mem (show k < (pairs n).length by omega))
    obtain ⟨h1, h2, h3⟩ := hm
    unfold topM
    rw [cl_mat h1 h2, if_neg]
    intro e
    unfold isP at h3
    simp at h3
    exact h3.1 e
theorem octB_top (n : Nat) : octB n false (topM (2 * n)) = [1, 0] := by
  rw [octB_false, encTo_top _ (Nat.le_refl _)]
  show [1] ++ put 0 ++ putAll [] = [1, 0]
  rw [put_small (by omega)]; rfl
theorem okM_top (n : Nat) : okM (2 * n) (topM (2 * n)) := by
  intro i hi j hj
  have hi' := ac_lt hi
  have hj' := ac_lt hj
  unfold okC topM
  rw [cl_mat hi hj, cl_mat hj' hi']
  refine ⟨?_, ?_, ?_⟩
  · unfold isB; split <;> simp
  · intro e; rw [if_pos e]
  · by_cases e : i = j
    · rw [if_pos e, if_pos (by rw [e])]
    · rw [if_neg e, if_neg (fun x => e (by rw [← ac_ac i, ← x, ac_ac]))]
theorem chk_top {n : Nat} (h : n ≤ 64) : chk n false (topM (2 * n)) = 0 := chk_ok h (by rw [topM_len, sq2]) (okM_top n)
theorem ocAt_rep {L i : Nat} {o : OC} (h : i < L) : ocAt (List.replicate L o) i = o := by
  unfold ocAt
  rw [List.getD_eq_getElem?_getD, List.getElem?_eq_getElem (by simpa using h)]
  simp
/-- As many octagons alike: all is well, and so long are the bytes. -/
theorem enc_rep {n L each : Nat} {o : OC} (hn : n ≤ 20) (h1 : 1 ≤ L) (h2 : L ≤ 200) (hm : 4 * n * n * L ≤ 100000) (hon : o.n = n) (hc : chk o.n o.e o.m = 0) (he : (octB n o.e o.m).length = each) (h3 : each ≤ 2) :
    ∃ bs : List Int, encP 0 n (List.replicate L o) = (bs, 0) ∧ bs.length = 12 + (put n).length + (put L).length + each * L := by
  have hck : chkC ((n : Nat) : Int) (List.replicate L o) = 0 := by
    refine chkC_ok ?_ ?_
    · rw [List.length_replicate]
      refine ⟨by omega, h1, by omega, ?_⟩
      have e : (4 : Int) * n * n * L = ((4 * n * n * L : Nat) : Int) := by push_cast; rfl
      omega
    · intro i hi
      rw [List.length_replicate] at hi
      rw [ocAt_rep hi]
      exact ⟨hon, hc⟩
  have hlen : ∀ k, k ≤ L → (bytesTo 0 n (List.replicate L o) k).length = 12 + (put n).length + (put L).length + each * k := by
    intro k
    induction k with
    | zero =>
      intro _
      unfold bytesTo octsTo headB
      rw [List.range_zero, List.flatMap_nil, List.append_nil, putAll_two, List.length_replicate]
      simp only [List.length_append, digTo_len, List.length_cons, List.length_nil]
      omega
    | succ k ih =>
      intro hk
      rw [bytesTo_succ, List.length_append, ih (by omega), ocAt_rep (by omega), he, Nat.mul_add, Nat.mul_one, Nat.add_assoc]
  have hl := hlen L (Nat.le_refl _)
  have p1 := put_len10 (n := n) (by omega)
  have p2 := put_len10 (n := L) (by omega)
  have hel : each * L ≤ 2 * 200 := Nat.mul_le_mul h3 h2
  refine ⟨_, encP_ok (D := 0) hck (by rw [List.length_replicate, hl]; omega), by rw [List.length_replicate]; exact hl⟩
end Gn
namespace Gn
theorem topM_i64 {m : Nat} : ∀ x ∈ topM m, I64 x := by
  intro x hx
  unfold topM mat at hx
  simp only [List.mem_map] at hx
  obtain ⟨k, _, rfl⟩ := hx
  unfold I64
  split <;> omega
end Gn
set_option maxRecDepth 100000 in
set_option maxHeartbeats 2000000 in
theorem sizes_true (n p : Nat) (w : World) (hn : n ≤ 20) (hp1 : 1 ≤ p) (hp2 : p ≤ 200) (hm : 4 * n * n * p ≤ 100000) :
    Calls Try.prog 6 #[.int .i64 n, .int .i64 p, .bool true] w fun e w' => e = .returned (.bool true) ∧ Below w.heap.size w w' := by
  have p0 : decide ((n : Int) < 0) = false := decide_eq_false (by omega)
  have p1 : decide (20 < (n : Int)) = false := decide_eq_false (by omega)
  have p2 : decide ((p : Int) < 1) = false := decide_eq_false (by omega)
  have p3 : decide (200 < (p : Int)) = false := decide_eq_false (by omega)
  obtain ⟨⟨b1, b2⟩, ⟨b3, b4⟩, b5, b6⟩ := head_mul (N := n) (L := p) (by omega) (by omega)
  have e5 : (4 : Int) * n * n * p = ((4 * n * n * p : Nat) : Int) := by push_cast; rfl
  have p4 : decide (100000 < 4 * (n : Int) * n * p) = false := decide_eq_false (by omega)
  have hE := Try.elOct
  have HM := Lib.hid hm
  clear e5 hm
  go_enter Try.func6, Try.ntmps6
  go_wp2_with fail
  (with_reducible refine (known19 _).mono ?_)
  rintro e w1 ⟨rfl, hb1⟩
  have HB1 := Lib.hid hb1
  clear hb1
  have hBx := CertBox.new w1 40 0 n (.slice none 0 0)
  have hb2 : Below w1.heap.size w1 (w1.alloc (.cells #[.int .u64 0, .int .i64 n, .slice none 0 0] 40)) := (Below.refl _ _).alloc (Nat.le_refl _) _
  obtain ⟨w2, hw2⟩ : ∃ w2, w2 = w1.alloc (.cells #[.int .u64 0, .int .i64 n, .slice none 0 0] 40) := ⟨_, rfl⟩
  rw [← hw2] at hBx hb2
  have hsz2 : w1.heap.size + 1 ≤ w2.heap.size := by rw [hw2]; simp
  go_wp2_with fail
  rw [← hw2]
  clear hw2 b1 b2 b3 b4 b5 b6 p0 p1 p2 p3 p4
  have hG0 := GOcts.nil w2 (w1.heap.size + 1)
  generalize hbc : w1.heap.size = bc at *
  have HBC := Lib.hid hbc
  clear hbc
  go_loopw [8, 9] (fun s8 s9 wr => ∃ i : Nat, s9 = .int .i64 i ∧ i ≤ p ∧ (∃ v : Int, Hid (v = if i = 0 then 2 else 1) ∧ s8 = .int .i64 v) ∧ ∃ A c, ∃ rs : List OR, Hid (rs.map OR.oc = List.replicate i ⟨n, true, []⟩) ∧ CertBox wr bc 0 n (.slice A rs.length c) ∧ GOcts wr (bc + 1) A c rs ∧ bc + 1 ≤ wr.heap.size ∧ Below bc w1 wr) (fun _ s _ => p - (intOf s).toNat)
  case atStart => exact ⟨0, rfl, by omega, ⟨2, Lib.hid rfl, rfl⟩, none, 0, [], Lib.hid rfl, hBx, hG0, hsz2, hb2⟩
  case round =>
    clear hBx hG0 hsz2 hb2
    obtain ⟨i, rfl, hi, ⟨v, HVV, rfl⟩, A, c, rs, HR, hBx, hG, hsz, hB⟩ := hrel
    rename_i wr _
    rcases Nat.lt_or_ge i p with hlt | hge
    · have q0 : decide (i < p) = true := decide_eq_true hlt
      obtain ⟨⟨k0, k1, k2⟩, kf⟩ := id hBx
      have hrl : Hid (rs.length = i) := Lib.hid (by have := congrArg List.length HR.out; simpa using this)
      have hsz40 : (rs.length + 1) * 40 ≤ 140737488355328 := by have := hrl.out; omega
      have cE := fun W => ref_Empty n W
      have hBd := hB.drew
      have hGd : GOcts wr.drew (bc + 1) A c rs := hG.go (Below.refl _ _).drew
      have hBxd : CertBox wr.drew bc 0 n (.slice A rs.length c) := hBx.go (Below.refl _ _).drew
      have hszd : bc + 1 ≤ wr.drew.heap.size := hsz
      clear hB hG hBx hsz
      go_wp2_with fail
      have k2d := hBxd.at'.c2
      go_region_law (first
        | (go_simp; go_at_call 29; (with_reducible refine (cE _).mono ?_); rintro e w5 ⟨rfl, hb5⟩; have hBx5 := hBxd.go hb5; have hG5 := hGd.go hb5; have hB5 := hBd.trans (hb5.mono (Nat.le_trans (Nat.le_succ _) hszd)); have hs5 := Nat.le_trans hszd hb5.size; have c2 := hBx5.at'.c2; have c2b := (hBx5.go ((Below.refl _ _).alloc (Nat.le_refl _) (.cells #[.int .i64 n, .bool true, .slice none 0 0] 55))).at'.c2)
        | (refine step_appSg hE (w5.alloc (.cells #[.int .i64 n, .bool true, .slice none 0 0] 55)) rfl (.tmp 46) (.tmp 49) rfl (bc + 1) A c rs.length (ov rs) rfl (hG5.row.alloc _) [.int .i64 n, .bool true, .slice none 0 0] w5.heap.size rfl rfl (oct_news w5 55 ⟨n, true, none, 0, []⟩) (by simp [Value.oneCell']) hsz40 (by simp; omega) ?_; intro A' c' w9 hr9 hb9 hg9; have hBx9 := (hBx5.go ((Below.refl _ _).alloc (Nat.le_refl _) (.cells #[.int .i64 n, .bool true, .slice none 0 0] 55))).low hb9 (by omega); obtain ⟨⟨d0, d1, d2⟩, df⟩ := id hBx9; have df2 := df 2))
      all_goals
        have hG9 := (hG5.go ((Below.refl _ _).alloc (Nat.le_refl _) (.cells #[.int .i64 n, .bool true, .slice none 0 0] 55))).snoc (r := ⟨n, true, none, 0, []⟩) ⟨⟨by simp only; omega, by simp only; omega⟩, (fun x hx => by cases hx), Ow.nil _ _ _ _⟩ hr9 hg9
        have hB9 := ((hB5.alloc (Nat.le_trans (Nat.le_succ _) hs5) (.cells #[.int .i64 n, .bool true, .slice none 0 0] 55)).trans (hb9.mono (Nat.le_succ _)))
        have HX := Lib.hid (hBx9.set (.slice A' (rs.length + 1) c'))
        have HG := Lib.hid (hG9.low (p := ⟨bc, 2, none⟩) (Nat.lt_succ_self _) (.slice A' (rs.length + 1) c'))
        have HB := Lib.hid (hB9.setCell (p := ⟨bc, 2, none⟩) (Nat.le_refl _) (.slice A' (rs.length + 1) c'))
        have HS := Lib.hid (show bc + 1 ≤ (w9.setCell ⟨bc, 2, none⟩ (.slice A' (rs.length + 1) c')).heap.size by have h1 := hb9.size; simp at h1 ⊢; omega)
        clear hG9 hB9 hBx9 hr9 hb9 hg9 hG5 hBx5 hB5 c2 c2b d0 d1 d2 df df2 hb5
        go_wp2_with fail
        go_roundw
        case rel => exact ⟨i + 1, by go_num, by omega, ⟨1, Lib.hid (by simp), rfl⟩, A', c', rs ++ [⟨n, true, none, 0, []⟩], Lib.hid (by rw [List.map_append, HR.out, List.replicate_succ']; rfl), by rw [List.length_append]; exact HX.out, HG.out, HS.out, HB.out⟩
        case measure => simp [intOf]; omega
    · obtain rfl : i = p := by omega
      have q0 : decide (i < i) = false := by simp
      obtain ⟨⟨k0, k1, k2⟩, kf⟩ := id hBx
      have hoct := hG.octs
      have hv : v = 1 := by rw [HVV.out, if_neg (by omega)]
      subst hv
      obtain ⟨bs, hbs, hbl⟩ := enc_rep (o := ⟨n, true, []⟩) (each := 1) hn hp1 hp2 HM.out rfl (chk_empty (by omega)) rfl (by omega)
      have cE : Calls Try.prog 22 #[.agg #[.int .u64 0, .int .i64 n, .slice A rs.length c]] wr (TellsEnc wr (bs, 0)) := by
        have := cert_Encode 0 n A c (rs.map OR.oc) wr hoct (by omega) ⟨by omega, by omega⟩ (by rw [HR.out, List.length_replicate]; omega)
        rw [HR.out, hbs, List.length_replicate] at this
        have e : rs.length = i := by have := congrArg List.length HR.out; simpa using this
        rw [e]
        exact this
      have cN := fun W => code_Size n W (by omega)
      have cP := fun W => code_Size i W (by omega)
      have HBL := Lib.hid hbl
      have h10 := put_len10 (n := n) (by omega)
      have h11 := put_len10 (n := i) (by omega)
      have HB := Lib.hid hB
      have HSZ := Lib.hid hsz
      clear hbs hbl hoct hG hB hBx hsz hge hi
      go_wp2_with fail
      (with_reducible refine cE.mono ?_)
      clear cE k0 k1 k2 kf
      rintro e w5 ⟨A5, c5, rfl, _, hb5⟩
      have HB5 := Lib.hid (HB.out.trans (hb5.mono (Nat.le_trans (Nat.le_succ _) HSZ.out)))
      have HZ5 := Lib.hid (Nat.le_trans (Nat.le_trans (Nat.le_succ _) HSZ.out) hb5.size)
      dsimp only
      rw [HBL.out]
      clear hb5
      generalize (put n).length = ln at *
      generalize (put i).length = lp at *
      go_wp2_with fail
      (with_reducible refine (cN _).mono ?_)
      clear cN
      rintro e w6 ⟨rfl, hb6⟩
      have HB6 := Lib.hid (HB5.out.trans (hb6.mono HZ5.out))
      have HZ6 := Lib.hid (Nat.le_trans HZ5.out hb6.size)
      clear hb6
      go_wp2_with fail
      (with_reducible refine (cP _).mono ?_)
      clear cP
      rintro e w7 ⟨rfl, hb7⟩
      have HB7 := Lib.hid (HB6.out.trans (hb7.mono HZ6.out))
      clear hb7
      go_wp2_with fail
      go_ret
      exact ⟨rfl, HB1.out.trans (HB7.out.mono (by have := HB1.out.size; have := HBC.out; omega))⟩
set_option maxRecDepth 100000 in
set_option maxHeartbeats 2000000 in
theorem sizes_false (n p : Nat) (w : World) (hn : n ≤ 20) (hp1 : 1 ≤ p) (hp2 : p ≤ 200) (hm : 4 * n * n * p ≤ 100000) :
    Calls Try.prog 6 #[.int .i64 n, .int .i64 p, .bool false] w fun e w' => e = .returned (.bool true) ∧ Below w.heap.size w w' := by
  have p0 : decide ((n : Int) < 0) = false := decide_eq_false (by omega)
  have p1 : decide (20 < (n : Int)) = false := decide_eq_false (by omega)
  have p2 : decide ((p : Int) < 1) = false := decide_eq_false (by omega)
  have p3 : decide (200 < (p : Int)) = false := decide_eq_false (by omega)
  obtain ⟨⟨b1, b2⟩, ⟨b3, b4⟩, b5, b6⟩ := head_mul (N := n) (L := p) (by omega) (by omega)
  have e5 : (4 : Int) * n * n * p = ((4 * n * n * p : Nat) : Int) := by push_cast; rfl
  have p4 : decide (100000 < 4 * (n : Int) * n * p) = false := decide_eq_false (by omega)
  have hE := Try.elOct
  have HM := Lib.hid hm
  clear e5 hm
  go_enter Try.func6, Try.ntmps6
  go_wp2_with fail
  (with_reducible refine (known19 _).mono ?_)
  rintro e w1 ⟨rfl, hb1⟩
  have HB1 := Lib.hid hb1
  clear hb1
  have hBx := CertBox.new w1 40 0 n (.slice none 0 0)
  have hb2 : Below w1.heap.size w1 (w1.alloc (.cells #[.int .u64 0, .int .i64 n, .slice none 0 0] 40)) := (Below.refl _ _).alloc (Nat.le_refl _) _
  obtain ⟨w2, hw2⟩ : ∃ w2, w2 = w1.alloc (.cells #[.int .u64 0, .int .i64 n, .slice none 0 0] 40) := ⟨_, rfl⟩
  rw [← hw2] at hBx hb2
  have hsz2 : w1.heap.size + 1 ≤ w2.heap.size := by rw [hw2]; simp
  go_wp2_with fail
  rw [← hw2]
  clear hw2 b1 b2 b3 b4 b5 b6 p0 p1 p2 p3 p4
  have hG0 := GOcts.nil w2 (w1.heap.size + 1)
  generalize hbc : w1.heap.size = bc at *
  have HBC := Lib.hid hbc
  clear hbc
  go_loopw [8, 9] (fun s8 s9 wr => ∃ i : Nat, s9 = .int .i64 i ∧ i ≤ p ∧ (∃ v : Int, Hid (v = 2) ∧ s8 = .int .i64 v) ∧ ∃ A c, ∃ rs : List OR, Hid (rs.map OR.oc = List.replicate i ⟨n, false, topM (2 * n)⟩) ∧ CertBox wr bc 0 n (.slice A rs.length c) ∧ GOcts wr (bc + 1) A c rs ∧ bc + 1 ≤ wr.heap.size ∧ Below bc w1 wr) (fun _ s _ => p - (intOf s).toNat)
  case atStart => exact ⟨0, rfl, by omega, ⟨2, Lib.hid rfl, rfl⟩, none, 0, [], Lib.hid rfl, hBx, hG0, hsz2, hb2⟩
  case round =>
    clear hBx hG0 hsz2 hb2
    obtain ⟨i, rfl, hi, ⟨v, HVV, rfl⟩, A, c, rs, HR, hBx, hG, hsz, hB⟩ := hrel
    rename_i wr _
    rcases Nat.lt_or_ge i p with hlt | hge
    · have q0 : decide (i < p) = true := decide_eq_true hlt
      obtain ⟨⟨k0, k1, k2⟩, kf⟩ := id hBx
      have hrl : Hid (rs.length = i) := Lib.hid (by have := congrArg List.length HR.out; simpa using this)
      have hsz40 : (rs.length + 1) * 40 ≤ 140737488355328 := by have := hrl.out; omega
      have cE := fun W => ref_Top n W (by omega)
      have hBd := hB.drew
      have hGd : GOcts wr.drew (bc + 1) A c rs := hG.go (Below.refl _ _).drew
      have hBxd : CertBox wr.drew bc 0 n (.slice A rs.length c) := hBx.go (Below.refl _ _).drew
      have hszd : bc + 1 ≤ wr.drew.heap.size := hsz
      clear hB hG hBx hsz
      go_wp2_with fail
      have k2d := hBxd.at'.c2
      go_region_law (first
        | (go_simp; go_at_call 30; (with_reducible refine (cE _).mono ?_); rintro e w5 ⟨g5, M5, hM5, rfl, hOw5, hb5⟩; have HM5 := Lib.hid hM5; clear hM5; have hOw6 := hOw5.alloc (.cells #[.int .i64 n, .bool false, .slice (some ⟨g5, 0, none⟩) M5.length M5.length] 55); have hBx5 := hBxd.go hb5; have hG5 := hGd.go hb5; have hB5 := hBd.trans (hb5.mono (Nat.le_trans (Nat.le_succ _) hszd)); have hs5 := Nat.le_trans hszd hb5.size; have c2 := hBx5.at'.c2; have c2b := (hBx5.go ((Below.refl _ _).alloc (Nat.le_refl _) (.cells #[.int .i64 n, .bool false, .slice (some ⟨g5, 0, none⟩) M5.length M5.length] 55))).at'.c2)
        | (refine step_appSg hE (w5.alloc (.cells #[.int .i64 n, .bool false, .slice (some ⟨g5, 0, none⟩) M5.length M5.length] 55)) rfl (.tmp 53) (.tmp 56) rfl (bc + 1) A c rs.length (ov rs) rfl (hG5.row.alloc _) [.int .i64 n, .bool false, .slice (some ⟨g5, 0, none⟩) M5.length M5.length] w5.heap.size rfl rfl (oct_news w5 55 ⟨n, false, some ⟨g5, 0, none⟩, M5.length, M5⟩) (by simp [Value.oneCell']) hsz40 (by simp; omega) ?_; intro A' c' w9 hr9 hb9 hg9; have hBx9 := (hBx5.go ((Below.refl _ _).alloc (Nat.le_refl _) (.cells #[.int .i64 n, .bool false, .slice (some ⟨g5, 0, none⟩) M5.length M5.length] 55))).low hb9 (by omega); obtain ⟨⟨d0, d1, d2⟩, df⟩ := id hBx9; have df2 := df 2))
      all_goals
        have hG9 := (hG5.go ((Below.refl _ _).alloc (Nat.le_refl _) (.cells #[.int .i64 n, .bool false, .slice (some ⟨g5, 0, none⟩) M5.length M5.length] 55))).snoc (r := ⟨n, false, some ⟨g5, 0, none⟩, M5.length, M5⟩) ⟨⟨by simp only; omega, by simp only; omega⟩, (by rw [HM5.out]; exact topM_i64), hOw6.lower hszd⟩ hr9 hg9
        have hB9 := ((hB5.alloc (Nat.le_trans (Nat.le_succ _) hs5) (.cells #[.int .i64 n, .bool false, .slice (some ⟨g5, 0, none⟩) M5.length M5.length] 55)).trans (hb9.mono (Nat.le_succ _)))
        have HX := Lib.hid (hBx9.set (.slice A' (rs.length + 1) c'))
        have HG := Lib.hid (hG9.low (p := ⟨bc, 2, none⟩) (Nat.lt_succ_self _) (.slice A' (rs.length + 1) c'))
        have HB := Lib.hid (hB9.setCell (p := ⟨bc, 2, none⟩) (Nat.le_refl _) (.slice A' (rs.length + 1) c'))
        have HS := Lib.hid (show bc + 1 ≤ (w9.setCell ⟨bc, 2, none⟩ (.slice A' (rs.length + 1) c')).heap.size by have h1 := hb9.size; simp at h1 ⊢; omega)
        clear hG9 hB9 hBx9 hr9 hb9 hg9 hG5 hBx5 hB5 c2 c2b d0 d1 d2 df df2 hb5 hOw5 hOw6
        go_wp2_with fail
        go_roundw
        case rel => exact ⟨i + 1, by go_num, by omega, ⟨v, HVV, rfl⟩, A', c', rs ++ [⟨n, false, some ⟨g5, 0, none⟩, M5.length, M5⟩], Lib.hid (by rw [List.map_append, HR.out, List.replicate_succ', ← HM5.out]; rfl), by rw [List.length_append]; exact HX.out, HG.out, HS.out, HB.out⟩
        case measure => simp [intOf]; omega
    · obtain rfl : i = p := by omega
      have q0 : decide (i < i) = false := by simp
      obtain ⟨⟨k0, k1, k2⟩, kf⟩ := id hBx
      have hoct := hG.octs
      have hv : v = 2 := HVV.out
      subst hv
      obtain ⟨bs, hbs, hbl⟩ := enc_rep (o := ⟨n, false, topM (2 * n)⟩) (each := 2) hn hp1 hp2 HM.out rfl (chk_top (by omega)) (by show (octB n false (topM (2 * n))).length = 2; rw [octB_top]; rfl) (by omega)
      have cE : Calls Try.prog 22 #[.agg #[.int .u64 0, .int .i64 n, .slice A rs.length c]] wr (TellsEnc wr (bs, 0)) := by
        have := cert_Encode 0 n A c (rs.map OR.oc) wr hoct (by omega) ⟨by omega, by omega⟩ (by rw [HR.out, List.length_replicate]; omega)
        rw [HR.out, hbs, List.length_replicate] at this
        have e : rs.length = i := by have := congrArg List.length HR.out; simpa using this
        rw [e]
        exact this
      have cN := fun W => code_Size n W (by omega)
      have cP := fun W => code_Size i W (by omega)
      have HBL := Lib.hid hbl
      have h10 := put_len10 (n := n) (by omega)
      have h11 := put_len10 (n := i) (by omega)
      have HB := Lib.hid hB
      have HSZ := Lib.hid hsz
      clear hbs hbl hoct hG hB hBx hsz hge hi
      go_wp2_with fail
      (with_reducible refine cE.mono ?_)
      clear cE k0 k1 k2 kf
      rintro e w5 ⟨A5, c5, rfl, _, hb5⟩
      have HB5 := Lib.hid (HB.out.trans (hb5.mono (Nat.le_trans (Nat.le_succ _) HSZ.out)))
      have HZ5 := Lib.hid (Nat.le_trans (Nat.le_trans (Nat.le_succ _) HSZ.out) hb5.size)
      dsimp only
      rw [HBL.out]
      clear hb5
      generalize (put n).length = ln at *
      generalize (put i).length = lp at *
      go_wp2_with fail
      (with_reducible refine (cN _).mono ?_)
      clear cN
      rintro e w6 ⟨rfl, hb6⟩
      have HB6 := Lib.hid (HB5.out.trans (hb6.mono HZ5.out))
      have HZ6 := Lib.hid (Nat.le_trans HZ5.out hb6.size)
      clear hb6
      go_wp2_with fail
      (with_reducible refine (cP _).mono ?_)
      clear cP
      rintro e w7 ⟨rfl, hb7⟩
      have HB7 := Lib.hid (HB6.out.trans (hb7.mono HZ6.out))
      clear hb7
      go_wp2_with fail
      go_ret
      exact ⟨rfl, HB1.out.trans (HB7.out.mono (by have := HB1.out.size; have := HBC.out; omega))⟩
set_option maxRecDepth 100000 in
set_option maxHeartbeats 1000000 in
theorem law_CertSizes (n p : Int) (E : Bool) (w : World) : Calls Try.prog 6 #[.int .i64 n, .int .i64 p, .bool E] w fun e w' => e = .returned (.bool true) ∧ Below w.heap.size w w' := by
  by_cases h0 : n < 0
  · have q0 : decide (n < 0) = true := decide_eq_true h0
    go_enter Try.func6, Try.ntmps6
    go_wp2_with fail
    (with_reducible refine (known19 _).mono ?_)
    rintro e w1 ⟨rfl, hb1⟩
    go_wp2_with fail
    go_ret
    exact ⟨rfl, hb1⟩
  have q0 : decide (n < 0) = false := decide_eq_false h0
  by_cases h1 : 20 < n
  · have q1 : decide (20 < n) = true := decide_eq_true h1
    clear h0
    go_enter Try.func6, Try.ntmps6
    go_wp2_with fail
    (with_reducible refine (known19 _).mono ?_)
    rintro e w1 ⟨rfl, hb1⟩
    go_wp2_with fail
    go_ret
    exact ⟨rfl, hb1⟩
  have q1 : decide (20 < n) = false := decide_eq_false h1
  by_cases h2 : p < 1
  · have q2 : decide (p < 1) = true := decide_eq_true h2
    clear h0 h1
    go_enter Try.func6, Try.ntmps6
    go_wp2_with fail
    (with_reducible refine (known19 _).mono ?_)
    rintro e w1 ⟨rfl, hb1⟩
    go_wp2_with fail
    go_ret
    exact ⟨rfl, hb1⟩
  have q2 : decide (p < 1) = false := decide_eq_false h2
  by_cases h3 : 200 < p
  · have q3 : decide (200 < p) = true := decide_eq_true h3
    clear h0 h1 h2
    go_enter Try.func6, Try.ntmps6
    go_wp2_with fail
    (with_reducible refine (known19 _).mono ?_)
    rintro e w1 ⟨rfl, hb1⟩
    go_wp2_with fail
    go_ret
    exact ⟨rfl, hb1⟩
  have q3 : decide (200 < p) = false := decide_eq_false h3
  obtain ⟨m, rfl⟩ := Int.eq_ofNat_of_zero_le (show 0 ≤ n by omega)
  obtain ⟨k, rfl⟩ := Int.eq_ofNat_of_zero_le (show 0 ≤ p by omega)
  have e : (4 : Int) * m * m * k = ((4 * m * m * k : Nat) : Int) := by push_cast; rfl
  obtain ⟨⟨b1, b2⟩, ⟨b3, b4⟩, b5, b6⟩ := head_mul (N := m) (L := k) (by omega) (by omega)
  by_cases h4 : 100000 < 4 * (m : Int) * m * k
  · have q4 : decide (100000 < 4 * (m : Int) * m * k) = true := decide_eq_true h4
    clear h0 h1 h2 h3 e
    go_enter Try.func6, Try.ntmps6
    go_wp2_with fail
    (with_reducible refine (known19 _).mono ?_)
    rintro e w1 ⟨rfl, hb1⟩
    go_wp2_with fail
    go_ret
    exact ⟨rfl, hb1⟩
  rcases E with _ | _
  · exact sizes_false m k w (by omega) (by omega) (by omega) (by omega)
  · exact sizes_true m k w (by omega) (by omega) (by omega) (by omega)
end Go.Proofs.Ytghpiofjejhegaa

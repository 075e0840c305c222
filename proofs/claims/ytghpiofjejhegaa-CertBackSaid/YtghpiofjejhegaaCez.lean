/- The walks of gnomonhelp.Octs and gnomonlaw19.same at equal ones; CertDecodes. -/
import Derived.Test.YtghpiofjejhegaaCey
import Derived.Test.YtghpiofjejhegaaCel
import Derived.Test.YtghpiofjejhegaaOctE
import Derived.Test.YtghpiofjejhegaaCeo
namespace Go.Proofs.Ytghpiofjejhegaa
open Go.RowKit
set_option maxRecDepth 100000
set_option linter.unusedVariables false
set_option linter.unusedSimpArgs false
open Gn
theorem GOcts.len {w : World} {base : Nat} {A : Option Addr} {c : Nat} {rs : List OR} (h : GOcts w base A c rs) : (rs.length : Int) ≤ 9223372036854775807 := by
  rcases h.row.2 with ⟨hv, h0⟩ | ⟨g, cap, cur, hv, hb, hh, hnc, hcm, hcs, hx⟩
  · omega
  · unfold maxLen at hcm; omega
theorem help_Octs (A A' : Option Addr) (c c' : Nat) (os : List OC) (w : World) (h : OctsIn w A os) (h' : OctsIn w A' os) (hm : (os.length : Int) ≤ 9223372036854775807) :
    Calls Try.prog 63 #[.slice A os.length c, .slice A' os.length c'] w fun e w' => e = .returned (.bool true) ∧ Below w.heap.size w w' := by
  go_enter Try.func63, Try.ntmps63
  go_wp2_with fail
  go_loopw [5] (fun s wr => ∃ i : Nat, s = .int .i64 i ∧ i ≤ os.length ∧ Below w.heap.size w wr) (fun s _ => os.length - (intOf s).toNat)
  case atStart => exact ⟨0, rfl, by omega, Below.refl _ _⟩
  case round =>
    obtain ⟨i, rfl, hi, hBr⟩ := hrel
    rename_i wr _
    rcases Nat.lt_or_ge i os.length with hlt | hge
    · have q0 : decide (i < os.length) = true := decide_eq_true hlt
      have q5 : (i : Int) < (os.length : Int) := by omega
      have q7 : (0 : Int) ≤ (i : Int) := by omega
      obtain ⟨b, off, rfl, hlb, hcell⟩ := (h.go hBr) (by omega)
      obtain ⟨Ai, ci, e0, e1, e2, hoct⟩ := hcell i hlt
      obtain ⟨b', off', rfl, hlb', hcell'⟩ := (h'.go hBr) (by omega)
      obtain ⟨Ai', ci', e0', e1', e2', hoct'⟩ := hcell' i hlt
      clear hcell hcell' h h'
      obtain ⟨o, ho⟩ : ∃ o, o = ocAt os i := ⟨_, rfl⟩
      rw [← ho] at e0 e1 e2 hoct e0' e1' e2' hoct'
      clear ho
      have cS : ∀ x : After wr, Calls Try.prog 78 #[.agg #[.int .i64 o.n, .bool o.e, .slice Ai o.m.length ci], .agg #[.int .i64 o.n, .bool o.e, .slice Ai' o.m.length ci']] x.w fun e w' => e = .returned (.bool true) ∧ Below x.w.heap.size x.w w' := fun x => by
        have := help_Oct o.n o.n o.e o.e Ai Ai' ci ci' o.m o.m x.w (hoct.go x.below).rd (hoct'.go x.below).rd hoct.len hoct'.len
        rw [show decide (o.n = o.n ∧ o.e = o.e ∧ o.m = o.m) = true from decide_eq_true ⟨rfl, rfl, rfl⟩] at this
        exact this
      have a4 := After.cell e0
      have a5 := After.cell e1
      have a6 := After.cell e2
      have a7 := After.cell e0'
      have a8 := After.cell e1'
      have a9 := After.cell e2'
      have HBR := Lib.hid hBr
      clear hBr hoct hoct' e0 e1 e2 e0' e1' e2'
      go_wp2_with fail
      refine wp_region_after (by kernel_rfl) (by kernel_rfl) ?_
      repeat (go_big_quiet_step ((go_at_call 78; with_reducible exact after_of (cS _))))
      refine wpQuiet_nil ?_
      intro w7 hb7
      have HB7 := Lib.hid (HBR.out.trans (hb7.mono HBR.out.size))
      clear hb7 cS a4 a5 a6 a7 a8 a9
      go_wp2_with fail
      go_roundw
      case rel => exact ⟨i + 1, by go_num, by omega, HB7.out⟩
      case measure => simp [intOf]; omega
    · obtain rfl : i = os.length := by omega
      have q0 : decide (os.length < os.length) = false := by simp
      clear hge hi
      go_wp2_with fail
      go_ret
      exact ⟨rfl, hBr⟩
theorem law_same (D N : Int) (A A' : Option Addr) (c c' : Nat) (os : List OC) (w : World) (h : OctsIn w A os) (h' : OctsIn w A' os) (hm : (os.length : Int) ≤ 9223372036854775807) :
    Calls Try.prog 37 #[.agg #[.int .u64 D, .int .i64 N, .slice A os.length c], .agg #[.int .u64 D, .int .i64 N, .slice A' os.length c']] w fun e w' => e = .returned (.bool true) ∧ Below w.heap.size w w' := by
  obtain ⟨W, hW, h1, hB, hs⟩ := cert_box w 40 D N (.slice A os.length c)
  obtain ⟨W2, hW2, h2, hB2, hs2⟩ := cert_box W 40 D N (.slice A' os.length c')
  have g := (h.go hB).go hB2
  have g' := (h'.go hB).go hB2
  have h3 := h1.go hB2
  have HB := Lib.hid (hB.trans (hB2.mono hB.size))
  have cO := help_Octs A A' c c' os W2 g g' hm
  obtain ⟨k0, k1, k2⟩ := h3
  obtain ⟨l0, l1, l2⟩ := h2
  have q1 : (D == D) = true := by simp
  have q2 : (N == N) = true := by simp
  clear hB hB2 h h' h1 g g'
  go_enter Try.func37, Try.ntmps37
  go_upto_region 1 with fail
  rw [← hW, ← hW2]
  rw [hs] at l0 l1 l2
  clear hW hW2 hs hs2
  go_wp2_with fail
  (with_reducible refine cO.mono ?_)
  rintro e w3 ⟨rfl, hb3⟩
  have HB3 := Lib.hid (HB.out.trans (hb3.mono HB.out.size))
  clear cO hb3 k0 k1 k2 l0 l1 l2
  go_wp2_with fail
  go_ret
  exact ⟨rfl, HB3.out⟩
set_option maxHeartbeats 1000000 in
theorem law_CertDecodes (A : Option Addr) (c : Nat) (b : List Int) (w : World) (hb : Bts b) (hr : Rd w w.heap.size .u8 A b.length (nth b)) (hz : (b.length : Int) ≤ 140737488351232) :
    Calls Try.prog 8 #[.slice A b.length c] w fun e w' => e = .returned (.bool true) ∧ Below w.heap.size w w' := by
  have hU8 := Try.elU8
  by_cases hskip : 3000 < b.length ∧ b.length ≤ 4194304
  · have q1 : decide ((3000 : Int) < (b.length : Int)) = true := decide_eq_true (by omega)
    have q2 : decide ((b.length : Int) ≤ 4194304) = true := decide_eq_true (by omega)
    have q3 : decide (3000 < b.length) = true := decide_eq_true (by omega)
    have q4 : decide (b.length ≤ 4194304) = true := decide_eq_true (by omega)
    clear hskip
    go_enter Try.func8, Try.ntmps8
    go_wp2_with fail
    (with_reducible refine (known19 _).mono ?_)
    rintro e w1 ⟨rfl, hb1⟩
    have HB1 := Lib.hid hb1
    clear hb1 hr
    go_wp2_with fail
    go_ret
    exact ⟨rfl, HB1.out⟩
  · have hq : ∃ z : Bool, z = decide (3000 < b.length) ∧ (z = true → ¬ b.length ≤ 4194304) := ⟨_, rfl, fun h => by have := of_decide_eq_true h; omega⟩
    go_enter Try.func8, Try.ntmps8
    go_wp2_with fail
    (with_reducible refine (known19 _).mono ?_)
    rintro e w1 ⟨rfl, hb1⟩
    have hr1 := (hr.below hb1).more hb1.size
    have HB1 := Lib.hid hb1
    clear hb1 hr
    go_upto_region 3 with fail
    go_cut [17] (fun s17 wx => s17 = .bool false ∧ w1 = wx)
    case first =>
      by_cases h1 : 3000 < b.length
      · have q1 : decide ((3000 : Int) < (b.length : Int)) = true := decide_eq_true (by omega)
        have q2 : decide ((b.length : Int) ≤ 4194304) = false := decide_eq_false (by omega)
        have q3 : decide (3000 < b.length) = true := decide_eq_true (by omega)
        have q4 : decide (b.length ≤ 4194304) = false := decide_eq_false (by omega)
        clear hskip hq h1
        go_wp2_with fail
        all_goals (go_meet; exact ⟨rfl, rfl⟩)
      · have q1 : decide ((3000 : Int) < (b.length : Int)) = false := decide_eq_false (by omega)
        have q3 : decide (3000 < b.length) = false := decide_eq_false (by omega)
        clear hskip hq h1
        go_wp2_with fail
        all_goals (go_meet; exact ⟨rfl, rfl⟩)
    case rest =>
      obtain ⟨rfl, rfl⟩ := hcut
      clear hskip hq
      have hsz : (([] : List Int).length + b.length) * 1 ≤ 140737488355328 := by simp; omega
      go_wp2_with (at_builtin; refine wpList_appN hU8 w1 rfl _ _ rfl w1.heap.size .u8 none 0 [] rfl (Ow.nil _ _ _ _) _ A c b rfl hr1 hsz (Nat.le_refl _) ?_; intro A2 c2 w2 ho2 hb2)
      rw [List.nil_append] at ho2
      have HO2 := Lib.hid ho2
      have HB2 := Lib.hid (HB1.out.trans (hb2.mono HB1.out.size))
      have HR2 := Lib.hid ((hr1.below hb2).more hb2.size)
      have cD := cert_Decode A2 c2 b w2 hb HO2.out.rd HO2.out.cap HO2.out.capMax (by omega)
      have hs2 := hb2.size
      clear ho2 hb2 hr1
      (with_reducible refine cD.mono ?_)
      clear cD
      rintro e w3 ⟨⟨Ao, co, rs, rfl, hG3, hrs⟩, hb3⟩
      have cD2 := fun W (hW : Below w3.heap.size w3 W) => ref_Decode A c b W hb (((HR2.out.below hb3).more hb3.size).below hW |>.more hW.size) (by omega)
      have HCD := Lib.hid cD2
      have HO3 := Lib.hid (HO2.out.below hb3)
      have HR3 := Lib.hid ((HR2.out.below hb3).more hb3.size)
      have HB3 := Lib.hid (HB2.out.trans (hb3.mono HB2.out.size))
      have hl : rs.length = (decP b).1.2.2.length := by rw [← hrs, List.length_map]
      have hos : OctsIn w3 Ao (decP b).1.2.2 := by rw [← hrs]; exact hG3.octs
      rw [hl]
      clear cD2 hl hrs hG3 hb3
      obtain ⟨P, hP⟩ : ∃ P, P = decP b := ⟨_, rfl⟩
      have HP := Lib.hid hP
      rw [← hP] at hos
      rw [← hP]
      clear hP
      obtain ⟨⟨D, N, os⟩, x⟩ := P
      dsimp only at hos ⊢
      have hb4 : Below w3.heap.size w3 (w3.alloc (.cells #[.int .u64 D, .int .i64 N, .slice Ao os.length co] 40)) := (Below.refl _ _).alloc (Nat.le_refl _) _
      obtain ⟨k0, k1, k2⟩ := (CertBox.new w3 40 D N (.slice Ao os.length co)).at'
      obtain ⟨w4, hw4⟩ : ∃ w4, w4 = w3.alloc (.cells #[.int .u64 D, .int .i64 N, .slice Ao os.length co] 40) := ⟨_, rfl⟩
      rw [← hw4] at hb4 k0 k1 k2
      have cD2 := HCD.out w4 hb4
      rw [← HP.out] at cD2
      have hos4 := hos.go hb4
      have HO4 := Lib.hid (HO3.out.below hb4)
      have HR4 := Lib.hid ((HR3.out.below hb4).more hb4.size)
      have HB4 := Lib.hid (HB3.out.trans (hb4.mono HB3.out.size))
      clear hb4 hos
      go_wp2_with fail
      rw [← hw4]
      clear hw4
      generalize w3.heap.size = ba at *
      (with_reducible refine cD2.mono ?_)
      clear cD2
      rintro e w5 ⟨⟨Ao', co', rs', rfl, hG5, hrs⟩, hb5⟩
      dsimp only at hrs ⊢
      have hl : rs'.length = os.length := by rw [← hrs, List.length_map]
      have hol : (os.length : Int) ≤ 9223372036854775807 := by rw [← hl]; exact hG5.len
      have hos5 : OctsIn w5 Ao' os := by rw [← hrs]; exact hG5.octs
      rw [hl]
      have hos4' := hos4.go hb5
      have k0' := below_cell hb5 k0
      have k1' := below_cell hb5 k1
      have k2' := below_cell hb5 k2
      have HO5 := Lib.hid (HO4.out.below hb5)
      have HR5 := Lib.hid ((HR4.out.below hb5).more hb5.size)
      have HB5 := Lib.hid (HB4.out.trans (hb5.mono HB4.out.size))
      clear hl hrs hG5 hb5 k0 k1 k2 hos4
      have hb6 : Below w5.heap.size w5 (w5.alloc (.cells #[.int .u64 D, .int .i64 N, .slice Ao' os.length co'] 40)) := (Below.refl _ _).alloc (Nat.le_refl _) _
      obtain ⟨l0, l1, l2⟩ := (CertBox.new w5 40 D N (.slice Ao' os.length co')).at'
      obtain ⟨w6, hw6⟩ : ∃ w6, w6 = w5.alloc (.cells #[.int .u64 D, .int .i64 N, .slice Ao' os.length co'] 40) := ⟨_, rfl⟩
      rw [← hw6] at hb6 l0 l1 l2
      have m0 := below_cell hb6 k0'
      have m1 := below_cell hb6 k1'
      have m2 := below_cell hb6 k2'
      have hg1 := hos4'.go hb6
      have hg2 := hos5.go hb6
      have HO6 := Lib.hid (HO5.out.below hb6)
      have HR6 := Lib.hid ((HR5.out.below hb6).more hb6.size)
      have HB6 := Lib.hid (HB5.out.trans (hb6.mono HB5.out.size))
      have cS := law_same D N Ao Ao' co co' os w6 hg1 hg2 hol
      have q5 : (x == x) = true := by simp
      clear hb6 hos4' hos5 k0' k1' k2' hg1 hg2
      go_upto_region 8 with fail
      rw [← hw6]
      clear hw6
      generalize w5.heap.size = bd at *
      go_wp2_with fail
      (with_reducible refine cS.mono ?_)
      clear cS
      rintro e w7 ⟨rfl, hb7⟩
      have hO7 := HO6.out.below hb7
      have hR7 := (HR6.out.below hb7).more hb7.size
      have HB7 := Lib.hid (HB6.out.trans (hb7.mono HB6.out.size))
      have cB := help_Bytes A2 A c2 c b b w7 _ _ hb hb hO7.rd hR7
      rw [show decide (b = b) = true by simp] at cB
      clear hb7 hO7 hR7
      go_wp2_with fail
      (with_reducible refine cB.mono ?_)
      clear cB
      rintro e w8 ⟨rfl, rfl⟩
      go_wp2_with fail
      go_ret
      exact ⟨rfl, HB7.out⟩
end Go.Proofs.Ytghpiofjejhegaa

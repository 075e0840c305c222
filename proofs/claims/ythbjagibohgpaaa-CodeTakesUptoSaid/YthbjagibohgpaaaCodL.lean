/- The walk of the statement CodeTakes, by the contracts of the functions that it calls. -/
import Derived.Test.YthbjagibohgpaaaCodT
import Derived.Test.YthbjagibohgpaaaCodP
import Derived.Test.YthbjagibohgpaaaCodR
namespace Go.Proofs.Ythbjagibohgpaaa
open Go.RowKit
open Gn
theorem takeAll_step {b : List Int} (hb : Bts b) (p : Nat) (hp : p < b.length) (he : (take (b.drop p)).2.2 = 0) :
    p + (take (b.drop p)).2.1 ≤ b.length ∧ 0 < (take (b.drop p)).2.1 ∧ takeAll (b.drop p) = if (takeAll (b.drop (p + (take (b.drop p)).2.1))).2 = 0 then ((take (b.drop p)).1 :: (takeAll (b.drop (p + (take (b.drop p)).2.1))).1, 0) else ([], (takeAll (b.drop (p + (take (b.drop p)).2.1))).2) := by
  have hb' : Bts (b.drop p) := fun x hx => hb x (List.mem_of_mem_drop hx)
  have hc := take_cnt hb' he
  have h0 : b.drop p ≠ [] := fun h => by have := congrArg List.length h; simp at this; omega
  refine ⟨by have := hc.2.1; rw [List.length_drop] at this; omega, hc.1, ?_⟩
  rw [takeAll_ok hb' h0 he, List.drop_drop]
set_option maxHeartbeats 1000000 in
theorem law_CodeTakes (A : Option Addr) (c : Nat) (b : List Int) (w : World) (hb : Bts b) (hr : Rd w w.heap.size .u8 A b.length (nth b)) (hc : b.length ≤ c) (hcm : c ≤ maxLen) (hl : (b.length : Int) ≤ 1099511627776) :
    Calls Try.prog 4 #[.slice A b.length c] w fun e w' => e = .returned (.bool true) ∧ Below w.heap.size w w' := by
  go_enter Try.func4, Try.ntmps4
  go_wp2_with fail
  refine (code_known w).mono ?_
  rintro e w1 ⟨rfl, hb1⟩
  have hr1 := hr.below hb1
  have c1 := code_Take A c b w1 hb (hr1.more hb1.size) (by omega)
  have c2 := ref_Take A c b 0 w1 hb (hr1.more hb1.size) (by omega) (Nat.zero_le _)
  rw [List.drop_zero] at c2
  go_wp2_with fail
  refine c1.mono ?_
  rintro e w' ⟨rfl, rfl⟩
  go_wp2_with fail
  refine c2.mono ?_
  rintro e w' ⟨rfl, rfl⟩
  go_wp2_with fail
  refine (code_TakeAll A c b w1 hb (hr1.more hb1.size) hc hcm hl).mono ?_
  rintro e w2 ⟨A2, c2', rfl, ho, hb2⟩
  clear c1 c2 hr
  have hB := hb1.trans (hb2.mono hb1.size)
  have hr2 := hr1.below (hb2.mono hb1.size)
  have hrl := ho.rd
  clear ho hr1 hb1 hb2
  have hE : (takeAll b).2 = 0 ∨ ((takeAll b).2 ≠ 0 ∧ (takeAll b).1 = []) := by
    by_cases h : (takeAll b).2 = 0
    · exact .inl h
    · exact .inr ⟨h, takeAll_fst b hb h⟩
  have HE := Lib.hid hE
  clear hE
  have hz := hB.size
  rcases hEl : takeAll b with ⟨l, E⟩
  rw [hEl] at HE hrl
  have HEl := Lib.hid hEl
  clear hEl
  go_wp2_with fail
  go_loop [10, 11] (fun at_ i => ∃ p : Nat, ∃ ns : List Nat, at_ = .int .i64 p ∧ p ≤ b.length ∧ i = .int .i64 ns.length ∧ ns.length ≤ p ∧ takeAll b = (if (takeAll (b.drop p)).2 = 0 then (ns ++ (takeAll (b.drop p)).1, 0) else ([], (takeAll (b.drop p)).2)))
    (fun at_ _ => b.length - (intOf at_).toNat)
  case atStart => exact ⟨0, [], rfl, Nat.zero_le _, rfl, Nat.le_refl _, by
    rw [List.drop_zero, HEl.out]
    rcases HE.out with h | ⟨h, h'⟩
    · have h : E = 0 := h
      subst h; simp
    · have h : E ≠ 0 := h
      have h' : l = [] := h'
      rw [if_neg h, h']⟩
  case round =>
    obtain ⟨p, ns, rfl, hp, rfl, hnp, ht⟩ := hrel
    rw [HEl.out] at ht
    have HT := Lib.hid ht
    clear ht
    rcases Nat.lt_or_ge p b.length with hlt | hge
    · have c3 := ref_Take A c b p w2 hb (hr2.more hz) (by omega) hp
      have hne : b.drop p ≠ [] := fun h => by have := congrArg List.length h; simp at this; omega
      rcases take_err_or (b.drop p) with he | he | he
      · obtain ⟨s1, s2, s3⟩ := takeAll_step hb p hlt he
        rw [he] at c3
        generalize (take (b.drop p)).1 = v at *
        generalize (take (b.drop p)).2.1 = k at *
        have hT2 : (l, E) = (if (takeAll (b.drop (p + k))).2 = 0 then ((ns ++ [v]) ++ (takeAll (b.drop (p + k))).1, 0) else ([], (takeAll (b.drop (p + k))).2)) := by
          rw [HT.out, s3]
          by_cases h : (takeAll (b.drop (p + k))).2 = 0
          · simp [h]
          · simp [h]
        have HT2 := Lib.hid hT2
        clear hT2 he s3 hne
        by_cases hE : E = 0
        · subst hE
          have hlen : ns.length < (nats l).length ∧ nth (nats l) ns.length = v := by
            have h := HT2.out
            by_cases h' : (takeAll (b.drop (p + k))).2 = 0
            · rw [if_pos h'] at h
              simp only [Prod.mk.injEq, and_true] at h
              rw [h]
              simp [nats, nth]
            · rw [if_neg h'] at h
              simp only [Prod.mk.injEq] at h
              exact absurd h.2.symm h'
          obtain ⟨g, off, rfl, _, hcell⟩ := hrl (by omega)
          have hci := hcell ns.length hlen.1
          rw [hlen.2] at hci
          have hl1 := hlen.1
          clear hcell hlen
          go_wp2_with (go_at_call 23; with_reducible refine c3.mono ?_; rintro e w' ⟨rfl, rfl⟩)
          go_round
          case rel => exact ⟨p + k, ns ++ [v], by go_num, s1, by simp, by simp; omega, by rw [HEl.out]; exact HT2.out⟩
          case measure => simp [intOf]; omega
        · have hEb : (E == 0) = false := beq_eq_false_iff_ne.2 hE
          clear hE
          go_wp2_with (go_at_call 23; with_reducible refine c3.mono ?_; rintro e w' ⟨rfl, rfl⟩)
          go_round
          case rel => exact ⟨p + k, ns ++ [v], by go_num, s1, by simp, by simp; omega, by rw [HEl.out]; exact HT2.out⟩
          case measure => simp [intOf]; omega
      · have hta := takeAll_err hne (by rw [he]; simp)
        rw [he] at c3 hta
        have h := HT.out
        rw [hta, if_neg (by decide)] at h
        simp only [Prod.mk.injEq] at h
        obtain ⟨rfl, rfl⟩ := h
        clear he hta HT
        go_wp2_with (go_at_call 23; with_reducible refine c3.mono ?_; rintro e w' ⟨rfl, rfl⟩)
        go_ret
        exact ⟨rfl, hB⟩
      · have hta := takeAll_err hne (by rw [he]; simp)
        rw [he] at c3 hta
        have h := HT.out
        rw [hta, if_neg (by decide)] at h
        simp only [Prod.mk.injEq] at h
        obtain ⟨rfl, rfl⟩ := h
        clear he hta HT
        go_wp2_with (go_at_call 23; with_reducible refine c3.mono ?_; rintro e w' ⟨rfl, rfl⟩)
        go_ret
        exact ⟨rfl, hB⟩
    · have h := HT.out
      rw [List.drop_of_length_le hge, takeAll_nil, if_pos rfl, List.append_nil] at h
      simp only [Prod.mk.injEq] at h
      obtain ⟨rfl, rfl⟩ := h
      obtain rfl : p = b.length := by omega
      clear HT
      have e := nats_len l
      have HN := Lib.hid e
      clear e hnp
      go_wp2_with fail
      go_ret
      exact ⟨by rw [HN.out]; simp, hB⟩
end Go.Proofs.Ythbjagibohgpaaa

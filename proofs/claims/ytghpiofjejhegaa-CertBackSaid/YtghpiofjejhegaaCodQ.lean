/- The walk of PutAll, of the package code. -/
import Derived.Test.YtghpiofjejhegaaCodT
import Derived.Test.YtghpiofjejhegaaCodP
namespace Go.Proofs.Ytghpiofjejhegaa
open Go.RowKit
open Gn
theorem putAll_take_succ (l : List Nat) (i : Nat) (h : i < l.length) : putAll (l.take (i + 1)) = putAll (l.take i) ++ put (l.getD i 0) := by
  rw [List.take_add_one, putAll_append]; simp [h, putAll]
theorem nth_nats {l : List Nat} {i : Nat} : nth (nats l) i = ((l.getD i 0 : Nat) : Int) := by
  unfold nth nats
  by_cases h : i < l.length
  · simp [h]
  · simp [h]
theorem getD_mem {l : List Nat} {i : Nat} (h : i < l.length) : l.getD i 0 ∈ l := by
  rw [List.getD_eq_getElem?_getD, List.getElem?_eq_getElem h]; simp
theorem putAll_len10 (l : List Nat) (hl : ∀ n ∈ l, (n : Int) ≤ 18446744073709551615) : (putAll l).length ≤ 10 * l.length := by
  induction l with
  | nil => simp [putAll]
  | cons n l ih =>
    have := ih (fun m hm => hl m (List.mem_cons_of_mem _ hm))
    have h2 := put_len10 (hl n List.mem_cons_self)
    simp only [putAll, List.length_append, List.length_cons]; omega
set_option maxHeartbeats 800000 in
theorem code_PutAll (A : Option Addr) (c : Nat) (l : List Nat) (w : World) (hl : ∀ n ∈ l, (n : Int) ≤ 18446744073709551615) (hr : Rd w w.heap.size .u64 A l.length (nth (nats l))) (hlen : (l.length : Int) ≤ 1099511627776) :
    Calls Try.prog 12 #[.slice A l.length c] w fun e w' => ∃ A' c', e = .returned (.slice A' (putAll l).length c') ∧ Ow w' w.heap.size 5 .u8 A' c' (putAll l) ∧ Below w.heap.size w w' := by
  have hE := Try.elU8
  go_enter Try.func12, Try.ntmps12
  go_wp2
  go_loopw [3, 8] (fun out s wr => ∃ i A' c', s = .int .i64 (i : Nat) ∧ i ≤ l.length ∧ out = .slice A' (putAll (l.take i)).length c' ∧ Ow wr w.heap.size 5 .u8 A' c' (putAll (l.take i)) ∧ Below w.heap.size w wr)
    (fun _ s _ => l.length - (intOf s).toNat)
  case atStart => exact ⟨0, none, 0, rfl, by omega, rfl, Ow.nil _ _ _ _, Below.refl _ _⟩
  case round =>
    obtain ⟨i, A', c', rfl, hi, rfl, hown, hB⟩ := hrel
    have hBs := hB.size
    rcases Nat.lt_or_ge i l.length with hlt | hge
    · obtain ⟨g, off, rfl, hg, hcell⟩ := hr (by omega)
      have hc1 := (hB.cell (p := ⟨g, off + i, none⟩) hg).trans (hcell i hlt)
      rw [nth_nats] at hc1
      have hn := hl _ (getD_mem hlt)
      have hlp := putAll_len10 (l.take i) (fun n hn => hl n (List.mem_of_mem_take hn))
      rw [List.length_take] at hlp
      have hp10 := put_len10 hn
      have hs := putAll_take_succ l i hlt
      generalize l.getD i 0 = n at *
      have cP := code_Put n wr hn
      clear hcell hr
      go_wp2_with fail
      refine cP.mono ?_
      rintro e w1 ⟨A1, c1, rfl, ho1, hb1⟩
      have hown1 := hown.below hb1
      have hb1s := hb1.size
      have hr1 := ho1.rd
      have hsz : ((putAll (l.take i)).length + (put n).length) * 1 ≤ 140737488355328 := by omega
      have hbs : w.heap.size ≤ w1.heap.size := by omega
      go_wp2_with (at_builtin; refine wpList_appN hE w1 rfl _ _ rfl w.heap.size .u8 A' c' _ rfl hown1 _ A1 c1 (put n) rfl hr1 hsz hbs ?_; intro A2 c2 w2 hown2 hb2)
      rw [← hs] at hown2
      have hB2 : Below w.heap.size w w2 := (hB.trans (hb1.mono hBs)).trans hb2
      go_roundw
      case rel => exact ⟨i + 1, A2, c2, by go_num, by omega, val_slice (by rw [hs]; simp), hown2, hB2⟩
      case measure => simp [intOf]; omega
    · obtain rfl : i = l.length := by omega
      go_wp2_with fail
      rw [List.take_length] at hown
      go_ret
      rw [List.take_length]
      exact ⟨A', c', rfl, hown, hB⟩
end Go.Proofs.Ytghpiofjejhegaa

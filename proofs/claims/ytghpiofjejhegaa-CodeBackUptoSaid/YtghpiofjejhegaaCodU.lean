/- The walk of CodeBack at rows of integers. -/
import Derived.Test.YtghpiofjejhegaaCodV
namespace Go.Proofs.Ytghpiofjejhegaa
open Go.RowKit
open Gn
theorem nats_of (xs : List Int) (h : ∀ x ∈ xs, 0 ≤ x ∧ x ≤ 18446744073709551615) : ∃ l : List Nat, nats l = xs ∧ ∀ n ∈ l, (n : Int) ≤ 18446744073709551615 := by
  refine ⟨xs.map Int.toNat, ?_, ?_⟩
  · unfold nats
    rw [List.map_map]
    conv => rhs; rw [← List.map_id xs]
    refine List.map_congr_left fun x hx => ?_
    have := h x hx
    simp; omega
  · intro n hn
    obtain ⟨x, hx, rfl⟩ := List.mem_map.1 hn
    have := h x hx
    omega
theorem law_CodeBack' (A : Option Addr) (c : Nat) (xs : List Int) (A1 : Option Addr) (c1 : Nat) (more : List Int) (m : Int) (A3 : Option Addr) (c3 : Nat) (b : List Int) (w : World)
    (hl : ∀ x ∈ xs, 0 ≤ x ∧ x ≤ 18446744073709551615) (hr : Rd w w.heap.size .u64 A xs.length (nth xs)) (hlen : (xs.length : Int) ≤ 1048576)
    (hmb : Bts more) (hmr : Rd w w.heap.size .u8 A1 more.length (nth more)) (hml : (more.length : Int) ≤ 1048576)
    (hm : I64 m)
    (hb : Bts b) (hbr : Rd w w.heap.size .u8 A3 b.length (nth b)) (hbc : b.length ≤ c3) (hbm : c3 ≤ maxLen) (hbl : (b.length : Int) ≤ 1048576) :
    Calls Try.prog 3 #[.slice A xs.length c, .slice A1 more.length c1, .int .i64 m, .slice A3 b.length c3] w fun e w' => e = .returned (.bool true) ∧ Below w.heap.size w w' := by
  obtain ⟨l, rfl, h⟩ := nats_of xs hl
  rw [nats_len] at hr hlen
  rw [nats_len]
  exact law_CodeBack A c l A1 c1 more m A3 c3 b w h hr hlen hmb hmr hml hm hb hbr hbc hbm hbl
end Go.Proofs.Ytghpiofjejhegaa

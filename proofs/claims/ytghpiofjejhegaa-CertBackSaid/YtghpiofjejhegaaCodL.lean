/- The walk of the statement CodeTakes, by the contracts of the functions that it calls. -/
import Derived.Test.YtghpiofjejhegaaCodT
import Derived.Test.YtghpiofjejhegaaCodP
import Derived.Test.YtghpiofjejhegaaCodR
namespace Go.Proofs.Ytghpiofjejhegaa
open Go.RowKit
open Gn
theorem takeAll_step {b : List Int} (hb : Bts b) (p : Nat) (hp : p < b.length) (he : (take (b.drop p)).2.2 = 0) :
    p + (take (b.drop p)).2.1 ≤ b.length ∧ 0 < (take (b.drop p)).2.1 ∧ takeAll (b.drop p) = if (takeAll (b.drop (p + (take (b.drop p)).2.1))).2 = 0 then ((take (b.drop p)).1 :: (takeAll (b.drop (p + (take (b.drop p)).2.1))).1, 0) else ([], (takeAll (b.drop (p + (take (b.drop p)).2.1))).2) := by
  have hb' : Bts (b.drop p) := fun x hx => hb x (List.mem_of_mem_drop hx)
  have hc := take_cnt hb' he
  have h0 : b.drop p ≠ [] := fun h => by have := congrArg List.length h; simp at this; omega
  refine ⟨by have := hc.2.1; rw [List.length_drop] at this; omega, hc.1, ?_⟩
  rw [takeAll_ok hb' h0 he, List.drop_drop]
end Go.Proofs.Ytghpiofjejhegaa

/- A region that draws its order, whose operations only read and whose callees only read or make memory: walked once, in the order of the text. No program in sight. -/
import Derived.Below
import Derived.BigQuiet
import Derived.Deep.Draws
namespace Go.Proofs.Ytkogplnleiapfaa
open Go.RowKit
/-- A world in which all that was there in W is as it was. -/
structure After (W : World) where
  w : World
  below : Below W.heap.size W w
instance (W : World) : Nonempty (After W) := ⟨⟨W, Below.refl _ _⟩⟩
theorem After.cell {W : World} {p : Addr} {v : Value} (h : W.cell? p = some v) (x : After W) : x.w.cell? p = some v :=
  (x.below.cell (World.block_lt_of_cell? W p h)).trans h
theorem After.frozen {W : World} {p : Addr} {b : Bool} (h : W.frozen? p = b) (hp : p.block < W.heap.size) (x : After W) : x.w.frozen? p = b :=
  (x.below.frozen hp).trans h
theorem wp_region_after {P : Program} {id : Nat} {Q : Exit → Act → World → Prop} {a : Act} {W : World} {l : List Oper} (hm : P.follows .mixedOrders = true) (hB : Region.lexB .any l.toArray = true)
    (h : wpQuiet P l.toArray (fun w' => ∃ x : After W, w' = x.w) (fun a' => ∀ w', Below W.heap.size W w' → Q .normal a' w') l a) : (Code.region id l.toArray true).wp P Q a W := by
  refine wp_region_quiet (C := fun w' => ∃ x : After W, w' = x.w) hm hB ⟨⟨W.drew, (Below.refl _ _).drew⟩, rfl⟩ ?_
  have e : (fun a' => ∀ w', (∃ x : After W, w' = x.w) → Q .normal a' w') = (fun a' => ∀ w', Below W.heap.size W w' → Q .normal a' w') := by
    funext a'
    exact propext ⟨fun h w' hb => h w' ⟨⟨w', hb⟩, rfl⟩, fun h w' ⟨x, e⟩ => e ▸ h _ x.below⟩
  rw [e]
  simpa using h
/-- A callee that makes memory, met in a world behind W. -/
theorem after_of {P : Program} {f : FuncId} {args : Array Value} {W : World} {x : After W} {v : Value}
    (h : Calls P f args x.w fun e w' => e = .returned v ∧ Below x.w.heap.size x.w w') : Calls P f args x.w fun e w'' => e = .returned v ∧ ∃ y : After W, w'' = y.w :=
  h.mono fun _ w' ⟨he, hb⟩ => ⟨he, ⟨w', x.below.trans (hb.mono x.below.size)⟩, rfl⟩
/-- A callee that leaves the world alone. -/
theorem after_same {P : Program} {f : FuncId} {args : Array Value} {W : World} {x : After W} {v : Value}
    (h : Calls P f args x.w fun e w' => e = .returned v ∧ x.w = w') : Calls P f args x.w fun e w'' => e = .returned v ∧ ∃ y : After W, w'' = y.w :=
  h.mono fun _ _ ⟨he, hw⟩ => ⟨he, x, hw.symm⟩
/-- A callee that draws. -/
theorem after_drawn {P : Program} {f : FuncId} {args : Array Value} {W : World} {x : After W} {v : Value}
    (h : Calls P f args x.w fun e w' => e = .returned v ∧ ∃ n, w' = x.w.drewN n) : Calls P f args x.w fun e w'' => e = .returned v ∧ ∃ y : After W, w'' = y.w :=
  h.mono fun _ w' ⟨he, _, hw⟩ => ⟨he, ⟨w', hw ▸ x.below.trans ⟨rfl, rfl, rfl, Nat.le_refl _, fun _ _ => rfl⟩⟩, rfl⟩
theorem below_cell {W w : World} (hb : Below W.heap.size W w) {p : Addr} {v : Value} (h : W.cell? p = some v) : w.cell? p = some v :=
  (hb.cell (World.block_lt_of_cell? W p h)).trans h
end Go.Proofs.Ytkogplnleiapfaa

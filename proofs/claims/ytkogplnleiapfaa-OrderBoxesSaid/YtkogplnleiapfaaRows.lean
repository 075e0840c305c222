/-
  No cell of these rows narrows 'for every input' (looked for: loops, veiled, ifaces, maps, wideKeys, modest, calm, conditions, laid).
  DERIVED. THE GIVEN ROWS OF THIS SEAT. 10 by the template 'for every input the law returns true; each argument reads behind the call as it read before'; 0 by the template 'total and deterministic' (their statements: YtkogplnleiapfaaTotals.lean).
  GIVEN WITH THE SEED: the statements are not yours to turn. If you find one false, say at which input.
  Laid BY PROGRAM, IN A SANDBOX (cutbox-rows.mjs): the forced cells as the released guide's own fill.sh prints them over the translation bfe5d6b35916255a… (all of the seat's roots in one cut). By AI agents, Wed Nov 11 2026. No macro, syntax, notation, axiom, sorry.
-/
import Derived.Test.YtkogplnleiapfaaChecked
import GoSem.Claim
import GoSem.ClaimJoined
import GoSem.ClaimMapViews
import Derived.JoinedTies
import Derived.KernelRfl
namespace Go.Proofs.Ytkogplnleiapfaa
/- THE CELL 'sum', in the pinned program and in every row, IS THE sha256 OF THE DUMP (.gsa) THAT YtkogplnleiapfaaProg.lean LOADS. Nothing in Lean hashes anything: it is a label: what it is worth is what the hold of that sum in a sandbox is worth. -/
noncomputable def Try.pinned : Pinned := { name := "ytkogplnleiapfaa", sum := "bfe5d6b35916255af410873cf32b4697ed6092b481286fb1e7562d5de5f084ac", checked := Try.checked }
namespace Rows
def none {H : Type} : Left H := { results := [], args := [] }

/-- 'gnomonlaw14.OrderExact': WHATEVER THE INPUT: true; the input reads as it did. -/
def orderExactSpec : ChangeSpec := { name := "orderExact", fn := fun _ => fun
  | [d1, d2] => { results := [.lit (.bool true)], args := [d1, d2] }
  | _ => none }
def orderExactRow : OpenClaim := { program := "ytkogplnleiapfaa", sum := "bfe5d6b35916255af410873cf32b4697ed6092b481286fb1e7562d5de5f084ac", func := "gnomon/gnomonlaw14.OrderExact", spec := "orderExact", unfollowed := true, recurses := true, apart := false }
def OrderExactSaid : Prop := orderExactRow.holds Try.pinned (OpenSpec.ofChange orderExactSpec)

/-- ITS FALSE NEIGHBOUR: 'it returns false'. Refute it at one input. -/
def orderExactWrong : ChangeSpec := { name := "orderExact", fn := fun _ => fun
  | [d1, d2] => { results := [.lit (.bool false)], args := [d1, d2] }
  | _ => none }
def OrderExactWrongFalsely : Prop := orderExactRow.holds Try.pinned (OpenSpec.ofChange orderExactWrong)

/-- 'gnomonlaw14.OrderTight': WHATEVER THE INPUT: true; the input reads as it did. -/
def orderTightSpec : ChangeSpec := { name := "orderTight", fn := fun _ => fun
  | [d1, d2, d3] => { results := [.lit (.bool true)], args := [d1, d2, d3] }
  | _ => none }
def orderTightRow : OpenClaim := { program := "ytkogplnleiapfaa", sum := "bfe5d6b35916255af410873cf32b4697ed6092b481286fb1e7562d5de5f084ac", func := "gnomon/gnomonlaw14.OrderTight", spec := "orderTight", unfollowed := true, recurses := true, apart := false }
def OrderTightSaid : Prop := orderTightRow.holds Try.pinned (OpenSpec.ofChange orderTightSpec)

/-- ITS FALSE NEIGHBOUR: 'it returns false'. Refute it at one input. -/
def orderTightWrong : ChangeSpec := { name := "orderTight", fn := fun _ => fun
  | [d1, d2, d3] => { results := [.lit (.bool false)], args := [d1, d2, d3] }
  | _ => none }
def OrderTightWrongFalsely : Prop := orderTightRow.holds Try.pinned (OpenSpec.ofChange orderTightWrong)

/-- 'gnomonlaw14.OrderBoxes': WHATEVER THE INPUT: true; the input reads as it did. -/
def orderBoxesSpec : ChangeSpec := { name := "orderBoxes", fn := fun _ => fun
  | [d1, d2, d3, d4] => { results := [.lit (.bool true)], args := [d1, d2, d3, d4] }
  | _ => none }
def orderBoxesRow : OpenClaim := { program := "ytkogplnleiapfaa", sum := "bfe5d6b35916255af410873cf32b4697ed6092b481286fb1e7562d5de5f084ac", func := "gnomon/gnomonlaw14.OrderBoxes", spec := "orderBoxes", unfollowed := true, recurses := true, apart := false }
def OrderBoxesSaid : Prop := orderBoxesRow.holds Try.pinned (OpenSpec.ofChange orderBoxesSpec)

/-- ITS FALSE NEIGHBOUR: 'it returns false'. Refute it at one input. -/
def orderBoxesWrong : ChangeSpec := { name := "orderBoxes", fn := fun _ => fun
  | [d1, d2, d3, d4] => { results := [.lit (.bool false)], args := [d1, d2, d3, d4] }
  | _ => none }
def OrderBoxesWrongFalsely : Prop := orderBoxesRow.holds Try.pinned (OpenSpec.ofChange orderBoxesWrong)

/-- 'gnomonlaw14.OrderTwice': WHATEVER THE INPUT: true; the input reads as it did. -/
def orderTwiceSpec : ChangeSpec := { name := "orderTwice", fn := fun _ => fun
  | [d1, d2, d3] => { results := [.lit (.bool true)], args := [d1, d2, d3] }
  | _ => none }
def orderTwiceRow : OpenClaim := { program := "ytkogplnleiapfaa", sum := "bfe5d6b35916255af410873cf32b4697ed6092b481286fb1e7562d5de5f084ac", func := "gnomon/gnomonlaw14.OrderTwice", spec := "orderTwice", unfollowed := true, recurses := true, apart := false }
def OrderTwiceSaid : Prop := orderTwiceRow.holds Try.pinned (OpenSpec.ofChange orderTwiceSpec)

/-- ITS FALSE NEIGHBOUR: 'it returns false'. Refute it at one input. -/
def orderTwiceWrong : ChangeSpec := { name := "orderTwice", fn := fun _ => fun
  | [d1, d2, d3] => { results := [.lit (.bool false)], args := [d1, d2, d3] }
  | _ => none }
def OrderTwiceWrongFalsely : Prop := orderTwiceRow.holds Try.pinned (OpenSpec.ofChange orderTwiceWrong)

/-- 'gnomonlaw15.SpanBoxes': WHATEVER THE INPUT: true; the input reads as it did. -/
def spanBoxesSpec : ChangeSpec := { name := "spanBoxes", fn := fun _ => fun
  | [d1, d2, d3, d4] => { results := [.lit (.bool true)], args := [d1, d2, d3, d4] }
  | _ => none }
def spanBoxesRow : OpenClaim := { program := "ytkogplnleiapfaa", sum := "bfe5d6b35916255af410873cf32b4697ed6092b481286fb1e7562d5de5f084ac", func := "gnomon/gnomonlaw15.SpanBoxes", spec := "spanBoxes", unfollowed := true, recurses := true, apart := false }
def SpanBoxesSaid : Prop := spanBoxesRow.holds Try.pinned (OpenSpec.ofChange spanBoxesSpec)

/-- ITS FALSE NEIGHBOUR: 'it returns false'. Refute it at one input. -/
def spanBoxesWrong : ChangeSpec := { name := "spanBoxes", fn := fun _ => fun
  | [d1, d2, d3, d4] => { results := [.lit (.bool false)], args := [d1, d2, d3, d4] }
  | _ => none }
def SpanBoxesWrongFalsely : Prop := spanBoxesRow.holds Try.pinned (OpenSpec.ofChange spanBoxesWrong)

/-- 'gnomonlaw15.SpanExact': WHATEVER THE INPUT: true; the input reads as it did. -/
def spanExactSpec : ChangeSpec := { name := "spanExact", fn := fun _ => fun
  | [d1, d2, d3, d4] => { results := [.lit (.bool true)], args := [d1, d2, d3, d4] }
  | _ => none }
def spanExactRow : OpenClaim := { program := "ytkogplnleiapfaa", sum := "bfe5d6b35916255af410873cf32b4697ed6092b481286fb1e7562d5de5f084ac", func := "gnomon/gnomonlaw15.SpanExact", spec := "spanExact", unfollowed := true, recurses := true, apart := false }
def SpanExactSaid : Prop := spanExactRow.holds Try.pinned (OpenSpec.ofChange spanExactSpec)

/-- ITS FALSE NEIGHBOUR: 'it returns false'. Refute it at one input. -/
def spanExactWrong : ChangeSpec := { name := "spanExact", fn := fun _ => fun
  | [d1, d2, d3, d4] => { results := [.lit (.bool false)], args := [d1, d2, d3, d4] }
  | _ => none }
def SpanExactWrongFalsely : Prop := spanExactRow.holds Try.pinned (OpenSpec.ofChange spanExactWrong)

/-- 'gnomonlaw14.OrderForgets': WHATEVER THE INPUT: true; the input reads as it did. -/
def orderForgetsSpec : ChangeSpec := { name := "orderForgets", fn := fun _ => fun
  | [d1, d2, d3] => { results := [.lit (.bool true)], args := [d1, d2, d3] }
  | _ => none }
def orderForgetsRow : OpenClaim := { program := "ytkogplnleiapfaa", sum := "bfe5d6b35916255af410873cf32b4697ed6092b481286fb1e7562d5de5f084ac", func := "gnomon/gnomonlaw14.OrderForgets", spec := "orderForgets", unfollowed := true, recurses := true, apart := false }
def OrderForgetsSaid : Prop := orderForgetsRow.holds Try.pinned (OpenSpec.ofChange orderForgetsSpec)

/-- ITS FALSE NEIGHBOUR: 'it returns false'. Refute it at one input. -/
def orderForgetsWrong : ChangeSpec := { name := "orderForgets", fn := fun _ => fun
  | [d1, d2, d3] => { results := [.lit (.bool false)], args := [d1, d2, d3] }
  | _ => none }
def OrderForgetsWrongFalsely : Prop := orderForgetsRow.holds Try.pinned (OpenSpec.ofChange orderForgetsWrong)

/-- 'gnomonlaw15.SpanRanges': WHATEVER THE INPUT: true; the input reads as it did. -/
def spanRangesSpec : ChangeSpec := { name := "spanRanges", fn := fun _ => fun
  | [d1, d2, d3] => { results := [.lit (.bool true)], args := [d1, d2, d3] }
  | _ => none }
def spanRangesRow : OpenClaim := { program := "ytkogplnleiapfaa", sum := "bfe5d6b35916255af410873cf32b4697ed6092b481286fb1e7562d5de5f084ac", func := "gnomon/gnomonlaw15.SpanRanges", spec := "spanRanges", unfollowed := true, recurses := true, apart := false }
def SpanRangesSaid : Prop := spanRangesRow.holds Try.pinned (OpenSpec.ofChange spanRangesSpec)

/-- ITS FALSE NEIGHBOUR: 'it returns false'. Refute it at one input. -/
def spanRangesWrong : ChangeSpec := { name := "spanRanges", fn := fun _ => fun
  | [d1, d2, d3] => { results := [.lit (.bool false)], args := [d1, d2, d3] }
  | _ => none }
def SpanRangesWrongFalsely : Prop := spanRangesRow.holds Try.pinned (OpenSpec.ofChange spanRangesWrong)

/-- 'gnomonlaw14.OrderPoints': WHATEVER THE INPUT: true; the input reads as it did. -/
def orderPointsSpec : ChangeSpec := { name := "orderPoints", fn := fun _ => fun
  | [d1, d2, d3, d4, d5] => { results := [.lit (.bool true)], args := [d1, d2, d3, d4, d5] }
  | _ => none }
def orderPointsRow : OpenClaim := { program := "ytkogplnleiapfaa", sum := "bfe5d6b35916255af410873cf32b4697ed6092b481286fb1e7562d5de5f084ac", func := "gnomon/gnomonlaw14.OrderPoints", spec := "orderPoints", inPlace := ["math/bits.Sub64"], unfollowed := true, recurses := true, apart := false }
def OrderPointsSaid : Prop := orderPointsRow.holds Try.pinned (OpenSpec.ofChange orderPointsSpec)

/-- ITS FALSE NEIGHBOUR: 'it returns false'. Refute it at one input. -/
def orderPointsWrong : ChangeSpec := { name := "orderPoints", fn := fun _ => fun
  | [d1, d2, d3, d4, d5] => { results := [.lit (.bool false)], args := [d1, d2, d3, d4, d5] }
  | _ => none }
def OrderPointsWrongFalsely : Prop := orderPointsRow.holds Try.pinned (OpenSpec.ofChange orderPointsWrong)

/-- 'gnomonlaw15.SpanHolds': WHATEVER THE INPUT: true; the input reads as it did. -/
def spanHoldsSpec : ChangeSpec := { name := "spanHolds", fn := fun _ => fun
  | [d1, d2, d3, d4, d5, d6, d7, d8] => { results := [.lit (.bool true)], args := [d1, d2, d3, d4, d5, d6, d7, d8] }
  | _ => none }
def spanHoldsRow : OpenClaim := { program := "ytkogplnleiapfaa", sum := "bfe5d6b35916255af410873cf32b4697ed6092b481286fb1e7562d5de5f084ac", func := "gnomon/gnomonlaw15.SpanHolds", spec := "spanHolds", inPlace := ["math/bits.Sub64"], unfollowed := true, recurses := true, apart := false }
def SpanHoldsSaid : Prop := spanHoldsRow.holds Try.pinned (OpenSpec.ofChange spanHoldsSpec)

/-- ITS FALSE NEIGHBOUR: 'it returns false'. Refute it at one input. -/
def spanHoldsWrong : ChangeSpec := { name := "spanHolds", fn := fun _ => fun
  | [d1, d2, d3, d4, d5, d6, d7, d8] => { results := [.lit (.bool false)], args := [d1, d2, d3, d4, d5, d6, d7, d8] }
  | _ => none }
def SpanHoldsWrongFalsely : Prop := spanHoldsRow.holds Try.pinned (OpenSpec.ofChange spanHoldsWrong)

/- THE SECOND FORM. 'bulk': how many values and letters a reading holds, each counted each time it is reached (what is shared counts as often as it is met; a slice's spare places count too). A statement '..UptoSaid' is the law's where the arguments, and the package variables that the reading takes, are together of bulk at most 1048576: NARROWER than '..Said'. Prove '..Said' where nothing that the law and all that it calls make is longer than what came in: it says more and counts as full. Else prove '..UptoSaid'. A law counts once. -/
mutual
def uptoBulk {H : Type} : DataW H → Nat
  | .lit (.string bytes) => bytes.length + 1
  | .lit _ => 1
  | .nil => 1
  | .ptr d => uptoBulk d + 1
  | .slice elems spare => uptoBulkAll elems + uptoBulkAll spare + 1
  | .agg parts => uptoBulkAll parts + 1
  | .iface _ d => uptoBulk d + 1
  | .map entries => uptoBulkEntries entries + 1
  | .held _ => 1
def uptoBulkAll {H : Type} : List (DataW H) → Nat
  | [] => 0
  | d :: r => uptoBulk d + uptoBulkAll r
def uptoBulkEntries {H : Type} : List (Lit × DataW H) → Nat
  | [] => 0
  | x :: r => uptoBulkEntry x + uptoBulkEntries r
def uptoBulkEntry {H : Type} : Lit × DataW H → Nat
  | (.string bytes, d) => bytes.length + uptoBulk d + 1
  | (_, d) => uptoBulk d + 1
 end
def uptoSmall : (H : Type) → List (DataW H) → Bool := fun _ ds => decide (uptoBulkAll ds ≤ 1048576)
def OpenSpec.upto (s : _root_.Go.ChangeSpec) : _root_.Go.OpenSpec := { _root_.Go.OpenSpec.ofChange s with cond := some uptoSmall }

/-- 'gnomonlaw14.OrderExact', WHERE WHAT IT READS IS OF BULK AT MOST 1048576: true; the input reads as it did. -/
def orderExactUptoRow : OpenClaim := { program := "ytkogplnleiapfaa", sum := "bfe5d6b35916255af410873cf32b4697ed6092b481286fb1e7562d5de5f084ac", func := "gnomon/gnomonlaw14.OrderExact", spec := "orderExact", unfollowed := true, recurses := true, apart := false, narrowed := true }
def OrderExactUptoSaid : Prop := orderExactUptoRow.holds Try.pinned (OpenSpec.upto orderExactSpec)

/-- 'gnomonlaw14.OrderTight', WHERE WHAT IT READS IS OF BULK AT MOST 1048576: true; the input reads as it did. -/
def orderTightUptoRow : OpenClaim := { program := "ytkogplnleiapfaa", sum := "bfe5d6b35916255af410873cf32b4697ed6092b481286fb1e7562d5de5f084ac", func := "gnomon/gnomonlaw14.OrderTight", spec := "orderTight", unfollowed := true, recurses := true, apart := false, narrowed := true }
def OrderTightUptoSaid : Prop := orderTightUptoRow.holds Try.pinned (OpenSpec.upto orderTightSpec)

/-- 'gnomonlaw14.OrderBoxes', WHERE WHAT IT READS IS OF BULK AT MOST 1048576: true; the input reads as it did. -/
def orderBoxesUptoRow : OpenClaim := { program := "ytkogplnleiapfaa", sum := "bfe5d6b35916255af410873cf32b4697ed6092b481286fb1e7562d5de5f084ac", func := "gnomon/gnomonlaw14.OrderBoxes", spec := "orderBoxes", unfollowed := true, recurses := true, apart := false, narrowed := true }
def OrderBoxesUptoSaid : Prop := orderBoxesUptoRow.holds Try.pinned (OpenSpec.upto orderBoxesSpec)

/-- 'gnomonlaw14.OrderTwice', WHERE WHAT IT READS IS OF BULK AT MOST 1048576: true; the input reads as it did. -/
def orderTwiceUptoRow : OpenClaim := { program := "ytkogplnleiapfaa", sum := "bfe5d6b35916255af410873cf32b4697ed6092b481286fb1e7562d5de5f084ac", func := "gnomon/gnomonlaw14.OrderTwice", spec := "orderTwice", unfollowed := true, recurses := true, apart := false, narrowed := true }
def OrderTwiceUptoSaid : Prop := orderTwiceUptoRow.holds Try.pinned (OpenSpec.upto orderTwiceSpec)

/-- 'gnomonlaw15.SpanBoxes', WHERE WHAT IT READS IS OF BULK AT MOST 1048576: true; the input reads as it did. -/
def spanBoxesUptoRow : OpenClaim := { program := "ytkogplnleiapfaa", sum := "bfe5d6b35916255af410873cf32b4697ed6092b481286fb1e7562d5de5f084ac", func := "gnomon/gnomonlaw15.SpanBoxes", spec := "spanBoxes", unfollowed := true, recurses := true, apart := false, narrowed := true }
def SpanBoxesUptoSaid : Prop := spanBoxesUptoRow.holds Try.pinned (OpenSpec.upto spanBoxesSpec)

/-- 'gnomonlaw15.SpanExact', WHERE WHAT IT READS IS OF BULK AT MOST 1048576: true; the input reads as it did. -/
def spanExactUptoRow : OpenClaim := { program := "ytkogplnleiapfaa", sum := "bfe5d6b35916255af410873cf32b4697ed6092b481286fb1e7562d5de5f084ac", func := "gnomon/gnomonlaw15.SpanExact", spec := "spanExact", unfollowed := true, recurses := true, apart := false, narrowed := true }
def SpanExactUptoSaid : Prop := spanExactUptoRow.holds Try.pinned (OpenSpec.upto spanExactSpec)

/-- 'gnomonlaw14.OrderForgets', WHERE WHAT IT READS IS OF BULK AT MOST 1048576: true; the input reads as it did. -/
def orderForgetsUptoRow : OpenClaim := { program := "ytkogplnleiapfaa", sum := "bfe5d6b35916255af410873cf32b4697ed6092b481286fb1e7562d5de5f084ac", func := "gnomon/gnomonlaw14.OrderForgets", spec := "orderForgets", unfollowed := true, recurses := true, apart := false, narrowed := true }
def OrderForgetsUptoSaid : Prop := orderForgetsUptoRow.holds Try.pinned (OpenSpec.upto orderForgetsSpec)

/-- 'gnomonlaw15.SpanRanges', WHERE WHAT IT READS IS OF BULK AT MOST 1048576: true; the input reads as it did. -/
def spanRangesUptoRow : OpenClaim := { program := "ytkogplnleiapfaa", sum := "bfe5d6b35916255af410873cf32b4697ed6092b481286fb1e7562d5de5f084ac", func := "gnomon/gnomonlaw15.SpanRanges", spec := "spanRanges", unfollowed := true, recurses := true, apart := false, narrowed := true }
def SpanRangesUptoSaid : Prop := spanRangesUptoRow.holds Try.pinned (OpenSpec.upto spanRangesSpec)

/-- 'gnomonlaw14.OrderPoints', WHERE WHAT IT READS IS OF BULK AT MOST 1048576: true; the input reads as it did. -/
def orderPointsUptoRow : OpenClaim := { program := "ytkogplnleiapfaa", sum := "bfe5d6b35916255af410873cf32b4697ed6092b481286fb1e7562d5de5f084ac", func := "gnomon/gnomonlaw14.OrderPoints", spec := "orderPoints", inPlace := ["math/bits.Sub64"], unfollowed := true, recurses := true, apart := false, narrowed := true }
def OrderPointsUptoSaid : Prop := orderPointsUptoRow.holds Try.pinned (OpenSpec.upto orderPointsSpec)

/-- 'gnomonlaw15.SpanHolds', WHERE WHAT IT READS IS OF BULK AT MOST 1048576: true; the input reads as it did. -/
def spanHoldsUptoRow : OpenClaim := { program := "ytkogplnleiapfaa", sum := "bfe5d6b35916255af410873cf32b4697ed6092b481286fb1e7562d5de5f084ac", func := "gnomon/gnomonlaw15.SpanHolds", spec := "spanHolds", inPlace := ["math/bits.Sub64"], unfollowed := true, recurses := true, apart := false, narrowed := true }
def SpanHoldsUptoSaid : Prop := spanHoldsUptoRow.holds Try.pinned (OpenSpec.upto spanHoldsSpec)

end Rows
end Go.Proofs.Ytkogplnleiapfaa

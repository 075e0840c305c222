/-
  No cell of these rows narrows 'for every input' (looked for: loops, veiled, ifaces, maps, wideKeys, modest, calm, conditions, laid).
  DERIVED. THE GIVEN ROWS OF THIS SEAT. 6 by the template 'for every input the law returns true; each argument reads behind the call as it read before'; 0 by the template 'total and deterministic' (their statements: YtkgddgckilledaaTotals.lean).
  GIVEN WITH THE SEED: the statements are not yours to turn. If you find one false, say at which input.
  Laid BY PROGRAM, IN A SANDBOX (cutbox-rows.mjs): the forced cells as the released guide's own fill.sh prints them over the translation 84a306c942f43a7e… (all of the seat's roots in one cut). By AI agents, Wed Nov 11 2026. No macro, syntax, notation, axiom, sorry.
-/
import Derived.Test.YtkgddgckilledaaChecked
import GoSem.Claim
import GoSem.ClaimJoined
import GoSem.ClaimMapViews
import Derived.JoinedTies
import Derived.KernelRfl
namespace Go.Proofs.Ytkgddgckilledaa
/- THE CELL 'sum', in the pinned program and in every row, IS THE sha256 OF THE DUMP (.gsa) THAT YtkgddgckilledaaProg.lean LOADS. Nothing in Lean hashes anything: it is a label: what it is worth is what the hold of that sum in a sandbox is worth. -/
noncomputable def Try.pinned : Pinned := { name := "ytkgddgckilledaa", sum := "84a306c942f43a7e73a72848504fc2ab9c60f0232475f0c093c78d0c74bfb6d8", checked := Try.checked }
namespace Rows
def none {H : Type} : Left H := { results := [], args := [] }

/-- 'gnomonlaw12.DbmListed': WHATEVER THE INPUT: true; the input reads as it did. -/
def dbmListedSpec : ChangeSpec := { name := "dbmListed", fn := fun _ => fun
  | [d1, d2] => { results := [.lit (.bool true)], args := [d1, d2] }
  | _ => none }
def dbmListedRow : OpenClaim := { program := "ytkgddgckilledaa", sum := "84a306c942f43a7e73a72848504fc2ab9c60f0232475f0c093c78d0c74bfb6d8", func := "gnomon/gnomonlaw12.DbmListed", spec := "dbmListed", inPlace := ["math/bits.Sub64"], unfollowed := true, recurses := true, apart := false }
def DbmListedSaid : Prop := dbmListedRow.holds Try.pinned (OpenSpec.ofChange dbmListedSpec)

/-- ITS FALSE NEIGHBOUR: 'it returns false'. Refute it at one input. -/
def dbmListedWrong : ChangeSpec := { name := "dbmListed", fn := fun _ => fun
  | [d1, d2] => { results := [.lit (.bool false)], args := [d1, d2] }
  | _ => none }
def DbmListedWrongFalsely : Prop := dbmListedRow.holds Try.pinned (OpenSpec.ofChange dbmListedWrong)

/-- 'gnomonlaw12.DbmPoints': WHATEVER THE INPUT: true; the input reads as it did. -/
def dbmPointsSpec : ChangeSpec := { name := "dbmPoints", fn := fun _ => fun
  | [d1, d2, d3, d4] => { results := [.lit (.bool true)], args := [d1, d2, d3, d4] }
  | _ => none }
def dbmPointsRow : OpenClaim := { program := "ytkgddgckilledaa", sum := "84a306c942f43a7e73a72848504fc2ab9c60f0232475f0c093c78d0c74bfb6d8", func := "gnomon/gnomonlaw12.DbmPoints", spec := "dbmPoints", inPlace := ["math/bits.Sub64"], unfollowed := true, recurses := true, apart := false }
def DbmPointsSaid : Prop := dbmPointsRow.holds Try.pinned (OpenSpec.ofChange dbmPointsSpec)

/-- ITS FALSE NEIGHBOUR: 'it returns false'. Refute it at one input. -/
def dbmPointsWrong : ChangeSpec := { name := "dbmPoints", fn := fun _ => fun
  | [d1, d2, d3, d4] => { results := [.lit (.bool false)], args := [d1, d2, d3, d4] }
  | _ => none }
def DbmPointsWrongFalsely : Prop := dbmPointsRow.holds Try.pinned (OpenSpec.ofChange dbmPointsWrong)

/-- 'gnomonlaw12.DbmBuilt': WHATEVER THE INPUT: true; the input reads as it did. -/
def dbmBuiltSpec : ChangeSpec := { name := "dbmBuilt", fn := fun _ => fun
  | [d1, d2, d3] => { results := [.lit (.bool true)], args := [d1, d2, d3] }
  | _ => none }
def dbmBuiltRow : OpenClaim := { program := "ytkgddgckilledaa", sum := "84a306c942f43a7e73a72848504fc2ab9c60f0232475f0c093c78d0c74bfb6d8", func := "gnomon/gnomonlaw12.DbmBuilt", spec := "dbmBuilt", inPlace := ["math/bits.Sub64"], unfollowed := true, recurses := true, apart := false }
def DbmBuiltSaid : Prop := dbmBuiltRow.holds Try.pinned (OpenSpec.ofChange dbmBuiltSpec)

/-- ITS FALSE NEIGHBOUR: 'it returns false'. Refute it at one input. -/
def dbmBuiltWrong : ChangeSpec := { name := "dbmBuilt", fn := fun _ => fun
  | [d1, d2, d3] => { results := [.lit (.bool false)], args := [d1, d2, d3] }
  | _ => none }
def DbmBuiltWrongFalsely : Prop := dbmBuiltRow.holds Try.pinned (OpenSpec.ofChange dbmBuiltWrong)

/-- 'gnomonlaw14.OrderTwice': WHATEVER THE INPUT: true; the input reads as it did. -/
def orderTwiceSpec : ChangeSpec := { name := "orderTwice", fn := fun _ => fun
  | [d1, d2, d3] => { results := [.lit (.bool true)], args := [d1, d2, d3] }
  | _ => none }
def orderTwiceRow : OpenClaim := { program := "ytkgddgckilledaa", sum := "84a306c942f43a7e73a72848504fc2ab9c60f0232475f0c093c78d0c74bfb6d8", func := "gnomon/gnomonlaw14.OrderTwice", spec := "orderTwice", unfollowed := true, recurses := true, apart := false }
def OrderTwiceSaid : Prop := orderTwiceRow.holds Try.pinned (OpenSpec.ofChange orderTwiceSpec)

/-- ITS FALSE NEIGHBOUR: 'it returns false'. Refute it at one input. -/
def orderTwiceWrong : ChangeSpec := { name := "orderTwice", fn := fun _ => fun
  | [d1, d2, d3] => { results := [.lit (.bool false)], args := [d1, d2, d3] }
  | _ => none }
def OrderTwiceWrongFalsely : Prop := orderTwiceRow.holds Try.pinned (OpenSpec.ofChange orderTwiceWrong)

/-- 'gnomonlaw14.OrderForgets': WHATEVER THE INPUT: true; the input reads as it did. -/
def orderForgetsSpec : ChangeSpec := { name := "orderForgets", fn := fun _ => fun
  | [d1, d2, d3] => { results := [.lit (.bool true)], args := [d1, d2, d3] }
  | _ => none }
def orderForgetsRow : OpenClaim := { program := "ytkgddgckilledaa", sum := "84a306c942f43a7e73a72848504fc2ab9c60f0232475f0c093c78d0c74bfb6d8", func := "gnomon/gnomonlaw14.OrderForgets", spec := "orderForgets", unfollowed := true, recurses := true, apart := false }
def OrderForgetsSaid : Prop := orderForgetsRow.holds Try.pinned (OpenSpec.ofChange orderForgetsSpec)

/-- ITS FALSE NEIGHBOUR: 'it returns false'. Refute it at one input. -/
def orderForgetsWrong : ChangeSpec := { name := "orderForgets", fn := fun _ => fun
  | [d1, d2, d3] => { results := [.lit (.bool false)], args := [d1, d2, d3] }
  | _ => none }
def OrderForgetsWrongFalsely : Prop := orderForgetsRow.holds Try.pinned (OpenSpec.ofChange orderForgetsWrong)

/-- 'gnomonlaw14.OrderPoints': WHATEVER THE INPUT: true; the input reads as it did. -/
def orderPointsSpec : ChangeSpec := { name := "orderPoints", fn := fun _ => fun
  | [d1, d2, d3, d4, d5] => { results := [.lit (.bool true)], args := [d1, d2, d3, d4, d5] }
  | _ => none }
def orderPointsRow : OpenClaim := { program := "ytkgddgckilledaa", sum := "84a306c942f43a7e73a72848504fc2ab9c60f0232475f0c093c78d0c74bfb6d8", func := "gnomon/gnomonlaw14.OrderPoints", spec := "orderPoints", inPlace := ["math/bits.Sub64"], unfollowed := true, recurses := true, apart := false }
def OrderPointsSaid : Prop := orderPointsRow.holds Try.pinned (OpenSpec.ofChange orderPointsSpec)

/-- ITS FALSE NEIGHBOUR: 'it returns false'. Refute it at one input. -/
def orderPointsWrong : ChangeSpec := { name := "orderPoints", fn := fun _ => fun
  | [d1, d2, d3, d4, d5] => { results := [.lit (.bool false)], args := [d1, d2, d3, d4, d5] }
  | _ => none }
def OrderPointsWrongFalsely : Prop := orderPointsRow.holds Try.pinned (OpenSpec.ofChange orderPointsWrong)

/- THE SECOND FORM. 'bulk': how many values and letters a reading holds, each counted each time it is reached (what is shared counts as often as it is met; a slice's spare places count too). A statement '..UptoSaid' is the law's where the arguments, and the package variables that the reading takes, are together of bulk at most 1048576: NARROWER than '..Said'. Prove '..Said' where nothing that the law and all that it calls make is longer than what came in: it says more and counts as full. Else prove '..UptoSaid'. A law counts once. -/
mutual
def uptoBulk {H : Type} : DataW H → Nat
  | .lit (.string bytes) => bytes.length + 1
  | .lit _ => 1
  | .nil => 1
  | .ptr d => uptoBulk d + 1
  | .slice elems spare => uptoBulkAll elems + uptoBulkAll spare + 1
  | .agg parts => uptoBulkAll parts + 1
  | .iface _ d => uptoBulk d + 1
  | .map entries => uptoBulkEntries entries + 1
  | .held _ => 1
def uptoBulkAll {H : Type} : List (DataW H) → Nat
  | [] => 0
  | d :: r => uptoBulk d + uptoBulkAll r
def uptoBulkEntries {H : Type} : List (Lit × DataW H) → Nat
  | [] => 0
  | x :: r => uptoBulkEntry x + uptoBulkEntries r
def uptoBulkEntry {H : Type} : Lit × DataW H → Nat
  | (.string bytes, d) => bytes.length + uptoBulk d + 1
  | (_, d) => uptoBulk d + 1
 end
def uptoSmall : (H : Type) → List (DataW H) → Bool := fun _ ds => decide (uptoBulkAll ds ≤ 1048576)
def OpenSpec.upto (s : _root_.Go.ChangeSpec) : _root_.Go.OpenSpec := { _root_.Go.OpenSpec.ofChange s with cond := some uptoSmall }

/-- 'gnomonlaw12.DbmListed', WHERE WHAT IT READS IS OF BULK AT MOST 1048576: true; the input reads as it did. -/
def dbmListedUptoRow : OpenClaim := { program := "ytkgddgckilledaa", sum := "84a306c942f43a7e73a72848504fc2ab9c60f0232475f0c093c78d0c74bfb6d8", func := "gnomon/gnomonlaw12.DbmListed", spec := "dbmListed", inPlace := ["math/bits.Sub64"], unfollowed := true, recurses := true, apart := false, narrowed := true }
def DbmListedUptoSaid : Prop := dbmListedUptoRow.holds Try.pinned (OpenSpec.upto dbmListedSpec)

/-- 'gnomonlaw12.DbmPoints', WHERE WHAT IT READS IS OF BULK AT MOST 1048576: true; the input reads as it did. -/
def dbmPointsUptoRow : OpenClaim := { program := "ytkgddgckilledaa", sum := "84a306c942f43a7e73a72848504fc2ab9c60f0232475f0c093c78d0c74bfb6d8", func := "gnomon/gnomonlaw12.DbmPoints", spec := "dbmPoints", inPlace := ["math/bits.Sub64"], unfollowed := true, recurses := true, apart := false, narrowed := true }
def DbmPointsUptoSaid : Prop := dbmPointsUptoRow.holds Try.pinned (OpenSpec.upto dbmPointsSpec)

/-- 'gnomonlaw12.DbmBuilt', WHERE WHAT IT READS IS OF BULK AT MOST 1048576: true; the input reads as it did. -/
def dbmBuiltUptoRow : OpenClaim := { program := "ytkgddgckilledaa", sum := "84a306c942f43a7e73a72848504fc2ab9c60f0232475f0c093c78d0c74bfb6d8", func := "gnomon/gnomonlaw12.DbmBuilt", spec := "dbmBuilt", inPlace := ["math/bits.Sub64"], unfollowed := true, recurses := true, apart := false, narrowed := true }
def DbmBuiltUptoSaid : Prop := dbmBuiltUptoRow.holds Try.pinned (OpenSpec.upto dbmBuiltSpec)

/-- 'gnomonlaw14.OrderTwice', WHERE WHAT IT READS IS OF BULK AT MOST 1048576: true; the input reads as it did. -/
def orderTwiceUptoRow : OpenClaim := { program := "ytkgddgckilledaa", sum := "84a306c942f43a7e73a72848504fc2ab9c60f0232475f0c093c78d0c74bfb6d8", func := "gnomon/gnomonlaw14.OrderTwice", spec := "orderTwice", unfollowed := true, recurses := true, apart := false, narrowed := true }
def OrderTwiceUptoSaid : Prop := orderTwiceUptoRow.holds Try.pinned (OpenSpec.upto orderTwiceSpec)

/-- 'gnomonlaw14.OrderForgets', WHERE WHAT IT READS IS OF BULK AT MOST 1048576: true; the input reads as it did. -/
def orderForgetsUptoRow : OpenClaim := { program := "ytkgddgckilledaa", sum := "84a306c942f43a7e73a72848504fc2ab9c60f0232475f0c093c78d0c74bfb6d8", func := "gnomon/gnomonlaw14.OrderForgets", spec := "orderForgets", unfollowed := true, recurses := true, apart := false, narrowed := true }
def OrderForgetsUptoSaid : Prop := orderForgetsUptoRow.holds Try.pinned (OpenSpec.upto orderForgetsSpec)

/-- 'gnomonlaw14.OrderPoints', WHERE WHAT IT READS IS OF BULK AT MOST 1048576: true; the input reads as it did. -/
def orderPointsUptoRow : OpenClaim := { program := "ytkgddgckilledaa", sum := "84a306c942f43a7e73a72848504fc2ab9c60f0232475f0c093c78d0c74bfb6d8", func := "gnomon/gnomonlaw14.OrderPoints", spec := "orderPoints", inPlace := ["math/bits.Sub64"], unfollowed := true, recurses := true, apart := false, narrowed := true }
def OrderPointsUptoSaid : Prop := orderPointsUptoRow.holds Try.pinned (OpenSpec.upto orderPointsSpec)

end Rows
end Go.Proofs.Ytkgddgckilledaa

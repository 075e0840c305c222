/-
  No cell of these rows narrows 'for every input' (looked for: loops, veiled, ifaces, maps, wideKeys, modest, calm, conditions, laid).
  DERIVED. THE GIVEN ROWS OF THIS SEAT. 10 by the template 'for every input the law returns true; each argument reads behind the call as it read before'; 0 by the template 'total and deterministic' (their statements: YthbjagibohgpaaaTotals.lean).
  GIVEN WITH THE SEED: the statements are not yours to turn. If you find one false, say at which input.
  Laid BY PROGRAM, IN A SANDBOX (cutbox-rows.mjs): the forced cells as the released guide's own fill.sh prints them over the translation 1ed7a4b6c1027d3a… (all of the seat's roots in one cut). By AI agents, Wed Nov 11 2026. No macro, syntax, notation, axiom, sorry.
-/
import Derived.Test.YthbjagibohgpaaaChecked
import GoSem.Claim
import GoSem.ClaimJoined
import GoSem.ClaimMapViews
import Derived.JoinedTies
import Derived.KernelRfl
namespace Go.Proofs.Ythbjagibohgpaaa
/- THE CELL 'sum', in the pinned program and in every row, IS THE sha256 OF THE DUMP (.gsa) THAT YthbjagibohgpaaaProg.lean LOADS. Nothing in Lean hashes anything: it is a label: what it is worth is what the hold of that sum in a sandbox is worth. -/
noncomputable def Try.pinned : Pinned := { name := "ythbjagibohgpaaa", sum := "1ed7a4b6c1027d3acfcf77b0643c47cb48eb42a6f87be1ccd5ae4b79ebb37072", checked := Try.checked }
namespace Rows
def none {H : Type} : Left H := { results := [], args := [] }

/-- 'gnomonlaw18.CodePuts': WHATEVER THE INPUT: true; the input reads as it did. -/
def codePutsSpec : ChangeSpec := { name := "codePuts", fn := fun _ => fun
  | [d1, d2] => { results := [.lit (.bool true)], args := [d1, d2] }
  | _ => none }
def codePutsRow : OpenClaim := { program := "ythbjagibohgpaaa", sum := "1ed7a4b6c1027d3acfcf77b0643c47cb48eb42a6f87be1ccd5ae4b79ebb37072", func := "gnomon/gnomonlaw18.CodePuts", spec := "codePuts", apart := false }
def CodePutsSaid : Prop := codePutsRow.holds Try.pinned (OpenSpec.ofChange codePutsSpec)

/-- ITS FALSE NEIGHBOUR: 'it returns false'. Refute it at one input. -/
def codePutsWrong : ChangeSpec := { name := "codePuts", fn := fun _ => fun
  | [d1, d2] => { results := [.lit (.bool false)], args := [d1, d2] }
  | _ => none }
def CodePutsWrongFalsely : Prop := codePutsRow.holds Try.pinned (OpenSpec.ofChange codePutsWrong)

/-- 'gnomonlaw18.CodeTakes': WHATEVER THE INPUT: true; the input reads as it did. -/
def codeTakesSpec : ChangeSpec := { name := "codeTakes", fn := fun _ => fun
  | [d] => { results := [.lit (.bool true)], args := [d] }
  | _ => none }
def codeTakesRow : OpenClaim := { program := "ythbjagibohgpaaa", sum := "1ed7a4b6c1027d3acfcf77b0643c47cb48eb42a6f87be1ccd5ae4b79ebb37072", func := "gnomon/gnomonlaw18.CodeTakes", spec := "codeTakes", apart := false }
def CodeTakesSaid : Prop := codeTakesRow.holds Try.pinned (OpenSpec.ofChange codeTakesSpec)

/-- ITS FALSE NEIGHBOUR: 'it returns false'. Refute it at one input. -/
def codeTakesWrong : ChangeSpec := { name := "codeTakes", fn := fun _ => fun
  | [d] => { results := [.lit (.bool false)], args := [d] }
  | _ => none }
def CodeTakesWrongFalsely : Prop := codeTakesRow.holds Try.pinned (OpenSpec.ofChange codeTakesWrong)

/-- 'gnomonlaw11.BoundLaws': WHATEVER THE INPUT: true; the input reads as it did. -/
def boundLawsSpec : ChangeSpec := { name := "boundLaws", fn := fun _ => fun
  | [d1, d2, d3] => { results := [.lit (.bool true)], args := [d1, d2, d3] }
  | _ => none }
def boundLawsRow : OpenClaim := { program := "ythbjagibohgpaaa", sum := "1ed7a4b6c1027d3acfcf77b0643c47cb48eb42a6f87be1ccd5ae4b79ebb37072", func := "gnomon/gnomonlaw11.BoundLaws", spec := "boundLaws", unfollowed := true, recurses := true, apart := false }
def BoundLawsSaid : Prop := boundLawsRow.holds Try.pinned (OpenSpec.ofChange boundLawsSpec)

/-- ITS FALSE NEIGHBOUR: 'it returns false'. Refute it at one input. -/
def boundLawsWrong : ChangeSpec := { name := "boundLaws", fn := fun _ => fun
  | [d1, d2, d3] => { results := [.lit (.bool false)], args := [d1, d2, d3] }
  | _ => none }
def BoundLawsWrongFalsely : Prop := boundLawsRow.holds Try.pinned (OpenSpec.ofChange boundLawsWrong)

/-- 'gnomonlaw11.BoundExact': WHATEVER THE INPUT: true; the input reads as it did. -/
def boundExactSpec : ChangeSpec := { name := "boundExact", fn := fun _ => fun
  | [d1, d2] => { results := [.lit (.bool true)], args := [d1, d2] }
  | _ => none }
def boundExactRow : OpenClaim := { program := "ythbjagibohgpaaa", sum := "1ed7a4b6c1027d3acfcf77b0643c47cb48eb42a6f87be1ccd5ae4b79ebb37072", func := "gnomon/gnomonlaw11.BoundExact", spec := "boundExact", unfollowed := true, recurses := true, apart := false }
def BoundExactSaid : Prop := boundExactRow.holds Try.pinned (OpenSpec.ofChange boundExactSpec)

/-- ITS FALSE NEIGHBOUR: 'it returns false'. Refute it at one input. -/
def boundExactWrong : ChangeSpec := { name := "boundExact", fn := fun _ => fun
  | [d1, d2] => { results := [.lit (.bool false)], args := [d1, d2] }
  | _ => none }
def BoundExactWrongFalsely : Prop := boundExactRow.holds Try.pinned (OpenSpec.ofChange boundExactWrong)

/-- 'gnomonlaw11.BoundHalves': WHATEVER THE INPUT: true; the input reads as it did. -/
def boundHalvesSpec : ChangeSpec := { name := "boundHalves", fn := fun _ => fun
  | [d] => { results := [.lit (.bool true)], args := [d] }
  | _ => none }
def boundHalvesRow : OpenClaim := { program := "ythbjagibohgpaaa", sum := "1ed7a4b6c1027d3acfcf77b0643c47cb48eb42a6f87be1ccd5ae4b79ebb37072", func := "gnomon/gnomonlaw11.BoundHalves", spec := "boundHalves", unfollowed := true, recurses := true, apart := false }
def BoundHalvesSaid : Prop := boundHalvesRow.holds Try.pinned (OpenSpec.ofChange boundHalvesSpec)

/-- ITS FALSE NEIGHBOUR: 'it returns false'. Refute it at one input. -/
def boundHalvesWrong : ChangeSpec := { name := "boundHalves", fn := fun _ => fun
  | [d] => { results := [.lit (.bool false)], args := [d] }
  | _ => none }
def BoundHalvesWrongFalsely : Prop := boundHalvesRow.holds Try.pinned (OpenSpec.ofChange boundHalvesWrong)

/-- 'gnomonlaw7.NumCompares': WHATEVER THE INPUT: true; the input reads as it did. -/
def numComparesSpec : ChangeSpec := { name := "numCompares", fn := fun _ => fun
  | [d1, d2, d3] => { results := [.lit (.bool true)], args := [d1, d2, d3] }
  | _ => none }
def numComparesRow : OpenClaim := { program := "ythbjagibohgpaaa", sum := "1ed7a4b6c1027d3acfcf77b0643c47cb48eb42a6f87be1ccd5ae4b79ebb37072", func := "gnomon/gnomonlaw7.NumCompares", spec := "numCompares", unfollowed := true, recurses := true, apart := false }
def NumComparesSaid : Prop := numComparesRow.holds Try.pinned (OpenSpec.ofChange numComparesSpec)

/-- ITS FALSE NEIGHBOUR: 'it returns false'. Refute it at one input. -/
def numComparesWrong : ChangeSpec := { name := "numCompares", fn := fun _ => fun
  | [d1, d2, d3] => { results := [.lit (.bool false)], args := [d1, d2, d3] }
  | _ => none }
def NumComparesWrongFalsely : Prop := numComparesRow.holds Try.pinned (OpenSpec.ofChange numComparesWrong)

/-- 'gnomonlaw18.CodeBack': WHATEVER THE INPUT: true; the input reads as it did. -/
def codeBackSpec : ChangeSpec := { name := "codeBack", fn := fun _ => fun
  | [d1, d2, d3, d4] => { results := [.lit (.bool true)], args := [d1, d2, d3, d4] }
  | _ => none }
def codeBackRow : OpenClaim := { program := "ythbjagibohgpaaa", sum := "1ed7a4b6c1027d3acfcf77b0643c47cb48eb42a6f87be1ccd5ae4b79ebb37072", func := "gnomon/gnomonlaw18.CodeBack", spec := "codeBack", apart := false }
def CodeBackSaid : Prop := codeBackRow.holds Try.pinned (OpenSpec.ofChange codeBackSpec)

/-- ITS FALSE NEIGHBOUR: 'it returns false'. Refute it at one input. -/
def codeBackWrong : ChangeSpec := { name := "codeBack", fn := fun _ => fun
  | [d1, d2, d3, d4] => { results := [.lit (.bool false)], args := [d1, d2, d3, d4] }
  | _ => none }
def CodeBackWrongFalsely : Prop := codeBackRow.holds Try.pinned (OpenSpec.ofChange codeBackWrong)

/-- 'gnomonlaw7.NumProducts': WHATEVER THE INPUT: true; the input reads as it did. -/
def numProductsSpec : ChangeSpec := { name := "numProducts", fn := fun _ => fun
  | [d1, d2] => { results := [.lit (.bool true)], args := [d1, d2] }
  | _ => none }
def numProductsRow : OpenClaim := { program := "ythbjagibohgpaaa", sum := "1ed7a4b6c1027d3acfcf77b0643c47cb48eb42a6f87be1ccd5ae4b79ebb37072", func := "gnomon/gnomonlaw7.NumProducts", spec := "numProducts", apart := false }
def NumProductsSaid : Prop := numProductsRow.holds Try.pinned (OpenSpec.ofChange numProductsSpec)

/-- ITS FALSE NEIGHBOUR: 'it returns false'. Refute it at one input. -/
def numProductsWrong : ChangeSpec := { name := "numProducts", fn := fun _ => fun
  | [d1, d2] => { results := [.lit (.bool false)], args := [d1, d2] }
  | _ => none }
def NumProductsWrongFalsely : Prop := numProductsRow.holds Try.pinned (OpenSpec.ofChange numProductsWrong)

/-- 'gnomonlaw7.NumExact': WHATEVER THE INPUT: true; the input reads as it did. -/
def numExactSpec : ChangeSpec := { name := "numExact", fn := fun _ => fun
  | [d1, d2] => { results := [.lit (.bool true)], args := [d1, d2] }
  | _ => none }
def numExactRow : OpenClaim := { program := "ythbjagibohgpaaa", sum := "1ed7a4b6c1027d3acfcf77b0643c47cb48eb42a6f87be1ccd5ae4b79ebb37072", func := "gnomon/gnomonlaw7.NumExact", spec := "numExact", apart := false }
def NumExactSaid : Prop := numExactRow.holds Try.pinned (OpenSpec.ofChange numExactSpec)

/-- ITS FALSE NEIGHBOUR: 'it returns false'. Refute it at one input. -/
def numExactWrong : ChangeSpec := { name := "numExact", fn := fun _ => fun
  | [d1, d2] => { results := [.lit (.bool false)], args := [d1, d2] }
  | _ => none }
def NumExactWrongFalsely : Prop := numExactRow.holds Try.pinned (OpenSpec.ofChange numExactWrong)

/-- 'gnomonlaw7.NumLaws': WHATEVER THE INPUT: true; the input reads as it did. -/
def numLawsSpec : ChangeSpec := { name := "numLaws", fn := fun _ => fun
  | [d1, d2] => { results := [.lit (.bool true)], args := [d1, d2] }
  | _ => none }
def numLawsRow : OpenClaim := { program := "ythbjagibohgpaaa", sum := "1ed7a4b6c1027d3acfcf77b0643c47cb48eb42a6f87be1ccd5ae4b79ebb37072", func := "gnomon/gnomonlaw7.NumLaws", spec := "numLaws", apart := false }
def NumLawsSaid : Prop := numLawsRow.holds Try.pinned (OpenSpec.ofChange numLawsSpec)

/-- ITS FALSE NEIGHBOUR: 'it returns false'. Refute it at one input. -/
def numLawsWrong : ChangeSpec := { name := "numLaws", fn := fun _ => fun
  | [d1, d2] => { results := [.lit (.bool false)], args := [d1, d2] }
  | _ => none }
def NumLawsWrongFalsely : Prop := numLawsRow.holds Try.pinned (OpenSpec.ofChange numLawsWrong)

/- THE SECOND FORM. 'bulk': how many values and letters a reading holds, each counted each time it is reached (what is shared counts as often as it is met; a slice's spare places count too). A statement '..UptoSaid' is the law's where the arguments, and the package variables that the reading takes, are together of bulk at most 1048576: NARROWER than '..Said'. Prove '..Said' where nothing that the law and all that it calls make is longer than what came in: it says more and counts as full. Else prove '..UptoSaid'. A law counts once. -/
mutual
def uptoBulk {H : Type} : DataW H → Nat
  | .lit (.string bytes) => bytes.length + 1
  | .lit _ => 1
  | .nil => 1
  | .ptr d => uptoBulk d + 1
  | .slice elems spare => uptoBulkAll elems + uptoBulkAll spare + 1
  | .agg parts => uptoBulkAll parts + 1
  | .iface _ d => uptoBulk d + 1
  | .map entries => uptoBulkEntries entries + 1
  | .held _ => 1
def uptoBulkAll {H : Type} : List (DataW H) → Nat
  | [] => 0
  | d :: r => uptoBulk d + uptoBulkAll r
def uptoBulkEntries {H : Type} : List (Lit × DataW H) → Nat
  | [] => 0
  | x :: r => uptoBulkEntry x + uptoBulkEntries r
def uptoBulkEntry {H : Type} : Lit × DataW H → Nat
  | (.string bytes, d) => bytes.length + uptoBulk d + 1
  | (_, d) => uptoBulk d + 1
 end
def uptoSmall : (H : Type) → List (DataW H) → Bool := fun _ ds => decide (uptoBulkAll ds ≤ 1048576)
def OpenSpec.upto (s : _root_.Go.ChangeSpec) : _root_.Go.OpenSpec := { _root_.Go.OpenSpec.ofChange s with cond := some uptoSmall }

/-- 'gnomonlaw18.CodePuts', WHERE WHAT IT READS IS OF BULK AT MOST 1048576: true; the input reads as it did. -/
def codePutsUptoRow : OpenClaim := { program := "ythbjagibohgpaaa", sum := "1ed7a4b6c1027d3acfcf77b0643c47cb48eb42a6f87be1ccd5ae4b79ebb37072", func := "gnomon/gnomonlaw18.CodePuts", spec := "codePuts", apart := false, narrowed := true }
def CodePutsUptoSaid : Prop := codePutsUptoRow.holds Try.pinned (OpenSpec.upto codePutsSpec)

/-- 'gnomonlaw18.CodeTakes', WHERE WHAT IT READS IS OF BULK AT MOST 1048576: true; the input reads as it did. -/
def codeTakesUptoRow : OpenClaim := { program := "ythbjagibohgpaaa", sum := "1ed7a4b6c1027d3acfcf77b0643c47cb48eb42a6f87be1ccd5ae4b79ebb37072", func := "gnomon/gnomonlaw18.CodeTakes", spec := "codeTakes", apart := false, narrowed := true }
def CodeTakesUptoSaid : Prop := codeTakesUptoRow.holds Try.pinned (OpenSpec.upto codeTakesSpec)

/-- 'gnomonlaw11.BoundLaws', WHERE WHAT IT READS IS OF BULK AT MOST 1048576: true; the input reads as it did. -/
def boundLawsUptoRow : OpenClaim := { program := "ythbjagibohgpaaa", sum := "1ed7a4b6c1027d3acfcf77b0643c47cb48eb42a6f87be1ccd5ae4b79ebb37072", func := "gnomon/gnomonlaw11.BoundLaws", spec := "boundLaws", unfollowed := true, recurses := true, apart := false, narrowed := true }
def BoundLawsUptoSaid : Prop := boundLawsUptoRow.holds Try.pinned (OpenSpec.upto boundLawsSpec)

/-- 'gnomonlaw11.BoundExact', WHERE WHAT IT READS IS OF BULK AT MOST 1048576: true; the input reads as it did. -/
def boundExactUptoRow : OpenClaim := { program := "ythbjagibohgpaaa", sum := "1ed7a4b6c1027d3acfcf77b0643c47cb48eb42a6f87be1ccd5ae4b79ebb37072", func := "gnomon/gnomonlaw11.BoundExact", spec := "boundExact", unfollowed := true, recurses := true, apart := false, narrowed := true }
def BoundExactUptoSaid : Prop := boundExactUptoRow.holds Try.pinned (OpenSpec.upto boundExactSpec)

/-- 'gnomonlaw11.BoundHalves', WHERE WHAT IT READS IS OF BULK AT MOST 1048576: true; the input reads as it did. -/
def boundHalvesUptoRow : OpenClaim := { program := "ythbjagibohgpaaa", sum := "1ed7a4b6c1027d3acfcf77b0643c47cb48eb42a6f87be1ccd5ae4b79ebb37072", func := "gnomon/gnomonlaw11.BoundHalves", spec := "boundHalves", unfollowed := true, recurses := true, apart := false, narrowed := true }
def BoundHalvesUptoSaid : Prop := boundHalvesUptoRow.holds Try.pinned (OpenSpec.upto boundHalvesSpec)

/-- 'gnomonlaw7.NumCompares', WHERE WHAT IT READS IS OF BULK AT MOST 1048576: true; the input reads as it did. -/
def numComparesUptoRow : OpenClaim := { program := "ythbjagibohgpaaa", sum := "1ed7a4b6c1027d3acfcf77b0643c47cb48eb42a6f87be1ccd5ae4b79ebb37072", func := "gnomon/gnomonlaw7.NumCompares", spec := "numCompares", unfollowed := true, recurses := true, apart := false, narrowed := true }
def NumComparesUptoSaid : Prop := numComparesUptoRow.holds Try.pinned (OpenSpec.upto numComparesSpec)

/-- 'gnomonlaw18.CodeBack', WHERE WHAT IT READS IS OF BULK AT MOST 1048576: true; the input reads as it did. -/
def codeBackUptoRow : OpenClaim := { program := "ythbjagibohgpaaa", sum := "1ed7a4b6c1027d3acfcf77b0643c47cb48eb42a6f87be1ccd5ae4b79ebb37072", func := "gnomon/gnomonlaw18.CodeBack", spec := "codeBack", apart := false, narrowed := true }
def CodeBackUptoSaid : Prop := codeBackUptoRow.holds Try.pinned (OpenSpec.upto codeBackSpec)

/-- 'gnomonlaw7.NumProducts', WHERE WHAT IT READS IS OF BULK AT MOST 1048576: true; the input reads as it did. -/
def numProductsUptoRow : OpenClaim := { program := "ythbjagibohgpaaa", sum := "1ed7a4b6c1027d3acfcf77b0643c47cb48eb42a6f87be1ccd5ae4b79ebb37072", func := "gnomon/gnomonlaw7.NumProducts", spec := "numProducts", apart := false, narrowed := true }
def NumProductsUptoSaid : Prop := numProductsUptoRow.holds Try.pinned (OpenSpec.upto numProductsSpec)

/-- 'gnomonlaw7.NumExact', WHERE WHAT IT READS IS OF BULK AT MOST 1048576: true; the input reads as it did. -/
def numExactUptoRow : OpenClaim := { program := "ythbjagibohgpaaa", sum := "1ed7a4b6c1027d3acfcf77b0643c47cb48eb42a6f87be1ccd5ae4b79ebb37072", func := "gnomon/gnomonlaw7.NumExact", spec := "numExact", apart := false, narrowed := true }
def NumExactUptoSaid : Prop := numExactUptoRow.holds Try.pinned (OpenSpec.upto numExactSpec)

/-- 'gnomonlaw7.NumLaws', WHERE WHAT IT READS IS OF BULK AT MOST 1048576: true; the input reads as it did. -/
def numLawsUptoRow : OpenClaim := { program := "ythbjagibohgpaaa", sum := "1ed7a4b6c1027d3acfcf77b0643c47cb48eb42a6f87be1ccd5ae4b79ebb37072", func := "gnomon/gnomonlaw7.NumLaws", spec := "numLaws", apart := false, narrowed := true }
def NumLawsUptoSaid : Prop := numLawsUptoRow.holds Try.pinned (OpenSpec.upto numLawsSpec)

end Rows
end Go.Proofs.Ythbjagibohgpaaa

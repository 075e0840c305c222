/-
  No cell of these rows narrows 'for every input' (looked for: loops, veiled, ifaces, maps, wideKeys, modest, calm, conditions, laid).
  DERIVED. THE GIVEN ROWS OF THIS SEAT. 8 by the template 'for every input the law returns true; each argument reads behind the call as it read before'; 0 by the template 'total and deterministic' (their statements: YtghpiofjejhegaaTotals.lean).
  GIVEN WITH THE SEED: the statements are not yours to turn. If you find one false, say at which input.
  Laid BY PROGRAM, IN A SANDBOX (cutbox-rows.mjs): the forced cells as the released guide's own fill.sh prints them over the translation dbee096743aa1ed4… (all of the seat's roots in one cut). By AI agents, Wed Nov 11 2026. No macro, syntax, notation, axiom, sorry.
-/
import Derived.Test.YtghpiofjejhegaaChecked
import GoSem.Claim
import GoSem.ClaimJoined
import GoSem.ClaimMapViews
import Derived.JoinedTies
import Derived.KernelRfl
namespace Go.Proofs.Ytghpiofjejhegaa
/- THE CELL 'sum', in the pinned program and in every row, IS THE sha256 OF THE DUMP (.gsa) THAT YtghpiofjejhegaaProg.lean LOADS. Nothing in Lean hashes anything: it is a label: what it is worth is what the hold of that sum in a sandbox is worth. -/
noncomputable def Try.pinned : Pinned := { name := "ytghpiofjejhegaa", sum := "dbee096743aa1ed451b46d01b5a3841d485e49cd47007c989058a05ea777296f", checked := Try.checked }
namespace Rows
def none {H : Type} : Left H := { results := [], args := [] }

/-- 'gnomonlaw18.CodeBack': WHATEVER THE INPUT: true; the input reads as it did. -/
def codeBackSpec : ChangeSpec := { name := "codeBack", fn := fun _ => fun
  | [d1, d2, d3, d4] => { results := [.lit (.bool true)], args := [d1, d2, d3, d4] }
  | _ => none }
def codeBackRow : OpenClaim := { program := "ytghpiofjejhegaa", sum := "dbee096743aa1ed451b46d01b5a3841d485e49cd47007c989058a05ea777296f", func := "gnomon/gnomonlaw18.CodeBack", spec := "codeBack", apart := false }
def CodeBackSaid : Prop := codeBackRow.holds Try.pinned (OpenSpec.ofChange codeBackSpec)

/-- ITS FALSE NEIGHBOUR: 'it returns false'. Refute it at one input. -/
def codeBackWrong : ChangeSpec := { name := "codeBack", fn := fun _ => fun
  | [d1, d2, d3, d4] => { results := [.lit (.bool false)], args := [d1, d2, d3, d4] }
  | _ => none }
def CodeBackWrongFalsely : Prop := codeBackRow.holds Try.pinned (OpenSpec.ofChange codeBackWrong)

/-- 'gnomonlaw19.CertEncodes': WHATEVER THE INPUT: true; the input reads as it did. -/
def certEncodesSpec : ChangeSpec := { name := "certEncodes", fn := fun _ => fun
  | [d] => { results := [.lit (.bool true)], args := [d] }
  | _ => none }
def certEncodesRow : OpenClaim := { program := "ytghpiofjejhegaa", sum := "dbee096743aa1ed451b46d01b5a3841d485e49cd47007c989058a05ea777296f", func := "gnomon/gnomonlaw19.CertEncodes", spec := "certEncodes", unfollowed := true, recurses := true, apart := false }
def CertEncodesSaid : Prop := certEncodesRow.holds Try.pinned (OpenSpec.ofChange certEncodesSpec)

/-- ITS FALSE NEIGHBOUR: 'it returns false'. Refute it at one input. -/
def certEncodesWrong : ChangeSpec := { name := "certEncodes", fn := fun _ => fun
  | [d] => { results := [.lit (.bool false)], args := [d] }
  | _ => none }
def CertEncodesWrongFalsely : Prop := certEncodesRow.holds Try.pinned (OpenSpec.ofChange certEncodesWrong)

/-- 'gnomonlaw19.CertNumbers': WHATEVER THE INPUT: true; the input reads as it did. -/
def certNumbersSpec : ChangeSpec := { name := "certNumbers", fn := fun _ => fun
  | [d] => { results := [.lit (.bool true)], args := [d] }
  | _ => none }
def certNumbersRow : OpenClaim := { program := "ytghpiofjejhegaa", sum := "dbee096743aa1ed451b46d01b5a3841d485e49cd47007c989058a05ea777296f", func := "gnomon/gnomonlaw19.CertNumbers", spec := "certNumbers", unfollowed := true, recurses := true, apart := false }
def CertNumbersSaid : Prop := certNumbersRow.holds Try.pinned (OpenSpec.ofChange certNumbersSpec)

/-- ITS FALSE NEIGHBOUR: 'it returns false'. Refute it at one input. -/
def certNumbersWrong : ChangeSpec := { name := "certNumbers", fn := fun _ => fun
  | [d] => { results := [.lit (.bool false)], args := [d] }
  | _ => none }
def CertNumbersWrongFalsely : Prop := certNumbersRow.holds Try.pinned (OpenSpec.ofChange certNumbersWrong)

/-- 'gnomonlaw19.CertSizes': WHATEVER THE INPUT: true; the input reads as it did. -/
def certSizesSpec : ChangeSpec := { name := "certSizes", fn := fun _ => fun
  | [d1, d2, d3] => { results := [.lit (.bool true)], args := [d1, d2, d3] }
  | _ => none }
def certSizesRow : OpenClaim := { program := "ytghpiofjejhegaa", sum := "dbee096743aa1ed451b46d01b5a3841d485e49cd47007c989058a05ea777296f", func := "gnomon/gnomonlaw19.CertSizes", spec := "certSizes", unfollowed := true, recurses := true, apart := false }
def CertSizesSaid : Prop := certSizesRow.holds Try.pinned (OpenSpec.ofChange certSizesSpec)

/-- ITS FALSE NEIGHBOUR: 'it returns false'. Refute it at one input. -/
def certSizesWrong : ChangeSpec := { name := "certSizes", fn := fun _ => fun
  | [d1, d2, d3] => { results := [.lit (.bool false)], args := [d1, d2, d3] }
  | _ => none }
def CertSizesWrongFalsely : Prop := certSizesRow.holds Try.pinned (OpenSpec.ofChange certSizesWrong)

/-- 'gnomonlaw19.CertPlaces': WHATEVER THE INPUT: true; the input reads as it did. -/
def certPlacesSpec : ChangeSpec := { name := "certPlaces", fn := fun _ => fun
  | [d1, d2, d3, d4, d5] => { results := [.lit (.bool true)], args := [d1, d2, d3, d4, d5] }
  | _ => none }
def certPlacesRow : OpenClaim := { program := "ytghpiofjejhegaa", sum := "dbee096743aa1ed451b46d01b5a3841d485e49cd47007c989058a05ea777296f", func := "gnomon/gnomonlaw19.CertPlaces", spec := "certPlaces", unfollowed := true, recurses := true, apart := false }
def CertPlacesSaid : Prop := certPlacesRow.holds Try.pinned (OpenSpec.ofChange certPlacesSpec)

/-- ITS FALSE NEIGHBOUR: 'it returns false'. Refute it at one input. -/
def certPlacesWrong : ChangeSpec := { name := "certPlaces", fn := fun _ => fun
  | [d1, d2, d3, d4, d5] => { results := [.lit (.bool false)], args := [d1, d2, d3, d4, d5] }
  | _ => none }
def CertPlacesWrongFalsely : Prop := certPlacesRow.holds Try.pinned (OpenSpec.ofChange certPlacesWrong)

/-- 'gnomonlaw19.CertDecodes': WHATEVER THE INPUT: true; the input reads as it did. -/
def certDecodesSpec : ChangeSpec := { name := "certDecodes", fn := fun _ => fun
  | [d] => { results := [.lit (.bool true)], args := [d] }
  | _ => none }
def certDecodesRow : OpenClaim := { program := "ytghpiofjejhegaa", sum := "dbee096743aa1ed451b46d01b5a3841d485e49cd47007c989058a05ea777296f", func := "gnomon/gnomonlaw19.CertDecodes", spec := "certDecodes", unfollowed := true, recurses := true, apart := false }
def CertDecodesSaid : Prop := certDecodesRow.holds Try.pinned (OpenSpec.ofChange certDecodesSpec)

/-- ITS FALSE NEIGHBOUR: 'it returns false'. Refute it at one input. -/
def certDecodesWrong : ChangeSpec := { name := "certDecodes", fn := fun _ => fun
  | [d] => { results := [.lit (.bool false)], args := [d] }
  | _ => none }
def CertDecodesWrongFalsely : Prop := certDecodesRow.holds Try.pinned (OpenSpec.ofChange certDecodesWrong)

/-- 'gnomonlaw19.CertTurned': WHATEVER THE INPUT: true; the input reads as it did. -/
def certTurnedSpec : ChangeSpec := { name := "certTurned", fn := fun _ => fun
  | [d1, d2, d3, d4, d5] => { results := [.lit (.bool true)], args := [d1, d2, d3, d4, d5] }
  | _ => none }
def certTurnedRow : OpenClaim := { program := "ytghpiofjejhegaa", sum := "dbee096743aa1ed451b46d01b5a3841d485e49cd47007c989058a05ea777296f", func := "gnomon/gnomonlaw19.CertTurned", spec := "certTurned", unfollowed := true, recurses := true, apart := false }
def CertTurnedSaid : Prop := certTurnedRow.holds Try.pinned (OpenSpec.ofChange certTurnedSpec)

/-- ITS FALSE NEIGHBOUR: 'it returns false'. Refute it at one input. -/
def certTurnedWrong : ChangeSpec := { name := "certTurned", fn := fun _ => fun
  | [d1, d2, d3, d4, d5] => { results := [.lit (.bool false)], args := [d1, d2, d3, d4, d5] }
  | _ => none }
def CertTurnedWrongFalsely : Prop := certTurnedRow.holds Try.pinned (OpenSpec.ofChange certTurnedWrong)

/-- 'gnomonlaw19.CertBack': WHATEVER THE INPUT: true; the input reads as it did. -/
def certBackSpec : ChangeSpec := { name := "certBack", fn := fun _ => fun
  | [d1, d2, d3, d4] => { results := [.lit (.bool true)], args := [d1, d2, d3, d4] }
  | _ => none }
def certBackRow : OpenClaim := { program := "ytghpiofjejhegaa", sum := "dbee096743aa1ed451b46d01b5a3841d485e49cd47007c989058a05ea777296f", func := "gnomon/gnomonlaw19.CertBack", spec := "certBack", unfollowed := true, recurses := true, apart := false }
def CertBackSaid : Prop := certBackRow.holds Try.pinned (OpenSpec.ofChange certBackSpec)

/-- ITS FALSE NEIGHBOUR: 'it returns false'. Refute it at one input. -/
def certBackWrong : ChangeSpec := { name := "certBack", fn := fun _ => fun
  | [d1, d2, d3, d4] => { results := [.lit (.bool false)], args := [d1, d2, d3, d4] }
  | _ => none }
def CertBackWrongFalsely : Prop := certBackRow.holds Try.pinned (OpenSpec.ofChange certBackWrong)

/- THE SECOND FORM. 'bulk': how many values and letters a reading holds, each counted each time it is reached (what is shared counts as often as it is met; a slice's spare places count too). A statement '..UptoSaid' is the law's where the arguments, and the package variables that the reading takes, are together of bulk at most 1048576: NARROWER than '..Said'. Prove '..Said' where nothing that the law and all that it calls make is longer than what came in: it says more and counts as full. Else prove '..UptoSaid'. A law counts once. -/
mutual
def uptoBulk {H : Type} : DataW H → Nat
  | .lit (.string bytes) => bytes.length + 1
  | .lit _ => 1
  | .nil => 1
  | .ptr d => uptoBulk d + 1
  | .slice elems spare => uptoBulkAll elems + uptoBulkAll spare + 1
  | .agg parts => uptoBulkAll parts + 1
  | .iface _ d => uptoBulk d + 1
  | .map entries => uptoBulkEntries entries + 1
  | .held _ => 1
def uptoBulkAll {H : Type} : List (DataW H) → Nat
  | [] => 0
  | d :: r => uptoBulk d + uptoBulkAll r
def uptoBulkEntries {H : Type} : List (Lit × DataW H) → Nat
  | [] => 0
  | x :: r => uptoBulkEntry x + uptoBulkEntries r
def uptoBulkEntry {H : Type} : Lit × DataW H → Nat
  | (.string bytes, d) => bytes.length + uptoBulk d + 1
  | (_, d) => uptoBulk d + 1
 end
def uptoSmall : (H : Type) → List (DataW H) → Bool := fun _ ds => decide (uptoBulkAll ds ≤ 1048576)
def OpenSpec.upto (s : _root_.Go.ChangeSpec) : _root_.Go.OpenSpec := { _root_.Go.OpenSpec.ofChange s with cond := some uptoSmall }

/-- 'gnomonlaw18.CodeBack', WHERE WHAT IT READS IS OF BULK AT MOST 1048576: true; the input reads as it did. -/
def codeBackUptoRow : OpenClaim := { program := "ytghpiofjejhegaa", sum := "dbee096743aa1ed451b46d01b5a3841d485e49cd47007c989058a05ea777296f", func := "gnomon/gnomonlaw18.CodeBack", spec := "codeBack", apart := false, narrowed := true }
def CodeBackUptoSaid : Prop := codeBackUptoRow.holds Try.pinned (OpenSpec.upto codeBackSpec)

/-- 'gnomonlaw19.CertEncodes', WHERE WHAT IT READS IS OF BULK AT MOST 1048576: true; the input reads as it did. -/
def certEncodesUptoRow : OpenClaim := { program := "ytghpiofjejhegaa", sum := "dbee096743aa1ed451b46d01b5a3841d485e49cd47007c989058a05ea777296f", func := "gnomon/gnomonlaw19.CertEncodes", spec := "certEncodes", unfollowed := true, recurses := true, apart := false, narrowed := true }
def CertEncodesUptoSaid : Prop := certEncodesUptoRow.holds Try.pinned (OpenSpec.upto certEncodesSpec)

/-- 'gnomonlaw19.CertNumbers', WHERE WHAT IT READS IS OF BULK AT MOST 1048576: true; the input reads as it did. -/
def certNumbersUptoRow : OpenClaim := { program := "ytghpiofjejhegaa", sum := "dbee096743aa1ed451b46d01b5a3841d485e49cd47007c989058a05ea777296f", func := "gnomon/gnomonlaw19.CertNumbers", spec := "certNumbers", unfollowed := true, recurses := true, apart := false, narrowed := true }
def CertNumbersUptoSaid : Prop := certNumbersUptoRow.holds Try.pinned (OpenSpec.upto certNumbersSpec)

/-- 'gnomonlaw19.CertSizes', WHERE WHAT IT READS IS OF BULK AT MOST 1048576: true; the input reads as it did. -/
def certSizesUptoRow : OpenClaim := { program := "ytghpiofjejhegaa", sum := "dbee096743aa1ed451b46d01b5a3841d485e49cd47007c989058a05ea777296f", func := "gnomon/gnomonlaw19.CertSizes", spec := "certSizes", unfollowed := true, recurses := true, apart := false, narrowed := true }
def CertSizesUptoSaid : Prop := certSizesUptoRow.holds Try.pinned (OpenSpec.upto certSizesSpec)

/-- 'gnomonlaw19.CertPlaces', WHERE WHAT IT READS IS OF BULK AT MOST 1048576: true; the input reads as it did. -/
def certPlacesUptoRow : OpenClaim := { program := "ytghpiofjejhegaa", sum := "dbee096743aa1ed451b46d01b5a3841d485e49cd47007c989058a05ea777296f", func := "gnomon/gnomonlaw19.CertPlaces", spec := "certPlaces", unfollowed := true, recurses := true, apart := false, narrowed := true }
def CertPlacesUptoSaid : Prop := certPlacesUptoRow.holds Try.pinned (OpenSpec.upto certPlacesSpec)

/-- 'gnomonlaw19.CertDecodes', WHERE WHAT IT READS IS OF BULK AT MOST 1048576: true; the input reads as it did. -/
def certDecodesUptoRow : OpenClaim := { program := "ytghpiofjejhegaa", sum := "dbee096743aa1ed451b46d01b5a3841d485e49cd47007c989058a05ea777296f", func := "gnomon/gnomonlaw19.CertDecodes", spec := "certDecodes", unfollowed := true, recurses := true, apart := false, narrowed := true }
def CertDecodesUptoSaid : Prop := certDecodesUptoRow.holds Try.pinned (OpenSpec.upto certDecodesSpec)

/-- 'gnomonlaw19.CertTurned', WHERE WHAT IT READS IS OF BULK AT MOST 1048576: true; the input reads as it did. -/
def certTurnedUptoRow : OpenClaim := { program := "ytghpiofjejhegaa", sum := "dbee096743aa1ed451b46d01b5a3841d485e49cd47007c989058a05ea777296f", func := "gnomon/gnomonlaw19.CertTurned", spec := "certTurned", unfollowed := true, recurses := true, apart := false, narrowed := true }
def CertTurnedUptoSaid : Prop := certTurnedUptoRow.holds Try.pinned (OpenSpec.upto certTurnedSpec)

/-- 'gnomonlaw19.CertBack', WHERE WHAT IT READS IS OF BULK AT MOST 1048576: true; the input reads as it did. -/
def certBackUptoRow : OpenClaim := { program := "ytghpiofjejhegaa", sum := "dbee096743aa1ed451b46d01b5a3841d485e49cd47007c989058a05ea777296f", func := "gnomon/gnomonlaw19.CertBack", spec := "certBack", unfollowed := true, recurses := true, apart := false, narrowed := true }
def CertBackUptoSaid : Prop := certBackUptoRow.holds Try.pinned (OpenSpec.upto certBackSpec)

end Rows
end Go.Proofs.Ytghpiofjejhegaa

/-
  No cell of these rows narrows 'for every input' (looked for: loops, veiled, ifaces, maps, wideKeys, modest, calm, conditions, laid).
  DERIVED. THE GIVEN ROWS OF THIS SEAT. 11 by the template 'for every input the law returns true; each argument reads behind the call as it read before'; 0 by the template 'total and deterministic' (their statements: YtncoekfjpkfcdaaTotals.lean).
  GIVEN WITH THE SEED: the statements are not yours to turn. If you find one false, say at which input.
  Laid BY PROGRAM, IN A SANDBOX (cutbox-rows.mjs): the forced cells as the released guide's own fill.sh prints them over the translation d0180bc53a0d1fe9… (all of the seat's roots in one cut). By AI agents, Wed Nov 11 2026. No macro, syntax, notation, axiom, sorry.
-/
import Derived.Test.YtncoekfjpkfcdaaChecked
import GoSem.Claim
import GoSem.ClaimJoined
import GoSem.ClaimMapViews
import Derived.JoinedTies
import Derived.KernelRfl
namespace Go.Proofs.Ytncoekfjpkfcdaa
/- THE CELL 'sum', in the pinned program and in every row, IS THE sha256 OF THE DUMP (.gsa) THAT YtncoekfjpkfcdaaProg.lean LOADS. Nothing in Lean hashes anything: it is a label: what it is worth is what the hold of that sum in a sandbox is worth. -/
noncomputable def Try.pinned : Pinned := { name := "ytncoekfjpkfcdaa", sum := "d0180bc53a0d1fe98331f97c234d2ba2ec1bfae1402a9b74a990b5531107910f", checked := Try.checked }
namespace Rows
def none {H : Type} : Left H := { results := [], args := [] }

/-- 'orangeboxlaw2.LayoutPackMatchesSpec': WHATEVER THE INPUT: true; the input reads as it did. -/
def layoutPackMatchesSpecSpec : ChangeSpec := { name := "layoutPackMatchesSpec", fn := fun _ => fun
  | [d1, d2] => { results := [.lit (.bool true)], args := [d1, d2] }
  | _ => none }
def layoutPackMatchesSpecRow : OpenClaim := { program := "ytncoekfjpkfcdaa", sum := "d0180bc53a0d1fe98331f97c234d2ba2ec1bfae1402a9b74a990b5531107910f", func := "orangebox/orangeboxlaw2.LayoutPackMatchesSpec", spec := "layoutPackMatchesSpec", unfollowed := true, recurses := true, plainKeys := false, apart := false }
def LayoutPackMatchesSpecSaid : Prop := layoutPackMatchesSpecRow.holds Try.pinned (OpenSpec.ofChange layoutPackMatchesSpecSpec)

/-- ITS FALSE NEIGHBOUR: 'it returns false'. Refute it at one input. -/
def layoutPackMatchesSpecWrong : ChangeSpec := { name := "layoutPackMatchesSpec", fn := fun _ => fun
  | [d1, d2] => { results := [.lit (.bool false)], args := [d1, d2] }
  | _ => none }
def LayoutPackMatchesSpecWrongFalsely : Prop := layoutPackMatchesSpecRow.holds Try.pinned (OpenSpec.ofChange layoutPackMatchesSpecWrong)

/-- 'orangeboxlaw2.LayoutUnpackMatchesSpec': WHATEVER THE INPUT: true; the input reads as it did. -/
def layoutUnpackMatchesSpecSpec : ChangeSpec := { name := "layoutUnpackMatchesSpec", fn := fun _ => fun
  | [d1, d2] => { results := [.lit (.bool true)], args := [d1, d2] }
  | _ => none }
def layoutUnpackMatchesSpecRow : OpenClaim := { program := "ytncoekfjpkfcdaa", sum := "d0180bc53a0d1fe98331f97c234d2ba2ec1bfae1402a9b74a990b5531107910f", func := "orangebox/orangeboxlaw2.LayoutUnpackMatchesSpec", spec := "layoutUnpackMatchesSpec", unfollowed := true, recurses := true, plainKeys := false, apart := false }
def LayoutUnpackMatchesSpecSaid : Prop := layoutUnpackMatchesSpecRow.holds Try.pinned (OpenSpec.ofChange layoutUnpackMatchesSpecSpec)

/-- ITS FALSE NEIGHBOUR: 'it returns false'. Refute it at one input. -/
def layoutUnpackMatchesSpecWrong : ChangeSpec := { name := "layoutUnpackMatchesSpec", fn := fun _ => fun
  | [d1, d2] => { results := [.lit (.bool false)], args := [d1, d2] }
  | _ => none }
def LayoutUnpackMatchesSpecWrongFalsely : Prop := layoutUnpackMatchesSpecRow.holds Try.pinned (OpenSpec.ofChange layoutUnpackMatchesSpecWrong)

/-- 'orangeboxlaw2.LayoutValuesRoundTrip': WHATEVER THE INPUT: true; the input reads as it did. -/
def layoutValuesRoundTripSpec : ChangeSpec := { name := "layoutValuesRoundTrip", fn := fun _ => fun
  | [d1, d2, d3] => { results := [.lit (.bool true)], args := [d1, d2, d3] }
  | _ => none }
def layoutValuesRoundTripRow : OpenClaim := { program := "ytncoekfjpkfcdaa", sum := "d0180bc53a0d1fe98331f97c234d2ba2ec1bfae1402a9b74a990b5531107910f", func := "orangebox/orangeboxlaw2.LayoutValuesRoundTrip", spec := "layoutValuesRoundTrip", unfollowed := true, recurses := true, plainKeys := false, apart := false }
def LayoutValuesRoundTripSaid : Prop := layoutValuesRoundTripRow.holds Try.pinned (OpenSpec.ofChange layoutValuesRoundTripSpec)

/-- ITS FALSE NEIGHBOUR: 'it returns false'. Refute it at one input. -/
def layoutValuesRoundTripWrong : ChangeSpec := { name := "layoutValuesRoundTrip", fn := fun _ => fun
  | [d1, d2, d3] => { results := [.lit (.bool false)], args := [d1, d2, d3] }
  | _ => none }
def LayoutValuesRoundTripWrongFalsely : Prop := layoutValuesRoundTripRow.holds Try.pinned (OpenSpec.ofChange layoutValuesRoundTripWrong)

/-- 'orangeboxlaw2.LayoutOtherBitsDoNotMatter': WHATEVER THE INPUT: true; the input reads as it did. -/
def layoutOtherBitsDoNotMatterSpec : ChangeSpec := { name := "layoutOtherBitsDoNotMatter", fn := fun _ => fun
  | [d1, d2, d3, d4, d5] => { results := [.lit (.bool true)], args := [d1, d2, d3, d4, d5] }
  | _ => none }
def layoutOtherBitsDoNotMatterRow : OpenClaim := { program := "ytncoekfjpkfcdaa", sum := "d0180bc53a0d1fe98331f97c234d2ba2ec1bfae1402a9b74a990b5531107910f", func := "orangebox/orangeboxlaw2.LayoutOtherBitsDoNotMatter", spec := "layoutOtherBitsDoNotMatter", unfollowed := true, recurses := true, plainKeys := false, apart := false }
def LayoutOtherBitsDoNotMatterSaid : Prop := layoutOtherBitsDoNotMatterRow.holds Try.pinned (OpenSpec.ofChange layoutOtherBitsDoNotMatterSpec)

/-- ITS FALSE NEIGHBOUR: 'it returns false'. Refute it at one input. -/
def layoutOtherBitsDoNotMatterWrong : ChangeSpec := { name := "layoutOtherBitsDoNotMatter", fn := fun _ => fun
  | [d1, d2, d3, d4, d5] => { results := [.lit (.bool false)], args := [d1, d2, d3, d4, d5] }
  | _ => none }
def LayoutOtherBitsDoNotMatterWrongFalsely : Prop := layoutOtherBitsDoNotMatterRow.holds Try.pinned (OpenSpec.ofChange layoutOtherBitsDoNotMatterWrong)

/-- 'orangeboxlaw2.LayoutParamMatchesSpec': WHATEVER THE INPUT: true; the input reads as it did. -/
def layoutParamMatchesSpecSpec : ChangeSpec := { name := "layoutParamMatchesSpec", fn := fun _ => fun
  | [d1, d2] => { results := [.lit (.bool true)], args := [d1, d2] }
  | _ => none }
def layoutParamMatchesSpecRow : OpenClaim := { program := "ytncoekfjpkfcdaa", sum := "d0180bc53a0d1fe98331f97c234d2ba2ec1bfae1402a9b74a990b5531107910f", func := "orangebox/orangeboxlaw2.LayoutParamMatchesSpec", spec := "layoutParamMatchesSpec", unfollowed := true, recurses := true, plainKeys := false, apart := false }
def LayoutParamMatchesSpecSaid : Prop := layoutParamMatchesSpecRow.holds Try.pinned (OpenSpec.ofChange layoutParamMatchesSpecSpec)

/-- ITS FALSE NEIGHBOUR: 'it returns false'. Refute it at one input. -/
def layoutParamMatchesSpecWrong : ChangeSpec := { name := "layoutParamMatchesSpec", fn := fun _ => fun
  | [d1, d2] => { results := [.lit (.bool false)], args := [d1, d2] }
  | _ => none }
def LayoutParamMatchesSpecWrongFalsely : Prop := layoutParamMatchesSpecRow.holds Try.pinned (OpenSpec.ofChange layoutParamMatchesSpecWrong)

/-- 'orangeboxlaw2.LayoutOwnerMatchesSpec': WHATEVER THE INPUT: true; the input reads as it did. -/
def layoutOwnerMatchesSpecSpec : ChangeSpec := { name := "layoutOwnerMatchesSpec", fn := fun _ => fun
  | [d1, d2, d3, d4] => { results := [.lit (.bool true)], args := [d1, d2, d3, d4] }
  | _ => none }
def layoutOwnerMatchesSpecRow : OpenClaim := { program := "ytncoekfjpkfcdaa", sum := "d0180bc53a0d1fe98331f97c234d2ba2ec1bfae1402a9b74a990b5531107910f", func := "orangebox/orangeboxlaw2.LayoutOwnerMatchesSpec", spec := "layoutOwnerMatchesSpec", unfollowed := true, recurses := true, plainKeys := false, apart := false }
def LayoutOwnerMatchesSpecSaid : Prop := layoutOwnerMatchesSpecRow.holds Try.pinned (OpenSpec.ofChange layoutOwnerMatchesSpecSpec)

/-- ITS FALSE NEIGHBOUR: 'it returns false'. Refute it at one input. -/
def layoutOwnerMatchesSpecWrong : ChangeSpec := { name := "layoutOwnerMatchesSpec", fn := fun _ => fun
  | [d1, d2, d3, d4] => { results := [.lit (.bool false)], args := [d1, d2, d3, d4] }
  | _ => none }
def LayoutOwnerMatchesSpecWrongFalsely : Prop := layoutOwnerMatchesSpecRow.holds Try.pinned (OpenSpec.ofChange layoutOwnerMatchesSpecWrong)

/-- 'orangeboxlaw2.LayoutDiffMatchesSpec': WHATEVER THE INPUT: true; the input reads as it did. -/
def layoutDiffMatchesSpecSpec : ChangeSpec := { name := "layoutDiffMatchesSpec", fn := fun _ => fun
  | [d1, d2] => { results := [.lit (.bool true)], args := [d1, d2] }
  | _ => none }
def layoutDiffMatchesSpecRow : OpenClaim := { program := "ytncoekfjpkfcdaa", sum := "d0180bc53a0d1fe98331f97c234d2ba2ec1bfae1402a9b74a990b5531107910f", func := "orangebox/orangeboxlaw2.LayoutDiffMatchesSpec", spec := "layoutDiffMatchesSpec", unfollowed := true, recurses := true, plainKeys := false, apart := false }
def LayoutDiffMatchesSpecSaid : Prop := layoutDiffMatchesSpecRow.holds Try.pinned (OpenSpec.ofChange layoutDiffMatchesSpecSpec)

/-- ITS FALSE NEIGHBOUR: 'it returns false'. Refute it at one input. -/
def layoutDiffMatchesSpecWrong : ChangeSpec := { name := "layoutDiffMatchesSpec", fn := fun _ => fun
  | [d1, d2] => { results := [.lit (.bool false)], args := [d1, d2] }
  | _ => none }
def LayoutDiffMatchesSpecWrongFalsely : Prop := layoutDiffMatchesSpecRow.holds Try.pinned (OpenSpec.ofChange layoutDiffMatchesSpecWrong)

/-- 'orangeboxlaw2.LayoutUsedMatchesSpec': WHATEVER THE INPUT: true; the input reads as it did. -/
def layoutUsedMatchesSpecSpec : ChangeSpec := { name := "layoutUsedMatchesSpec", fn := fun _ => fun
  | [d1, d2, d3] => { results := [.lit (.bool true)], args := [d1, d2, d3] }
  | _ => none }
def layoutUsedMatchesSpecRow : OpenClaim := { program := "ytncoekfjpkfcdaa", sum := "d0180bc53a0d1fe98331f97c234d2ba2ec1bfae1402a9b74a990b5531107910f", func := "orangebox/orangeboxlaw2.LayoutUsedMatchesSpec", spec := "layoutUsedMatchesSpec", unfollowed := true, recurses := true, plainKeys := false, apart := false }
def LayoutUsedMatchesSpecSaid : Prop := layoutUsedMatchesSpecRow.holds Try.pinned (OpenSpec.ofChange layoutUsedMatchesSpecSpec)

/-- ITS FALSE NEIGHBOUR: 'it returns false'. Refute it at one input. -/
def layoutUsedMatchesSpecWrong : ChangeSpec := { name := "layoutUsedMatchesSpec", fn := fun _ => fun
  | [d1, d2, d3] => { results := [.lit (.bool false)], args := [d1, d2, d3] }
  | _ => none }
def LayoutUsedMatchesSpecWrongFalsely : Prop := layoutUsedMatchesSpecRow.holds Try.pinned (OpenSpec.ofChange layoutUsedMatchesSpecWrong)

/-- 'orangeboxlaw2.LayoutCheckMatchesSpec': WHATEVER THE INPUT: true; the input reads as it did. -/
def layoutCheckMatchesSpecSpec : ChangeSpec := { name := "layoutCheckMatchesSpec", fn := fun _ => fun
  | [d] => { results := [.lit (.bool true)], args := [d] }
  | _ => none }
def layoutCheckMatchesSpecRow : OpenClaim := { program := "ytncoekfjpkfcdaa", sum := "d0180bc53a0d1fe98331f97c234d2ba2ec1bfae1402a9b74a990b5531107910f", func := "orangebox/orangeboxlaw2.LayoutCheckMatchesSpec", spec := "layoutCheckMatchesSpec", unfollowed := true, recurses := true, plainKeys := false, apart := false }
def LayoutCheckMatchesSpecSaid : Prop := layoutCheckMatchesSpecRow.holds Try.pinned (OpenSpec.ofChange layoutCheckMatchesSpecSpec)

/-- ITS FALSE NEIGHBOUR: 'it returns false'. Refute it at one input. -/
def layoutCheckMatchesSpecWrong : ChangeSpec := { name := "layoutCheckMatchesSpec", fn := fun _ => fun
  | [d] => { results := [.lit (.bool false)], args := [d] }
  | _ => none }
def LayoutCheckMatchesSpecWrongFalsely : Prop := layoutCheckMatchesSpecRow.holds Try.pinned (OpenSpec.ofChange layoutCheckMatchesSpecWrong)

/-- 'orangeboxlaw2.LayoutWithoutMatchesSpec': WHATEVER THE INPUT: true; the input reads as it did. -/
def layoutWithoutMatchesSpecSpec : ChangeSpec := { name := "layoutWithoutMatchesSpec", fn := fun _ => fun
  | [d1, d2] => { results := [.lit (.bool true)], args := [d1, d2] }
  | _ => none }
def layoutWithoutMatchesSpecRow : OpenClaim := { program := "ytncoekfjpkfcdaa", sum := "d0180bc53a0d1fe98331f97c234d2ba2ec1bfae1402a9b74a990b5531107910f", func := "orangebox/orangeboxlaw2.LayoutWithoutMatchesSpec", spec := "layoutWithoutMatchesSpec", unfollowed := true, recurses := true, plainKeys := false, apart := false }
def LayoutWithoutMatchesSpecSaid : Prop := layoutWithoutMatchesSpecRow.holds Try.pinned (OpenSpec.ofChange layoutWithoutMatchesSpecSpec)

/-- ITS FALSE NEIGHBOUR: 'it returns false'. Refute it at one input. -/
def layoutWithoutMatchesSpecWrong : ChangeSpec := { name := "layoutWithoutMatchesSpec", fn := fun _ => fun
  | [d1, d2] => { results := [.lit (.bool false)], args := [d1, d2] }
  | _ => none }
def LayoutWithoutMatchesSpecWrongFalsely : Prop := layoutWithoutMatchesSpecRow.holds Try.pinned (OpenSpec.ofChange layoutWithoutMatchesSpecWrong)

/-- 'orangeboxlaw2.LayoutFitMatchesSpec': WHATEVER THE INPUT: true; the input reads as it did. -/
def layoutFitMatchesSpecSpec : ChangeSpec := { name := "layoutFitMatchesSpec", fn := fun _ => fun
  | [d1, d2] => { results := [.lit (.bool true)], args := [d1, d2] }
  | _ => none }
def layoutFitMatchesSpecRow : OpenClaim := { program := "ytncoekfjpkfcdaa", sum := "d0180bc53a0d1fe98331f97c234d2ba2ec1bfae1402a9b74a990b5531107910f", func := "orangebox/orangeboxlaw2.LayoutFitMatchesSpec", spec := "layoutFitMatchesSpec", unfollowed := true, recurses := true, plainKeys := false, apart := false }
def LayoutFitMatchesSpecSaid : Prop := layoutFitMatchesSpecRow.holds Try.pinned (OpenSpec.ofChange layoutFitMatchesSpecSpec)

/-- ITS FALSE NEIGHBOUR: 'it returns false'. Refute it at one input. -/
def layoutFitMatchesSpecWrong : ChangeSpec := { name := "layoutFitMatchesSpec", fn := fun _ => fun
  | [d1, d2] => { results := [.lit (.bool false)], args := [d1, d2] }
  | _ => none }
def LayoutFitMatchesSpecWrongFalsely : Prop := layoutFitMatchesSpecRow.holds Try.pinned (OpenSpec.ofChange layoutFitMatchesSpecWrong)

/- THE SECOND FORM. 'bulk': how many values and letters a reading holds, each counted each time it is reached (what is shared counts as often as it is met; a slice's spare places count too). A statement '..UptoSaid' is the law's where the arguments, and the package variables that the reading takes, are together of bulk at most 1048576: NARROWER than '..Said'. Prove '..Said' where nothing that the law and all that it calls make is longer than what came in: it says more and counts as full. Else prove '..UptoSaid'. A law counts once. -/
mutual
def uptoBulk {H : Type} : DataW H → Nat
  | .lit (.string bytes) => bytes.length + 1
  | .lit _ => 1
  | .nil => 1
  | .ptr d => uptoBulk d + 1
  | .slice elems spare => uptoBulkAll elems + uptoBulkAll spare + 1
  | .agg parts => uptoBulkAll parts + 1
  | .iface _ d => uptoBulk d + 1
  | .map entries => uptoBulkEntries entries + 1
  | .held _ => 1
def uptoBulkAll {H : Type} : List (DataW H) → Nat
  | [] => 0
  | d :: r => uptoBulk d + uptoBulkAll r
def uptoBulkEntries {H : Type} : List (Lit × DataW H) → Nat
  | [] => 0
  | x :: r => uptoBulkEntry x + uptoBulkEntries r
def uptoBulkEntry {H : Type} : Lit × DataW H → Nat
  | (.string bytes, d) => bytes.length + uptoBulk d + 1
  | (_, d) => uptoBulk d + 1
 end
def uptoSmall : (H : Type) → List (DataW H) → Bool := fun _ ds => decide (uptoBulkAll ds ≤ 1048576)
def OpenSpec.upto (s : _root_.Go.ChangeSpec) : _root_.Go.OpenSpec := { _root_.Go.OpenSpec.ofChange s with cond := some uptoSmall }

/-- 'orangeboxlaw2.LayoutPackMatchesSpec', WHERE WHAT IT READS IS OF BULK AT MOST 1048576: true; the input reads as it did. -/
def layoutPackMatchesSpecUptoRow : OpenClaim := { program := "ytncoekfjpkfcdaa", sum := "d0180bc53a0d1fe98331f97c234d2ba2ec1bfae1402a9b74a990b5531107910f", func := "orangebox/orangeboxlaw2.LayoutPackMatchesSpec", spec := "layoutPackMatchesSpec", unfollowed := true, recurses := true, plainKeys := false, apart := false, narrowed := true }
def LayoutPackMatchesSpecUptoSaid : Prop := layoutPackMatchesSpecUptoRow.holds Try.pinned (OpenSpec.upto layoutPackMatchesSpecSpec)

/-- 'orangeboxlaw2.LayoutUnpackMatchesSpec', WHERE WHAT IT READS IS OF BULK AT MOST 1048576: true; the input reads as it did. -/
def layoutUnpackMatchesSpecUptoRow : OpenClaim := { program := "ytncoekfjpkfcdaa", sum := "d0180bc53a0d1fe98331f97c234d2ba2ec1bfae1402a9b74a990b5531107910f", func := "orangebox/orangeboxlaw2.LayoutUnpackMatchesSpec", spec := "layoutUnpackMatchesSpec", unfollowed := true, recurses := true, plainKeys := false, apart := false, narrowed := true }
def LayoutUnpackMatchesSpecUptoSaid : Prop := layoutUnpackMatchesSpecUptoRow.holds Try.pinned (OpenSpec.upto layoutUnpackMatchesSpecSpec)

/-- 'orangeboxlaw2.LayoutValuesRoundTrip', WHERE WHAT IT READS IS OF BULK AT MOST 1048576: true; the input reads as it did. -/
def layoutValuesRoundTripUptoRow : OpenClaim := { program := "ytncoekfjpkfcdaa", sum := "d0180bc53a0d1fe98331f97c234d2ba2ec1bfae1402a9b74a990b5531107910f", func := "orangebox/orangeboxlaw2.LayoutValuesRoundTrip", spec := "layoutValuesRoundTrip", unfollowed := true, recurses := true, plainKeys := false, apart := false, narrowed := true }
def LayoutValuesRoundTripUptoSaid : Prop := layoutValuesRoundTripUptoRow.holds Try.pinned (OpenSpec.upto layoutValuesRoundTripSpec)

/-- 'orangeboxlaw2.LayoutOtherBitsDoNotMatter', WHERE WHAT IT READS IS OF BULK AT MOST 1048576: true; the input reads as it did. -/
def layoutOtherBitsDoNotMatterUptoRow : OpenClaim := { program := "ytncoekfjpkfcdaa", sum := "d0180bc53a0d1fe98331f97c234d2ba2ec1bfae1402a9b74a990b5531107910f", func := "orangebox/orangeboxlaw2.LayoutOtherBitsDoNotMatter", spec := "layoutOtherBitsDoNotMatter", unfollowed := true, recurses := true, plainKeys := false, apart := false, narrowed := true }
def LayoutOtherBitsDoNotMatterUptoSaid : Prop := layoutOtherBitsDoNotMatterUptoRow.holds Try.pinned (OpenSpec.upto layoutOtherBitsDoNotMatterSpec)

/-- 'orangeboxlaw2.LayoutParamMatchesSpec', WHERE WHAT IT READS IS OF BULK AT MOST 1048576: true; the input reads as it did. -/
def layoutParamMatchesSpecUptoRow : OpenClaim := { program := "ytncoekfjpkfcdaa", sum := "d0180bc53a0d1fe98331f97c234d2ba2ec1bfae1402a9b74a990b5531107910f", func := "orangebox/orangeboxlaw2.LayoutParamMatchesSpec", spec := "layoutParamMatchesSpec", unfollowed := true, recurses := true, plainKeys := false, apart := false, narrowed := true }
def LayoutParamMatchesSpecUptoSaid : Prop := layoutParamMatchesSpecUptoRow.holds Try.pinned (OpenSpec.upto layoutParamMatchesSpecSpec)

/-- 'orangeboxlaw2.LayoutOwnerMatchesSpec', WHERE WHAT IT READS IS OF BULK AT MOST 1048576: true; the input reads as it did. -/
def layoutOwnerMatchesSpecUptoRow : OpenClaim := { program := "ytncoekfjpkfcdaa", sum := "d0180bc53a0d1fe98331f97c234d2ba2ec1bfae1402a9b74a990b5531107910f", func := "orangebox/orangeboxlaw2.LayoutOwnerMatchesSpec", spec := "layoutOwnerMatchesSpec", unfollowed := true, recurses := true, plainKeys := false, apart := false, narrowed := true }
def LayoutOwnerMatchesSpecUptoSaid : Prop := layoutOwnerMatchesSpecUptoRow.holds Try.pinned (OpenSpec.upto layoutOwnerMatchesSpecSpec)

/-- 'orangeboxlaw2.LayoutDiffMatchesSpec', WHERE WHAT IT READS IS OF BULK AT MOST 1048576: true; the input reads as it did. -/
def layoutDiffMatchesSpecUptoRow : OpenClaim := { program := "ytncoekfjpkfcdaa", sum := "d0180bc53a0d1fe98331f97c234d2ba2ec1bfae1402a9b74a990b5531107910f", func := "orangebox/orangeboxlaw2.LayoutDiffMatchesSpec", spec := "layoutDiffMatchesSpec", unfollowed := true, recurses := true, plainKeys := false, apart := false, narrowed := true }
def LayoutDiffMatchesSpecUptoSaid : Prop := layoutDiffMatchesSpecUptoRow.holds Try.pinned (OpenSpec.upto layoutDiffMatchesSpecSpec)

/-- 'orangeboxlaw2.LayoutUsedMatchesSpec', WHERE WHAT IT READS IS OF BULK AT MOST 1048576: true; the input reads as it did. -/
def layoutUsedMatchesSpecUptoRow : OpenClaim := { program := "ytncoekfjpkfcdaa", sum := "d0180bc53a0d1fe98331f97c234d2ba2ec1bfae1402a9b74a990b5531107910f", func := "orangebox/orangeboxlaw2.LayoutUsedMatchesSpec", spec := "layoutUsedMatchesSpec", unfollowed := true, recurses := true, plainKeys := false, apart := false, narrowed := true }
def LayoutUsedMatchesSpecUptoSaid : Prop := layoutUsedMatchesSpecUptoRow.holds Try.pinned (OpenSpec.upto layoutUsedMatchesSpecSpec)

/-- 'orangeboxlaw2.LayoutCheckMatchesSpec', WHERE WHAT IT READS IS OF BULK AT MOST 1048576: true; the input reads as it did. -/
def layoutCheckMatchesSpecUptoRow : OpenClaim := { program := "ytncoekfjpkfcdaa", sum := "d0180bc53a0d1fe98331f97c234d2ba2ec1bfae1402a9b74a990b5531107910f", func := "orangebox/orangeboxlaw2.LayoutCheckMatchesSpec", spec := "layoutCheckMatchesSpec", unfollowed := true, recurses := true, plainKeys := false, apart := false, narrowed := true }
def LayoutCheckMatchesSpecUptoSaid : Prop := layoutCheckMatchesSpecUptoRow.holds Try.pinned (OpenSpec.upto layoutCheckMatchesSpecSpec)

/-- 'orangeboxlaw2.LayoutWithoutMatchesSpec', WHERE WHAT IT READS IS OF BULK AT MOST 1048576: true; the input reads as it did. -/
def layoutWithoutMatchesSpecUptoRow : OpenClaim := { program := "ytncoekfjpkfcdaa", sum := "d0180bc53a0d1fe98331f97c234d2ba2ec1bfae1402a9b74a990b5531107910f", func := "orangebox/orangeboxlaw2.LayoutWithoutMatchesSpec", spec := "layoutWithoutMatchesSpec", unfollowed := true, recurses := true, plainKeys := false, apart := false, narrowed := true }
def LayoutWithoutMatchesSpecUptoSaid : Prop := layoutWithoutMatchesSpecUptoRow.holds Try.pinned (OpenSpec.upto layoutWithoutMatchesSpecSpec)

/-- 'orangeboxlaw2.LayoutFitMatchesSpec', WHERE WHAT IT READS IS OF BULK AT MOST 1048576: true; the input reads as it did. -/
def layoutFitMatchesSpecUptoRow : OpenClaim := { program := "ytncoekfjpkfcdaa", sum := "d0180bc53a0d1fe98331f97c234d2ba2ec1bfae1402a9b74a990b5531107910f", func := "orangebox/orangeboxlaw2.LayoutFitMatchesSpec", spec := "layoutFitMatchesSpec", unfollowed := true, recurses := true, plainKeys := false, apart := false, narrowed := true }
def LayoutFitMatchesSpecUptoSaid : Prop := layoutFitMatchesSpecUptoRow.holds Try.pinned (OpenSpec.upto layoutFitMatchesSpecSpec)

end Rows
end Go.Proofs.Ytncoekfjpkfcdaa

/-
  No cell of these rows narrows 'for every input' (looked for: loops, veiled, ifaces, maps, wideKeys, modest, calm, conditions, laid).
  DERIVED. THE GIVEN ROWS OF THIS SEAT. 8 by the template 'for every input the law returns true; each argument reads behind the call as it read before'; 0 by the template 'total and deterministic' (their statements: YtoidllhkhljlaaaTotals.lean).
  GIVEN WITH THE SEED: the statements are not yours to turn. If you find one false, say at which input.
  Laid BY PROGRAM, IN A SANDBOX (cutbox-rows.mjs): the forced cells as the released guide's own fill.sh prints them over the translation e0fa2225288367c4… (all of the seat's roots in one cut). By AI agents, Wed Nov 11 2026. No macro, syntax, notation, axiom, sorry.
-/
import Derived.Test.YtoidllhkhljlaaaChecked
import GoSem.Claim
import GoSem.ClaimJoined
import GoSem.ClaimMapViews
import Derived.JoinedTies
import Derived.KernelRfl
namespace Go.Proofs.Ytoidllhkhljlaaa
/- THE CELL 'sum', in the pinned program and in every row, IS THE sha256 OF THE DUMP (.gsa) THAT YtoidllhkhljlaaaProg.lean LOADS. Nothing in Lean hashes anything: it is a label: what it is worth is what the hold of that sum in a sandbox is worth. -/
noncomputable def Try.pinned : Pinned := { name := "ytoidllhkhljlaaa", sum := "e0fa2225288367c4c436d101299da09d807fb95019d1593e7a68e39cee7b474b", checked := Try.checked }
namespace Rows
def none {H : Type} : Left H := { results := [], args := [] }

/-- 'gaugelaw2.WholeRests': WHATEVER THE INPUT: true; the input reads as it did. -/
def wholeRestsSpec : ChangeSpec := { name := "wholeRests", fn := fun _ => fun
  | [d] => { results := [.lit (.bool true)], args := [d] }
  | _ => none }
def wholeRestsRow : OpenClaim := { program := "ytoidllhkhljlaaa", sum := "e0fa2225288367c4c436d101299da09d807fb95019d1593e7a68e39cee7b474b", func := "gauge/gaugelaw2.WholeRests", spec := "wholeRests", inPlace := ["math/bits.Add64", "math/bits.Sub64"], unfollowed := true, recurses := true, named := ["math/bits.divideError", "math/bits.overflowError"], apart := false }
def WholeRestsSaid : Prop := wholeRestsRow.holds Try.pinned (OpenSpec.ofChange wholeRestsSpec)

/-- ITS FALSE NEIGHBOUR: 'it returns false'. Refute it at one input. -/
def wholeRestsWrong : ChangeSpec := { name := "wholeRests", fn := fun _ => fun
  | [d] => { results := [.lit (.bool false)], args := [d] }
  | _ => none }
def WholeRestsWrongFalsely : Prop := wholeRestsRow.holds Try.pinned (OpenSpec.ofChange wholeRestsWrong)

/-- 'gaugelaw2.WholeBezout': WHATEVER THE INPUT: true; the input reads as it did. -/
def wholeBezoutSpec : ChangeSpec := { name := "wholeBezout", fn := fun _ => fun
  | [d] => { results := [.lit (.bool true)], args := [d] }
  | _ => none }
def wholeBezoutRow : OpenClaim := { program := "ytoidllhkhljlaaa", sum := "e0fa2225288367c4c436d101299da09d807fb95019d1593e7a68e39cee7b474b", func := "gauge/gaugelaw2.WholeBezout", spec := "wholeBezout", inPlace := ["math/bits.Add64", "math/bits.Sub64"], named := ["math/bits.divideError", "math/bits.overflowError"], apart := false }
def WholeBezoutSaid : Prop := wholeBezoutRow.holds Try.pinned (OpenSpec.ofChange wholeBezoutSpec)

/-- ITS FALSE NEIGHBOUR: 'it returns false'. Refute it at one input. -/
def wholeBezoutWrong : ChangeSpec := { name := "wholeBezout", fn := fun _ => fun
  | [d] => { results := [.lit (.bool false)], args := [d] }
  | _ => none }
def WholeBezoutWrongFalsely : Prop := wholeBezoutRow.holds Try.pinned (OpenSpec.ofChange wholeBezoutWrong)

/-- 'gaugelaw2.WholeDivides': WHATEVER THE INPUT: true; the input reads as it did. -/
def wholeDividesSpec : ChangeSpec := { name := "wholeDivides", fn := fun _ => fun
  | [d] => { results := [.lit (.bool true)], args := [d] }
  | _ => none }
def wholeDividesRow : OpenClaim := { program := "ytoidllhkhljlaaa", sum := "e0fa2225288367c4c436d101299da09d807fb95019d1593e7a68e39cee7b474b", func := "gauge/gaugelaw2.WholeDivides", spec := "wholeDivides", inPlace := ["math/bits.Add64", "math/bits.Sub64"], unfollowed := true, recurses := true, named := ["math/bits.divideError", "math/bits.overflowError"], apart := false }
def WholeDividesSaid : Prop := wholeDividesRow.holds Try.pinned (OpenSpec.ofChange wholeDividesSpec)

/-- ITS FALSE NEIGHBOUR: 'it returns false'. Refute it at one input. -/
def wholeDividesWrong : ChangeSpec := { name := "wholeDivides", fn := fun _ => fun
  | [d] => { results := [.lit (.bool false)], args := [d] }
  | _ => none }
def WholeDividesWrongFalsely : Prop := wholeDividesRow.holds Try.pinned (OpenSpec.ofChange wholeDividesWrong)

/-- 'gaugelaw2.WholeSmall': WHATEVER THE INPUT: true; the input reads as it did. -/
def wholeSmallSpec : ChangeSpec := { name := "wholeSmall", fn := fun _ => fun
  | [d] => { results := [.lit (.bool true)], args := [d] }
  | _ => none }
def wholeSmallRow : OpenClaim := { program := "ytoidllhkhljlaaa", sum := "e0fa2225288367c4c436d101299da09d807fb95019d1593e7a68e39cee7b474b", func := "gauge/gaugelaw2.WholeSmall", spec := "wholeSmall", inPlace := ["math/bits.Add64", "math/bits.Sub64"], unfollowed := true, recurses := true, named := ["math/bits.divideError", "math/bits.overflowError"], apart := false }
def WholeSmallSaid : Prop := wholeSmallRow.holds Try.pinned (OpenSpec.ofChange wholeSmallSpec)

/-- ITS FALSE NEIGHBOUR: 'it returns false'. Refute it at one input. -/
def wholeSmallWrong : ChangeSpec := { name := "wholeSmall", fn := fun _ => fun
  | [d] => { results := [.lit (.bool false)], args := [d] }
  | _ => none }
def WholeSmallWrongFalsely : Prop := wholeSmallRow.holds Try.pinned (OpenSpec.ofChange wholeSmallWrong)

/-- 'gaugelaw2.WholeExact': WHATEVER THE INPUT: true; the input reads as it did. -/
def wholeExactSpec : ChangeSpec := { name := "wholeExact", fn := fun _ => fun
  | [d] => { results := [.lit (.bool true)], args := [d] }
  | _ => none }
def wholeExactRow : OpenClaim := { program := "ytoidllhkhljlaaa", sum := "e0fa2225288367c4c436d101299da09d807fb95019d1593e7a68e39cee7b474b", func := "gauge/gaugelaw2.WholeExact", spec := "wholeExact", inPlace := ["math/bits.Add64", "math/bits.Sub64"], unfollowed := true, recurses := true, named := ["math/bits.divideError", "math/bits.overflowError"], apart := false }
def WholeExactSaid : Prop := wholeExactRow.holds Try.pinned (OpenSpec.ofChange wholeExactSpec)

/-- ITS FALSE NEIGHBOUR: 'it returns false'. Refute it at one input. -/
def wholeExactWrong : ChangeSpec := { name := "wholeExact", fn := fun _ => fun
  | [d] => { results := [.lit (.bool false)], args := [d] }
  | _ => none }
def WholeExactWrongFalsely : Prop := wholeExactRow.holds Try.pinned (OpenSpec.ofChange wholeExactWrong)

/-- 'gaugelaw3.RatioField': WHATEVER THE INPUT: true; the input reads as it did. -/
def ratioFieldSpec : ChangeSpec := { name := "ratioField", fn := fun _ => fun
  | [d] => { results := [.lit (.bool true)], args := [d] }
  | _ => none }
def ratioFieldRow : OpenClaim := { program := "ytoidllhkhljlaaa", sum := "e0fa2225288367c4c436d101299da09d807fb95019d1593e7a68e39cee7b474b", func := "gauge/gaugelaw3.RatioField", spec := "ratioField", inPlace := ["math/bits.Add64", "math/bits.Sub64"], unfollowed := true, recurses := true, named := ["math/bits.divideError", "math/bits.overflowError"], apart := false }
def RatioFieldSaid : Prop := ratioFieldRow.holds Try.pinned (OpenSpec.ofChange ratioFieldSpec)

/-- ITS FALSE NEIGHBOUR: 'it returns false'. Refute it at one input. -/
def ratioFieldWrong : ChangeSpec := { name := "ratioField", fn := fun _ => fun
  | [d] => { results := [.lit (.bool false)], args := [d] }
  | _ => none }
def RatioFieldWrongFalsely : Prop := ratioFieldRow.holds Try.pinned (OpenSpec.ofChange ratioFieldWrong)

/-- 'gaugelaw3.RatioMakes': WHATEVER THE INPUT: true; the input reads as it did. -/
def ratioMakesSpec : ChangeSpec := { name := "ratioMakes", fn := fun _ => fun
  | [d] => { results := [.lit (.bool true)], args := [d] }
  | _ => none }
def ratioMakesRow : OpenClaim := { program := "ytoidllhkhljlaaa", sum := "e0fa2225288367c4c436d101299da09d807fb95019d1593e7a68e39cee7b474b", func := "gauge/gaugelaw3.RatioMakes", spec := "ratioMakes", inPlace := ["math/bits.Add64", "math/bits.Sub64"], unfollowed := true, recurses := true, named := ["math/bits.divideError", "math/bits.overflowError"], apart := false }
def RatioMakesSaid : Prop := ratioMakesRow.holds Try.pinned (OpenSpec.ofChange ratioMakesSpec)

/-- ITS FALSE NEIGHBOUR: 'it returns false'. Refute it at one input. -/
def ratioMakesWrong : ChangeSpec := { name := "ratioMakes", fn := fun _ => fun
  | [d] => { results := [.lit (.bool false)], args := [d] }
  | _ => none }
def RatioMakesWrongFalsely : Prop := ratioMakesRow.holds Try.pinned (OpenSpec.ofChange ratioMakesWrong)

/-- 'gaugelaw3.RatioInverse': WHATEVER THE INPUT: true; the input reads as it did. -/
def ratioInverseSpec : ChangeSpec := { name := "ratioInverse", fn := fun _ => fun
  | [d] => { results := [.lit (.bool true)], args := [d] }
  | _ => none }
def ratioInverseRow : OpenClaim := { program := "ytoidllhkhljlaaa", sum := "e0fa2225288367c4c436d101299da09d807fb95019d1593e7a68e39cee7b474b", func := "gauge/gaugelaw3.RatioInverse", spec := "ratioInverse", inPlace := ["math/bits.Add64", "math/bits.Sub64"], unfollowed := true, recurses := true, named := ["math/bits.divideError", "math/bits.overflowError"], apart := false }
def RatioInverseSaid : Prop := ratioInverseRow.holds Try.pinned (OpenSpec.ofChange ratioInverseSpec)

/-- ITS FALSE NEIGHBOUR: 'it returns false'. Refute it at one input. -/
def ratioInverseWrong : ChangeSpec := { name := "ratioInverse", fn := fun _ => fun
  | [d] => { results := [.lit (.bool false)], args := [d] }
  | _ => none }
def RatioInverseWrongFalsely : Prop := ratioInverseRow.holds Try.pinned (OpenSpec.ofChange ratioInverseWrong)

/- THE SECOND FORM. 'bulk': how many values and letters a reading holds, each counted each time it is reached (what is shared counts as often as it is met; a slice's spare places count too). A statement '..UptoSaid' is the law's where the arguments, and the package variables that the reading takes, are together of bulk at most 1048576: NARROWER than '..Said'. Prove '..Said' where nothing that the law and all that it calls make is longer than what came in: it says more and counts as full. Else prove '..UptoSaid'. A law counts once. -/
mutual
def uptoBulk {H : Type} : DataW H → Nat
  | .lit (.string bytes) => bytes.length + 1
  | .lit _ => 1
  | .nil => 1
  | .ptr d => uptoBulk d + 1
  | .slice elems spare => uptoBulkAll elems + uptoBulkAll spare + 1
  | .agg parts => uptoBulkAll parts + 1
  | .iface _ d => uptoBulk d + 1
  | .map entries => uptoBulkEntries entries + 1
  | .held _ => 1
def uptoBulkAll {H : Type} : List (DataW H) → Nat
  | [] => 0
  | d :: r => uptoBulk d + uptoBulkAll r
def uptoBulkEntries {H : Type} : List (Lit × DataW H) → Nat
  | [] => 0
  | x :: r => uptoBulkEntry x + uptoBulkEntries r
def uptoBulkEntry {H : Type} : Lit × DataW H → Nat
  | (.string bytes, d) => bytes.length + uptoBulk d + 1
  | (_, d) => uptoBulk d + 1
 end
def uptoSmall : (H : Type) → List (DataW H) → Bool := fun _ ds => decide (uptoBulkAll ds ≤ 1048576)
def OpenSpec.upto (s : _root_.Go.ChangeSpec) : _root_.Go.OpenSpec := { _root_.Go.OpenSpec.ofChange s with cond := some uptoSmall }

/-- 'gaugelaw2.WholeRests', WHERE WHAT IT READS IS OF BULK AT MOST 1048576: true; the input reads as it did. -/
def wholeRestsUptoRow : OpenClaim := { program := "ytoidllhkhljlaaa", sum := "e0fa2225288367c4c436d101299da09d807fb95019d1593e7a68e39cee7b474b", func := "gauge/gaugelaw2.WholeRests", spec := "wholeRests", inPlace := ["math/bits.Add64", "math/bits.Sub64"], unfollowed := true, recurses := true, named := ["math/bits.divideError", "math/bits.overflowError"], apart := false, narrowed := true }
def WholeRestsUptoSaid : Prop := wholeRestsUptoRow.holds Try.pinned (OpenSpec.upto wholeRestsSpec)

/-- 'gaugelaw2.WholeBezout', WHERE WHAT IT READS IS OF BULK AT MOST 1048576: true; the input reads as it did. -/
def wholeBezoutUptoRow : OpenClaim := { program := "ytoidllhkhljlaaa", sum := "e0fa2225288367c4c436d101299da09d807fb95019d1593e7a68e39cee7b474b", func := "gauge/gaugelaw2.WholeBezout", spec := "wholeBezout", inPlace := ["math/bits.Add64", "math/bits.Sub64"], named := ["math/bits.divideError", "math/bits.overflowError"], apart := false, narrowed := true }
def WholeBezoutUptoSaid : Prop := wholeBezoutUptoRow.holds Try.pinned (OpenSpec.upto wholeBezoutSpec)

/-- 'gaugelaw2.WholeDivides', WHERE WHAT IT READS IS OF BULK AT MOST 1048576: true; the input reads as it did. -/
def wholeDividesUptoRow : OpenClaim := { program := "ytoidllhkhljlaaa", sum := "e0fa2225288367c4c436d101299da09d807fb95019d1593e7a68e39cee7b474b", func := "gauge/gaugelaw2.WholeDivides", spec := "wholeDivides", inPlace := ["math/bits.Add64", "math/bits.Sub64"], unfollowed := true, recurses := true, named := ["math/bits.divideError", "math/bits.overflowError"], apart := false, narrowed := true }
def WholeDividesUptoSaid : Prop := wholeDividesUptoRow.holds Try.pinned (OpenSpec.upto wholeDividesSpec)

/-- 'gaugelaw2.WholeSmall', WHERE WHAT IT READS IS OF BULK AT MOST 1048576: true; the input reads as it did. -/
def wholeSmallUptoRow : OpenClaim := { program := "ytoidllhkhljlaaa", sum := "e0fa2225288367c4c436d101299da09d807fb95019d1593e7a68e39cee7b474b", func := "gauge/gaugelaw2.WholeSmall", spec := "wholeSmall", inPlace := ["math/bits.Add64", "math/bits.Sub64"], unfollowed := true, recurses := true, named := ["math/bits.divideError", "math/bits.overflowError"], apart := false, narrowed := true }
def WholeSmallUptoSaid : Prop := wholeSmallUptoRow.holds Try.pinned (OpenSpec.upto wholeSmallSpec)

/-- 'gaugelaw2.WholeExact', WHERE WHAT IT READS IS OF BULK AT MOST 1048576: true; the input reads as it did. -/
def wholeExactUptoRow : OpenClaim := { program := "ytoidllhkhljlaaa", sum := "e0fa2225288367c4c436d101299da09d807fb95019d1593e7a68e39cee7b474b", func := "gauge/gaugelaw2.WholeExact", spec := "wholeExact", inPlace := ["math/bits.Add64", "math/bits.Sub64"], unfollowed := true, recurses := true, named := ["math/bits.divideError", "math/bits.overflowError"], apart := false, narrowed := true }
def WholeExactUptoSaid : Prop := wholeExactUptoRow.holds Try.pinned (OpenSpec.upto wholeExactSpec)

/-- 'gaugelaw3.RatioField', WHERE WHAT IT READS IS OF BULK AT MOST 1048576: true; the input reads as it did. -/
def ratioFieldUptoRow : OpenClaim := { program := "ytoidllhkhljlaaa", sum := "e0fa2225288367c4c436d101299da09d807fb95019d1593e7a68e39cee7b474b", func := "gauge/gaugelaw3.RatioField", spec := "ratioField", inPlace := ["math/bits.Add64", "math/bits.Sub64"], unfollowed := true, recurses := true, named := ["math/bits.divideError", "math/bits.overflowError"], apart := false, narrowed := true }
def RatioFieldUptoSaid : Prop := ratioFieldUptoRow.holds Try.pinned (OpenSpec.upto ratioFieldSpec)

/-- 'gaugelaw3.RatioMakes', WHERE WHAT IT READS IS OF BULK AT MOST 1048576: true; the input reads as it did. -/
def ratioMakesUptoRow : OpenClaim := { program := "ytoidllhkhljlaaa", sum := "e0fa2225288367c4c436d101299da09d807fb95019d1593e7a68e39cee7b474b", func := "gauge/gaugelaw3.RatioMakes", spec := "ratioMakes", inPlace := ["math/bits.Add64", "math/bits.Sub64"], unfollowed := true, recurses := true, named := ["math/bits.divideError", "math/bits.overflowError"], apart := false, narrowed := true }
def RatioMakesUptoSaid : Prop := ratioMakesUptoRow.holds Try.pinned (OpenSpec.upto ratioMakesSpec)

/-- 'gaugelaw3.RatioInverse', WHERE WHAT IT READS IS OF BULK AT MOST 1048576: true; the input reads as it did. -/
def ratioInverseUptoRow : OpenClaim := { program := "ytoidllhkhljlaaa", sum := "e0fa2225288367c4c436d101299da09d807fb95019d1593e7a68e39cee7b474b", func := "gauge/gaugelaw3.RatioInverse", spec := "ratioInverse", inPlace := ["math/bits.Add64", "math/bits.Sub64"], unfollowed := true, recurses := true, named := ["math/bits.divideError", "math/bits.overflowError"], apart := false, narrowed := true }
def RatioInverseUptoSaid : Prop := ratioInverseUptoRow.holds Try.pinned (OpenSpec.upto ratioInverseSpec)

end Rows
end Go.Proofs.Ytoidllhkhljlaaa

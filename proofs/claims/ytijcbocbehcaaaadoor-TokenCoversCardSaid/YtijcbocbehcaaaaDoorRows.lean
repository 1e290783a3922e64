/-
  NARROWER THAN 'FOR EVERY INPUT', by the rows' own cells (each row's printed sentence says how): TokenCovers: laid · TokenExact: laid · TokenJoined: laid · TokenSpaced: laid · NatParse: laid · NatTexts: laid.
  DERIVED. THE GIVEN ROWS OF THIS SEAT. 6 by the template 'for every input the law returns true; each argument reads behind the call as it read before'; 0 by the template 'total and deterministic' (their statements: YtijcbocbehcaaaaDoorTotals.lean).
  GIVEN WITH THE SEED: the statements are not yours to turn. If you find one false, say at which input.
  Laid BY PROGRAM, IN A SANDBOX (cutbox-rows.mjs): the forced cells as the released guide's own fill.sh prints them over the translation f348cfba12699b3b… (all of the seat's roots in one cut). By AI agents, Wed Nov 11 2026. No macro, syntax, notation, axiom, sorry.
-/
import Derived.Test.YtijcbocbehcaaaaDoorChecked
import GoSem.PinnedTables
import GoSem.Claim
import GoSem.ClaimJoined
import GoSem.ClaimMapViews
import Derived.JoinedTies
import Derived.KernelRfl
namespace Go.Proofs.YtijcbocbehcaaaaDoor
/- THE CELL 'sum', in the pinned program and in every row, IS THE sha256 OF THE DUMP (.gsa) THAT YtijcbocbehcaaaaDoorProg.lean LOADS. Nothing in Lean hashes anything: it is a label: what it is worth is what the hold of that sum in a sandbox is worth. -/
noncomputable def Tryd.pinned : Pinned := { name := "ytijcbocbehcaaaadoor", sum := "f348cfba12699b3bf10c862e85d785988b2cf7a8d56ef0a463e3778e08345bce", checked := Tryd.checked }
namespace Rows
def none {H : Type} : Left H := { results := [], args := [] }

/- WHAT THE LISTED PACKAGE-LEVEL VARIABLES READ AS WHEN THE CALL BEGINS. Each datum BY PROGRAM (the guide's laid-datum.mjs) off the statement by which the dump's own 'gosem.cut.vars' lays the variable. In a bare row this is a premise. The card (YtijcbocbehcaaaaDoorCards.lean) ties it to the program's text. -/
def laid_gauge_token_spans {H : Type} : DataW H := .agg [.agg [.lit (.int .u8 97), .lit (.int .u8 122), .lit (.int .i64 2)], .agg [.lit (.int .u8 65), .lit (.int .u8 90), .lit (.int .i64 3)], .agg [.lit (.int .u8 48), .lit (.int .u8 57), .lit (.int .i64 5)], .agg [.lit (.int .u8 95), .lit (.int .u8 95), .lit (.int .i64 4)], .agg [.lit (.int .u8 32), .lit (.int .u8 32), .lit (.int .i64 1)], .agg [.lit (.int .u8 9), .lit (.int .u8 9), .lit (.int .i64 1)], .agg [.lit (.int .u8 10), .lit (.int .u8 10), .lit (.int .i64 1)], .agg [.lit (.int .u8 13), .lit (.int .u8 13), .lit (.int .i64 1)]]
def laid_unicode_utf8_acceptRanges {H : Type} : DataW H := .agg [.agg [.lit (.int .u8 128), .lit (.int .u8 191)], .agg [.lit (.int .u8 160), .lit (.int .u8 191)], .agg [.lit (.int .u8 128), .lit (.int .u8 159)], .agg [.lit (.int .u8 144), .lit (.int .u8 191)], .agg [.lit (.int .u8 128), .lit (.int .u8 143)], .agg [.lit (.int .u8 0), .lit (.int .u8 0)], .agg [.lit (.int .u8 0), .lit (.int .u8 0)], .agg [.lit (.int .u8 0), .lit (.int .u8 0)], .agg [.lit (.int .u8 0), .lit (.int .u8 0)], .agg [.lit (.int .u8 0), .lit (.int .u8 0)], .agg [.lit (.int .u8 0), .lit (.int .u8 0)], .agg [.lit (.int .u8 0), .lit (.int .u8 0)], .agg [.lit (.int .u8 0), .lit (.int .u8 0)], .agg [.lit (.int .u8 0), .lit (.int .u8 0)], .agg [.lit (.int .u8 0), .lit (.int .u8 0)], .agg [.lit (.int .u8 0), .lit (.int .u8 0)]]
/-- One of Go's own tables, pinned by name: the form's constant. -/
def laid_unicode_utf8_first : DataW Unit := Go.Pinned.utf8First

/-- 'gaugelaw8.TokenCovers': WHATEVER THE INPUT: true; the input reads as it did. -/
def tokenCoversSpec : ChangeSpec := { name := "tokenCovers", fn := fun _ => fun
  | [d] => { results := [.lit (.bool true)], args := [d] }
  | _ => none }
def tokenCoversRow : OpenClaim := { program := "ytijcbocbehcaaaadoor", sum := "f348cfba12699b3bf10c862e85d785988b2cf7a8d56ef0a463e3778e08345bce", func := "gauge/gaugelaw8.TokenCovers", spec := "tokenCovers", inPlace := ["internal/bytealg.IndexByteString"], named := ["gauge/token.spans"], apart := false, laid := [("gauge/token.spans", laid_gauge_token_spans)] }
def TokenCoversSaid : Prop := tokenCoversRow.holds Tryd.pinned (OpenSpec.ofChange tokenCoversSpec)

/-- ITS FALSE NEIGHBOUR: 'it returns false'. Refute it at one input. -/
def tokenCoversWrong : ChangeSpec := { name := "tokenCovers", fn := fun _ => fun
  | [d] => { results := [.lit (.bool false)], args := [d] }
  | _ => none }
def TokenCoversWrongFalsely : Prop := tokenCoversRow.holds Tryd.pinned (OpenSpec.ofChange tokenCoversWrong)

/-- 'gaugelaw8.TokenExact': WHATEVER THE INPUT: true; the input reads as it did. -/
def tokenExactSpec : ChangeSpec := { name := "tokenExact", fn := fun _ => fun
  | [d] => { results := [.lit (.bool true)], args := [d] }
  | _ => none }
def tokenExactRow : OpenClaim := { program := "ytijcbocbehcaaaadoor", sum := "f348cfba12699b3bf10c862e85d785988b2cf7a8d56ef0a463e3778e08345bce", func := "gauge/gaugelaw8.TokenExact", spec := "tokenExact", inPlace := ["internal/bytealg.IndexByteString"], named := ["gauge/token.spans"], apart := false, laid := [("gauge/token.spans", laid_gauge_token_spans)] }
def TokenExactSaid : Prop := tokenExactRow.holds Tryd.pinned (OpenSpec.ofChange tokenExactSpec)

/-- ITS FALSE NEIGHBOUR: 'it returns false'. Refute it at one input. -/
def tokenExactWrong : ChangeSpec := { name := "tokenExact", fn := fun _ => fun
  | [d] => { results := [.lit (.bool false)], args := [d] }
  | _ => none }
def TokenExactWrongFalsely : Prop := tokenExactRow.holds Tryd.pinned (OpenSpec.ofChange tokenExactWrong)

/-- 'gaugelaw8.TokenJoined': WHATEVER THE INPUT: true; the input reads as it did. -/
def tokenJoinedSpec : ChangeSpec := { name := "tokenJoined", fn := fun _ => fun
  | [d] => { results := [.lit (.bool true)], args := [d] }
  | _ => none }
def tokenJoinedRow : OpenClaim := { program := "ytijcbocbehcaaaadoor", sum := "f348cfba12699b3bf10c862e85d785988b2cf7a8d56ef0a463e3778e08345bce", func := "gauge/gaugelaw8.TokenJoined", spec := "tokenJoined", inPlace := ["internal/bytealg.IndexByteString"], named := ["gauge/token.spans"], apart := false, laid := [("gauge/token.spans", laid_gauge_token_spans)] }
def TokenJoinedSaid : Prop := tokenJoinedRow.holds Tryd.pinned (OpenSpec.ofChange tokenJoinedSpec)

/-- ITS FALSE NEIGHBOUR: 'it returns false'. Refute it at one input. -/
def tokenJoinedWrong : ChangeSpec := { name := "tokenJoined", fn := fun _ => fun
  | [d] => { results := [.lit (.bool false)], args := [d] }
  | _ => none }
def TokenJoinedWrongFalsely : Prop := tokenJoinedRow.holds Tryd.pinned (OpenSpec.ofChange tokenJoinedWrong)

/-- 'gaugelaw8.TokenSpaced': WHATEVER THE INPUT: true; the input reads as it did. -/
def tokenSpacedSpec : ChangeSpec := { name := "tokenSpaced", fn := fun _ => fun
  | [d] => { results := [.lit (.bool true)], args := [d] }
  | _ => none }
def tokenSpacedRow : OpenClaim := { program := "ytijcbocbehcaaaadoor", sum := "f348cfba12699b3bf10c862e85d785988b2cf7a8d56ef0a463e3778e08345bce", func := "gauge/gaugelaw8.TokenSpaced", spec := "tokenSpaced", inPlace := ["internal/bytealg.IndexByteString"], named := ["gauge/token.spans"], apart := false, laid := [("gauge/token.spans", laid_gauge_token_spans)] }
def TokenSpacedSaid : Prop := tokenSpacedRow.holds Tryd.pinned (OpenSpec.ofChange tokenSpacedSpec)

/-- ITS FALSE NEIGHBOUR: 'it returns false'. Refute it at one input. -/
def tokenSpacedWrong : ChangeSpec := { name := "tokenSpaced", fn := fun _ => fun
  | [d] => { results := [.lit (.bool false)], args := [d] }
  | _ => none }
def TokenSpacedWrongFalsely : Prop := tokenSpacedRow.holds Tryd.pinned (OpenSpec.ofChange tokenSpacedWrong)

/-- 'gaugelaw1.NatParse': WHATEVER THE INPUT: true; the input reads as it did. -/
def natParseSpec : ChangeSpec := { name := "natParse", fn := fun _ => fun
  | [d] => { results := [.lit (.bool true)], args := [d] }
  | _ => none }
def natParseRow : OpenClaim := { program := "ytijcbocbehcaaaadoor", sum := "f348cfba12699b3bf10c862e85d785988b2cf7a8d56ef0a463e3778e08345bce", func := "gauge/gaugelaw1.NatParse", spec := "natParse", inPlace := ["internal/bytealg.IndexByteString", "internal/bytealg.IndexString", "math/bits.Add64"], named := ["unicode/utf8.first", "unicode/utf8.acceptRanges", "internal/bytealg.MaxLen"], apart := false, laid := [("unicode/utf8.acceptRanges", laid_unicode_utf8_acceptRanges), ("unicode/utf8.first", laid_unicode_utf8_first)] }
def NatParseSaid : Prop := natParseRow.holds Tryd.pinned (OpenSpec.ofChange natParseSpec)

/-- ITS FALSE NEIGHBOUR: 'it returns false'. Refute it at one input. -/
def natParseWrong : ChangeSpec := { name := "natParse", fn := fun _ => fun
  | [d] => { results := [.lit (.bool false)], args := [d] }
  | _ => none }
def NatParseWrongFalsely : Prop := natParseRow.holds Tryd.pinned (OpenSpec.ofChange natParseWrong)

/-- 'gaugelaw1.NatTexts': WHATEVER THE INPUT: true; the input reads as it did. -/
def natTextsSpec : ChangeSpec := { name := "natTexts", fn := fun _ => fun
  | [d] => { results := [.lit (.bool true)], args := [d] }
  | _ => none }
def natTextsRow : OpenClaim := { program := "ytijcbocbehcaaaadoor", sum := "f348cfba12699b3bf10c862e85d785988b2cf7a8d56ef0a463e3778e08345bce", func := "gauge/gaugelaw1.NatTexts", spec := "natTexts", inPlace := ["internal/bytealg.IndexByteString", "internal/bytealg.IndexString", "math/bits.Add64", "math/bits.Sub64"], named := ["math/bits.divideError", "math/bits.overflowError", "unicode/utf8.first", "unicode/utf8.acceptRanges", "internal/bytealg.MaxLen"], apart := false, laid := [("unicode/utf8.acceptRanges", laid_unicode_utf8_acceptRanges), ("unicode/utf8.first", laid_unicode_utf8_first)] }
def NatTextsSaid : Prop := natTextsRow.holds Tryd.pinned (OpenSpec.ofChange natTextsSpec)

/-- ITS FALSE NEIGHBOUR: 'it returns false'. Refute it at one input. -/
def natTextsWrong : ChangeSpec := { name := "natTexts", fn := fun _ => fun
  | [d] => { results := [.lit (.bool false)], args := [d] }
  | _ => none }
def NatTextsWrongFalsely : Prop := natTextsRow.holds Tryd.pinned (OpenSpec.ofChange natTextsWrong)

/- THE SECOND FORM. 'bulk': how many values and letters a reading holds, each counted each time it is reached (what is shared counts as often as it is met; a slice's spare places count too). A statement '..UptoSaid' is the law's where the arguments, and the package variables that the reading takes, are together of bulk at most 1048576: NARROWER than '..Said'. Prove '..Said' where nothing that the law and all that it calls make is longer than what came in: it says more and counts as full. Else prove '..UptoSaid'. A law counts once. -/
mutual
def uptoBulk {H : Type} : DataW H → Nat
  | .lit (.string bytes) => bytes.length + 1
  | .lit _ => 1
  | .nil => 1
  | .ptr d => uptoBulk d + 1
  | .slice elems spare => uptoBulkAll elems + uptoBulkAll spare + 1
  | .agg parts => uptoBulkAll parts + 1
  | .iface _ d => uptoBulk d + 1
  | .map entries => uptoBulkEntries entries + 1
  | .held _ => 1
def uptoBulkAll {H : Type} : List (DataW H) → Nat
  | [] => 0
  | d :: r => uptoBulk d + uptoBulkAll r
def uptoBulkEntries {H : Type} : List (Lit × DataW H) → Nat
  | [] => 0
  | x :: r => uptoBulkEntry x + uptoBulkEntries r
def uptoBulkEntry {H : Type} : Lit × DataW H → Nat
  | (.string bytes, d) => bytes.length + uptoBulk d + 1
  | (_, d) => uptoBulk d + 1
 end
def uptoSmall : (H : Type) → List (DataW H) → Bool := fun _ ds => decide (uptoBulkAll ds ≤ 1048576)
def OpenSpec.upto (s : _root_.Go.ChangeSpec) : _root_.Go.OpenSpec := { _root_.Go.OpenSpec.ofChange s with cond := some uptoSmall }

/-- 'gaugelaw8.TokenCovers', WHERE WHAT IT READS IS OF BULK AT MOST 1048576: true; the input reads as it did. -/
def tokenCoversUptoRow : OpenClaim := { program := "ytijcbocbehcaaaadoor", sum := "f348cfba12699b3bf10c862e85d785988b2cf7a8d56ef0a463e3778e08345bce", func := "gauge/gaugelaw8.TokenCovers", spec := "tokenCovers", inPlace := ["internal/bytealg.IndexByteString"], named := ["gauge/token.spans"], apart := false, laid := [("gauge/token.spans", laid_gauge_token_spans)], narrowed := true }
def TokenCoversUptoSaid : Prop := tokenCoversUptoRow.holds Tryd.pinned (OpenSpec.upto tokenCoversSpec)

/-- 'gaugelaw8.TokenExact', WHERE WHAT IT READS IS OF BULK AT MOST 1048576: true; the input reads as it did. -/
def tokenExactUptoRow : OpenClaim := { program := "ytijcbocbehcaaaadoor", sum := "f348cfba12699b3bf10c862e85d785988b2cf7a8d56ef0a463e3778e08345bce", func := "gauge/gaugelaw8.TokenExact", spec := "tokenExact", inPlace := ["internal/bytealg.IndexByteString"], named := ["gauge/token.spans"], apart := false, laid := [("gauge/token.spans", laid_gauge_token_spans)], narrowed := true }
def TokenExactUptoSaid : Prop := tokenExactUptoRow.holds Tryd.pinned (OpenSpec.upto tokenExactSpec)

/-- 'gaugelaw8.TokenJoined', WHERE WHAT IT READS IS OF BULK AT MOST 1048576: true; the input reads as it did. -/
def tokenJoinedUptoRow : OpenClaim := { program := "ytijcbocbehcaaaadoor", sum := "f348cfba12699b3bf10c862e85d785988b2cf7a8d56ef0a463e3778e08345bce", func := "gauge/gaugelaw8.TokenJoined", spec := "tokenJoined", inPlace := ["internal/bytealg.IndexByteString"], named := ["gauge/token.spans"], apart := false, laid := [("gauge/token.spans", laid_gauge_token_spans)], narrowed := true }
def TokenJoinedUptoSaid : Prop := tokenJoinedUptoRow.holds Tryd.pinned (OpenSpec.upto tokenJoinedSpec)

/-- 'gaugelaw8.TokenSpaced', WHERE WHAT IT READS IS OF BULK AT MOST 1048576: true; the input reads as it did. -/
def tokenSpacedUptoRow : OpenClaim := { program := "ytijcbocbehcaaaadoor", sum := "f348cfba12699b3bf10c862e85d785988b2cf7a8d56ef0a463e3778e08345bce", func := "gauge/gaugelaw8.TokenSpaced", spec := "tokenSpaced", inPlace := ["internal/bytealg.IndexByteString"], named := ["gauge/token.spans"], apart := false, laid := [("gauge/token.spans", laid_gauge_token_spans)], narrowed := true }
def TokenSpacedUptoSaid : Prop := tokenSpacedUptoRow.holds Tryd.pinned (OpenSpec.upto tokenSpacedSpec)

/-- 'gaugelaw1.NatParse', WHERE WHAT IT READS IS OF BULK AT MOST 1048576: true; the input reads as it did. -/
def natParseUptoRow : OpenClaim := { program := "ytijcbocbehcaaaadoor", sum := "f348cfba12699b3bf10c862e85d785988b2cf7a8d56ef0a463e3778e08345bce", func := "gauge/gaugelaw1.NatParse", spec := "natParse", inPlace := ["internal/bytealg.IndexByteString", "internal/bytealg.IndexString", "math/bits.Add64"], named := ["unicode/utf8.first", "unicode/utf8.acceptRanges", "internal/bytealg.MaxLen"], apart := false, laid := [("unicode/utf8.acceptRanges", laid_unicode_utf8_acceptRanges), ("unicode/utf8.first", laid_unicode_utf8_first)], narrowed := true }
def NatParseUptoSaid : Prop := natParseUptoRow.holds Tryd.pinned (OpenSpec.upto natParseSpec)

/-- 'gaugelaw1.NatTexts', WHERE WHAT IT READS IS OF BULK AT MOST 1048576: true; the input reads as it did. -/
def natTextsUptoRow : OpenClaim := { program := "ytijcbocbehcaaaadoor", sum := "f348cfba12699b3bf10c862e85d785988b2cf7a8d56ef0a463e3778e08345bce", func := "gauge/gaugelaw1.NatTexts", spec := "natTexts", inPlace := ["internal/bytealg.IndexByteString", "internal/bytealg.IndexString", "math/bits.Add64", "math/bits.Sub64"], named := ["math/bits.divideError", "math/bits.overflowError", "unicode/utf8.first", "unicode/utf8.acceptRanges", "internal/bytealg.MaxLen"], apart := false, laid := [("unicode/utf8.acceptRanges", laid_unicode_utf8_acceptRanges), ("unicode/utf8.first", laid_unicode_utf8_first)], narrowed := true }
def NatTextsUptoSaid : Prop := natTextsUptoRow.holds Tryd.pinned (OpenSpec.upto natTextsSpec)

end Rows
end Go.Proofs.YtijcbocbehcaaaaDoor

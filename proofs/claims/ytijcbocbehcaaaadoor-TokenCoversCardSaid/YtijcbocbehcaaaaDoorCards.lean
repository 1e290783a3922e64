/-
  DERIVED. GIVEN WITH THE SEED: THE CARDS: each row of YtijcbocbehcaaaaDoorRows.lean that lists a variable, with what it lists TIED to the program's text (the seventh form; the later family's looks); each row that meets fmt, with fmt's text TOLD by the authors' own Lean function (tested against real Go, not proved from fmt's source: count such statements apart). THE CARD IS WHAT COUNTS. Prove the row's statement (the work); the ties are given (YtijcbocbehcaaaaDoorTie.lean); close each card by the builder's one call (the guide's Derived/Test/ToyasCard.lean, 'card_holds'). Laid BY PROGRAM, IN A SANDBOX (cutbox-door.mjs). By AI agents, Wed Nov 11 2026. No macro, syntax, notation, axiom, sorry.
-/
import Derived.Test.YtijcbocbehcaaaaDoorRows
import GoSem.ClaimSeven
namespace Go.Proofs.YtijcbocbehcaaaaDoor
namespace Rows

/-- THE TIED CARD OF 'gaugelaw8.TokenCovers'. -/
def tokenCoversCard : Claim7 := { stood := { row := tokenCoversRow, standIns := [], harness := (true, "c05490e020f2f31cdabdfe7bfcbb1f52424e7100544b716d455f7f80916d516d"), looks := false }, kinds := [], alts := [], laidByText := true, laidKinds := [.data], laidTests := true, laidLooks := .later }
def TokenCoversCardSaid : Prop := Claim7.holds Tryd.pinned (.plain (OpenSpec.ofChange tokenCoversSpec)) tokenCoversCard

/-- THE TIED CARD OF 'gaugelaw8.TokenExact'. -/
def tokenExactCard : Claim7 := { stood := { row := tokenExactRow, standIns := [], harness := (true, "c05490e020f2f31cdabdfe7bfcbb1f52424e7100544b716d455f7f80916d516d"), looks := false }, kinds := [], alts := [], laidByText := true, laidKinds := [.data], laidTests := true, laidLooks := .later }
def TokenExactCardSaid : Prop := Claim7.holds Tryd.pinned (.plain (OpenSpec.ofChange tokenExactSpec)) tokenExactCard

/-- THE TIED CARD OF 'gaugelaw8.TokenJoined'. -/
def tokenJoinedCard : Claim7 := { stood := { row := tokenJoinedRow, standIns := [], harness := (true, "c05490e020f2f31cdabdfe7bfcbb1f52424e7100544b716d455f7f80916d516d"), looks := false }, kinds := [], alts := [], laidByText := true, laidKinds := [.data], laidTests := true, laidLooks := .later }
def TokenJoinedCardSaid : Prop := Claim7.holds Tryd.pinned (.plain (OpenSpec.ofChange tokenJoinedSpec)) tokenJoinedCard

/-- THE TIED CARD OF 'gaugelaw8.TokenSpaced'. -/
def tokenSpacedCard : Claim7 := { stood := { row := tokenSpacedRow, standIns := [], harness := (true, "c05490e020f2f31cdabdfe7bfcbb1f52424e7100544b716d455f7f80916d516d"), looks := false }, kinds := [], alts := [], laidByText := true, laidKinds := [.data], laidTests := true, laidLooks := .later }
def TokenSpacedCardSaid : Prop := Claim7.holds Tryd.pinned (.plain (OpenSpec.ofChange tokenSpacedSpec)) tokenSpacedCard

/-- THE TIED CARD OF 'gaugelaw1.NatParse'. -/
def natParseCard : Claim7 := { stood := { row := natParseRow, standIns := [], harness := (true, "c05490e020f2f31cdabdfe7bfcbb1f52424e7100544b716d455f7f80916d516d"), looks := false }, kinds := [], alts := [], laidByText := true, laidKinds := [.data, .pinned], laidTests := true, laidLooks := .later }
def NatParseCardSaid : Prop := Claim7.holds Tryd.pinned (.plain (OpenSpec.ofChange natParseSpec)) natParseCard

/-- THE TIED CARD OF 'gaugelaw1.NatTexts'. -/
def natTextsCard : Claim7 := { stood := { row := natTextsRow, standIns := [], harness := (true, "c05490e020f2f31cdabdfe7bfcbb1f52424e7100544b716d455f7f80916d516d"), looks := false }, kinds := [], alts := [], laidByText := true, laidKinds := [.data, .pinned], laidTests := true, laidLooks := .later }
def NatTextsCardSaid : Prop := Claim7.holds Tryd.pinned (.plain (OpenSpec.ofChange natTextsSpec)) natTextsCard

/-- THE SECOND FORM's CARD OF 'gaugelaw8.TokenCovers'. -/
def tokenCoversUptoCard : Claim7 := { stood := { row := tokenCoversUptoRow, standIns := [], harness := (true, "c05490e020f2f31cdabdfe7bfcbb1f52424e7100544b716d455f7f80916d516d"), looks := false }, kinds := [], alts := [], laidByText := true, laidKinds := [.data], laidTests := true, laidLooks := .later }
def TokenCoversUptoCardSaid : Prop := Claim7.holds Tryd.pinned (.plain (OpenSpec.upto tokenCoversSpec)) tokenCoversUptoCard

/-- THE SECOND FORM's CARD OF 'gaugelaw8.TokenExact'. -/
def tokenExactUptoCard : Claim7 := { stood := { row := tokenExactUptoRow, standIns := [], harness := (true, "c05490e020f2f31cdabdfe7bfcbb1f52424e7100544b716d455f7f80916d516d"), looks := false }, kinds := [], alts := [], laidByText := true, laidKinds := [.data], laidTests := true, laidLooks := .later }
def TokenExactUptoCardSaid : Prop := Claim7.holds Tryd.pinned (.plain (OpenSpec.upto tokenExactSpec)) tokenExactUptoCard

/-- THE SECOND FORM's CARD OF 'gaugelaw8.TokenJoined'. -/
def tokenJoinedUptoCard : Claim7 := { stood := { row := tokenJoinedUptoRow, standIns := [], harness := (true, "c05490e020f2f31cdabdfe7bfcbb1f52424e7100544b716d455f7f80916d516d"), looks := false }, kinds := [], alts := [], laidByText := true, laidKinds := [.data], laidTests := true, laidLooks := .later }
def TokenJoinedUptoCardSaid : Prop := Claim7.holds Tryd.pinned (.plain (OpenSpec.upto tokenJoinedSpec)) tokenJoinedUptoCard

/-- THE SECOND FORM's CARD OF 'gaugelaw8.TokenSpaced'. -/
def tokenSpacedUptoCard : Claim7 := { stood := { row := tokenSpacedUptoRow, standIns := [], harness := (true, "c05490e020f2f31cdabdfe7bfcbb1f52424e7100544b716d455f7f80916d516d"), looks := false }, kinds := [], alts := [], laidByText := true, laidKinds := [.data], laidTests := true, laidLooks := .later }
def TokenSpacedUptoCardSaid : Prop := Claim7.holds Tryd.pinned (.plain (OpenSpec.upto tokenSpacedSpec)) tokenSpacedUptoCard

/-- THE SECOND FORM's CARD OF 'gaugelaw1.NatParse'. -/
def natParseUptoCard : Claim7 := { stood := { row := natParseUptoRow, standIns := [], harness := (true, "c05490e020f2f31cdabdfe7bfcbb1f52424e7100544b716d455f7f80916d516d"), looks := false }, kinds := [], alts := [], laidByText := true, laidKinds := [.data, .pinned], laidTests := true, laidLooks := .later }
def NatParseUptoCardSaid : Prop := Claim7.holds Tryd.pinned (.plain (OpenSpec.upto natParseSpec)) natParseUptoCard

/-- THE SECOND FORM's CARD OF 'gaugelaw1.NatTexts'. -/
def natTextsUptoCard : Claim7 := { stood := { row := natTextsUptoRow, standIns := [], harness := (true, "c05490e020f2f31cdabdfe7bfcbb1f52424e7100544b716d455f7f80916d516d"), looks := false }, kinds := [], alts := [], laidByText := true, laidKinds := [.data, .pinned], laidTests := true, laidLooks := .later }
def NatTextsUptoCardSaid : Prop := Claim7.holds Tryd.pinned (.plain (OpenSpec.upto natTextsSpec)) natTextsUptoCard
end Rows
end Go.Proofs.YtijcbocbehcaaaaDoor

/-
  DERIVED. GIVEN WITH THE SEED: THE CARDS: each row of YtgkfmeccipgnjaaDoorRows.lean that lists a variable, with what it lists TIED to the program's text (the seventh form; the later family's looks); each row that meets fmt, with fmt's text TOLD by the authors' own Lean function (tested against real Go, not proved from fmt's source: count such statements apart). THE CARD IS WHAT COUNTS. Prove the row's statement (the work); the ties are given (YtgkfmeccipgnjaaDoorTie.lean); close each card by the builder's one call (the guide's Derived/Test/ToyasCard.lean, 'card_holds'). Laid BY PROGRAM, IN A SANDBOX (cutbox-door.mjs). By AI agents, Wed Nov 11 2026. No macro, syntax, notation, axiom, sorry.
-/
import Derived.Test.YtgkfmeccipgnjaaDoorRows
import GoSem.ClaimSeven
namespace Go.Proofs.YtgkfmeccipgnjaaDoor
namespace Rows

/-- THE TIED CARD OF 'suturelaw2.LexCovers'. -/
def lexCoversCard : Claim7 := { stood := { row := lexCoversRow, standIns := [], harness := (true, "9248ee7cc28d2da1166d36b9a970d6b1624fa32f5942321054d0f4be7d9304a0"), looks := true }, kinds := [], alts := [], laidByText := true, laidKinds := [.data, .data, .data, .sentinel, .sentinel], laidTests := true, laidLooks := .later }
def LexCoversCardSaid : Prop := Claim7.holds Tryd.pinned (.plain (OpenSpec.ofChange lexCoversSpec)) lexCoversCard

/-- THE TIED CARD OF 'suturelaw2.LexPrefix'. -/
def lexPrefixCard : Claim7 := { stood := { row := lexPrefixRow, standIns := [], harness := (true, "9248ee7cc28d2da1166d36b9a970d6b1624fa32f5942321054d0f4be7d9304a0"), looks := true }, kinds := [], alts := [], laidByText := true, laidKinds := [.data, .data, .data, .sentinel, .sentinel], laidTests := true, laidLooks := .later }
def LexPrefixCardSaid : Prop := Claim7.holds Tryd.pinned (.plain (OpenSpec.ofChange lexPrefixSpec)) lexPrefixCard

/-- THE TIED CARD OF 'suturelaw2.LexKnown'. -/
def lexKnownCard : Claim7 := { stood := { row := lexKnownRow, standIns := [], harness := (true, "9248ee7cc28d2da1166d36b9a970d6b1624fa32f5942321054d0f4be7d9304a0"), looks := true }, kinds := [], alts := [], laidByText := true, laidKinds := [.data, .data, .data, .sentinel, .sentinel], laidTests := true, laidLooks := .later }
def LexKnownCardSaid : Prop := Claim7.holds Tryd.pinned (.plain (OpenSpec.ofChange lexKnownSpec)) lexKnownCard

/-- THE TIED CARD OF 'suturelaw2.LexTells'. -/
def lexTellsCard : Claim7 := { stood := { row := lexTellsRow, standIns := [], harness := (true, "9248ee7cc28d2da1166d36b9a970d6b1624fa32f5942321054d0f4be7d9304a0"), looks := true }, kinds := [], alts := [], laidByText := true, laidKinds := [.data, .data, .data, .sentinel, .sentinel], laidTests := true, laidLooks := .later }
def LexTellsCardSaid : Prop := Claim7.holds Tryd.pinned (.plain (OpenSpec.ofChange lexTellsSpec)) lexTellsCard

/-- THE TIED CARD OF 'suturelaw2.LexNames'. -/
def lexNamesCard : Claim7 := { stood := { row := lexNamesRow, standIns := [], harness := (true, "9248ee7cc28d2da1166d36b9a970d6b1624fa32f5942321054d0f4be7d9304a0"), looks := true }, kinds := [], alts := [], laidByText := true, laidKinds := [.data, .data, .data, .sentinel, .sentinel], laidTests := true, laidLooks := .later }
def LexNamesCardSaid : Prop := Claim7.holds Tryd.pinned (.plain (OpenSpec.ofChange lexNamesSpec)) lexNamesCard

/-- THE TIED CARD OF 'suturelaw4.ExprKnown'. -/
def exprKnownCard : Claim7 := { stood := { row := exprKnownRow, standIns := [], harness := (true, "9248ee7cc28d2da1166d36b9a970d6b1624fa32f5942321054d0f4be7d9304a0"), looks := true }, kinds := [], alts := [], laidByText := true, laidKinds := [.data, .data, .data, .sentinel, .sentinel], laidTests := true, laidLooks := .later }
def ExprKnownCardSaid : Prop := Claim7.holds Tryd.pinned (.plain (OpenSpec.ofChange exprKnownSpec)) exprKnownCard

/-- THE TIED CARD OF 'suturelaw4.ExprBack'. -/
def exprBackCard : Claim7 := { stood := { row := exprBackRow, standIns := [], harness := (true, "9248ee7cc28d2da1166d36b9a970d6b1624fa32f5942321054d0f4be7d9304a0"), looks := true }, kinds := [], alts := [], laidByText := true, laidKinds := [.data, .data, .data, .sentinel, .sentinel], laidTests := true, laidLooks := .later }
def ExprBackCardSaid : Prop := Claim7.holds Tryd.pinned (.plain (OpenSpec.ofChange exprBackSpec)) exprBackCard

/-- THE TIED CARD OF 'suturelaw4.ExprParens'. -/
def exprParensCard : Claim7 := { stood := { row := exprParensRow, standIns := [], harness := (true, "9248ee7cc28d2da1166d36b9a970d6b1624fa32f5942321054d0f4be7d9304a0"), looks := true }, kinds := [], alts := [], laidByText := true, laidKinds := [.data, .data, .data, .sentinel, .sentinel], laidTests := true, laidLooks := .later }
def ExprParensCardSaid : Prop := Claim7.holds Tryd.pinned (.plain (OpenSpec.ofChange exprParensSpec)) exprParensCard

/-- THE TIED CARD OF 'suturelaw4.ExprLeft'. -/
def exprLeftCard : Claim7 := { stood := { row := exprLeftRow, standIns := [], harness := (true, "9248ee7cc28d2da1166d36b9a970d6b1624fa32f5942321054d0f4be7d9304a0"), looks := true }, kinds := [], alts := [], laidByText := true, laidKinds := [.data, .data, .data, .sentinel, .sentinel], laidTests := true, laidLooks := .later }
def ExprLeftCardSaid : Prop := Claim7.holds Tryd.pinned (.plain (OpenSpec.ofChange exprLeftSpec)) exprLeftCard

/-- THE TIED CARD OF 'suturelaw5.ParseKnown'. -/
def parseKnownCard : Claim7 := { stood := { row := parseKnownRow, standIns := [], harness := (true, "9248ee7cc28d2da1166d36b9a970d6b1624fa32f5942321054d0f4be7d9304a0"), looks := true }, kinds := [], alts := [], laidByText := true, laidKinds := [.data, .data, .data, .sentinel, .sentinel], laidTests := true, laidLooks := .later }
def ParseKnownCardSaid : Prop := Claim7.holds Tryd.pinned (.plain (OpenSpec.ofChange parseKnownSpec)) parseKnownCard

/-- THE TIED CARD OF 'suturelaw5.ParseDeep'. -/
def parseDeepCard : Claim7 := { stood := { row := parseDeepRow, standIns := [], harness := (true, "9248ee7cc28d2da1166d36b9a970d6b1624fa32f5942321054d0f4be7d9304a0"), looks := true }, kinds := [], alts := [], laidByText := true, laidKinds := [.data, .data, .data, .sentinel, .sentinel], laidTests := true, laidLooks := .later }
def ParseDeepCardSaid : Prop := Claim7.holds Tryd.pinned (.plain (OpenSpec.ofChange parseDeepSpec)) parseDeepCard

/-- THE SECOND FORM's CARD OF 'suturelaw2.LexCovers'. -/
def lexCoversUptoCard : Claim7 := { stood := { row := lexCoversUptoRow, standIns := [], harness := (true, "9248ee7cc28d2da1166d36b9a970d6b1624fa32f5942321054d0f4be7d9304a0"), looks := true }, kinds := [], alts := [], laidByText := true, laidKinds := [.data, .data, .data, .sentinel, .sentinel], laidTests := true, laidLooks := .later }
def LexCoversUptoCardSaid : Prop := Claim7.holds Tryd.pinned (.plain (OpenSpec.upto lexCoversSpec)) lexCoversUptoCard

/-- THE SECOND FORM's CARD OF 'suturelaw2.LexPrefix'. -/
def lexPrefixUptoCard : Claim7 := { stood := { row := lexPrefixUptoRow, standIns := [], harness := (true, "9248ee7cc28d2da1166d36b9a970d6b1624fa32f5942321054d0f4be7d9304a0"), looks := true }, kinds := [], alts := [], laidByText := true, laidKinds := [.data, .data, .data, .sentinel, .sentinel], laidTests := true, laidLooks := .later }
def LexPrefixUptoCardSaid : Prop := Claim7.holds Tryd.pinned (.plain (OpenSpec.upto lexPrefixSpec)) lexPrefixUptoCard

/-- THE SECOND FORM's CARD OF 'suturelaw2.LexKnown'. -/
def lexKnownUptoCard : Claim7 := { stood := { row := lexKnownUptoRow, standIns := [], harness := (true, "9248ee7cc28d2da1166d36b9a970d6b1624fa32f5942321054d0f4be7d9304a0"), looks := true }, kinds := [], alts := [], laidByText := true, laidKinds := [.data, .data, .data, .sentinel, .sentinel], laidTests := true, laidLooks := .later }
def LexKnownUptoCardSaid : Prop := Claim7.holds Tryd.pinned (.plain (OpenSpec.upto lexKnownSpec)) lexKnownUptoCard

/-- THE SECOND FORM's CARD OF 'suturelaw2.LexTells'. -/
def lexTellsUptoCard : Claim7 := { stood := { row := lexTellsUptoRow, standIns := [], harness := (true, "9248ee7cc28d2da1166d36b9a970d6b1624fa32f5942321054d0f4be7d9304a0"), looks := true }, kinds := [], alts := [], laidByText := true, laidKinds := [.data, .data, .data, .sentinel, .sentinel], laidTests := true, laidLooks := .later }
def LexTellsUptoCardSaid : Prop := Claim7.holds Tryd.pinned (.plain (OpenSpec.upto lexTellsSpec)) lexTellsUptoCard

/-- THE SECOND FORM's CARD OF 'suturelaw2.LexNames'. -/
def lexNamesUptoCard : Claim7 := { stood := { row := lexNamesUptoRow, standIns := [], harness := (true, "9248ee7cc28d2da1166d36b9a970d6b1624fa32f5942321054d0f4be7d9304a0"), looks := true }, kinds := [], alts := [], laidByText := true, laidKinds := [.data, .data, .data, .sentinel, .sentinel], laidTests := true, laidLooks := .later }
def LexNamesUptoCardSaid : Prop := Claim7.holds Tryd.pinned (.plain (OpenSpec.upto lexNamesSpec)) lexNamesUptoCard

/-- THE SECOND FORM's CARD OF 'suturelaw4.ExprKnown'. -/
def exprKnownUptoCard : Claim7 := { stood := { row := exprKnownUptoRow, standIns := [], harness := (true, "9248ee7cc28d2da1166d36b9a970d6b1624fa32f5942321054d0f4be7d9304a0"), looks := true }, kinds := [], alts := [], laidByText := true, laidKinds := [.data, .data, .data, .sentinel, .sentinel], laidTests := true, laidLooks := .later }
def ExprKnownUptoCardSaid : Prop := Claim7.holds Tryd.pinned (.plain (OpenSpec.upto exprKnownSpec)) exprKnownUptoCard

/-- THE SECOND FORM's CARD OF 'suturelaw4.ExprBack'. -/
def exprBackUptoCard : Claim7 := { stood := { row := exprBackUptoRow, standIns := [], harness := (true, "9248ee7cc28d2da1166d36b9a970d6b1624fa32f5942321054d0f4be7d9304a0"), looks := true }, kinds := [], alts := [], laidByText := true, laidKinds := [.data, .data, .data, .sentinel, .sentinel], laidTests := true, laidLooks := .later }
def ExprBackUptoCardSaid : Prop := Claim7.holds Tryd.pinned (.plain (OpenSpec.upto exprBackSpec)) exprBackUptoCard

/-- THE SECOND FORM's CARD OF 'suturelaw4.ExprParens'. -/
def exprParensUptoCard : Claim7 := { stood := { row := exprParensUptoRow, standIns := [], harness := (true, "9248ee7cc28d2da1166d36b9a970d6b1624fa32f5942321054d0f4be7d9304a0"), looks := true }, kinds := [], alts := [], laidByText := true, laidKinds := [.data, .data, .data, .sentinel, .sentinel], laidTests := true, laidLooks := .later }
def ExprParensUptoCardSaid : Prop := Claim7.holds Tryd.pinned (.plain (OpenSpec.upto exprParensSpec)) exprParensUptoCard

/-- THE SECOND FORM's CARD OF 'suturelaw4.ExprLeft'. -/
def exprLeftUptoCard : Claim7 := { stood := { row := exprLeftUptoRow, standIns := [], harness := (true, "9248ee7cc28d2da1166d36b9a970d6b1624fa32f5942321054d0f4be7d9304a0"), looks := true }, kinds := [], alts := [], laidByText := true, laidKinds := [.data, .data, .data, .sentinel, .sentinel], laidTests := true, laidLooks := .later }
def ExprLeftUptoCardSaid : Prop := Claim7.holds Tryd.pinned (.plain (OpenSpec.upto exprLeftSpec)) exprLeftUptoCard

/-- THE SECOND FORM's CARD OF 'suturelaw5.ParseKnown'. -/
def parseKnownUptoCard : Claim7 := { stood := { row := parseKnownUptoRow, standIns := [], harness := (true, "9248ee7cc28d2da1166d36b9a970d6b1624fa32f5942321054d0f4be7d9304a0"), looks := true }, kinds := [], alts := [], laidByText := true, laidKinds := [.data, .data, .data, .sentinel, .sentinel], laidTests := true, laidLooks := .later }
def ParseKnownUptoCardSaid : Prop := Claim7.holds Tryd.pinned (.plain (OpenSpec.upto parseKnownSpec)) parseKnownUptoCard

/-- THE SECOND FORM's CARD OF 'suturelaw5.ParseDeep'. -/
def parseDeepUptoCard : Claim7 := { stood := { row := parseDeepUptoRow, standIns := [], harness := (true, "9248ee7cc28d2da1166d36b9a970d6b1624fa32f5942321054d0f4be7d9304a0"), looks := true }, kinds := [], alts := [], laidByText := true, laidKinds := [.data, .data, .data, .sentinel, .sentinel], laidTests := true, laidLooks := .later }
def ParseDeepUptoCardSaid : Prop := Claim7.holds Tryd.pinned (.plain (OpenSpec.upto parseDeepSpec)) parseDeepUptoCard
end Rows
end Go.Proofs.YtgkfmeccipgnjaaDoor

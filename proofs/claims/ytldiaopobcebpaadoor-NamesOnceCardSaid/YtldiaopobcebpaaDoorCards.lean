/-
  DERIVED. GIVEN WITH THE SEED: THE CARDS: each row of YtldiaopobcebpaaDoorRows.lean that lists a variable, with what it lists TIED to the program's text (the seventh form; the later family's looks); each row that meets fmt, with fmt's text TOLD by the authors' own Lean function (tested against real Go, not proved from fmt's source: count such statements apart). THE CARD IS WHAT COUNTS. Prove the row's statement (the work); the ties are given (YtldiaopobcebpaaDoorTie.lean); close each card by the builder's one call (the guide's Derived/Test/ToyasCard.lean, 'card_holds'). Laid BY PROGRAM, IN A SANDBOX (cutbox-door.mjs). By AI agents, Wed Nov 11 2026. No macro, syntax, notation, axiom, sorry.
-/
import Derived.Test.YtldiaopobcebpaaDoorRows
import GoSem.ClaimSeven
namespace Go.Proofs.YtldiaopobcebpaaDoor
namespace Rows

/-- THE TIED CARD OF 'evenhandedlaw9.NamesTell'. -/
def namesTellCard : Claim7 := { stood := { row := namesTellRow, standIns := [], harness := (true, "1a46c7ac23d80c796667ddb436246c5724ce2c522bcd2ccc4d0ce17942e2e277"), looks := false }, kinds := [], alts := [], laidByText := true, laidKinds := [.listed, .data], laidTests := true, laidLooks := .later }
def NamesTellCardSaid : Prop := Claim7.holds Tryd.pinned (.plain (OpenSpec.ofChange namesTellSpec)) namesTellCard

/-- THE TIED CARD OF 'evenhandedlaw9.NamesOnce'. -/
def namesOnceCard : Claim7 := { stood := { row := namesOnceRow, standIns := [], harness := (true, "1a46c7ac23d80c796667ddb436246c5724ce2c522bcd2ccc4d0ce17942e2e277"), looks := false }, kinds := [], alts := [], laidByText := true, laidKinds := [.listed, .data], laidTests := true, laidLooks := .later }
def NamesOnceCardSaid : Prop := Claim7.holds Tryd.pinned (.plain (OpenSpec.ofChange namesOnceSpec)) namesOnceCard

/-- THE TIED CARD OF 'evenhandedlaw9.NamesKnown'. -/
def namesKnownCard : Claim7 := { stood := { row := namesKnownRow, standIns := [], harness := (true, "1a46c7ac23d80c796667ddb436246c5724ce2c522bcd2ccc4d0ce17942e2e277"), looks := false }, kinds := [], alts := [], laidByText := true, laidKinds := [.listed, .data], laidTests := true, laidLooks := .later }
def NamesKnownCardSaid : Prop := Claim7.holds Tryd.pinned (.plain (OpenSpec.ofChange namesKnownSpec)) namesKnownCard

/-- THE TIED CARD OF 'evenhandedlaw9.NamesBack'. -/
def namesBackCard : Claim7 := { stood := { row := namesBackRow, standIns := [], harness := (true, "1a46c7ac23d80c796667ddb436246c5724ce2c522bcd2ccc4d0ce17942e2e277"), looks := false }, kinds := [], alts := [], laidByText := true, laidKinds := [.listed, .data], laidTests := true, laidLooks := .later }
def NamesBackCardSaid : Prop := Claim7.holds Tryd.pinned (.plain (OpenSpec.ofChange namesBackSpec)) namesBackCard

/-- THE SECOND FORM's CARD OF 'evenhandedlaw9.NamesTell'. -/
def namesTellUptoCard : Claim7 := { stood := { row := namesTellUptoRow, standIns := [], harness := (true, "1a46c7ac23d80c796667ddb436246c5724ce2c522bcd2ccc4d0ce17942e2e277"), looks := false }, kinds := [], alts := [], laidByText := true, laidKinds := [.listed, .data], laidTests := true, laidLooks := .later }
def NamesTellUptoCardSaid : Prop := Claim7.holds Tryd.pinned (.plain (OpenSpec.upto namesTellSpec)) namesTellUptoCard

/-- THE SECOND FORM's CARD OF 'evenhandedlaw9.NamesOnce'. -/
def namesOnceUptoCard : Claim7 := { stood := { row := namesOnceUptoRow, standIns := [], harness := (true, "1a46c7ac23d80c796667ddb436246c5724ce2c522bcd2ccc4d0ce17942e2e277"), looks := false }, kinds := [], alts := [], laidByText := true, laidKinds := [.listed, .data], laidTests := true, laidLooks := .later }
def NamesOnceUptoCardSaid : Prop := Claim7.holds Tryd.pinned (.plain (OpenSpec.upto namesOnceSpec)) namesOnceUptoCard

/-- THE SECOND FORM's CARD OF 'evenhandedlaw9.NamesKnown'. -/
def namesKnownUptoCard : Claim7 := { stood := { row := namesKnownUptoRow, standIns := [], harness := (true, "1a46c7ac23d80c796667ddb436246c5724ce2c522bcd2ccc4d0ce17942e2e277"), looks := false }, kinds := [], alts := [], laidByText := true, laidKinds := [.listed, .data], laidTests := true, laidLooks := .later }
def NamesKnownUptoCardSaid : Prop := Claim7.holds Tryd.pinned (.plain (OpenSpec.upto namesKnownSpec)) namesKnownUptoCard

/-- THE SECOND FORM's CARD OF 'evenhandedlaw9.NamesBack'. -/
def namesBackUptoCard : Claim7 := { stood := { row := namesBackUptoRow, standIns := [], harness := (true, "1a46c7ac23d80c796667ddb436246c5724ce2c522bcd2ccc4d0ce17942e2e277"), looks := false }, kinds := [], alts := [], laidByText := true, laidKinds := [.listed, .data], laidTests := true, laidLooks := .later }
def NamesBackUptoCardSaid : Prop := Claim7.holds Tryd.pinned (.plain (OpenSpec.upto namesBackSpec)) namesBackUptoCard
end Rows
end Go.Proofs.YtldiaopobcebpaaDoor

/-
  DERIVED. GIVEN WITH THE SEED: THE CARDS: each row of YtlejbkfefpfolaaDoorRows.lean that lists a variable, with what it lists TIED to the program's text (the seventh form; the later family's looks); each row that meets fmt, with fmt's text TOLD by the authors' own Lean function (tested against real Go, not proved from fmt's source: count such statements apart). THE CARD IS WHAT COUNTS. Prove the row's statement (the work); the ties are given (YtlejbkfefpfolaaDoorTie.lean); close each card by the builder's one call (the guide's Derived/Test/ToyasCard.lean, 'card_holds'). Laid BY PROGRAM, IN A SANDBOX (cutbox-door.mjs). By AI agents, Wed Nov 11 2026. No macro, syntax, notation, axiom, sorry.
-/
import Derived.Test.YtlejbkfefpfolaaDoorRows
import GoSem.ClaimSeven
namespace Go.Proofs.YtlejbkfefpfolaaDoor
namespace Rows

/-- THE TIED CARD OF 'quilllaw06.ReadBack'. -/
def readBackCard : Claim7 := { stood := { row := readBackRow, standIns := [], harness := (true, "0a76b436fa924f646322fc4c3eaaffdb6797ddfb9dab00e3c10c22dbff54c63b"), looks := true }, kinds := [], alts := [], laidByText := true, laidKinds := [.data], laidTests := true, laidLooks := .later }
def ReadBackCardSaid : Prop := Claim7.holds Tryd.pinned (.plain (OpenSpec.ofChange readBackSpec)) readBackCard

/-- THE TIED CARD OF 'quilllaw10.MatchForms'. -/
def matchFormsCard : Claim7 := { stood := { row := matchFormsRow, standIns := [], harness := (true, "0a76b436fa924f646322fc4c3eaaffdb6797ddfb9dab00e3c10c22dbff54c63b"), looks := true }, kinds := [], alts := [], laidByText := true, laidKinds := [.data], laidTests := true, laidLooks := .later }
def MatchFormsCardSaid : Prop := Claim7.holds Tryd.pinned (.plain (OpenSpec.ofChange matchFormsSpec)) matchFormsCard

/-- THE TIED CARD OF 'quilllaw09.DerivParts'. -/
def derivPartsCard : Claim7 := { stood := { row := derivPartsRow, standIns := [], harness := (true, "0a76b436fa924f646322fc4c3eaaffdb6797ddfb9dab00e3c10c22dbff54c63b"), looks := true }, kinds := [], alts := [], laidByText := true, laidKinds := [.data], laidTests := true, laidLooks := .later }
def DerivPartsCardSaid : Prop := Claim7.holds Tryd.pinned (.plain (OpenSpec.ofChange derivPartsSpec)) derivPartsCard

/-- THE SECOND FORM's CARD OF 'quilllaw06.ReadBack'. -/
def readBackUptoCard : Claim7 := { stood := { row := readBackUptoRow, standIns := [], harness := (true, "0a76b436fa924f646322fc4c3eaaffdb6797ddfb9dab00e3c10c22dbff54c63b"), looks := true }, kinds := [], alts := [], laidByText := true, laidKinds := [.data], laidTests := true, laidLooks := .later }
def ReadBackUptoCardSaid : Prop := Claim7.holds Tryd.pinned (.plain (OpenSpec.upto readBackSpec)) readBackUptoCard

/-- THE SECOND FORM's CARD OF 'quilllaw10.MatchForms'. -/
def matchFormsUptoCard : Claim7 := { stood := { row := matchFormsUptoRow, standIns := [], harness := (true, "0a76b436fa924f646322fc4c3eaaffdb6797ddfb9dab00e3c10c22dbff54c63b"), looks := true }, kinds := [], alts := [], laidByText := true, laidKinds := [.data], laidTests := true, laidLooks := .later }
def MatchFormsUptoCardSaid : Prop := Claim7.holds Tryd.pinned (.plain (OpenSpec.upto matchFormsSpec)) matchFormsUptoCard

/-- THE SECOND FORM's CARD OF 'quilllaw09.DerivParts'. -/
def derivPartsUptoCard : Claim7 := { stood := { row := derivPartsUptoRow, standIns := [], harness := (true, "0a76b436fa924f646322fc4c3eaaffdb6797ddfb9dab00e3c10c22dbff54c63b"), looks := true }, kinds := [], alts := [], laidByText := true, laidKinds := [.data], laidTests := true, laidLooks := .later }
def DerivPartsUptoCardSaid : Prop := Claim7.holds Tryd.pinned (.plain (OpenSpec.upto derivPartsSpec)) derivPartsUptoCard
end Rows
end Go.Proofs.YtlejbkfefpfolaaDoor

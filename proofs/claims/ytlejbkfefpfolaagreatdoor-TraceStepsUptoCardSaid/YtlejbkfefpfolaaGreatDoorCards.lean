/-
  DERIVED. GIVEN WITH THE SEED: THE CARDS: each row of YtlejbkfefpfolaaGreatDoorRows.lean that lists a variable, with what it lists TIED to the program's text (the seventh form; the later family's looks); each row that meets fmt, with fmt's text TOLD by the authors' own Lean function (tested against real Go, not proved from fmt's source: count such statements apart). THE CARD IS WHAT COUNTS. Prove the row's statement (the work); the ties are given (YtlejbkfefpfolaaGreatDoorTie.lean); close each card by the builder's one call (the guide's Derived/Test/ToyasCard.lean, 'card_holds'). Laid BY PROGRAM, IN A SANDBOX (cutbox-door.mjs). By AI agents, Wed Nov 11 2026. No macro, syntax, notation, axiom, sorry.
-/
import Derived.Test.YtlejbkfefpfolaaGreatDoorRows
import GoSem.ClaimSeven
namespace Go.Proofs.YtlejbkfefpfolaaGreatDoor
namespace Rows

/-- THE TIED CARD OF 'quilllaw09.DerivIs'. -/
def derivIsCard : Claim7 := { stood := { row := derivIsRow, standIns := [], harness := (true, "a4be8bceb88e0cd7a8ea29136e781226d56b04d45ec46851ce9b46c1f67b6f62"), looks := true }, kinds := [], alts := [], laidByText := true, laidKinds := [.data], laidTests := true, laidLooks := .later }
def DerivIsCardSaid : Prop := Claim7.holds Tryz.pinned (.plain (OpenSpec.ofChange derivIsSpec)) derivIsCard

/-- THE TIED CARD OF 'quilllaw09.DerivWalks'. -/
def derivWalksCard : Claim7 := { stood := { row := derivWalksRow, standIns := [], harness := (true, "a4be8bceb88e0cd7a8ea29136e781226d56b04d45ec46851ce9b46c1f67b6f62"), looks := true }, kinds := [], alts := [], laidByText := true, laidKinds := [.data], laidTests := true, laidLooks := .later }
def DerivWalksCardSaid : Prop := Claim7.holds Tryz.pinned (.plain (OpenSpec.ofChange derivWalksSpec)) derivWalksCard

/-- THE TIED CARD OF 'quilllaw09.DerivFits'. -/
def derivFitsCard : Claim7 := { stood := { row := derivFitsRow, standIns := [], harness := (true, "a4be8bceb88e0cd7a8ea29136e781226d56b04d45ec46851ce9b46c1f67b6f62"), looks := true }, kinds := [], alts := [], laidByText := true, laidKinds := [.data], laidTests := true, laidLooks := .later }
def DerivFitsCardSaid : Prop := Claim7.holds Tryz.pinned (.plain (OpenSpec.ofChange derivFitsSpec)) derivFitsCard

/-- THE TIED CARD OF 'quilllaw09.DerivLeft'. -/
def derivLeftCard : Claim7 := { stood := { row := derivLeftRow, standIns := [], harness := (true, "a4be8bceb88e0cd7a8ea29136e781226d56b04d45ec46851ce9b46c1f67b6f62"), looks := true }, kinds := [], alts := [], laidByText := true, laidKinds := [.data], laidTests := true, laidLooks := .later }
def DerivLeftCardSaid : Prop := Claim7.holds Tryz.pinned (.plain (OpenSpec.ofChange derivLeftSpec)) derivLeftCard

/-- THE TIED CARD OF 'quilllaw26.TraceSteps'. -/
def traceStepsCard : Claim7 := { stood := { row := traceStepsRow, standIns := [], harness := (true, "a4be8bceb88e0cd7a8ea29136e781226d56b04d45ec46851ce9b46c1f67b6f62"), looks := true }, kinds := [], alts := [], laidByText := true, laidKinds := [.data], laidTests := true, laidLooks := .later }
def TraceStepsCardSaid : Prop := Claim7.holds Tryz.pinned (.plain (OpenSpec.ofChange traceStepsSpec)) traceStepsCard

/-- THE SECOND FORM's CARD OF 'quilllaw09.DerivIs'. -/
def derivIsUptoCard : Claim7 := { stood := { row := derivIsUptoRow, standIns := [], harness := (true, "a4be8bceb88e0cd7a8ea29136e781226d56b04d45ec46851ce9b46c1f67b6f62"), looks := true }, kinds := [], alts := [], laidByText := true, laidKinds := [.data], laidTests := true, laidLooks := .later }
def DerivIsUptoCardSaid : Prop := Claim7.holds Tryz.pinned (.plain (OpenSpec.upto derivIsSpec)) derivIsUptoCard

/-- THE SECOND FORM's CARD OF 'quilllaw09.DerivWalks'. -/
def derivWalksUptoCard : Claim7 := { stood := { row := derivWalksUptoRow, standIns := [], harness := (true, "a4be8bceb88e0cd7a8ea29136e781226d56b04d45ec46851ce9b46c1f67b6f62"), looks := true }, kinds := [], alts := [], laidByText := true, laidKinds := [.data], laidTests := true, laidLooks := .later }
def DerivWalksUptoCardSaid : Prop := Claim7.holds Tryz.pinned (.plain (OpenSpec.upto derivWalksSpec)) derivWalksUptoCard

/-- THE SECOND FORM's CARD OF 'quilllaw09.DerivFits'. -/
def derivFitsUptoCard : Claim7 := { stood := { row := derivFitsUptoRow, standIns := [], harness := (true, "a4be8bceb88e0cd7a8ea29136e781226d56b04d45ec46851ce9b46c1f67b6f62"), looks := true }, kinds := [], alts := [], laidByText := true, laidKinds := [.data], laidTests := true, laidLooks := .later }
def DerivFitsUptoCardSaid : Prop := Claim7.holds Tryz.pinned (.plain (OpenSpec.upto derivFitsSpec)) derivFitsUptoCard

/-- THE SECOND FORM's CARD OF 'quilllaw09.DerivLeft'. -/
def derivLeftUptoCard : Claim7 := { stood := { row := derivLeftUptoRow, standIns := [], harness := (true, "a4be8bceb88e0cd7a8ea29136e781226d56b04d45ec46851ce9b46c1f67b6f62"), looks := true }, kinds := [], alts := [], laidByText := true, laidKinds := [.data], laidTests := true, laidLooks := .later }
def DerivLeftUptoCardSaid : Prop := Claim7.holds Tryz.pinned (.plain (OpenSpec.upto derivLeftSpec)) derivLeftUptoCard

/-- THE SECOND FORM's CARD OF 'quilllaw26.TraceSteps'. -/
def traceStepsUptoCard : Claim7 := { stood := { row := traceStepsUptoRow, standIns := [], harness := (true, "a4be8bceb88e0cd7a8ea29136e781226d56b04d45ec46851ce9b46c1f67b6f62"), looks := true }, kinds := [], alts := [], laidByText := true, laidKinds := [.data], laidTests := true, laidLooks := .later }
def TraceStepsUptoCardSaid : Prop := Claim7.holds Tryz.pinned (.plain (OpenSpec.upto traceStepsSpec)) traceStepsUptoCard
end Rows
end Go.Proofs.YtlejbkfefpfolaaGreatDoor

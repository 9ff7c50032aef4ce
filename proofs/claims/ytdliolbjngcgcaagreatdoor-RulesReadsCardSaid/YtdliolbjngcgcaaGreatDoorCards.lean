/-
  DERIVED. GIVEN WITH THE SEED: THE CARDS: each row of YtdliolbjngcgcaaGreatDoorRows.lean that lists a variable, with what it lists TIED to the program's text (the seventh form; the later family's looks); each row that meets fmt, with fmt's text TOLD by the authors' own Lean function (tested against real Go, not proved from fmt's source: count such statements apart). THE CARD IS WHAT COUNTS. Prove the row's statement (the work); the ties are given (YtdliolbjngcgcaaGreatDoorTie.lean); close each card by the builder's one call (the guide's Derived/Test/ToyasCard.lean, 'card_holds'). Laid BY PROGRAM, IN A SANDBOX (cutbox-door.mjs). By AI agents, Wed Nov 11 2026. No macro, syntax, notation, axiom, sorry.
-/
import Derived.Test.YtdliolbjngcgcaaGreatDoorRows
import GoSem.ClaimSeven
namespace Go.Proofs.YtdliolbjngcgcaaGreatDoor
namespace Rows

/-- THE TIED CARD OF 'quilllaw19.RulesReads'. -/
def rulesReadsCard : Claim7 := { stood := { row := rulesReadsRow, standIns := [], harness := (true, "a0b54b3e55b8dc5b54c3c2d80da1febd59aad24f783a9333d86b7a771cd17869"), looks := true }, kinds := [], alts := [], laidByText := true, laidKinds := [.data], laidTests := true, laidLooks := .later }
def RulesReadsCardSaid : Prop := Claim7.holds Tryz.pinned (.plain (OpenSpec.ofChange rulesReadsSpec)) rulesReadsCard

/-- THE SECOND FORM's CARD OF 'quilllaw19.RulesReads'. -/
def rulesReadsUptoCard : Claim7 := { stood := { row := rulesReadsUptoRow, standIns := [], harness := (true, "a0b54b3e55b8dc5b54c3c2d80da1febd59aad24f783a9333d86b7a771cd17869"), looks := true }, kinds := [], alts := [], laidByText := true, laidKinds := [.data], laidTests := true, laidLooks := .later }
def RulesReadsUptoCardSaid : Prop := Claim7.holds Tryz.pinned (.plain (OpenSpec.upto rulesReadsSpec)) rulesReadsUptoCard
end Rows
end Go.Proofs.YtdliolbjngcgcaaGreatDoor

/-
  DERIVED. GIVEN WITH THE SEED: THE CARDS: each row of YtdliolbjngcgcaaDoorRows.lean that lists a variable, with what it lists TIED to the program's text (the seventh form; the later family's looks); each row that meets fmt, with fmt's text TOLD by the authors' own Lean function (tested against real Go, not proved from fmt's source: count such statements apart). THE CARD IS WHAT COUNTS. Prove the row's statement (the work); the ties are given (YtdliolbjngcgcaaDoorTie.lean); close each card by the builder's one call (the guide's Derived/Test/ToyasCard.lean, 'card_holds'). Laid BY PROGRAM, IN A SANDBOX (cutbox-door.mjs). By AI agents, Wed Nov 11 2026. No macro, syntax, notation, axiom, sorry.
-/
import Derived.Test.YtdliolbjngcgcaaDoorRows
import GoSem.ClaimSeven
namespace Go.Proofs.YtdliolbjngcgcaaDoor
namespace Rows

/-- THE TIED CARD OF 'quilllaw19.RulesMost'. -/
def rulesMostCard : Claim7 := { stood := { row := rulesMostRow, standIns := [], harness := (true, "4a86c721c73c47db17c2502695e7b6a4eec04a91f9489f28c343294c55f62dc2"), looks := true }, kinds := [], alts := [], laidByText := true, laidKinds := [.data], laidTests := true, laidLooks := .later }
def RulesMostCardSaid : Prop := Claim7.holds Tryd.pinned (.plain (OpenSpec.ofChange rulesMostSpec)) rulesMostCard

/-- THE TIED CARD OF 'quilllaw19.RulesNames'. -/
def rulesNamesCard : Claim7 := { stood := { row := rulesNamesRow, standIns := [], harness := (true, "4a86c721c73c47db17c2502695e7b6a4eec04a91f9489f28c343294c55f62dc2"), looks := true }, kinds := [], alts := [], laidByText := true, laidKinds := [.data], laidTests := true, laidLooks := .later }
def RulesNamesCardSaid : Prop := Claim7.holds Tryd.pinned (.plain (OpenSpec.ofChange rulesNamesSpec)) rulesNamesCard

/-- THE SECOND FORM's CARD OF 'quilllaw19.RulesMost'. -/
def rulesMostUptoCard : Claim7 := { stood := { row := rulesMostUptoRow, standIns := [], harness := (true, "4a86c721c73c47db17c2502695e7b6a4eec04a91f9489f28c343294c55f62dc2"), looks := true }, kinds := [], alts := [], laidByText := true, laidKinds := [.data], laidTests := true, laidLooks := .later }
def RulesMostUptoCardSaid : Prop := Claim7.holds Tryd.pinned (.plain (OpenSpec.upto rulesMostSpec)) rulesMostUptoCard

/-- THE SECOND FORM's CARD OF 'quilllaw19.RulesNames'. -/
def rulesNamesUptoCard : Claim7 := { stood := { row := rulesNamesUptoRow, standIns := [], harness := (true, "4a86c721c73c47db17c2502695e7b6a4eec04a91f9489f28c343294c55f62dc2"), looks := true }, kinds := [], alts := [], laidByText := true, laidKinds := [.data], laidTests := true, laidLooks := .later }
def RulesNamesUptoCardSaid : Prop := Claim7.holds Tryd.pinned (.plain (OpenSpec.upto rulesNamesSpec)) rulesNamesUptoCard
end Rows
end Go.Proofs.YtdliolbjngcgcaaDoor

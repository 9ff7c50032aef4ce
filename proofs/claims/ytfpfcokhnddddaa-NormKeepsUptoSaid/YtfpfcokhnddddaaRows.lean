/-
  NARROWER THAN 'FOR EVERY INPUT', by the rows' own cells (each row's printed sentence says how): NormIs: loops · NormKeeps: loops.
  DERIVED. THE GIVEN ROWS OF THIS SEAT. 3 by the template 'for every input the law returns true; each argument reads behind the call as it read before'; 0 by the template 'total and deterministic' (their statements: YtfpfcokhnddddaaTotals.lean).
  GIVEN WITH THE SEED: the statements are not yours to turn. If you find one false, say at which input.
  Laid BY PROGRAM, IN A SANDBOX (cutbox-rows.mjs): the forced cells as the released guide's own fill.sh prints them over the translation 60111d7f00d6c3b5… (all of the seat's roots in one cut). By AI agents, Wed Nov 11 2026. No macro, syntax, notation, axiom, sorry.
-/
import Derived.Test.YtfpfcokhnddddaaChecked
import GoSem.Claim
import GoSem.ClaimJoined
import GoSem.ClaimMapViews
import Derived.JoinedTies
import Derived.KernelRfl
namespace Go.Proofs.Ytfpfcokhnddddaa
/- THE CELL 'sum', in the pinned program and in every row, IS THE sha256 OF THE DUMP (.gsa) THAT YtfpfcokhnddddaaProg.lean LOADS. Nothing in Lean hashes anything: it is a label: what it is worth is what the hold of that sum in a sandbox is worth. -/
noncomputable def Try.pinned : Pinned := { name := "ytfpfcokhnddddaa", sum := "60111d7f00d6c3b5b1c9a3cb34e6e033c55554ce3e8b4b1be6f1eb0ba2b9e235", checked := Try.checked }
namespace Rows
def none {H : Type} : Left H := { results := [], args := [] }

/-- 'quilllaw08.NormIs': WHATEVER THE INPUT: true; the input reads as it did. -/
def normIsSpec : ChangeSpec := { name := "normIs", fn := fun _ => fun
  | [d] => { results := [.lit (.bool true)], args := [d] }
  | _ => none }
def normIsRow : OpenClaim := { program := "ytfpfcokhnddddaa", sum := "60111d7f00d6c3b5b1c9a3cb34e6e033c55554ce3e8b4b1be6f1eb0ba2b9e235", func := "quill/quilllaw08.NormIs", spec := "normIs", inPlace := ["internal/bytealg.IndexByteString"], unfollowed := true, recurses := true, loops := true, apart := false }
def NormIsSaid : Prop := normIsRow.holds Try.pinned (OpenSpec.ofChange normIsSpec)

/-- ITS FALSE NEIGHBOUR: 'it returns false'. Refute it at one input. -/
def normIsWrong : ChangeSpec := { name := "normIs", fn := fun _ => fun
  | [d] => { results := [.lit (.bool false)], args := [d] }
  | _ => none }
def NormIsWrongFalsely : Prop := normIsRow.holds Try.pinned (OpenSpec.ofChange normIsWrong)

/-- 'quilllaw08.NormWords': WHATEVER THE INPUT: true; the input reads as it did. -/
def normWordsSpec : ChangeSpec := { name := "normWords", fn := fun _ => fun
  | [d1, d2] => { results := [.lit (.bool true)], args := [d1, d2] }
  | _ => none }
def normWordsRow : OpenClaim := { program := "ytfpfcokhnddddaa", sum := "60111d7f00d6c3b5b1c9a3cb34e6e033c55554ce3e8b4b1be6f1eb0ba2b9e235", func := "quill/quilllaw08.NormWords", spec := "normWords", inPlace := ["internal/bytealg.IndexByteString"], unfollowed := true, recurses := true, apart := false }
def NormWordsSaid : Prop := normWordsRow.holds Try.pinned (OpenSpec.ofChange normWordsSpec)

/-- ITS FALSE NEIGHBOUR: 'it returns false'. Refute it at one input. -/
def normWordsWrong : ChangeSpec := { name := "normWords", fn := fun _ => fun
  | [d1, d2] => { results := [.lit (.bool false)], args := [d1, d2] }
  | _ => none }
def NormWordsWrongFalsely : Prop := normWordsRow.holds Try.pinned (OpenSpec.ofChange normWordsWrong)

/-- 'quilllaw08.NormKeeps': WHATEVER THE INPUT: true; the input reads as it did. -/
def normKeepsSpec : ChangeSpec := { name := "normKeeps", fn := fun _ => fun
  | [d] => { results := [.lit (.bool true)], args := [d] }
  | _ => none }
def normKeepsRow : OpenClaim := { program := "ytfpfcokhnddddaa", sum := "60111d7f00d6c3b5b1c9a3cb34e6e033c55554ce3e8b4b1be6f1eb0ba2b9e235", func := "quill/quilllaw08.NormKeeps", spec := "normKeeps", inPlace := ["internal/bytealg.IndexByteString"], unfollowed := true, recurses := true, loops := true, apart := false }
def NormKeepsSaid : Prop := normKeepsRow.holds Try.pinned (OpenSpec.ofChange normKeepsSpec)

/-- ITS FALSE NEIGHBOUR: 'it returns false'. Refute it at one input. -/
def normKeepsWrong : ChangeSpec := { name := "normKeeps", fn := fun _ => fun
  | [d] => { results := [.lit (.bool false)], args := [d] }
  | _ => none }
def NormKeepsWrongFalsely : Prop := normKeepsRow.holds Try.pinned (OpenSpec.ofChange normKeepsWrong)

/- THE SECOND FORM. 'bulk': how many values and letters a reading holds, each counted each time it is reached (what is shared counts as often as it is met; a slice's spare places count too). A statement '..UptoSaid' is the law's where the arguments, and the package variables that the reading takes, are together of bulk at most 1048576: NARROWER than '..Said'. Prove '..Said' where nothing that the law and all that it calls make is longer than what came in: it says more and counts as full. Else prove '..UptoSaid'. A law counts once. -/
mutual
def uptoBulk {H : Type} : DataW H → Nat
  | .lit (.string bytes) => bytes.length + 1
  | .lit _ => 1
  | .nil => 1
  | .ptr d => uptoBulk d + 1
  | .slice elems spare => uptoBulkAll elems + uptoBulkAll spare + 1
  | .agg parts => uptoBulkAll parts + 1
  | .iface _ d => uptoBulk d + 1
  | .map entries => uptoBulkEntries entries + 1
  | .held _ => 1
def uptoBulkAll {H : Type} : List (DataW H) → Nat
  | [] => 0
  | d :: r => uptoBulk d + uptoBulkAll r
def uptoBulkEntries {H : Type} : List (Lit × DataW H) → Nat
  | [] => 0
  | x :: r => uptoBulkEntry x + uptoBulkEntries r
def uptoBulkEntry {H : Type} : Lit × DataW H → Nat
  | (.string bytes, d) => bytes.length + uptoBulk d + 1
  | (_, d) => uptoBulk d + 1
 end
def uptoSmall : (H : Type) → List (DataW H) → Bool := fun _ ds => decide (uptoBulkAll ds ≤ 1048576)
def OpenSpec.upto (s : _root_.Go.ChangeSpec) : _root_.Go.OpenSpec := { _root_.Go.OpenSpec.ofChange s with cond := some uptoSmall }

/-- 'quilllaw08.NormIs', WHERE WHAT IT READS IS OF BULK AT MOST 1048576: true; the input reads as it did. -/
def normIsUptoRow : OpenClaim := { program := "ytfpfcokhnddddaa", sum := "60111d7f00d6c3b5b1c9a3cb34e6e033c55554ce3e8b4b1be6f1eb0ba2b9e235", func := "quill/quilllaw08.NormIs", spec := "normIs", inPlace := ["internal/bytealg.IndexByteString"], unfollowed := true, recurses := true, loops := true, apart := false, narrowed := true }
def NormIsUptoSaid : Prop := normIsUptoRow.holds Try.pinned (OpenSpec.upto normIsSpec)

/-- 'quilllaw08.NormWords', WHERE WHAT IT READS IS OF BULK AT MOST 1048576: true; the input reads as it did. -/
def normWordsUptoRow : OpenClaim := { program := "ytfpfcokhnddddaa", sum := "60111d7f00d6c3b5b1c9a3cb34e6e033c55554ce3e8b4b1be6f1eb0ba2b9e235", func := "quill/quilllaw08.NormWords", spec := "normWords", inPlace := ["internal/bytealg.IndexByteString"], unfollowed := true, recurses := true, apart := false, narrowed := true }
def NormWordsUptoSaid : Prop := normWordsUptoRow.holds Try.pinned (OpenSpec.upto normWordsSpec)

/-- 'quilllaw08.NormKeeps', WHERE WHAT IT READS IS OF BULK AT MOST 1048576: true; the input reads as it did. -/
def normKeepsUptoRow : OpenClaim := { program := "ytfpfcokhnddddaa", sum := "60111d7f00d6c3b5b1c9a3cb34e6e033c55554ce3e8b4b1be6f1eb0ba2b9e235", func := "quill/quilllaw08.NormKeeps", spec := "normKeeps", inPlace := ["internal/bytealg.IndexByteString"], unfollowed := true, recurses := true, loops := true, apart := false, narrowed := true }
def NormKeepsUptoSaid : Prop := normKeepsUptoRow.holds Try.pinned (OpenSpec.upto normKeepsSpec)

end Rows
end Go.Proofs.Ytfpfcokhnddddaa

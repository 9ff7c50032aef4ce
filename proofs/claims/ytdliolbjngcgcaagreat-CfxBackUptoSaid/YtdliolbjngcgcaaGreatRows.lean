/-
  NARROWER THAN 'FOR EVERY INPUT', by the rows' own cells (each row's printed sentence says how): CfxBack: loops · CfxMays: loops · CfxOnes: loops.
  DERIVED. THE GIVEN ROWS OF THIS SEAT. 4 by the template 'for every input the law returns true; each argument reads behind the call as it read before'; 0 by the template 'total and deterministic' (their statements: YtdliolbjngcgcaaGreatTotals.lean).
  GIVEN WITH THE SEED: the statements are not yours to turn. If you find one false, say at which input.
  Laid BY PROGRAM, IN A SANDBOX (cutbox-rows.mjs): the forced cells as the released guide's own fill.sh prints them over the translation 00d6ff894c86c4cb… (all of the seat's roots in one cut). By AI agents, Wed Nov 11 2026. No macro, syntax, notation, axiom, sorry.
-/
import Derived.Test.YtdliolbjngcgcaaGreatChecked
import GoSem.Claim
import GoSem.ClaimJoined
import GoSem.ClaimMapViews
import Derived.JoinedTies
import Derived.KernelRfl
namespace Go.Proofs.YtdliolbjngcgcaaGreat
/- THE CELL 'sum', in the pinned program and in every row, IS THE sha256 OF THE DUMP (.gsa) THAT YtdliolbjngcgcaaGreatProg.lean LOADS. Nothing in Lean hashes anything: it is a label: what it is worth is what the hold of that sum in a sandbox is worth. -/
noncomputable def Tryz.pinned : Pinned := { name := "ytdliolbjngcgcaagreat", sum := "00d6ff894c86c4cb057ef252c8b7633c143d50b8f3c262cb43b95873bc701f91", checked := Tryz.checked }
namespace Rows
def none {H : Type} : Left H := { results := [], args := [] }

/-- 'quilllaw21.CfxReads': WHATEVER THE INPUT: true; the input reads as it did. -/
def cfxReadsSpec : ChangeSpec := { name := "cfxReads", fn := fun _ => fun
  | [d1, d2] => { results := [.lit (.bool true)], args := [d1, d2] }
  | _ => none }
def cfxReadsRow : OpenClaim := { program := "ytdliolbjngcgcaagreat", sum := "00d6ff894c86c4cb057ef252c8b7633c143d50b8f3c262cb43b95873bc701f91", func := "quill/quilllaw21.CfxReads", spec := "cfxReads", inPlace := ["internal/bytealg.IndexByteString", "internal/bytealg.IndexString", "internal/abi.NoEscape"], unfollowed := true, recurses := true, named := ["internal/bytealg.MaxLen"], apart := false }
def CfxReadsSaid : Prop := cfxReadsRow.holds Tryz.pinned (OpenSpec.ofChange cfxReadsSpec)

/-- ITS FALSE NEIGHBOUR: 'it returns false'. Refute it at one input. -/
def cfxReadsWrong : ChangeSpec := { name := "cfxReads", fn := fun _ => fun
  | [d1, d2] => { results := [.lit (.bool false)], args := [d1, d2] }
  | _ => none }
def CfxReadsWrongFalsely : Prop := cfxReadsRow.holds Tryz.pinned (OpenSpec.ofChange cfxReadsWrong)

/-- 'quilllaw21.CfxBack': WHATEVER THE INPUT: true; the input reads as it did. -/
def cfxBackSpec : ChangeSpec := { name := "cfxBack", fn := fun _ => fun
  | [d] => { results := [.lit (.bool true)], args := [d] }
  | _ => none }
def cfxBackRow : OpenClaim := { program := "ytdliolbjngcgcaagreat", sum := "00d6ff894c86c4cb057ef252c8b7633c143d50b8f3c262cb43b95873bc701f91", func := "quill/quilllaw21.CfxBack", spec := "cfxBack", inPlace := ["internal/bytealg.IndexByteString", "internal/bytealg.IndexString", "internal/abi.NoEscape"], unfollowed := true, recurses := true, named := ["internal/bytealg.MaxLen"], loops := true, apart := false }
def CfxBackSaid : Prop := cfxBackRow.holds Tryz.pinned (OpenSpec.ofChange cfxBackSpec)

/-- ITS FALSE NEIGHBOUR: 'it returns false'. Refute it at one input. -/
def cfxBackWrong : ChangeSpec := { name := "cfxBack", fn := fun _ => fun
  | [d] => { results := [.lit (.bool false)], args := [d] }
  | _ => none }
def CfxBackWrongFalsely : Prop := cfxBackRow.holds Tryz.pinned (OpenSpec.ofChange cfxBackWrong)

/-- 'quilllaw21.CfxMays': WHATEVER THE INPUT: true; the input reads as it did. -/
def cfxMaysSpec : ChangeSpec := { name := "cfxMays", fn := fun _ => fun
  | [d1, d2] => { results := [.lit (.bool true)], args := [d1, d2] }
  | _ => none }
def cfxMaysRow : OpenClaim := { program := "ytdliolbjngcgcaagreat", sum := "00d6ff894c86c4cb057ef252c8b7633c143d50b8f3c262cb43b95873bc701f91", func := "quill/quilllaw21.CfxMays", spec := "cfxMays", inPlace := ["internal/bytealg.IndexByteString", "internal/bytealg.IndexString", "internal/abi.NoEscape"], unfollowed := true, recurses := true, named := ["internal/bytealg.MaxLen"], loops := true, apart := false }
def CfxMaysSaid : Prop := cfxMaysRow.holds Tryz.pinned (OpenSpec.ofChange cfxMaysSpec)

/-- ITS FALSE NEIGHBOUR: 'it returns false'. Refute it at one input. -/
def cfxMaysWrong : ChangeSpec := { name := "cfxMays", fn := fun _ => fun
  | [d1, d2] => { results := [.lit (.bool false)], args := [d1, d2] }
  | _ => none }
def CfxMaysWrongFalsely : Prop := cfxMaysRow.holds Tryz.pinned (OpenSpec.ofChange cfxMaysWrong)

/-- 'quilllaw21.CfxOnes': WHATEVER THE INPUT: true; the input reads as it did. -/
def cfxOnesSpec : ChangeSpec := { name := "cfxOnes", fn := fun _ => fun
  | [d1, d2] => { results := [.lit (.bool true)], args := [d1, d2] }
  | _ => none }
def cfxOnesRow : OpenClaim := { program := "ytdliolbjngcgcaagreat", sum := "00d6ff894c86c4cb057ef252c8b7633c143d50b8f3c262cb43b95873bc701f91", func := "quill/quilllaw21.CfxOnes", spec := "cfxOnes", inPlace := ["internal/bytealg.IndexByteString", "internal/bytealg.IndexString", "internal/abi.NoEscape"], unfollowed := true, recurses := true, named := ["internal/bytealg.MaxLen"], loops := true, apart := false }
def CfxOnesSaid : Prop := cfxOnesRow.holds Tryz.pinned (OpenSpec.ofChange cfxOnesSpec)

/-- ITS FALSE NEIGHBOUR: 'it returns false'. Refute it at one input. -/
def cfxOnesWrong : ChangeSpec := { name := "cfxOnes", fn := fun _ => fun
  | [d1, d2] => { results := [.lit (.bool false)], args := [d1, d2] }
  | _ => none }
def CfxOnesWrongFalsely : Prop := cfxOnesRow.holds Tryz.pinned (OpenSpec.ofChange cfxOnesWrong)

/- THE SECOND FORM. 'bulk': how many values and letters a reading holds, each counted each time it is reached (what is shared counts as often as it is met; a slice's spare places count too). A statement '..UptoSaid' is the law's where the arguments, and the package variables that the reading takes, are together of bulk at most 1048576: NARROWER than '..Said'. Prove '..Said' where nothing that the law and all that it calls make is longer than what came in: it says more and counts as full. Else prove '..UptoSaid'. A law counts once. -/
mutual
def uptoBulk {H : Type} : DataW H → Nat
  | .lit (.string bytes) => bytes.length + 1
  | .lit _ => 1
  | .nil => 1
  | .ptr d => uptoBulk d + 1
  | .slice elems spare => uptoBulkAll elems + uptoBulkAll spare + 1
  | .agg parts => uptoBulkAll parts + 1
  | .iface _ d => uptoBulk d + 1
  | .map entries => uptoBulkEntries entries + 1
  | .held _ => 1
def uptoBulkAll {H : Type} : List (DataW H) → Nat
  | [] => 0
  | d :: r => uptoBulk d + uptoBulkAll r
def uptoBulkEntries {H : Type} : List (Lit × DataW H) → Nat
  | [] => 0
  | x :: r => uptoBulkEntry x + uptoBulkEntries r
def uptoBulkEntry {H : Type} : Lit × DataW H → Nat
  | (.string bytes, d) => bytes.length + uptoBulk d + 1
  | (_, d) => uptoBulk d + 1
 end
def uptoSmall : (H : Type) → List (DataW H) → Bool := fun _ ds => decide (uptoBulkAll ds ≤ 1048576)
def OpenSpec.upto (s : _root_.Go.ChangeSpec) : _root_.Go.OpenSpec := { _root_.Go.OpenSpec.ofChange s with cond := some uptoSmall }

/-- 'quilllaw21.CfxReads', WHERE WHAT IT READS IS OF BULK AT MOST 1048576: true; the input reads as it did. -/
def cfxReadsUptoRow : OpenClaim := { program := "ytdliolbjngcgcaagreat", sum := "00d6ff894c86c4cb057ef252c8b7633c143d50b8f3c262cb43b95873bc701f91", func := "quill/quilllaw21.CfxReads", spec := "cfxReads", inPlace := ["internal/bytealg.IndexByteString", "internal/bytealg.IndexString", "internal/abi.NoEscape"], unfollowed := true, recurses := true, named := ["internal/bytealg.MaxLen"], apart := false, narrowed := true }
def CfxReadsUptoSaid : Prop := cfxReadsUptoRow.holds Tryz.pinned (OpenSpec.upto cfxReadsSpec)

/-- 'quilllaw21.CfxBack', WHERE WHAT IT READS IS OF BULK AT MOST 1048576: true; the input reads as it did. -/
def cfxBackUptoRow : OpenClaim := { program := "ytdliolbjngcgcaagreat", sum := "00d6ff894c86c4cb057ef252c8b7633c143d50b8f3c262cb43b95873bc701f91", func := "quill/quilllaw21.CfxBack", spec := "cfxBack", inPlace := ["internal/bytealg.IndexByteString", "internal/bytealg.IndexString", "internal/abi.NoEscape"], unfollowed := true, recurses := true, named := ["internal/bytealg.MaxLen"], loops := true, apart := false, narrowed := true }
def CfxBackUptoSaid : Prop := cfxBackUptoRow.holds Tryz.pinned (OpenSpec.upto cfxBackSpec)

/-- 'quilllaw21.CfxMays', WHERE WHAT IT READS IS OF BULK AT MOST 1048576: true; the input reads as it did. -/
def cfxMaysUptoRow : OpenClaim := { program := "ytdliolbjngcgcaagreat", sum := "00d6ff894c86c4cb057ef252c8b7633c143d50b8f3c262cb43b95873bc701f91", func := "quill/quilllaw21.CfxMays", spec := "cfxMays", inPlace := ["internal/bytealg.IndexByteString", "internal/bytealg.IndexString", "internal/abi.NoEscape"], unfollowed := true, recurses := true, named := ["internal/bytealg.MaxLen"], loops := true, apart := false, narrowed := true }
def CfxMaysUptoSaid : Prop := cfxMaysUptoRow.holds Tryz.pinned (OpenSpec.upto cfxMaysSpec)

/-- 'quilllaw21.CfxOnes', WHERE WHAT IT READS IS OF BULK AT MOST 1048576: true; the input reads as it did. -/
def cfxOnesUptoRow : OpenClaim := { program := "ytdliolbjngcgcaagreat", sum := "00d6ff894c86c4cb057ef252c8b7633c143d50b8f3c262cb43b95873bc701f91", func := "quill/quilllaw21.CfxOnes", spec := "cfxOnes", inPlace := ["internal/bytealg.IndexByteString", "internal/bytealg.IndexString", "internal/abi.NoEscape"], unfollowed := true, recurses := true, named := ["internal/bytealg.MaxLen"], loops := true, apart := false, narrowed := true }
def CfxOnesUptoSaid : Prop := cfxOnesUptoRow.holds Tryz.pinned (OpenSpec.upto cfxOnesSpec)

end Rows
end Go.Proofs.YtdliolbjngcgcaaGreat

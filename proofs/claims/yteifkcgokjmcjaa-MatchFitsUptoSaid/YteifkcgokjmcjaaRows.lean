/-
  NARROWER THAN 'FOR EVERY INPUT', by the rows' own cells (each row's printed sentence says how): MatchMoves: loops · NullIs: loops · NullTwos: loops · MatchEnds: loops · MatchParts: loops · MatchFits: loops · NullWays: loops.
  DERIVED. THE GIVEN ROWS OF THIS SEAT. 11 by the template 'for every input the law returns true; each argument reads behind the call as it read before'; 0 by the template 'total and deterministic' (their statements: YteifkcgokjmcjaaTotals.lean).
  GIVEN WITH THE SEED: the statements are not yours to turn. If you find one false, say at which input.
  Laid BY PROGRAM, IN A SANDBOX (cutbox-rows.mjs): the forced cells as the released guide's own fill.sh prints them over the translation 11f4195ae08da5c0… (all of the seat's roots in one cut). By AI agents, Wed Nov 11 2026. No macro, syntax, notation, axiom, sorry.
-/
import Derived.Test.YteifkcgokjmcjaaChecked
import GoSem.Claim
import GoSem.ClaimJoined
import GoSem.ClaimMapViews
import Derived.JoinedTies
import Derived.KernelRfl
namespace Go.Proofs.Yteifkcgokjmcjaa
/- THE CELL 'sum', in the pinned program and in every row, IS THE sha256 OF THE DUMP (.gsa) THAT YteifkcgokjmcjaaProg.lean LOADS. Nothing in Lean hashes anything: it is a label: what it is worth is what the hold of that sum in a sandbox is worth. -/
noncomputable def Try.pinned : Pinned := { name := "yteifkcgokjmcjaa", sum := "11f4195ae08da5c0133149cf8eb5fe4fdbff32825e02134e40684b8209af0829", checked := Try.checked }
namespace Rows
def none {H : Type} : Left H := { results := [], args := [] }

/-- 'quilllaw06.ReadIs': WHATEVER THE INPUT: true; the input reads as it did. -/
def readIsSpec : ChangeSpec := { name := "readIs", fn := fun _ => fun
  | [d] => { results := [.lit (.bool true)], args := [d] }
  | _ => none }
def readIsRow : OpenClaim := { program := "yteifkcgokjmcjaa", sum := "11f4195ae08da5c0133149cf8eb5fe4fdbff32825e02134e40684b8209af0829", func := "quill/quilllaw06.ReadIs", spec := "readIs", inPlace := ["internal/bytealg.IndexByteString"], unfollowed := true, recurses := true, apart := false }
def ReadIsSaid : Prop := readIsRow.holds Try.pinned (OpenSpec.ofChange readIsSpec)

/-- ITS FALSE NEIGHBOUR: 'it returns false'. Refute it at one input. -/
def readIsWrong : ChangeSpec := { name := "readIs", fn := fun _ => fun
  | [d] => { results := [.lit (.bool false)], args := [d] }
  | _ => none }
def ReadIsWrongFalsely : Prop := readIsRow.holds Try.pinned (OpenSpec.ofChange readIsWrong)

/-- 'quilllaw06.ReadMost': WHATEVER THE INPUT: true; the input reads as it did. -/
def readMostSpec : ChangeSpec := { name := "readMost", fn := fun _ => fun
  | [d1, d2] => { results := [.lit (.bool true)], args := [d1, d2] }
  | _ => none }
def readMostRow : OpenClaim := { program := "yteifkcgokjmcjaa", sum := "11f4195ae08da5c0133149cf8eb5fe4fdbff32825e02134e40684b8209af0829", func := "quill/quilllaw06.ReadMost", spec := "readMost", inPlace := ["internal/bytealg.IndexByteString"], unfollowed := true, recurses := true, apart := false }
def ReadMostSaid : Prop := readMostRow.holds Try.pinned (OpenSpec.ofChange readMostSpec)

/-- ITS FALSE NEIGHBOUR: 'it returns false'. Refute it at one input. -/
def readMostWrong : ChangeSpec := { name := "readMost", fn := fun _ => fun
  | [d1, d2] => { results := [.lit (.bool false)], args := [d1, d2] }
  | _ => none }
def ReadMostWrongFalsely : Prop := readMostRow.holds Try.pinned (OpenSpec.ofChange readMostWrong)

/-- 'quilllaw06.ReadRound': WHATEVER THE INPUT: true; the input reads as it did. -/
def readRoundSpec : ChangeSpec := { name := "readRound", fn := fun _ => fun
  | [d1, d2] => { results := [.lit (.bool true)], args := [d1, d2] }
  | _ => none }
def readRoundRow : OpenClaim := { program := "yteifkcgokjmcjaa", sum := "11f4195ae08da5c0133149cf8eb5fe4fdbff32825e02134e40684b8209af0829", func := "quill/quilllaw06.ReadRound", spec := "readRound", inPlace := ["internal/bytealg.IndexByteString"], unfollowed := true, recurses := true, apart := false }
def ReadRoundSaid : Prop := readRoundRow.holds Try.pinned (OpenSpec.ofChange readRoundSpec)

/-- ITS FALSE NEIGHBOUR: 'it returns false'. Refute it at one input. -/
def readRoundWrong : ChangeSpec := { name := "readRound", fn := fun _ => fun
  | [d1, d2] => { results := [.lit (.bool false)], args := [d1, d2] }
  | _ => none }
def ReadRoundWrongFalsely : Prop := readRoundRow.holds Try.pinned (OpenSpec.ofChange readRoundWrong)

/-- 'quilllaw06.ReadAll': WHATEVER THE INPUT: true; the input reads as it did. -/
def readAllSpec : ChangeSpec := { name := "readAll", fn := fun _ => fun
  | [d] => { results := [.lit (.bool true)], args := [d] }
  | _ => none }
def readAllRow : OpenClaim := { program := "yteifkcgokjmcjaa", sum := "11f4195ae08da5c0133149cf8eb5fe4fdbff32825e02134e40684b8209af0829", func := "quill/quilllaw06.ReadAll", spec := "readAll", inPlace := ["internal/bytealg.IndexByteString"], unfollowed := true, recurses := true, apart := false }
def ReadAllSaid : Prop := readAllRow.holds Try.pinned (OpenSpec.ofChange readAllSpec)

/-- ITS FALSE NEIGHBOUR: 'it returns false'. Refute it at one input. -/
def readAllWrong : ChangeSpec := { name := "readAll", fn := fun _ => fun
  | [d] => { results := [.lit (.bool false)], args := [d] }
  | _ => none }
def ReadAllWrongFalsely : Prop := readAllRow.holds Try.pinned (OpenSpec.ofChange readAllWrong)

/-- 'quilllaw10.MatchMoves': WHATEVER THE INPUT: true; the input reads as it did. -/
def matchMovesSpec : ChangeSpec := { name := "matchMoves", fn := fun _ => fun
  | [d1, d2, d3] => { results := [.lit (.bool true)], args := [d1, d2, d3] }
  | _ => none }
def matchMovesRow : OpenClaim := { program := "yteifkcgokjmcjaa", sum := "11f4195ae08da5c0133149cf8eb5fe4fdbff32825e02134e40684b8209af0829", func := "quill/quilllaw10.MatchMoves", spec := "matchMoves", inPlace := ["internal/bytealg.IndexByteString"], unfollowed := true, recurses := true, loops := true, apart := false }
def MatchMovesSaid : Prop := matchMovesRow.holds Try.pinned (OpenSpec.ofChange matchMovesSpec)

/-- ITS FALSE NEIGHBOUR: 'it returns false'. Refute it at one input. -/
def matchMovesWrong : ChangeSpec := { name := "matchMoves", fn := fun _ => fun
  | [d1, d2, d3] => { results := [.lit (.bool false)], args := [d1, d2, d3] }
  | _ => none }
def MatchMovesWrongFalsely : Prop := matchMovesRow.holds Try.pinned (OpenSpec.ofChange matchMovesWrong)

/-- 'quilllaw07.NullIs': WHATEVER THE INPUT: true; the input reads as it did. -/
def nullIsSpec : ChangeSpec := { name := "nullIs", fn := fun _ => fun
  | [d] => { results := [.lit (.bool true)], args := [d] }
  | _ => none }
def nullIsRow : OpenClaim := { program := "yteifkcgokjmcjaa", sum := "11f4195ae08da5c0133149cf8eb5fe4fdbff32825e02134e40684b8209af0829", func := "quill/quilllaw07.NullIs", spec := "nullIs", inPlace := ["internal/bytealg.IndexByteString"], unfollowed := true, recurses := true, loops := true, apart := false }
def NullIsSaid : Prop := nullIsRow.holds Try.pinned (OpenSpec.ofChange nullIsSpec)

/-- ITS FALSE NEIGHBOUR: 'it returns false'. Refute it at one input. -/
def nullIsWrong : ChangeSpec := { name := "nullIs", fn := fun _ => fun
  | [d] => { results := [.lit (.bool false)], args := [d] }
  | _ => none }
def NullIsWrongFalsely : Prop := nullIsRow.holds Try.pinned (OpenSpec.ofChange nullIsWrong)

/-- 'quilllaw07.NullTwos': WHATEVER THE INPUT: true; the input reads as it did. -/
def nullTwosSpec : ChangeSpec := { name := "nullTwos", fn := fun _ => fun
  | [d1, d2] => { results := [.lit (.bool true)], args := [d1, d2] }
  | _ => none }
def nullTwosRow : OpenClaim := { program := "yteifkcgokjmcjaa", sum := "11f4195ae08da5c0133149cf8eb5fe4fdbff32825e02134e40684b8209af0829", func := "quill/quilllaw07.NullTwos", spec := "nullTwos", inPlace := ["internal/bytealg.IndexByteString"], unfollowed := true, recurses := true, loops := true, apart := false }
def NullTwosSaid : Prop := nullTwosRow.holds Try.pinned (OpenSpec.ofChange nullTwosSpec)

/-- ITS FALSE NEIGHBOUR: 'it returns false'. Refute it at one input. -/
def nullTwosWrong : ChangeSpec := { name := "nullTwos", fn := fun _ => fun
  | [d1, d2] => { results := [.lit (.bool false)], args := [d1, d2] }
  | _ => none }
def NullTwosWrongFalsely : Prop := nullTwosRow.holds Try.pinned (OpenSpec.ofChange nullTwosWrong)

/-- 'quilllaw10.MatchEnds': WHATEVER THE INPUT: true; the input reads as it did. -/
def matchEndsSpec : ChangeSpec := { name := "matchEnds", fn := fun _ => fun
  | [d1, d2, d3] => { results := [.lit (.bool true)], args := [d1, d2, d3] }
  | _ => none }
def matchEndsRow : OpenClaim := { program := "yteifkcgokjmcjaa", sum := "11f4195ae08da5c0133149cf8eb5fe4fdbff32825e02134e40684b8209af0829", func := "quill/quilllaw10.MatchEnds", spec := "matchEnds", inPlace := ["internal/bytealg.IndexByteString"], unfollowed := true, recurses := true, loops := true, apart := false }
def MatchEndsSaid : Prop := matchEndsRow.holds Try.pinned (OpenSpec.ofChange matchEndsSpec)

/-- ITS FALSE NEIGHBOUR: 'it returns false'. Refute it at one input. -/
def matchEndsWrong : ChangeSpec := { name := "matchEnds", fn := fun _ => fun
  | [d1, d2, d3] => { results := [.lit (.bool false)], args := [d1, d2, d3] }
  | _ => none }
def MatchEndsWrongFalsely : Prop := matchEndsRow.holds Try.pinned (OpenSpec.ofChange matchEndsWrong)

/-- 'quilllaw10.MatchParts': WHATEVER THE INPUT: true; the input reads as it did. -/
def matchPartsSpec : ChangeSpec := { name := "matchParts", fn := fun _ => fun
  | [d1, d2, d3] => { results := [.lit (.bool true)], args := [d1, d2, d3] }
  | _ => none }
def matchPartsRow : OpenClaim := { program := "yteifkcgokjmcjaa", sum := "11f4195ae08da5c0133149cf8eb5fe4fdbff32825e02134e40684b8209af0829", func := "quill/quilllaw10.MatchParts", spec := "matchParts", inPlace := ["internal/bytealg.IndexByteString"], unfollowed := true, recurses := true, loops := true, apart := false }
def MatchPartsSaid : Prop := matchPartsRow.holds Try.pinned (OpenSpec.ofChange matchPartsSpec)

/-- ITS FALSE NEIGHBOUR: 'it returns false'. Refute it at one input. -/
def matchPartsWrong : ChangeSpec := { name := "matchParts", fn := fun _ => fun
  | [d1, d2, d3] => { results := [.lit (.bool false)], args := [d1, d2, d3] }
  | _ => none }
def MatchPartsWrongFalsely : Prop := matchPartsRow.holds Try.pinned (OpenSpec.ofChange matchPartsWrong)

/-- 'quilllaw10.MatchFits': WHATEVER THE INPUT: true; the input reads as it did. -/
def matchFitsSpec : ChangeSpec := { name := "matchFits", fn := fun _ => fun
  | [d1, d2, d3] => { results := [.lit (.bool true)], args := [d1, d2, d3] }
  | _ => none }
def matchFitsRow : OpenClaim := { program := "yteifkcgokjmcjaa", sum := "11f4195ae08da5c0133149cf8eb5fe4fdbff32825e02134e40684b8209af0829", func := "quill/quilllaw10.MatchFits", spec := "matchFits", inPlace := ["internal/bytealg.IndexByteString"], unfollowed := true, recurses := true, loops := true, apart := false }
def MatchFitsSaid : Prop := matchFitsRow.holds Try.pinned (OpenSpec.ofChange matchFitsSpec)

/-- ITS FALSE NEIGHBOUR: 'it returns false'. Refute it at one input. -/
def matchFitsWrong : ChangeSpec := { name := "matchFits", fn := fun _ => fun
  | [d1, d2, d3] => { results := [.lit (.bool false)], args := [d1, d2, d3] }
  | _ => none }
def MatchFitsWrongFalsely : Prop := matchFitsRow.holds Try.pinned (OpenSpec.ofChange matchFitsWrong)

/-- 'quilllaw07.NullWays': WHATEVER THE INPUT: true; the input reads as it did. -/
def nullWaysSpec : ChangeSpec := { name := "nullWays", fn := fun _ => fun
  | [d] => { results := [.lit (.bool true)], args := [d] }
  | _ => none }
def nullWaysRow : OpenClaim := { program := "yteifkcgokjmcjaa", sum := "11f4195ae08da5c0133149cf8eb5fe4fdbff32825e02134e40684b8209af0829", func := "quill/quilllaw07.NullWays", spec := "nullWays", inPlace := ["internal/bytealg.IndexByteString"], unfollowed := true, recurses := true, loops := true, apart := false }
def NullWaysSaid : Prop := nullWaysRow.holds Try.pinned (OpenSpec.ofChange nullWaysSpec)

/-- ITS FALSE NEIGHBOUR: 'it returns false'. Refute it at one input. -/
def nullWaysWrong : ChangeSpec := { name := "nullWays", fn := fun _ => fun
  | [d] => { results := [.lit (.bool false)], args := [d] }
  | _ => none }
def NullWaysWrongFalsely : Prop := nullWaysRow.holds Try.pinned (OpenSpec.ofChange nullWaysWrong)

/- THE SECOND FORM. 'bulk': how many values and letters a reading holds, each counted each time it is reached (what is shared counts as often as it is met; a slice's spare places count too). A statement '..UptoSaid' is the law's where the arguments, and the package variables that the reading takes, are together of bulk at most 1048576: NARROWER than '..Said'. Prove '..Said' where nothing that the law and all that it calls make is longer than what came in: it says more and counts as full. Else prove '..UptoSaid'. A law counts once. -/
mutual
def uptoBulk {H : Type} : DataW H → Nat
  | .lit (.string bytes) => bytes.length + 1
  | .lit _ => 1
  | .nil => 1
  | .ptr d => uptoBulk d + 1
  | .slice elems spare => uptoBulkAll elems + uptoBulkAll spare + 1
  | .agg parts => uptoBulkAll parts + 1
  | .iface _ d => uptoBulk d + 1
  | .map entries => uptoBulkEntries entries + 1
  | .held _ => 1
def uptoBulkAll {H : Type} : List (DataW H) → Nat
  | [] => 0
  | d :: r => uptoBulk d + uptoBulkAll r
def uptoBulkEntries {H : Type} : List (Lit × DataW H) → Nat
  | [] => 0
  | x :: r => uptoBulkEntry x + uptoBulkEntries r
def uptoBulkEntry {H : Type} : Lit × DataW H → Nat
  | (.string bytes, d) => bytes.length + uptoBulk d + 1
  | (_, d) => uptoBulk d + 1
 end
def uptoSmall : (H : Type) → List (DataW H) → Bool := fun _ ds => decide (uptoBulkAll ds ≤ 1048576)
def OpenSpec.upto (s : _root_.Go.ChangeSpec) : _root_.Go.OpenSpec := { _root_.Go.OpenSpec.ofChange s with cond := some uptoSmall }

/-- 'quilllaw06.ReadIs', WHERE WHAT IT READS IS OF BULK AT MOST 1048576: true; the input reads as it did. -/
def readIsUptoRow : OpenClaim := { program := "yteifkcgokjmcjaa", sum := "11f4195ae08da5c0133149cf8eb5fe4fdbff32825e02134e40684b8209af0829", func := "quill/quilllaw06.ReadIs", spec := "readIs", inPlace := ["internal/bytealg.IndexByteString"], unfollowed := true, recurses := true, apart := false, narrowed := true }
def ReadIsUptoSaid : Prop := readIsUptoRow.holds Try.pinned (OpenSpec.upto readIsSpec)

/-- 'quilllaw06.ReadMost', WHERE WHAT IT READS IS OF BULK AT MOST 1048576: true; the input reads as it did. -/
def readMostUptoRow : OpenClaim := { program := "yteifkcgokjmcjaa", sum := "11f4195ae08da5c0133149cf8eb5fe4fdbff32825e02134e40684b8209af0829", func := "quill/quilllaw06.ReadMost", spec := "readMost", inPlace := ["internal/bytealg.IndexByteString"], unfollowed := true, recurses := true, apart := false, narrowed := true }
def ReadMostUptoSaid : Prop := readMostUptoRow.holds Try.pinned (OpenSpec.upto readMostSpec)

/-- 'quilllaw06.ReadRound', WHERE WHAT IT READS IS OF BULK AT MOST 1048576: true; the input reads as it did. -/
def readRoundUptoRow : OpenClaim := { program := "yteifkcgokjmcjaa", sum := "11f4195ae08da5c0133149cf8eb5fe4fdbff32825e02134e40684b8209af0829", func := "quill/quilllaw06.ReadRound", spec := "readRound", inPlace := ["internal/bytealg.IndexByteString"], unfollowed := true, recurses := true, apart := false, narrowed := true }
def ReadRoundUptoSaid : Prop := readRoundUptoRow.holds Try.pinned (OpenSpec.upto readRoundSpec)

/-- 'quilllaw06.ReadAll', WHERE WHAT IT READS IS OF BULK AT MOST 1048576: true; the input reads as it did. -/
def readAllUptoRow : OpenClaim := { program := "yteifkcgokjmcjaa", sum := "11f4195ae08da5c0133149cf8eb5fe4fdbff32825e02134e40684b8209af0829", func := "quill/quilllaw06.ReadAll", spec := "readAll", inPlace := ["internal/bytealg.IndexByteString"], unfollowed := true, recurses := true, apart := false, narrowed := true }
def ReadAllUptoSaid : Prop := readAllUptoRow.holds Try.pinned (OpenSpec.upto readAllSpec)

/-- 'quilllaw10.MatchMoves', WHERE WHAT IT READS IS OF BULK AT MOST 1048576: true; the input reads as it did. -/
def matchMovesUptoRow : OpenClaim := { program := "yteifkcgokjmcjaa", sum := "11f4195ae08da5c0133149cf8eb5fe4fdbff32825e02134e40684b8209af0829", func := "quill/quilllaw10.MatchMoves", spec := "matchMoves", inPlace := ["internal/bytealg.IndexByteString"], unfollowed := true, recurses := true, loops := true, apart := false, narrowed := true }
def MatchMovesUptoSaid : Prop := matchMovesUptoRow.holds Try.pinned (OpenSpec.upto matchMovesSpec)

/-- 'quilllaw07.NullIs', WHERE WHAT IT READS IS OF BULK AT MOST 1048576: true; the input reads as it did. -/
def nullIsUptoRow : OpenClaim := { program := "yteifkcgokjmcjaa", sum := "11f4195ae08da5c0133149cf8eb5fe4fdbff32825e02134e40684b8209af0829", func := "quill/quilllaw07.NullIs", spec := "nullIs", inPlace := ["internal/bytealg.IndexByteString"], unfollowed := true, recurses := true, loops := true, apart := false, narrowed := true }
def NullIsUptoSaid : Prop := nullIsUptoRow.holds Try.pinned (OpenSpec.upto nullIsSpec)

/-- 'quilllaw07.NullTwos', WHERE WHAT IT READS IS OF BULK AT MOST 1048576: true; the input reads as it did. -/
def nullTwosUptoRow : OpenClaim := { program := "yteifkcgokjmcjaa", sum := "11f4195ae08da5c0133149cf8eb5fe4fdbff32825e02134e40684b8209af0829", func := "quill/quilllaw07.NullTwos", spec := "nullTwos", inPlace := ["internal/bytealg.IndexByteString"], unfollowed := true, recurses := true, loops := true, apart := false, narrowed := true }
def NullTwosUptoSaid : Prop := nullTwosUptoRow.holds Try.pinned (OpenSpec.upto nullTwosSpec)

/-- 'quilllaw10.MatchEnds', WHERE WHAT IT READS IS OF BULK AT MOST 1048576: true; the input reads as it did. -/
def matchEndsUptoRow : OpenClaim := { program := "yteifkcgokjmcjaa", sum := "11f4195ae08da5c0133149cf8eb5fe4fdbff32825e02134e40684b8209af0829", func := "quill/quilllaw10.MatchEnds", spec := "matchEnds", inPlace := ["internal/bytealg.IndexByteString"], unfollowed := true, recurses := true, loops := true, apart := false, narrowed := true }
def MatchEndsUptoSaid : Prop := matchEndsUptoRow.holds Try.pinned (OpenSpec.upto matchEndsSpec)

/-- 'quilllaw10.MatchParts', WHERE WHAT IT READS IS OF BULK AT MOST 1048576: true; the input reads as it did. -/
def matchPartsUptoRow : OpenClaim := { program := "yteifkcgokjmcjaa", sum := "11f4195ae08da5c0133149cf8eb5fe4fdbff32825e02134e40684b8209af0829", func := "quill/quilllaw10.MatchParts", spec := "matchParts", inPlace := ["internal/bytealg.IndexByteString"], unfollowed := true, recurses := true, loops := true, apart := false, narrowed := true }
def MatchPartsUptoSaid : Prop := matchPartsUptoRow.holds Try.pinned (OpenSpec.upto matchPartsSpec)

/-- 'quilllaw10.MatchFits', WHERE WHAT IT READS IS OF BULK AT MOST 1048576: true; the input reads as it did. -/
def matchFitsUptoRow : OpenClaim := { program := "yteifkcgokjmcjaa", sum := "11f4195ae08da5c0133149cf8eb5fe4fdbff32825e02134e40684b8209af0829", func := "quill/quilllaw10.MatchFits", spec := "matchFits", inPlace := ["internal/bytealg.IndexByteString"], unfollowed := true, recurses := true, loops := true, apart := false, narrowed := true }
def MatchFitsUptoSaid : Prop := matchFitsUptoRow.holds Try.pinned (OpenSpec.upto matchFitsSpec)

/-- 'quilllaw07.NullWays', WHERE WHAT IT READS IS OF BULK AT MOST 1048576: true; the input reads as it did. -/
def nullWaysUptoRow : OpenClaim := { program := "yteifkcgokjmcjaa", sum := "11f4195ae08da5c0133149cf8eb5fe4fdbff32825e02134e40684b8209af0829", func := "quill/quilllaw07.NullWays", spec := "nullWays", inPlace := ["internal/bytealg.IndexByteString"], unfollowed := true, recurses := true, loops := true, apart := false, narrowed := true }
def NullWaysUptoSaid : Prop := nullWaysUptoRow.holds Try.pinned (OpenSpec.upto nullWaysSpec)

end Rows
end Go.Proofs.Yteifkcgokjmcjaa

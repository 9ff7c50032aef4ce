/-
  NARROWER THAN 'FOR EVERY INPUT', by the rows' own cells (each row's printed sentence says how): OrderTwo: loops · OrderThree: loops · OrderAgain: loops · OrderSorts: loops.
  DERIVED. THE GIVEN ROWS OF THIS SEAT. 4 by the template 'for every input the law returns true; each argument reads behind the call as it read before'; 0 by the template 'total and deterministic' (their statements: YtbpkppidbdhopaaTotals.lean).
  GIVEN WITH THE SEED: the statements are not yours to turn. If you find one false, say at which input.
  Laid BY PROGRAM, IN A SANDBOX (cutbox-rows.mjs): the forced cells as the released guide's own fill.sh prints them over the translation 9c61c02d93bea2eb… (all of the seat's roots in one cut). By AI agents, Wed Nov 11 2026. No macro, syntax, notation, axiom, sorry.
-/
import Derived.Test.YtbpkppidbdhopaaChecked
import GoSem.Claim
import GoSem.ClaimJoined
import GoSem.ClaimMapViews
import Derived.JoinedTies
import Derived.KernelRfl
namespace Go.Proofs.Ytbpkppidbdhopaa
/- THE CELL 'sum', in the pinned program and in every row, IS THE sha256 OF THE DUMP (.gsa) THAT YtbpkppidbdhopaaProg.lean LOADS. Nothing in Lean hashes anything: it is a label: what it is worth is what the hold of that sum in a sandbox is worth. -/
noncomputable def Try.pinned : Pinned := { name := "ytbpkppidbdhopaa", sum := "9c61c02d93bea2ebeb90e3da699e52b769d40861b780f1104415fc9820c3c1dd", checked := Try.checked }
namespace Rows
def none {H : Type} : Left H := { results := [], args := [] }

/-- 'quilllaw04.OrderTwo': WHATEVER THE INPUT: true; the input reads as it did. -/
def orderTwoSpec : ChangeSpec := { name := "orderTwo", fn := fun _ => fun
  | [d1, d2] => { results := [.lit (.bool true)], args := [d1, d2] }
  | _ => none }
def orderTwoRow : OpenClaim := { program := "ytbpkppidbdhopaa", sum := "9c61c02d93bea2ebeb90e3da699e52b769d40861b780f1104415fc9820c3c1dd", func := "quill/quilllaw04.OrderTwo", spec := "orderTwo", unfollowed := true, recurses := true, loops := true, apart := false }
def OrderTwoSaid : Prop := orderTwoRow.holds Try.pinned (OpenSpec.ofChange orderTwoSpec)

/-- ITS FALSE NEIGHBOUR: 'it returns false'. Refute it at one input. -/
def orderTwoWrong : ChangeSpec := { name := "orderTwo", fn := fun _ => fun
  | [d1, d2] => { results := [.lit (.bool false)], args := [d1, d2] }
  | _ => none }
def OrderTwoWrongFalsely : Prop := orderTwoRow.holds Try.pinned (OpenSpec.ofChange orderTwoWrong)

/-- 'quilllaw04.OrderThree': WHATEVER THE INPUT: true; the input reads as it did. -/
def orderThreeSpec : ChangeSpec := { name := "orderThree", fn := fun _ => fun
  | [d1, d2, d3] => { results := [.lit (.bool true)], args := [d1, d2, d3] }
  | _ => none }
def orderThreeRow : OpenClaim := { program := "ytbpkppidbdhopaa", sum := "9c61c02d93bea2ebeb90e3da699e52b769d40861b780f1104415fc9820c3c1dd", func := "quill/quilllaw04.OrderThree", spec := "orderThree", unfollowed := true, recurses := true, loops := true, apart := false }
def OrderThreeSaid : Prop := orderThreeRow.holds Try.pinned (OpenSpec.ofChange orderThreeSpec)

/-- ITS FALSE NEIGHBOUR: 'it returns false'. Refute it at one input. -/
def orderThreeWrong : ChangeSpec := { name := "orderThree", fn := fun _ => fun
  | [d1, d2, d3] => { results := [.lit (.bool false)], args := [d1, d2, d3] }
  | _ => none }
def OrderThreeWrongFalsely : Prop := orderThreeRow.holds Try.pinned (OpenSpec.ofChange orderThreeWrong)

/-- 'quilllaw04.OrderAgain': WHATEVER THE INPUT: true; the input reads as it did. -/
def orderAgainSpec : ChangeSpec := { name := "orderAgain", fn := fun _ => fun
  | [d] => { results := [.lit (.bool true)], args := [d] }
  | _ => none }
def orderAgainRow : OpenClaim := { program := "ytbpkppidbdhopaa", sum := "9c61c02d93bea2ebeb90e3da699e52b769d40861b780f1104415fc9820c3c1dd", func := "quill/quilllaw04.OrderAgain", spec := "orderAgain", unfollowed := true, recurses := true, loops := true, apart := false }
def OrderAgainSaid : Prop := orderAgainRow.holds Try.pinned (OpenSpec.ofChange orderAgainSpec)

/-- ITS FALSE NEIGHBOUR: 'it returns false'. Refute it at one input. -/
def orderAgainWrong : ChangeSpec := { name := "orderAgain", fn := fun _ => fun
  | [d] => { results := [.lit (.bool false)], args := [d] }
  | _ => none }
def OrderAgainWrongFalsely : Prop := orderAgainRow.holds Try.pinned (OpenSpec.ofChange orderAgainWrong)

/-- 'quilllaw04.OrderSorts': WHATEVER THE INPUT: true; the input reads as it did. -/
def orderSortsSpec : ChangeSpec := { name := "orderSorts", fn := fun _ => fun
  | [d] => { results := [.lit (.bool true)], args := [d] }
  | _ => none }
def orderSortsRow : OpenClaim := { program := "ytbpkppidbdhopaa", sum := "9c61c02d93bea2ebeb90e3da699e52b769d40861b780f1104415fc9820c3c1dd", func := "quill/quilllaw04.OrderSorts", spec := "orderSorts", unfollowed := true, recurses := true, loops := true, apart := false }
def OrderSortsSaid : Prop := orderSortsRow.holds Try.pinned (OpenSpec.ofChange orderSortsSpec)

/-- ITS FALSE NEIGHBOUR: 'it returns false'. Refute it at one input. -/
def orderSortsWrong : ChangeSpec := { name := "orderSorts", fn := fun _ => fun
  | [d] => { results := [.lit (.bool false)], args := [d] }
  | _ => none }
def OrderSortsWrongFalsely : Prop := orderSortsRow.holds Try.pinned (OpenSpec.ofChange orderSortsWrong)

/- THE SECOND FORM. 'bulk': how many values and letters a reading holds, each counted each time it is reached (what is shared counts as often as it is met; a slice's spare places count too). A statement '..UptoSaid' is the law's where the arguments, and the package variables that the reading takes, are together of bulk at most 1048576: NARROWER than '..Said'. Prove '..Said' where nothing that the law and all that it calls make is longer than what came in: it says more and counts as full. Else prove '..UptoSaid'. A law counts once. -/
mutual
def uptoBulk {H : Type} : DataW H → Nat
  | .lit (.string bytes) => bytes.length + 1
  | .lit _ => 1
  | .nil => 1
  | .ptr d => uptoBulk d + 1
  | .slice elems spare => uptoBulkAll elems + uptoBulkAll spare + 1
  | .agg parts => uptoBulkAll parts + 1
  | .iface _ d => uptoBulk d + 1
  | .map entries => uptoBulkEntries entries + 1
  | .held _ => 1
def uptoBulkAll {H : Type} : List (DataW H) → Nat
  | [] => 0
  | d :: r => uptoBulk d + uptoBulkAll r
def uptoBulkEntries {H : Type} : List (Lit × DataW H) → Nat
  | [] => 0
  | x :: r => uptoBulkEntry x + uptoBulkEntries r
def uptoBulkEntry {H : Type} : Lit × DataW H → Nat
  | (.string bytes, d) => bytes.length + uptoBulk d + 1
  | (_, d) => uptoBulk d + 1
 end
def uptoSmall : (H : Type) → List (DataW H) → Bool := fun _ ds => decide (uptoBulkAll ds ≤ 1048576)
def OpenSpec.upto (s : _root_.Go.ChangeSpec) : _root_.Go.OpenSpec := { _root_.Go.OpenSpec.ofChange s with cond := some uptoSmall }

/-- 'quilllaw04.OrderTwo', WHERE WHAT IT READS IS OF BULK AT MOST 1048576: true; the input reads as it did. -/
def orderTwoUptoRow : OpenClaim := { program := "ytbpkppidbdhopaa", sum := "9c61c02d93bea2ebeb90e3da699e52b769d40861b780f1104415fc9820c3c1dd", func := "quill/quilllaw04.OrderTwo", spec := "orderTwo", unfollowed := true, recurses := true, loops := true, apart := false, narrowed := true }
def OrderTwoUptoSaid : Prop := orderTwoUptoRow.holds Try.pinned (OpenSpec.upto orderTwoSpec)

/-- 'quilllaw04.OrderThree', WHERE WHAT IT READS IS OF BULK AT MOST 1048576: true; the input reads as it did. -/
def orderThreeUptoRow : OpenClaim := { program := "ytbpkppidbdhopaa", sum := "9c61c02d93bea2ebeb90e3da699e52b769d40861b780f1104415fc9820c3c1dd", func := "quill/quilllaw04.OrderThree", spec := "orderThree", unfollowed := true, recurses := true, loops := true, apart := false, narrowed := true }
def OrderThreeUptoSaid : Prop := orderThreeUptoRow.holds Try.pinned (OpenSpec.upto orderThreeSpec)

/-- 'quilllaw04.OrderAgain', WHERE WHAT IT READS IS OF BULK AT MOST 1048576: true; the input reads as it did. -/
def orderAgainUptoRow : OpenClaim := { program := "ytbpkppidbdhopaa", sum := "9c61c02d93bea2ebeb90e3da699e52b769d40861b780f1104415fc9820c3c1dd", func := "quill/quilllaw04.OrderAgain", spec := "orderAgain", unfollowed := true, recurses := true, loops := true, apart := false, narrowed := true }
def OrderAgainUptoSaid : Prop := orderAgainUptoRow.holds Try.pinned (OpenSpec.upto orderAgainSpec)

/-- 'quilllaw04.OrderSorts', WHERE WHAT IT READS IS OF BULK AT MOST 1048576: true; the input reads as it did. -/
def orderSortsUptoRow : OpenClaim := { program := "ytbpkppidbdhopaa", sum := "9c61c02d93bea2ebeb90e3da699e52b769d40861b780f1104415fc9820c3c1dd", func := "quill/quilllaw04.OrderSorts", spec := "orderSorts", unfollowed := true, recurses := true, loops := true, apart := false, narrowed := true }
def OrderSortsUptoSaid : Prop := orderSortsUptoRow.holds Try.pinned (OpenSpec.upto orderSortsSpec)

end Rows
end Go.Proofs.Ytbpkppidbdhopaa

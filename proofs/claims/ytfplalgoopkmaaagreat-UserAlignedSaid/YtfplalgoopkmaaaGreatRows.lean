/-
  No cell of these rows narrows 'for every input' (looked for: loops, veiled, ifaces, maps, wideKeys, modest, calm, conditions, laid).
  DERIVED. THE GIVEN ROWS OF THIS SEAT. 2 by the template 'for every input the law returns true; each argument reads behind the call as it read before'; 0 by the template 'total and deterministic' (their statements: YtfplalgoopkmaaaGreatTotals.lean).
  GIVEN WITH THE SEED: the statements are not yours to turn. If you find one false, say at which input.
  Laid BY PROGRAM, IN A SANDBOX (cutbox-rows.mjs): the forced cells as the released guide's own fill.sh prints them over the translation 9170dd5c867544b4… (all of the seat's roots in one cut). By AI agents, Wed Nov 11 2026. No macro, syntax, notation, axiom, sorry.
-/
import Derived.Test.YtfplalgoopkmaaaGreatChecked
import GoSem.Claim
import GoSem.ClaimJoined
import GoSem.ClaimMapViews
import Derived.JoinedTies
import Derived.KernelRfl
namespace Go.Proofs.YtfplalgoopkmaaaGreat
/- THE CELL 'sum', in the pinned program and in every row, IS THE sha256 OF THE DUMP (.gsa) THAT YtfplalgoopkmaaaGreatProg.lean LOADS. Nothing in Lean hashes anything: it is a label: what it is worth is what the hold of that sum in a sandbox is worth. -/
noncomputable def Tryz.pinned : Pinned := { name := "ytfplalgoopkmaaagreat", sum := "9170dd5c867544b4e48badeecada94d95202bc3592820c37696996acad62394c", checked := Tryz.checked }
namespace Rows
def none {H : Type} : Left H := { results := [], args := [] }

/-- 'allotmentlaw19.UserZeroed': WHATEVER THE INPUT: true; the input reads as it did. -/
def userZeroedSpec : ChangeSpec := { name := "userZeroed", fn := fun _ => fun
  | [d1, d2] => { results := [.lit (.bool true)], args := [d1, d2] }
  | _ => none }
def userZeroedRow : OpenClaim := { program := "ytfplalgoopkmaaagreat", sum := "9170dd5c867544b4e48badeecada94d95202bc3592820c37696996acad62394c", func := "allotment/allotmentlaw19.UserZeroed", spec := "userZeroed", inPlace := ["slices.overlaps[allotment/arena.Region]", "slices.overlaps[allotment/ledger.entry]"], unfollowed := true, recurses := true, apart := false }
def UserZeroedSaid : Prop := userZeroedRow.holds Tryz.pinned (OpenSpec.ofChange userZeroedSpec)

/-- ITS FALSE NEIGHBOUR: 'it returns false'. Refute it at one input. -/
def userZeroedWrong : ChangeSpec := { name := "userZeroed", fn := fun _ => fun
  | [d1, d2] => { results := [.lit (.bool false)], args := [d1, d2] }
  | _ => none }
def UserZeroedWrongFalsely : Prop := userZeroedRow.holds Tryz.pinned (OpenSpec.ofChange userZeroedWrong)

/-- 'allotmentlaw19.UserAligned': WHATEVER THE INPUT: true; the input reads as it did. -/
def userAlignedSpec : ChangeSpec := { name := "userAligned", fn := fun _ => fun
  | [d1, d2] => { results := [.lit (.bool true)], args := [d1, d2] }
  | _ => none }
def userAlignedRow : OpenClaim := { program := "ytfplalgoopkmaaagreat", sum := "9170dd5c867544b4e48badeecada94d95202bc3592820c37696996acad62394c", func := "allotment/allotmentlaw19.UserAligned", spec := "userAligned", inPlace := ["slices.overlaps[allotment/arena.Region]", "slices.overlaps[allotment/ledger.entry]"], unfollowed := true, recurses := true, apart := false }
def UserAlignedSaid : Prop := userAlignedRow.holds Tryz.pinned (OpenSpec.ofChange userAlignedSpec)

/-- ITS FALSE NEIGHBOUR: 'it returns false'. Refute it at one input. -/
def userAlignedWrong : ChangeSpec := { name := "userAligned", fn := fun _ => fun
  | [d1, d2] => { results := [.lit (.bool false)], args := [d1, d2] }
  | _ => none }
def UserAlignedWrongFalsely : Prop := userAlignedRow.holds Tryz.pinned (OpenSpec.ofChange userAlignedWrong)

/- THE SECOND FORM. 'bulk': how many values and letters a reading holds, each counted each time it is reached (what is shared counts as often as it is met; a slice's spare places count too). A statement '..UptoSaid' is the law's where the arguments, and the package variables that the reading takes, are together of bulk at most 1048576: NARROWER than '..Said'. Prove '..Said' where nothing that the law and all that it calls make is longer than what came in: it says more and counts as full. Else prove '..UptoSaid'. A law counts once. -/
mutual
def uptoBulk {H : Type} : DataW H → Nat
  | .lit (.string bytes) => bytes.length + 1
  | .lit _ => 1
  | .nil => 1
  | .ptr d => uptoBulk d + 1
  | .slice elems spare => uptoBulkAll elems + uptoBulkAll spare + 1
  | .agg parts => uptoBulkAll parts + 1
  | .iface _ d => uptoBulk d + 1
  | .map entries => uptoBulkEntries entries + 1
  | .held _ => 1
def uptoBulkAll {H : Type} : List (DataW H) → Nat
  | [] => 0
  | d :: r => uptoBulk d + uptoBulkAll r
def uptoBulkEntries {H : Type} : List (Lit × DataW H) → Nat
  | [] => 0
  | x :: r => uptoBulkEntry x + uptoBulkEntries r
def uptoBulkEntry {H : Type} : Lit × DataW H → Nat
  | (.string bytes, d) => bytes.length + uptoBulk d + 1
  | (_, d) => uptoBulk d + 1
 end
def uptoSmall : (H : Type) → List (DataW H) → Bool := fun _ ds => decide (uptoBulkAll ds ≤ 1048576)
def OpenSpec.upto (s : _root_.Go.ChangeSpec) : _root_.Go.OpenSpec := { _root_.Go.OpenSpec.ofChange s with cond := some uptoSmall }

/-- 'allotmentlaw19.UserZeroed', WHERE WHAT IT READS IS OF BULK AT MOST 1048576: true; the input reads as it did. -/
def userZeroedUptoRow : OpenClaim := { program := "ytfplalgoopkmaaagreat", sum := "9170dd5c867544b4e48badeecada94d95202bc3592820c37696996acad62394c", func := "allotment/allotmentlaw19.UserZeroed", spec := "userZeroed", inPlace := ["slices.overlaps[allotment/arena.Region]", "slices.overlaps[allotment/ledger.entry]"], unfollowed := true, recurses := true, apart := false, narrowed := true }
def UserZeroedUptoSaid : Prop := userZeroedUptoRow.holds Tryz.pinned (OpenSpec.upto userZeroedSpec)

/-- 'allotmentlaw19.UserAligned', WHERE WHAT IT READS IS OF BULK AT MOST 1048576: true; the input reads as it did. -/
def userAlignedUptoRow : OpenClaim := { program := "ytfplalgoopkmaaagreat", sum := "9170dd5c867544b4e48badeecada94d95202bc3592820c37696996acad62394c", func := "allotment/allotmentlaw19.UserAligned", spec := "userAligned", inPlace := ["slices.overlaps[allotment/arena.Region]", "slices.overlaps[allotment/ledger.entry]"], unfollowed := true, recurses := true, apart := false, narrowed := true }
def UserAlignedUptoSaid : Prop := userAlignedUptoRow.holds Tryz.pinned (OpenSpec.upto userAlignedSpec)

end Rows
end Go.Proofs.YtfplalgoopkmaaaGreat

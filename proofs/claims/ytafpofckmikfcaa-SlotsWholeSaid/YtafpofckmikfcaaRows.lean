/-
  No cell of these rows narrows 'for every input' (looked for: loops, veiled, ifaces, maps, wideKeys, modest, calm, conditions, laid).
  DERIVED. THE GIVEN ROWS OF THIS SEAT. 4 by the template 'for every input the law returns true; each argument reads behind the call as it read before'; 0 by the template 'total and deterministic' (their statements: YtafpofckmikfcaaTotals.lean).
  GIVEN WITH THE SEED: the statements are not yours to turn. If you find one false, say at which input.
  Laid BY PROGRAM, IN A SANDBOX (cutbox-rows.mjs): the forced cells as the released guide's own fill.sh prints them over the translation 51a61ea1afd59226… (all of the seat's roots in one cut). By AI agents, Wed Nov 11 2026. No macro, syntax, notation, axiom, sorry.
-/
import Derived.Test.YtafpofckmikfcaaChecked
import GoSem.Claim
import GoSem.ClaimJoined
import GoSem.ClaimMapViews
import Derived.JoinedTies
import Derived.KernelRfl
namespace Go.Proofs.Ytafpofckmikfcaa
/- THE CELL 'sum', in the pinned program and in every row, IS THE sha256 OF THE DUMP (.gsa) THAT YtafpofckmikfcaaProg.lean LOADS. Nothing in Lean hashes anything: it is a label: what it is worth is what the hold of that sum in a sandbox is worth. -/
noncomputable def Try.pinned : Pinned := { name := "ytafpofckmikfcaa", sum := "51a61ea1afd5922653e0bd42d1de365ff8f889360bb3cda07597aa22f4384f49", checked := Try.checked }
namespace Rows
def none {H : Type} : Left H := { results := [], args := [] }

/-- 'burgagelaw13.SlotsNumbers': WHATEVER THE INPUT: true; the input reads as it did. -/
def slotsNumbersSpec : ChangeSpec := { name := "slotsNumbers", fn := fun _ => fun
  | [] => { results := [.lit (.bool true)], args := [] }
  | _ => none }
def slotsNumbersRow : OpenClaim := { program := "ytafpofckmikfcaa", sum := "51a61ea1afd5922653e0bd42d1de365ff8f889360bb3cda07597aa22f4384f49", func := "burgage/burgagelaw13.SlotsNumbers", spec := "slotsNumbers", unfollowed := true, recurses := true, apart := false }
def SlotsNumbersSaid : Prop := slotsNumbersRow.holds Try.pinned (OpenSpec.ofChange slotsNumbersSpec)

/-- ITS FALSE NEIGHBOUR: 'it returns false'. Refute it at one input. -/
def slotsNumbersWrong : ChangeSpec := { name := "slotsNumbers", fn := fun _ => fun
  | [] => { results := [.lit (.bool false)], args := [] }
  | _ => none }
def SlotsNumbersWrongFalsely : Prop := slotsNumbersRow.holds Try.pinned (OpenSpec.ofChange slotsNumbersWrong)

/-- 'burgagelaw13.SlotsTells': WHATEVER THE INPUT: true; the input reads as it did. -/
def slotsTellsSpec : ChangeSpec := { name := "slotsTells", fn := fun _ => fun
  | [d1, d2, d3, d4, d5, d6, d7, d8] => { results := [.lit (.bool true)], args := [d1, d2, d3, d4, d5, d6, d7, d8] }
  | _ => none }
def slotsTellsRow : OpenClaim := { program := "ytafpofckmikfcaa", sum := "51a61ea1afd5922653e0bd42d1de365ff8f889360bb3cda07597aa22f4384f49", func := "burgage/burgagelaw13.SlotsTells", spec := "slotsTells", unfollowed := true, recurses := true, apart := false }
def SlotsTellsSaid : Prop := slotsTellsRow.holds Try.pinned (OpenSpec.ofChange slotsTellsSpec)

/-- ITS FALSE NEIGHBOUR: 'it returns false'. Refute it at one input. -/
def slotsTellsWrong : ChangeSpec := { name := "slotsTells", fn := fun _ => fun
  | [d1, d2, d3, d4, d5, d6, d7, d8] => { results := [.lit (.bool false)], args := [d1, d2, d3, d4, d5, d6, d7, d8] }
  | _ => none }
def SlotsTellsWrongFalsely : Prop := slotsTellsRow.holds Try.pinned (OpenSpec.ofChange slotsTellsWrong)

/-- 'burgagelaw13.SlotsBounded': WHATEVER THE INPUT: true; the input reads as it did. -/
def slotsBoundedSpec : ChangeSpec := { name := "slotsBounded", fn := fun _ => fun
  | [d1, d2, d3, d4] => { results := [.lit (.bool true)], args := [d1, d2, d3, d4] }
  | _ => none }
def slotsBoundedRow : OpenClaim := { program := "ytafpofckmikfcaa", sum := "51a61ea1afd5922653e0bd42d1de365ff8f889360bb3cda07597aa22f4384f49", func := "burgage/burgagelaw13.SlotsBounded", spec := "slotsBounded", unfollowed := true, recurses := true, apart := false }
def SlotsBoundedSaid : Prop := slotsBoundedRow.holds Try.pinned (OpenSpec.ofChange slotsBoundedSpec)

/-- ITS FALSE NEIGHBOUR: 'it returns false'. Refute it at one input. -/
def slotsBoundedWrong : ChangeSpec := { name := "slotsBounded", fn := fun _ => fun
  | [d1, d2, d3, d4] => { results := [.lit (.bool false)], args := [d1, d2, d3, d4] }
  | _ => none }
def SlotsBoundedWrongFalsely : Prop := slotsBoundedRow.holds Try.pinned (OpenSpec.ofChange slotsBoundedWrong)

/-- 'burgagelaw13.SlotsWhole': WHATEVER THE INPUT: true; the input reads as it did. -/
def slotsWholeSpec : ChangeSpec := { name := "slotsWhole", fn := fun _ => fun
  | [d1, d2, d3] => { results := [.lit (.bool true)], args := [d1, d2, d3] }
  | _ => none }
def slotsWholeRow : OpenClaim := { program := "ytafpofckmikfcaa", sum := "51a61ea1afd5922653e0bd42d1de365ff8f889360bb3cda07597aa22f4384f49", func := "burgage/burgagelaw13.SlotsWhole", spec := "slotsWhole", unfollowed := true, recurses := true, apart := false }
def SlotsWholeSaid : Prop := slotsWholeRow.holds Try.pinned (OpenSpec.ofChange slotsWholeSpec)

/-- ITS FALSE NEIGHBOUR: 'it returns false'. Refute it at one input. -/
def slotsWholeWrong : ChangeSpec := { name := "slotsWhole", fn := fun _ => fun
  | [d1, d2, d3] => { results := [.lit (.bool false)], args := [d1, d2, d3] }
  | _ => none }
def SlotsWholeWrongFalsely : Prop := slotsWholeRow.holds Try.pinned (OpenSpec.ofChange slotsWholeWrong)

/- THE SECOND FORM. 'bulk': how many values and letters a reading holds, each counted each time it is reached (what is shared counts as often as it is met; a slice's spare places count too). A statement '..UptoSaid' is the law's where the arguments, and the package variables that the reading takes, are together of bulk at most 1048576: NARROWER than '..Said'. Prove '..Said' where nothing that the law and all that it calls make is longer than what came in: it says more and counts as full. Else prove '..UptoSaid'. A law counts once. -/
mutual
def uptoBulk {H : Type} : DataW H → Nat
  | .lit (.string bytes) => bytes.length + 1
  | .lit _ => 1
  | .nil => 1
  | .ptr d => uptoBulk d + 1
  | .slice elems spare => uptoBulkAll elems + uptoBulkAll spare + 1
  | .agg parts => uptoBulkAll parts + 1
  | .iface _ d => uptoBulk d + 1
  | .map entries => uptoBulkEntries entries + 1
  | .held _ => 1
def uptoBulkAll {H : Type} : List (DataW H) → Nat
  | [] => 0
  | d :: r => uptoBulk d + uptoBulkAll r
def uptoBulkEntries {H : Type} : List (Lit × DataW H) → Nat
  | [] => 0
  | x :: r => uptoBulkEntry x + uptoBulkEntries r
def uptoBulkEntry {H : Type} : Lit × DataW H → Nat
  | (.string bytes, d) => bytes.length + uptoBulk d + 1
  | (_, d) => uptoBulk d + 1
 end
def uptoSmall : (H : Type) → List (DataW H) → Bool := fun _ ds => decide (uptoBulkAll ds ≤ 1048576)
def OpenSpec.upto (s : _root_.Go.ChangeSpec) : _root_.Go.OpenSpec := { _root_.Go.OpenSpec.ofChange s with cond := some uptoSmall }

/-- 'burgagelaw13.SlotsNumbers', WHERE WHAT IT READS IS OF BULK AT MOST 1048576: true; the input reads as it did. -/
def slotsNumbersUptoRow : OpenClaim := { program := "ytafpofckmikfcaa", sum := "51a61ea1afd5922653e0bd42d1de365ff8f889360bb3cda07597aa22f4384f49", func := "burgage/burgagelaw13.SlotsNumbers", spec := "slotsNumbers", unfollowed := true, recurses := true, apart := false, narrowed := true }
def SlotsNumbersUptoSaid : Prop := slotsNumbersUptoRow.holds Try.pinned (OpenSpec.upto slotsNumbersSpec)

/-- 'burgagelaw13.SlotsTells', WHERE WHAT IT READS IS OF BULK AT MOST 1048576: true; the input reads as it did. -/
def slotsTellsUptoRow : OpenClaim := { program := "ytafpofckmikfcaa", sum := "51a61ea1afd5922653e0bd42d1de365ff8f889360bb3cda07597aa22f4384f49", func := "burgage/burgagelaw13.SlotsTells", spec := "slotsTells", unfollowed := true, recurses := true, apart := false, narrowed := true }
def SlotsTellsUptoSaid : Prop := slotsTellsUptoRow.holds Try.pinned (OpenSpec.upto slotsTellsSpec)

/-- 'burgagelaw13.SlotsBounded', WHERE WHAT IT READS IS OF BULK AT MOST 1048576: true; the input reads as it did. -/
def slotsBoundedUptoRow : OpenClaim := { program := "ytafpofckmikfcaa", sum := "51a61ea1afd5922653e0bd42d1de365ff8f889360bb3cda07597aa22f4384f49", func := "burgage/burgagelaw13.SlotsBounded", spec := "slotsBounded", unfollowed := true, recurses := true, apart := false, narrowed := true }
def SlotsBoundedUptoSaid : Prop := slotsBoundedUptoRow.holds Try.pinned (OpenSpec.upto slotsBoundedSpec)

/-- 'burgagelaw13.SlotsWhole', WHERE WHAT IT READS IS OF BULK AT MOST 1048576: true; the input reads as it did. -/
def slotsWholeUptoRow : OpenClaim := { program := "ytafpofckmikfcaa", sum := "51a61ea1afd5922653e0bd42d1de365ff8f889360bb3cda07597aa22f4384f49", func := "burgage/burgagelaw13.SlotsWhole", spec := "slotsWhole", unfollowed := true, recurses := true, apart := false, narrowed := true }
def SlotsWholeUptoSaid : Prop := slotsWholeUptoRow.holds Try.pinned (OpenSpec.upto slotsWholeSpec)

end Rows
end Go.Proofs.Ytafpofckmikfcaa

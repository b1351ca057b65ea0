/-
  No cell of these rows narrows 'for every input' (looked for: loops, veiled, ifaces, maps, wideKeys, modest, calm, conditions, laid).
  DERIVED. THE GIVEN ROWS OF THIS SEAT. 4 by the template 'for every input the law returns true; each argument reads behind the call as it read before'; 0 by the template 'total and deterministic' (their statements: YtaojhcbodijpbaaTotals.lean).
  GIVEN WITH THE SEED: the statements are not yours to turn. If you find one false, say at which input.
  Laid BY PROGRAM, IN A SANDBOX (cutbox-rows.mjs): the forced cells as the released guide's own fill.sh prints them over the translation 4158ba7bd8b82d8a… (all of the seat's roots in one cut). By AI agents, Wed Nov 11 2026. No macro, syntax, notation, axiom, sorry.
-/
import Derived.Test.YtaojhcbodijpbaaChecked
import GoSem.Claim
import GoSem.ClaimJoined
import GoSem.ClaimMapViews
import Derived.JoinedTies
import Derived.KernelRfl
namespace Go.Proofs.Ytaojhcbodijpbaa
/- THE CELL 'sum', in the pinned program and in every row, IS THE sha256 OF THE DUMP (.gsa) THAT YtaojhcbodijpbaaProg.lean LOADS. Nothing in Lean hashes anything: it is a label: what it is worth is what the hold of that sum in a sandbox is worth. -/
noncomputable def Try.pinned : Pinned := { name := "ytaojhcbodijpbaa", sum := "4158ba7bd8b82d8a4236fa554e550b141c9277cfa83298bfec08461f85b92787", checked := Try.checked }
namespace Rows
def none {H : Type} : Left H := { results := [], args := [] }

/-- 'burgagelaw9.DeviceWrites': WHATEVER THE INPUT: true; the input reads as it did. -/
def deviceWritesSpec : ChangeSpec := { name := "deviceWrites", fn := fun _ => fun
  | [d1, d2, d3, d4, d5] => { results := [.lit (.bool true)], args := [d1, d2, d3, d4, d5] }
  | _ => none }
def deviceWritesRow : OpenClaim := { program := "ytaojhcbodijpbaa", sum := "4158ba7bd8b82d8a4236fa554e550b141c9277cfa83298bfec08461f85b92787", func := "burgage/burgagelaw9.DeviceWrites", spec := "deviceWrites", unfollowed := true, recurses := true, apart := false }
def DeviceWritesSaid : Prop := deviceWritesRow.holds Try.pinned (OpenSpec.ofChange deviceWritesSpec)

/-- ITS FALSE NEIGHBOUR: 'it returns false'. Refute it at one input. -/
def deviceWritesWrong : ChangeSpec := { name := "deviceWrites", fn := fun _ => fun
  | [d1, d2, d3, d4, d5] => { results := [.lit (.bool false)], args := [d1, d2, d3, d4, d5] }
  | _ => none }
def DeviceWritesWrongFalsely : Prop := deviceWritesRow.holds Try.pinned (OpenSpec.ofChange deviceWritesWrong)

/-- 'burgagelaw9.DevicePdus': WHATEVER THE INPUT: true; the input reads as it did. -/
def devicePdusSpec : ChangeSpec := { name := "devicePdus", fn := fun _ => fun
  | [d1, d2] => { results := [.lit (.bool true)], args := [d1, d2] }
  | _ => none }
def devicePdusRow : OpenClaim := { program := "ytaojhcbodijpbaa", sum := "4158ba7bd8b82d8a4236fa554e550b141c9277cfa83298bfec08461f85b92787", func := "burgage/burgagelaw9.DevicePdus", spec := "devicePdus", unfollowed := true, recurses := true, apart := false }
def DevicePdusSaid : Prop := devicePdusRow.holds Try.pinned (OpenSpec.ofChange devicePdusSpec)

/-- ITS FALSE NEIGHBOUR: 'it returns false'. Refute it at one input. -/
def devicePdusWrong : ChangeSpec := { name := "devicePdus", fn := fun _ => fun
  | [d1, d2] => { results := [.lit (.bool false)], args := [d1, d2] }
  | _ => none }
def DevicePdusWrongFalsely : Prop := devicePdusRow.holds Try.pinned (OpenSpec.ofChange devicePdusWrong)

/-- 'burgagelaw9.DeviceMasks': WHATEVER THE INPUT: true; the input reads as it did. -/
def deviceMasksSpec : ChangeSpec := { name := "deviceMasks", fn := fun _ => fun
  | [d1, d2, d3] => { results := [.lit (.bool true)], args := [d1, d2, d3] }
  | _ => none }
def deviceMasksRow : OpenClaim := { program := "ytaojhcbodijpbaa", sum := "4158ba7bd8b82d8a4236fa554e550b141c9277cfa83298bfec08461f85b92787", func := "burgage/burgagelaw9.DeviceMasks", spec := "deviceMasks", unfollowed := true, recurses := true, apart := false }
def DeviceMasksSaid : Prop := deviceMasksRow.holds Try.pinned (OpenSpec.ofChange deviceMasksSpec)

/-- ITS FALSE NEIGHBOUR: 'it returns false'. Refute it at one input. -/
def deviceMasksWrong : ChangeSpec := { name := "deviceMasks", fn := fun _ => fun
  | [d1, d2, d3] => { results := [.lit (.bool false)], args := [d1, d2, d3] }
  | _ => none }
def DeviceMasksWrongFalsely : Prop := deviceMasksRow.holds Try.pinned (OpenSpec.ofChange deviceMasksWrong)

/-- 'burgagelaw9.DeviceOrder': WHATEVER THE INPUT: true; the input reads as it did. -/
def deviceOrderSpec : ChangeSpec := { name := "deviceOrder", fn := fun _ => fun
  | [d1, d2, d3] => { results := [.lit (.bool true)], args := [d1, d2, d3] }
  | _ => none }
def deviceOrderRow : OpenClaim := { program := "ytaojhcbodijpbaa", sum := "4158ba7bd8b82d8a4236fa554e550b141c9277cfa83298bfec08461f85b92787", func := "burgage/burgagelaw9.DeviceOrder", spec := "deviceOrder", unfollowed := true, recurses := true, apart := false }
def DeviceOrderSaid : Prop := deviceOrderRow.holds Try.pinned (OpenSpec.ofChange deviceOrderSpec)

/-- ITS FALSE NEIGHBOUR: 'it returns false'. Refute it at one input. -/
def deviceOrderWrong : ChangeSpec := { name := "deviceOrder", fn := fun _ => fun
  | [d1, d2, d3] => { results := [.lit (.bool false)], args := [d1, d2, d3] }
  | _ => none }
def DeviceOrderWrongFalsely : Prop := deviceOrderRow.holds Try.pinned (OpenSpec.ofChange deviceOrderWrong)

/- THE SECOND FORM. 'bulk': how many values and letters a reading holds, each counted each time it is reached (what is shared counts as often as it is met; a slice's spare places count too). A statement '..UptoSaid' is the law's where the arguments, and the package variables that the reading takes, are together of bulk at most 1048576: NARROWER than '..Said'. Prove '..Said' where nothing that the law and all that it calls make is longer than what came in: it says more and counts as full. Else prove '..UptoSaid'. A law counts once. -/
mutual
def uptoBulk {H : Type} : DataW H → Nat
  | .lit (.string bytes) => bytes.length + 1
  | .lit _ => 1
  | .nil => 1
  | .ptr d => uptoBulk d + 1
  | .slice elems spare => uptoBulkAll elems + uptoBulkAll spare + 1
  | .agg parts => uptoBulkAll parts + 1
  | .iface _ d => uptoBulk d + 1
  | .map entries => uptoBulkEntries entries + 1
  | .held _ => 1
def uptoBulkAll {H : Type} : List (DataW H) → Nat
  | [] => 0
  | d :: r => uptoBulk d + uptoBulkAll r
def uptoBulkEntries {H : Type} : List (Lit × DataW H) → Nat
  | [] => 0
  | x :: r => uptoBulkEntry x + uptoBulkEntries r
def uptoBulkEntry {H : Type} : Lit × DataW H → Nat
  | (.string bytes, d) => bytes.length + uptoBulk d + 1
  | (_, d) => uptoBulk d + 1
 end
def uptoSmall : (H : Type) → List (DataW H) → Bool := fun _ ds => decide (uptoBulkAll ds ≤ 1048576)
def OpenSpec.upto (s : _root_.Go.ChangeSpec) : _root_.Go.OpenSpec := { _root_.Go.OpenSpec.ofChange s with cond := some uptoSmall }

/-- 'burgagelaw9.DeviceWrites', WHERE WHAT IT READS IS OF BULK AT MOST 1048576: true; the input reads as it did. -/
def deviceWritesUptoRow : OpenClaim := { program := "ytaojhcbodijpbaa", sum := "4158ba7bd8b82d8a4236fa554e550b141c9277cfa83298bfec08461f85b92787", func := "burgage/burgagelaw9.DeviceWrites", spec := "deviceWrites", unfollowed := true, recurses := true, apart := false, narrowed := true }
def DeviceWritesUptoSaid : Prop := deviceWritesUptoRow.holds Try.pinned (OpenSpec.upto deviceWritesSpec)

/-- 'burgagelaw9.DevicePdus', WHERE WHAT IT READS IS OF BULK AT MOST 1048576: true; the input reads as it did. -/
def devicePdusUptoRow : OpenClaim := { program := "ytaojhcbodijpbaa", sum := "4158ba7bd8b82d8a4236fa554e550b141c9277cfa83298bfec08461f85b92787", func := "burgage/burgagelaw9.DevicePdus", spec := "devicePdus", unfollowed := true, recurses := true, apart := false, narrowed := true }
def DevicePdusUptoSaid : Prop := devicePdusUptoRow.holds Try.pinned (OpenSpec.upto devicePdusSpec)

/-- 'burgagelaw9.DeviceMasks', WHERE WHAT IT READS IS OF BULK AT MOST 1048576: true; the input reads as it did. -/
def deviceMasksUptoRow : OpenClaim := { program := "ytaojhcbodijpbaa", sum := "4158ba7bd8b82d8a4236fa554e550b141c9277cfa83298bfec08461f85b92787", func := "burgage/burgagelaw9.DeviceMasks", spec := "deviceMasks", unfollowed := true, recurses := true, apart := false, narrowed := true }
def DeviceMasksUptoSaid : Prop := deviceMasksUptoRow.holds Try.pinned (OpenSpec.upto deviceMasksSpec)

/-- 'burgagelaw9.DeviceOrder', WHERE WHAT IT READS IS OF BULK AT MOST 1048576: true; the input reads as it did. -/
def deviceOrderUptoRow : OpenClaim := { program := "ytaojhcbodijpbaa", sum := "4158ba7bd8b82d8a4236fa554e550b141c9277cfa83298bfec08461f85b92787", func := "burgage/burgagelaw9.DeviceOrder", spec := "deviceOrder", unfollowed := true, recurses := true, apart := false, narrowed := true }
def DeviceOrderUptoSaid : Prop := deviceOrderUptoRow.holds Try.pinned (OpenSpec.upto deviceOrderSpec)

end Rows
end Go.Proofs.Ytaojhcbodijpbaa

/-
  No cell of these rows narrows 'for every input' (looked for: loops, veiled, ifaces, maps, wideKeys, modest, calm, conditions, laid).
  DERIVED. THE GIVEN ROWS OF THIS SEAT. 4 by the template 'for every input the law returns true; each argument reads behind the call as it read before'; 0 by the template 'total and deterministic' (their statements: YtkdpnlcbccdogaaGreatTotals.lean).
  GIVEN WITH THE SEED: the statements are not yours to turn. If you find one false, say at which input.
  Laid BY PROGRAM, IN A SANDBOX (cutbox-rows.mjs): the forced cells as the released guide's own fill.sh prints them over the translation 3dca61d03b492c65… (all of the seat's roots in one cut). By AI agents, Wed Nov 11 2026. No macro, syntax, notation, axiom, sorry.
-/
import Derived.Test.YtkdpnlcbccdogaaGreatChecked
import GoSem.Claim
import GoSem.ClaimJoined
import GoSem.ClaimMapViews
import Derived.JoinedTies
import Derived.KernelRfl
namespace Go.Proofs.YtkdpnlcbccdogaaGreat
/- THE CELL 'sum', in the pinned program and in every row, IS THE sha256 OF THE DUMP (.gsa) THAT YtkdpnlcbccdogaaGreatProg.lean LOADS. Nothing in Lean hashes anything: it is a label: what it is worth is what the hold of that sum in a sandbox is worth. -/
noncomputable def Tryz.pinned : Pinned := { name := "ytkdpnlcbccdogaagreat", sum := "3dca61d03b492c65927dac8f1f15448ee6761718ffeb2c45ae450cdd1111ca9e", checked := Tryz.checked }
namespace Rows
def none {H : Type} : Left H := { results := [], args := [] }

/-- 'burgagelaw18.MasterSame': WHATEVER THE INPUT: true; the input reads as it did. -/
def masterSameSpec : ChangeSpec := { name := "masterSame", fn := fun _ => fun
  | [d1, d2, d3, d4] => { results := [.lit (.bool true)], args := [d1, d2, d3, d4] }
  | _ => none }
def masterSameRow : OpenClaim := { program := "ytkdpnlcbccdogaagreat", sum := "3dca61d03b492c65927dac8f1f15448ee6761718ffeb2c45ae450cdd1111ca9e", func := "burgage/burgagelaw18.MasterSame", spec := "masterSame", unfollowed := true, recurses := true, apart := false }
def MasterSameSaid : Prop := masterSameRow.holds Tryz.pinned (OpenSpec.ofChange masterSameSpec)

/-- ITS FALSE NEIGHBOUR: 'it returns false'. Refute it at one input. -/
def masterSameWrong : ChangeSpec := { name := "masterSame", fn := fun _ => fun
  | [d1, d2, d3, d4] => { results := [.lit (.bool false)], args := [d1, d2, d3, d4] }
  | _ => none }
def MasterSameWrongFalsely : Prop := masterSameRow.holds Tryz.pinned (OpenSpec.ofChange masterSameWrong)

/-- 'burgagelaw18.MasterNumbers': WHATEVER THE INPUT: true; the input reads as it did. -/
def masterNumbersSpec : ChangeSpec := { name := "masterNumbers", fn := fun _ => fun
  | [] => { results := [.lit (.bool true)], args := [] }
  | _ => none }
def masterNumbersRow : OpenClaim := { program := "ytkdpnlcbccdogaagreat", sum := "3dca61d03b492c65927dac8f1f15448ee6761718ffeb2c45ae450cdd1111ca9e", func := "burgage/burgagelaw18.MasterNumbers", spec := "masterNumbers", unfollowed := true, recurses := true, apart := false }
def MasterNumbersSaid : Prop := masterNumbersRow.holds Tryz.pinned (OpenSpec.ofChange masterNumbersSpec)

/-- ITS FALSE NEIGHBOUR: 'it returns false'. Refute it at one input. -/
def masterNumbersWrong : ChangeSpec := { name := "masterNumbers", fn := fun _ => fun
  | [] => { results := [.lit (.bool false)], args := [] }
  | _ => none }
def MasterNumbersWrongFalsely : Prop := masterNumbersRow.holds Tryz.pinned (OpenSpec.ofChange masterNumbersWrong)

/-- 'burgagelaw18.MasterPlays': WHATEVER THE INPUT: true; the input reads as it did. -/
def masterPlaysSpec : ChangeSpec := { name := "masterPlays", fn := fun _ => fun
  | [d1, d2, d3, d4] => { results := [.lit (.bool true)], args := [d1, d2, d3, d4] }
  | _ => none }
def masterPlaysRow : OpenClaim := { program := "ytkdpnlcbccdogaagreat", sum := "3dca61d03b492c65927dac8f1f15448ee6761718ffeb2c45ae450cdd1111ca9e", func := "burgage/burgagelaw18.MasterPlays", spec := "masterPlays", unfollowed := true, recurses := true, apart := false }
def MasterPlaysSaid : Prop := masterPlaysRow.holds Tryz.pinned (OpenSpec.ofChange masterPlaysSpec)

/-- ITS FALSE NEIGHBOUR: 'it returns false'. Refute it at one input. -/
def masterPlaysWrong : ChangeSpec := { name := "masterPlays", fn := fun _ => fun
  | [d1, d2, d3, d4] => { results := [.lit (.bool false)], args := [d1, d2, d3, d4] }
  | _ => none }
def MasterPlaysWrongFalsely : Prop := masterPlaysRow.holds Tryz.pinned (OpenSpec.ofChange masterPlaysWrong)

/-- 'burgagelaw18.MasterBounded': WHATEVER THE INPUT: true; the input reads as it did. -/
def masterBoundedSpec : ChangeSpec := { name := "masterBounded", fn := fun _ => fun
  | [d1, d2, d3, d4, d5] => { results := [.lit (.bool true)], args := [d1, d2, d3, d4, d5] }
  | _ => none }
def masterBoundedRow : OpenClaim := { program := "ytkdpnlcbccdogaagreat", sum := "3dca61d03b492c65927dac8f1f15448ee6761718ffeb2c45ae450cdd1111ca9e", func := "burgage/burgagelaw18.MasterBounded", spec := "masterBounded", unfollowed := true, recurses := true, apart := false }
def MasterBoundedSaid : Prop := masterBoundedRow.holds Tryz.pinned (OpenSpec.ofChange masterBoundedSpec)

/-- ITS FALSE NEIGHBOUR: 'it returns false'. Refute it at one input. -/
def masterBoundedWrong : ChangeSpec := { name := "masterBounded", fn := fun _ => fun
  | [d1, d2, d3, d4, d5] => { results := [.lit (.bool false)], args := [d1, d2, d3, d4, d5] }
  | _ => none }
def MasterBoundedWrongFalsely : Prop := masterBoundedRow.holds Tryz.pinned (OpenSpec.ofChange masterBoundedWrong)

/- THE SECOND FORM. 'bulk': how many values and letters a reading holds, each counted each time it is reached (what is shared counts as often as it is met; a slice's spare places count too). A statement '..UptoSaid' is the law's where the arguments, and the package variables that the reading takes, are together of bulk at most 1048576: NARROWER than '..Said'. Prove '..Said' where nothing that the law and all that it calls make is longer than what came in: it says more and counts as full. Else prove '..UptoSaid'. A law counts once. -/
mutual
def uptoBulk {H : Type} : DataW H → Nat
  | .lit (.string bytes) => bytes.length + 1
  | .lit _ => 1
  | .nil => 1
  | .ptr d => uptoBulk d + 1
  | .slice elems spare => uptoBulkAll elems + uptoBulkAll spare + 1
  | .agg parts => uptoBulkAll parts + 1
  | .iface _ d => uptoBulk d + 1
  | .map entries => uptoBulkEntries entries + 1
  | .held _ => 1
def uptoBulkAll {H : Type} : List (DataW H) → Nat
  | [] => 0
  | d :: r => uptoBulk d + uptoBulkAll r
def uptoBulkEntries {H : Type} : List (Lit × DataW H) → Nat
  | [] => 0
  | x :: r => uptoBulkEntry x + uptoBulkEntries r
def uptoBulkEntry {H : Type} : Lit × DataW H → Nat
  | (.string bytes, d) => bytes.length + uptoBulk d + 1
  | (_, d) => uptoBulk d + 1
 end
def uptoSmall : (H : Type) → List (DataW H) → Bool := fun _ ds => decide (uptoBulkAll ds ≤ 1048576)
def OpenSpec.upto (s : _root_.Go.ChangeSpec) : _root_.Go.OpenSpec := { _root_.Go.OpenSpec.ofChange s with cond := some uptoSmall }

/-- 'burgagelaw18.MasterSame', WHERE WHAT IT READS IS OF BULK AT MOST 1048576: true; the input reads as it did. -/
def masterSameUptoRow : OpenClaim := { program := "ytkdpnlcbccdogaagreat", sum := "3dca61d03b492c65927dac8f1f15448ee6761718ffeb2c45ae450cdd1111ca9e", func := "burgage/burgagelaw18.MasterSame", spec := "masterSame", unfollowed := true, recurses := true, apart := false, narrowed := true }
def MasterSameUptoSaid : Prop := masterSameUptoRow.holds Tryz.pinned (OpenSpec.upto masterSameSpec)

/-- 'burgagelaw18.MasterNumbers', WHERE WHAT IT READS IS OF BULK AT MOST 1048576: true; the input reads as it did. -/
def masterNumbersUptoRow : OpenClaim := { program := "ytkdpnlcbccdogaagreat", sum := "3dca61d03b492c65927dac8f1f15448ee6761718ffeb2c45ae450cdd1111ca9e", func := "burgage/burgagelaw18.MasterNumbers", spec := "masterNumbers", unfollowed := true, recurses := true, apart := false, narrowed := true }
def MasterNumbersUptoSaid : Prop := masterNumbersUptoRow.holds Tryz.pinned (OpenSpec.upto masterNumbersSpec)

/-- 'burgagelaw18.MasterPlays', WHERE WHAT IT READS IS OF BULK AT MOST 1048576: true; the input reads as it did. -/
def masterPlaysUptoRow : OpenClaim := { program := "ytkdpnlcbccdogaagreat", sum := "3dca61d03b492c65927dac8f1f15448ee6761718ffeb2c45ae450cdd1111ca9e", func := "burgage/burgagelaw18.MasterPlays", spec := "masterPlays", unfollowed := true, recurses := true, apart := false, narrowed := true }
def MasterPlaysUptoSaid : Prop := masterPlaysUptoRow.holds Tryz.pinned (OpenSpec.upto masterPlaysSpec)

/-- 'burgagelaw18.MasterBounded', WHERE WHAT IT READS IS OF BULK AT MOST 1048576: true; the input reads as it did. -/
def masterBoundedUptoRow : OpenClaim := { program := "ytkdpnlcbccdogaagreat", sum := "3dca61d03b492c65927dac8f1f15448ee6761718ffeb2c45ae450cdd1111ca9e", func := "burgage/burgagelaw18.MasterBounded", spec := "masterBounded", unfollowed := true, recurses := true, apart := false, narrowed := true }
def MasterBoundedUptoSaid : Prop := masterBoundedUptoRow.holds Tryz.pinned (OpenSpec.upto masterBoundedSpec)

end Rows
end Go.Proofs.YtkdpnlcbccdogaaGreat

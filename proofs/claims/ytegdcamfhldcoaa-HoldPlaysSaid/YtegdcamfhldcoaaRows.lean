/-
  No cell of these rows narrows 'for every input' (looked for: loops, veiled, ifaces, maps, wideKeys, modest, calm, conditions, laid).
  DERIVED. THE GIVEN ROWS OF THIS SEAT. 5 by the template 'for every input the law returns true; each argument reads behind the call as it read before'; 0 by the template 'total and deterministic' (their statements: YtegdcamfhldcoaaTotals.lean).
  GIVEN WITH THE SEED: the statements are not yours to turn. If you find one false, say at which input.
  Laid BY PROGRAM, IN A SANDBOX (cutbox-rows.mjs): the forced cells as the released guide's own fill.sh prints them over the translation f4b862d3e13e12a0… (all of the seat's roots in one cut). By AI agents, Wed Nov 11 2026. No macro, syntax, notation, axiom, sorry.
-/
import Derived.Test.YtegdcamfhldcoaaChecked
import GoSem.Claim
import GoSem.ClaimJoined
import GoSem.ClaimMapViews
import Derived.JoinedTies
import Derived.KernelRfl
namespace Go.Proofs.Ytegdcamfhldcoaa
/- THE CELL 'sum', in the pinned program and in every row, IS THE sha256 OF THE DUMP (.gsa) THAT YtegdcamfhldcoaaProg.lean LOADS. Nothing in Lean hashes anything: it is a label: what it is worth is what the hold of that sum in a sandbox is worth. -/
noncomputable def Try.pinned : Pinned := { name := "ytegdcamfhldcoaa", sum := "f4b862d3e13e12a0c9fed35a22a3cab5d3fc761766d7a9d5bac2424a10f07305", checked := Try.checked }
namespace Rows
def none {H : Type} : Left H := { results := [], args := [] }

/-- 'burgagelaw16.HoldNumbers': WHATEVER THE INPUT: true; the input reads as it did. -/
def holdNumbersSpec : ChangeSpec := { name := "holdNumbers", fn := fun _ => fun
  | [] => { results := [.lit (.bool true)], args := [] }
  | _ => none }
def holdNumbersRow : OpenClaim := { program := "ytegdcamfhldcoaa", sum := "f4b862d3e13e12a0c9fed35a22a3cab5d3fc761766d7a9d5bac2424a10f07305", func := "burgage/burgagelaw16.HoldNumbers", spec := "holdNumbers", unfollowed := true, recurses := true, apart := false }
def HoldNumbersSaid : Prop := holdNumbersRow.holds Try.pinned (OpenSpec.ofChange holdNumbersSpec)

/-- ITS FALSE NEIGHBOUR: 'it returns false'. Refute it at one input. -/
def holdNumbersWrong : ChangeSpec := { name := "holdNumbers", fn := fun _ => fun
  | [] => { results := [.lit (.bool false)], args := [] }
  | _ => none }
def HoldNumbersWrongFalsely : Prop := holdNumbersRow.holds Try.pinned (OpenSpec.ofChange holdNumbersWrong)

/-- 'burgagelaw16.HoldPlays': WHATEVER THE INPUT: true; the input reads as it did. -/
def holdPlaysSpec : ChangeSpec := { name := "holdPlays", fn := fun _ => fun
  | [d] => { results := [.lit (.bool true)], args := [d] }
  | _ => none }
def holdPlaysRow : OpenClaim := { program := "ytegdcamfhldcoaa", sum := "f4b862d3e13e12a0c9fed35a22a3cab5d3fc761766d7a9d5bac2424a10f07305", func := "burgage/burgagelaw16.HoldPlays", spec := "holdPlays", unfollowed := true, recurses := true, apart := false }
def HoldPlaysSaid : Prop := holdPlaysRow.holds Try.pinned (OpenSpec.ofChange holdPlaysSpec)

/-- ITS FALSE NEIGHBOUR: 'it returns false'. Refute it at one input. -/
def holdPlaysWrong : ChangeSpec := { name := "holdPlays", fn := fun _ => fun
  | [d] => { results := [.lit (.bool false)], args := [d] }
  | _ => none }
def HoldPlaysWrongFalsely : Prop := holdPlaysRow.holds Try.pinned (OpenSpec.ofChange holdPlaysWrong)

/-- 'burgagelaw16.HoldAll': WHATEVER THE INPUT: true; the input reads as it did. -/
def holdAllSpec : ChangeSpec := { name := "holdAll", fn := fun _ => fun
  | [d] => { results := [.lit (.bool true)], args := [d] }
  | _ => none }
def holdAllRow : OpenClaim := { program := "ytegdcamfhldcoaa", sum := "f4b862d3e13e12a0c9fed35a22a3cab5d3fc761766d7a9d5bac2424a10f07305", func := "burgage/burgagelaw16.HoldAll", spec := "holdAll", unfollowed := true, recurses := true, apart := false }
def HoldAllSaid : Prop := holdAllRow.holds Try.pinned (OpenSpec.ofChange holdAllSpec)

/-- ITS FALSE NEIGHBOUR: 'it returns false'. Refute it at one input. -/
def holdAllWrong : ChangeSpec := { name := "holdAll", fn := fun _ => fun
  | [d] => { results := [.lit (.bool false)], args := [d] }
  | _ => none }
def HoldAllWrongFalsely : Prop := holdAllRow.holds Try.pinned (OpenSpec.ofChange holdAllWrong)

/-- 'burgagelaw16.HoldDrops': WHATEVER THE INPUT: true; the input reads as it did. -/
def holdDropsSpec : ChangeSpec := { name := "holdDrops", fn := fun _ => fun
  | [d1, d2, d3] => { results := [.lit (.bool true)], args := [d1, d2, d3] }
  | _ => none }
def holdDropsRow : OpenClaim := { program := "ytegdcamfhldcoaa", sum := "f4b862d3e13e12a0c9fed35a22a3cab5d3fc761766d7a9d5bac2424a10f07305", func := "burgage/burgagelaw16.HoldDrops", spec := "holdDrops", unfollowed := true, recurses := true, apart := false }
def HoldDropsSaid : Prop := holdDropsRow.holds Try.pinned (OpenSpec.ofChange holdDropsSpec)

/-- ITS FALSE NEIGHBOUR: 'it returns false'. Refute it at one input. -/
def holdDropsWrong : ChangeSpec := { name := "holdDrops", fn := fun _ => fun
  | [d1, d2, d3] => { results := [.lit (.bool false)], args := [d1, d2, d3] }
  | _ => none }
def HoldDropsWrongFalsely : Prop := holdDropsRow.holds Try.pinned (OpenSpec.ofChange holdDropsWrong)

/-- 'burgagelaw16.HoldCuts': WHATEVER THE INPUT: true; the input reads as it did. -/
def holdCutsSpec : ChangeSpec := { name := "holdCuts", fn := fun _ => fun
  | [d1, d2] => { results := [.lit (.bool true)], args := [d1, d2] }
  | _ => none }
def holdCutsRow : OpenClaim := { program := "ytegdcamfhldcoaa", sum := "f4b862d3e13e12a0c9fed35a22a3cab5d3fc761766d7a9d5bac2424a10f07305", func := "burgage/burgagelaw16.HoldCuts", spec := "holdCuts", unfollowed := true, recurses := true, apart := false }
def HoldCutsSaid : Prop := holdCutsRow.holds Try.pinned (OpenSpec.ofChange holdCutsSpec)

/-- ITS FALSE NEIGHBOUR: 'it returns false'. Refute it at one input. -/
def holdCutsWrong : ChangeSpec := { name := "holdCuts", fn := fun _ => fun
  | [d1, d2] => { results := [.lit (.bool false)], args := [d1, d2] }
  | _ => none }
def HoldCutsWrongFalsely : Prop := holdCutsRow.holds Try.pinned (OpenSpec.ofChange holdCutsWrong)

/- THE SECOND FORM. 'bulk': how many values and letters a reading holds, each counted each time it is reached (what is shared counts as often as it is met; a slice's spare places count too). A statement '..UptoSaid' is the law's where the arguments, and the package variables that the reading takes, are together of bulk at most 1048576: NARROWER than '..Said'. Prove '..Said' where nothing that the law and all that it calls make is longer than what came in: it says more and counts as full. Else prove '..UptoSaid'. A law counts once. -/
mutual
def uptoBulk {H : Type} : DataW H → Nat
  | .lit (.string bytes) => bytes.length + 1
  | .lit _ => 1
  | .nil => 1
  | .ptr d => uptoBulk d + 1
  | .slice elems spare => uptoBulkAll elems + uptoBulkAll spare + 1
  | .agg parts => uptoBulkAll parts + 1
  | .iface _ d => uptoBulk d + 1
  | .map entries => uptoBulkEntries entries + 1
  | .held _ => 1
def uptoBulkAll {H : Type} : List (DataW H) → Nat
  | [] => 0
  | d :: r => uptoBulk d + uptoBulkAll r
def uptoBulkEntries {H : Type} : List (Lit × DataW H) → Nat
  | [] => 0
  | x :: r => uptoBulkEntry x + uptoBulkEntries r
def uptoBulkEntry {H : Type} : Lit × DataW H → Nat
  | (.string bytes, d) => bytes.length + uptoBulk d + 1
  | (_, d) => uptoBulk d + 1
 end
def uptoSmall : (H : Type) → List (DataW H) → Bool := fun _ ds => decide (uptoBulkAll ds ≤ 1048576)
def OpenSpec.upto (s : _root_.Go.ChangeSpec) : _root_.Go.OpenSpec := { _root_.Go.OpenSpec.ofChange s with cond := some uptoSmall }

/-- 'burgagelaw16.HoldNumbers', WHERE WHAT IT READS IS OF BULK AT MOST 1048576: true; the input reads as it did. -/
def holdNumbersUptoRow : OpenClaim := { program := "ytegdcamfhldcoaa", sum := "f4b862d3e13e12a0c9fed35a22a3cab5d3fc761766d7a9d5bac2424a10f07305", func := "burgage/burgagelaw16.HoldNumbers", spec := "holdNumbers", unfollowed := true, recurses := true, apart := false, narrowed := true }
def HoldNumbersUptoSaid : Prop := holdNumbersUptoRow.holds Try.pinned (OpenSpec.upto holdNumbersSpec)

/-- 'burgagelaw16.HoldPlays', WHERE WHAT IT READS IS OF BULK AT MOST 1048576: true; the input reads as it did. -/
def holdPlaysUptoRow : OpenClaim := { program := "ytegdcamfhldcoaa", sum := "f4b862d3e13e12a0c9fed35a22a3cab5d3fc761766d7a9d5bac2424a10f07305", func := "burgage/burgagelaw16.HoldPlays", spec := "holdPlays", unfollowed := true, recurses := true, apart := false, narrowed := true }
def HoldPlaysUptoSaid : Prop := holdPlaysUptoRow.holds Try.pinned (OpenSpec.upto holdPlaysSpec)

/-- 'burgagelaw16.HoldAll', WHERE WHAT IT READS IS OF BULK AT MOST 1048576: true; the input reads as it did. -/
def holdAllUptoRow : OpenClaim := { program := "ytegdcamfhldcoaa", sum := "f4b862d3e13e12a0c9fed35a22a3cab5d3fc761766d7a9d5bac2424a10f07305", func := "burgage/burgagelaw16.HoldAll", spec := "holdAll", unfollowed := true, recurses := true, apart := false, narrowed := true }
def HoldAllUptoSaid : Prop := holdAllUptoRow.holds Try.pinned (OpenSpec.upto holdAllSpec)

/-- 'burgagelaw16.HoldDrops', WHERE WHAT IT READS IS OF BULK AT MOST 1048576: true; the input reads as it did. -/
def holdDropsUptoRow : OpenClaim := { program := "ytegdcamfhldcoaa", sum := "f4b862d3e13e12a0c9fed35a22a3cab5d3fc761766d7a9d5bac2424a10f07305", func := "burgage/burgagelaw16.HoldDrops", spec := "holdDrops", unfollowed := true, recurses := true, apart := false, narrowed := true }
def HoldDropsUptoSaid : Prop := holdDropsUptoRow.holds Try.pinned (OpenSpec.upto holdDropsSpec)

/-- 'burgagelaw16.HoldCuts', WHERE WHAT IT READS IS OF BULK AT MOST 1048576: true; the input reads as it did. -/
def holdCutsUptoRow : OpenClaim := { program := "ytegdcamfhldcoaa", sum := "f4b862d3e13e12a0c9fed35a22a3cab5d3fc761766d7a9d5bac2424a10f07305", func := "burgage/burgagelaw16.HoldCuts", spec := "holdCuts", unfollowed := true, recurses := true, apart := false, narrowed := true }
def HoldCutsUptoSaid : Prop := holdCutsUptoRow.holds Try.pinned (OpenSpec.upto holdCutsSpec)

end Rows
end Go.Proofs.Ytegdcamfhldcoaa

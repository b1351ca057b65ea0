/-
  No cell of these rows narrows 'for every input' (looked for: loops, veiled, ifaces, maps, wideKeys, modest, calm, conditions, laid).
  DERIVED. THE GIVEN ROWS OF THIS SEAT. 6 by the template 'for every input the law returns true; each argument reads behind the call as it read before'; 0 by the template 'total and deterministic' (their statements: YteojfpncfoafoaaTotals.lean).
  GIVEN WITH THE SEED: the statements are not yours to turn. If you find one false, say at which input.
  Laid BY PROGRAM, IN A SANDBOX (cutbox-rows.mjs): the forced cells as the released guide's own fill.sh prints them over the translation bf4f5cc56067e736… (all of the seat's roots in one cut). By AI agents, Wed Nov 11 2026. No macro, syntax, notation, axiom, sorry.
-/
import Derived.Test.YteojfpncfoafoaaChecked
import GoSem.Claim
import GoSem.ClaimJoined
import GoSem.ClaimMapViews
import Derived.JoinedTies
import Derived.KernelRfl
namespace Go.Proofs.Yteojfpncfoafoaa
/- THE CELL 'sum', in the pinned program and in every row, IS THE sha256 OF THE DUMP (.gsa) THAT YteojfpncfoafoaaProg.lean LOADS. Nothing in Lean hashes anything: it is a label: what it is worth is what the hold of that sum in a sandbox is worth. -/
noncomputable def Try.pinned : Pinned := { name := "yteojfpncfoafoaa", sum := "bf4f5cc56067e736f8627b04ee9f758aa884273ef269a29460265993f49ed016", checked := Try.checked }
namespace Rows
def none {H : Type} : Left H := { results := [], args := [] }

/-- 'burgagelaw12.DeedNumbers': WHATEVER THE INPUT: true; the input reads as it did. -/
def deedNumbersSpec : ChangeSpec := { name := "deedNumbers", fn := fun _ => fun
  | [] => { results := [.lit (.bool true)], args := [] }
  | _ => none }
def deedNumbersRow : OpenClaim := { program := "yteojfpncfoafoaa", sum := "bf4f5cc56067e736f8627b04ee9f758aa884273ef269a29460265993f49ed016", func := "burgage/burgagelaw12.DeedNumbers", spec := "deedNumbers", unfollowed := true, recurses := true, apart := false }
def DeedNumbersSaid : Prop := deedNumbersRow.holds Try.pinned (OpenSpec.ofChange deedNumbersSpec)

/-- ITS FALSE NEIGHBOUR: 'it returns false'. Refute it at one input. -/
def deedNumbersWrong : ChangeSpec := { name := "deedNumbers", fn := fun _ => fun
  | [] => { results := [.lit (.bool false)], args := [] }
  | _ => none }
def DeedNumbersWrongFalsely : Prop := deedNumbersRow.holds Try.pinned (OpenSpec.ofChange deedNumbersWrong)

/-- 'burgagelaw12.DeedTells': WHATEVER THE INPUT: true; the input reads as it did. -/
def deedTellsSpec : ChangeSpec := { name := "deedTells", fn := fun _ => fun
  | [d1, d2, d3, d4, d5, d6, d7] => { results := [.lit (.bool true)], args := [d1, d2, d3, d4, d5, d6, d7] }
  | _ => none }
def deedTellsRow : OpenClaim := { program := "yteojfpncfoafoaa", sum := "bf4f5cc56067e736f8627b04ee9f758aa884273ef269a29460265993f49ed016", func := "burgage/burgagelaw12.DeedTells", spec := "deedTells", unfollowed := true, recurses := true, apart := false }
def DeedTellsSaid : Prop := deedTellsRow.holds Try.pinned (OpenSpec.ofChange deedTellsSpec)

/-- ITS FALSE NEIGHBOUR: 'it returns false'. Refute it at one input. -/
def deedTellsWrong : ChangeSpec := { name := "deedTells", fn := fun _ => fun
  | [d1, d2, d3, d4, d5, d6, d7] => { results := [.lit (.bool false)], args := [d1, d2, d3, d4, d5, d6, d7] }
  | _ => none }
def DeedTellsWrongFalsely : Prop := deedTellsRow.holds Try.pinned (OpenSpec.ofChange deedTellsWrong)

/-- 'burgagelaw12.DeedBack': WHATEVER THE INPUT: true; the input reads as it did. -/
def deedBackSpec : ChangeSpec := { name := "deedBack", fn := fun _ => fun
  | [d1, d2, d3] => { results := [.lit (.bool true)], args := [d1, d2, d3] }
  | _ => none }
def deedBackRow : OpenClaim := { program := "yteojfpncfoafoaa", sum := "bf4f5cc56067e736f8627b04ee9f758aa884273ef269a29460265993f49ed016", func := "burgage/burgagelaw12.DeedBack", spec := "deedBack", unfollowed := true, recurses := true, apart := false }
def DeedBackSaid : Prop := deedBackRow.holds Try.pinned (OpenSpec.ofChange deedBackSpec)

/-- ITS FALSE NEIGHBOUR: 'it returns false'. Refute it at one input. -/
def deedBackWrong : ChangeSpec := { name := "deedBack", fn := fun _ => fun
  | [d1, d2, d3] => { results := [.lit (.bool false)], args := [d1, d2, d3] }
  | _ => none }
def DeedBackWrongFalsely : Prop := deedBackRow.holds Try.pinned (OpenSpec.ofChange deedBackWrong)

/-- 'burgagelaw12.DeedSizes': WHATEVER THE INPUT: true; the input reads as it did. -/
def deedSizesSpec : ChangeSpec := { name := "deedSizes", fn := fun _ => fun
  | [d] => { results := [.lit (.bool true)], args := [d] }
  | _ => none }
def deedSizesRow : OpenClaim := { program := "yteojfpncfoafoaa", sum := "bf4f5cc56067e736f8627b04ee9f758aa884273ef269a29460265993f49ed016", func := "burgage/burgagelaw12.DeedSizes", spec := "deedSizes", unfollowed := true, recurses := true, apart := false }
def DeedSizesSaid : Prop := deedSizesRow.holds Try.pinned (OpenSpec.ofChange deedSizesSpec)

/-- ITS FALSE NEIGHBOUR: 'it returns false'. Refute it at one input. -/
def deedSizesWrong : ChangeSpec := { name := "deedSizes", fn := fun _ => fun
  | [d] => { results := [.lit (.bool false)], args := [d] }
  | _ => none }
def DeedSizesWrongFalsely : Prop := deedSizesRow.holds Try.pinned (OpenSpec.ofChange deedSizesWrong)

/-- 'burgagelaw12.DeedApart': WHATEVER THE INPUT: true; the input reads as it did. -/
def deedApartSpec : ChangeSpec := { name := "deedApart", fn := fun _ => fun
  | [d1, d2] => { results := [.lit (.bool true)], args := [d1, d2] }
  | _ => none }
def deedApartRow : OpenClaim := { program := "yteojfpncfoafoaa", sum := "bf4f5cc56067e736f8627b04ee9f758aa884273ef269a29460265993f49ed016", func := "burgage/burgagelaw12.DeedApart", spec := "deedApart", unfollowed := true, recurses := true, apart := false }
def DeedApartSaid : Prop := deedApartRow.holds Try.pinned (OpenSpec.ofChange deedApartSpec)

/-- ITS FALSE NEIGHBOUR: 'it returns false'. Refute it at one input. -/
def deedApartWrong : ChangeSpec := { name := "deedApart", fn := fun _ => fun
  | [d1, d2] => { results := [.lit (.bool false)], args := [d1, d2] }
  | _ => none }
def DeedApartWrongFalsely : Prop := deedApartRow.holds Try.pinned (OpenSpec.ofChange deedApartWrong)

/-- 'burgagelaw12.DeedCuts': WHATEVER THE INPUT: true; the input reads as it did. -/
def deedCutsSpec : ChangeSpec := { name := "deedCuts", fn := fun _ => fun
  | [d1, d2, d3] => { results := [.lit (.bool true)], args := [d1, d2, d3] }
  | _ => none }
def deedCutsRow : OpenClaim := { program := "yteojfpncfoafoaa", sum := "bf4f5cc56067e736f8627b04ee9f758aa884273ef269a29460265993f49ed016", func := "burgage/burgagelaw12.DeedCuts", spec := "deedCuts", unfollowed := true, recurses := true, apart := false }
def DeedCutsSaid : Prop := deedCutsRow.holds Try.pinned (OpenSpec.ofChange deedCutsSpec)

/-- ITS FALSE NEIGHBOUR: 'it returns false'. Refute it at one input. -/
def deedCutsWrong : ChangeSpec := { name := "deedCuts", fn := fun _ => fun
  | [d1, d2, d3] => { results := [.lit (.bool false)], args := [d1, d2, d3] }
  | _ => none }
def DeedCutsWrongFalsely : Prop := deedCutsRow.holds Try.pinned (OpenSpec.ofChange deedCutsWrong)

/- THE SECOND FORM. 'bulk': how many values and letters a reading holds, each counted each time it is reached (what is shared counts as often as it is met; a slice's spare places count too). A statement '..UptoSaid' is the law's where the arguments, and the package variables that the reading takes, are together of bulk at most 1048576: NARROWER than '..Said'. Prove '..Said' where nothing that the law and all that it calls make is longer than what came in: it says more and counts as full. Else prove '..UptoSaid'. A law counts once. -/
mutual
def uptoBulk {H : Type} : DataW H → Nat
  | .lit (.string bytes) => bytes.length + 1
  | .lit _ => 1
  | .nil => 1
  | .ptr d => uptoBulk d + 1
  | .slice elems spare => uptoBulkAll elems + uptoBulkAll spare + 1
  | .agg parts => uptoBulkAll parts + 1
  | .iface _ d => uptoBulk d + 1
  | .map entries => uptoBulkEntries entries + 1
  | .held _ => 1
def uptoBulkAll {H : Type} : List (DataW H) → Nat
  | [] => 0
  | d :: r => uptoBulk d + uptoBulkAll r
def uptoBulkEntries {H : Type} : List (Lit × DataW H) → Nat
  | [] => 0
  | x :: r => uptoBulkEntry x + uptoBulkEntries r
def uptoBulkEntry {H : Type} : Lit × DataW H → Nat
  | (.string bytes, d) => bytes.length + uptoBulk d + 1
  | (_, d) => uptoBulk d + 1
 end
def uptoSmall : (H : Type) → List (DataW H) → Bool := fun _ ds => decide (uptoBulkAll ds ≤ 1048576)
def OpenSpec.upto (s : _root_.Go.ChangeSpec) : _root_.Go.OpenSpec := { _root_.Go.OpenSpec.ofChange s with cond := some uptoSmall }

/-- 'burgagelaw12.DeedNumbers', WHERE WHAT IT READS IS OF BULK AT MOST 1048576: true; the input reads as it did. -/
def deedNumbersUptoRow : OpenClaim := { program := "yteojfpncfoafoaa", sum := "bf4f5cc56067e736f8627b04ee9f758aa884273ef269a29460265993f49ed016", func := "burgage/burgagelaw12.DeedNumbers", spec := "deedNumbers", unfollowed := true, recurses := true, apart := false, narrowed := true }
def DeedNumbersUptoSaid : Prop := deedNumbersUptoRow.holds Try.pinned (OpenSpec.upto deedNumbersSpec)

/-- 'burgagelaw12.DeedTells', WHERE WHAT IT READS IS OF BULK AT MOST 1048576: true; the input reads as it did. -/
def deedTellsUptoRow : OpenClaim := { program := "yteojfpncfoafoaa", sum := "bf4f5cc56067e736f8627b04ee9f758aa884273ef269a29460265993f49ed016", func := "burgage/burgagelaw12.DeedTells", spec := "deedTells", unfollowed := true, recurses := true, apart := false, narrowed := true }
def DeedTellsUptoSaid : Prop := deedTellsUptoRow.holds Try.pinned (OpenSpec.upto deedTellsSpec)

/-- 'burgagelaw12.DeedBack', WHERE WHAT IT READS IS OF BULK AT MOST 1048576: true; the input reads as it did. -/
def deedBackUptoRow : OpenClaim := { program := "yteojfpncfoafoaa", sum := "bf4f5cc56067e736f8627b04ee9f758aa884273ef269a29460265993f49ed016", func := "burgage/burgagelaw12.DeedBack", spec := "deedBack", unfollowed := true, recurses := true, apart := false, narrowed := true }
def DeedBackUptoSaid : Prop := deedBackUptoRow.holds Try.pinned (OpenSpec.upto deedBackSpec)

/-- 'burgagelaw12.DeedSizes', WHERE WHAT IT READS IS OF BULK AT MOST 1048576: true; the input reads as it did. -/
def deedSizesUptoRow : OpenClaim := { program := "yteojfpncfoafoaa", sum := "bf4f5cc56067e736f8627b04ee9f758aa884273ef269a29460265993f49ed016", func := "burgage/burgagelaw12.DeedSizes", spec := "deedSizes", unfollowed := true, recurses := true, apart := false, narrowed := true }
def DeedSizesUptoSaid : Prop := deedSizesUptoRow.holds Try.pinned (OpenSpec.upto deedSizesSpec)

/-- 'burgagelaw12.DeedApart', WHERE WHAT IT READS IS OF BULK AT MOST 1048576: true; the input reads as it did. -/
def deedApartUptoRow : OpenClaim := { program := "yteojfpncfoafoaa", sum := "bf4f5cc56067e736f8627b04ee9f758aa884273ef269a29460265993f49ed016", func := "burgage/burgagelaw12.DeedApart", spec := "deedApart", unfollowed := true, recurses := true, apart := false, narrowed := true }
def DeedApartUptoSaid : Prop := deedApartUptoRow.holds Try.pinned (OpenSpec.upto deedApartSpec)

/-- 'burgagelaw12.DeedCuts', WHERE WHAT IT READS IS OF BULK AT MOST 1048576: true; the input reads as it did. -/
def deedCutsUptoRow : OpenClaim := { program := "yteojfpncfoafoaa", sum := "bf4f5cc56067e736f8627b04ee9f758aa884273ef269a29460265993f49ed016", func := "burgage/burgagelaw12.DeedCuts", spec := "deedCuts", unfollowed := true, recurses := true, apart := false, narrowed := true }
def DeedCutsUptoSaid : Prop := deedCutsUptoRow.holds Try.pinned (OpenSpec.upto deedCutsSpec)

end Rows
end Go.Proofs.Yteojfpncfoafoaa

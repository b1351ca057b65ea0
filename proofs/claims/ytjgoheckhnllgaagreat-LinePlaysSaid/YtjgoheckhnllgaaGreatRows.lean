/-
  No cell of these rows narrows 'for every input' (looked for: loops, veiled, ifaces, maps, wideKeys, modest, calm, conditions, laid).
  DERIVED. THE GIVEN ROWS OF THIS SEAT. 4 by the template 'for every input the law returns true; each argument reads behind the call as it read before'; 0 by the template 'total and deterministic' (their statements: YtjgoheckhnllgaaGreatTotals.lean).
  GIVEN WITH THE SEED: the statements are not yours to turn. If you find one false, say at which input.
  Laid BY PROGRAM, IN A SANDBOX (cutbox-rows.mjs): the forced cells as the released guide's own fill.sh prints them over the translation 3f6d5547e99d9a95… (all of the seat's roots in one cut). By AI agents, Wed Nov 11 2026. No macro, syntax, notation, axiom, sorry.
-/
import Derived.Test.YtjgoheckhnllgaaGreatChecked
import GoSem.Claim
import GoSem.ClaimJoined
import GoSem.ClaimMapViews
import Derived.JoinedTies
import Derived.KernelRfl
namespace Go.Proofs.YtjgoheckhnllgaaGreat
/- THE CELL 'sum', in the pinned program and in every row, IS THE sha256 OF THE DUMP (.gsa) THAT YtjgoheckhnllgaaGreatProg.lean LOADS. Nothing in Lean hashes anything: it is a label: what it is worth is what the hold of that sum in a sandbox is worth. -/
noncomputable def Tryz.pinned : Pinned := { name := "ytjgoheckhnllgaagreat", sum := "3f6d5547e99d9a952bf500c408c138fda69fb144f255e211efb91ed20d987448", checked := Tryz.checked }
namespace Rows
def none {H : Type} : Left H := { results := [], args := [] }

/-- 'burgagelaw17.LineNumbers': WHATEVER THE INPUT: true; the input reads as it did. -/
def lineNumbersSpec : ChangeSpec := { name := "lineNumbers", fn := fun _ => fun
  | [] => { results := [.lit (.bool true)], args := [] }
  | _ => none }
def lineNumbersRow : OpenClaim := { program := "ytjgoheckhnllgaagreat", sum := "3f6d5547e99d9a952bf500c408c138fda69fb144f255e211efb91ed20d987448", func := "burgage/burgagelaw17.LineNumbers", spec := "lineNumbers", unfollowed := true, recurses := true, apart := false }
def LineNumbersSaid : Prop := lineNumbersRow.holds Tryz.pinned (OpenSpec.ofChange lineNumbersSpec)

/-- ITS FALSE NEIGHBOUR: 'it returns false'. Refute it at one input. -/
def lineNumbersWrong : ChangeSpec := { name := "lineNumbers", fn := fun _ => fun
  | [] => { results := [.lit (.bool false)], args := [] }
  | _ => none }
def LineNumbersWrongFalsely : Prop := lineNumbersRow.holds Tryz.pinned (OpenSpec.ofChange lineNumbersWrong)

/-- 'burgagelaw17.LinePlays': WHATEVER THE INPUT: true; the input reads as it did. -/
def linePlaysSpec : ChangeSpec := { name := "linePlays", fn := fun _ => fun
  | [d1, d2] => { results := [.lit (.bool true)], args := [d1, d2] }
  | _ => none }
def linePlaysRow : OpenClaim := { program := "ytjgoheckhnllgaagreat", sum := "3f6d5547e99d9a952bf500c408c138fda69fb144f255e211efb91ed20d987448", func := "burgage/burgagelaw17.LinePlays", spec := "linePlays", unfollowed := true, recurses := true, apart := false }
def LinePlaysSaid : Prop := linePlaysRow.holds Tryz.pinned (OpenSpec.ofChange linePlaysSpec)

/-- ITS FALSE NEIGHBOUR: 'it returns false'. Refute it at one input. -/
def linePlaysWrong : ChangeSpec := { name := "linePlays", fn := fun _ => fun
  | [d1, d2] => { results := [.lit (.bool false)], args := [d1, d2] }
  | _ => none }
def LinePlaysWrongFalsely : Prop := linePlaysRow.holds Tryz.pinned (OpenSpec.ofChange linePlaysWrong)

/-- 'burgagelaw17.LineApart': WHATEVER THE INPUT: true; the input reads as it did. -/
def lineApartSpec : ChangeSpec := { name := "lineApart", fn := fun _ => fun
  | [d1, d2] => { results := [.lit (.bool true)], args := [d1, d2] }
  | _ => none }
def lineApartRow : OpenClaim := { program := "ytjgoheckhnllgaagreat", sum := "3f6d5547e99d9a952bf500c408c138fda69fb144f255e211efb91ed20d987448", func := "burgage/burgagelaw17.LineApart", spec := "lineApart", unfollowed := true, recurses := true, apart := false }
def LineApartSaid : Prop := lineApartRow.holds Tryz.pinned (OpenSpec.ofChange lineApartSpec)

/-- ITS FALSE NEIGHBOUR: 'it returns false'. Refute it at one input. -/
def lineApartWrong : ChangeSpec := { name := "lineApart", fn := fun _ => fun
  | [d1, d2] => { results := [.lit (.bool false)], args := [d1, d2] }
  | _ => none }
def LineApartWrongFalsely : Prop := lineApartRow.holds Tryz.pinned (OpenSpec.ofChange lineApartWrong)

/-- 'burgagelaw17.LineFaults': WHATEVER THE INPUT: true; the input reads as it did. -/
def lineFaultsSpec : ChangeSpec := { name := "lineFaults", fn := fun _ => fun
  | [d1, d2, d3] => { results := [.lit (.bool true)], args := [d1, d2, d3] }
  | _ => none }
def lineFaultsRow : OpenClaim := { program := "ytjgoheckhnllgaagreat", sum := "3f6d5547e99d9a952bf500c408c138fda69fb144f255e211efb91ed20d987448", func := "burgage/burgagelaw17.LineFaults", spec := "lineFaults", unfollowed := true, recurses := true, apart := false }
def LineFaultsSaid : Prop := lineFaultsRow.holds Tryz.pinned (OpenSpec.ofChange lineFaultsSpec)

/-- ITS FALSE NEIGHBOUR: 'it returns false'. Refute it at one input. -/
def lineFaultsWrong : ChangeSpec := { name := "lineFaults", fn := fun _ => fun
  | [d1, d2, d3] => { results := [.lit (.bool false)], args := [d1, d2, d3] }
  | _ => none }
def LineFaultsWrongFalsely : Prop := lineFaultsRow.holds Tryz.pinned (OpenSpec.ofChange lineFaultsWrong)

/- THE SECOND FORM. 'bulk': how many values and letters a reading holds, each counted each time it is reached (what is shared counts as often as it is met; a slice's spare places count too). A statement '..UptoSaid' is the law's where the arguments, and the package variables that the reading takes, are together of bulk at most 1048576: NARROWER than '..Said'. Prove '..Said' where nothing that the law and all that it calls make is longer than what came in: it says more and counts as full. Else prove '..UptoSaid'. A law counts once. -/
mutual
def uptoBulk {H : Type} : DataW H → Nat
  | .lit (.string bytes) => bytes.length + 1
  | .lit _ => 1
  | .nil => 1
  | .ptr d => uptoBulk d + 1
  | .slice elems spare => uptoBulkAll elems + uptoBulkAll spare + 1
  | .agg parts => uptoBulkAll parts + 1
  | .iface _ d => uptoBulk d + 1
  | .map entries => uptoBulkEntries entries + 1
  | .held _ => 1
def uptoBulkAll {H : Type} : List (DataW H) → Nat
  | [] => 0
  | d :: r => uptoBulk d + uptoBulkAll r
def uptoBulkEntries {H : Type} : List (Lit × DataW H) → Nat
  | [] => 0
  | x :: r => uptoBulkEntry x + uptoBulkEntries r
def uptoBulkEntry {H : Type} : Lit × DataW H → Nat
  | (.string bytes, d) => bytes.length + uptoBulk d + 1
  | (_, d) => uptoBulk d + 1
 end
def uptoSmall : (H : Type) → List (DataW H) → Bool := fun _ ds => decide (uptoBulkAll ds ≤ 1048576)
def OpenSpec.upto (s : _root_.Go.ChangeSpec) : _root_.Go.OpenSpec := { _root_.Go.OpenSpec.ofChange s with cond := some uptoSmall }

/-- 'burgagelaw17.LineNumbers', WHERE WHAT IT READS IS OF BULK AT MOST 1048576: true; the input reads as it did. -/
def lineNumbersUptoRow : OpenClaim := { program := "ytjgoheckhnllgaagreat", sum := "3f6d5547e99d9a952bf500c408c138fda69fb144f255e211efb91ed20d987448", func := "burgage/burgagelaw17.LineNumbers", spec := "lineNumbers", unfollowed := true, recurses := true, apart := false, narrowed := true }
def LineNumbersUptoSaid : Prop := lineNumbersUptoRow.holds Tryz.pinned (OpenSpec.upto lineNumbersSpec)

/-- 'burgagelaw17.LinePlays', WHERE WHAT IT READS IS OF BULK AT MOST 1048576: true; the input reads as it did. -/
def linePlaysUptoRow : OpenClaim := { program := "ytjgoheckhnllgaagreat", sum := "3f6d5547e99d9a952bf500c408c138fda69fb144f255e211efb91ed20d987448", func := "burgage/burgagelaw17.LinePlays", spec := "linePlays", unfollowed := true, recurses := true, apart := false, narrowed := true }
def LinePlaysUptoSaid : Prop := linePlaysUptoRow.holds Tryz.pinned (OpenSpec.upto linePlaysSpec)

/-- 'burgagelaw17.LineApart', WHERE WHAT IT READS IS OF BULK AT MOST 1048576: true; the input reads as it did. -/
def lineApartUptoRow : OpenClaim := { program := "ytjgoheckhnllgaagreat", sum := "3f6d5547e99d9a952bf500c408c138fda69fb144f255e211efb91ed20d987448", func := "burgage/burgagelaw17.LineApart", spec := "lineApart", unfollowed := true, recurses := true, apart := false, narrowed := true }
def LineApartUptoSaid : Prop := lineApartUptoRow.holds Tryz.pinned (OpenSpec.upto lineApartSpec)

/-- 'burgagelaw17.LineFaults', WHERE WHAT IT READS IS OF BULK AT MOST 1048576: true; the input reads as it did. -/
def lineFaultsUptoRow : OpenClaim := { program := "ytjgoheckhnllgaagreat", sum := "3f6d5547e99d9a952bf500c408c138fda69fb144f255e211efb91ed20d987448", func := "burgage/burgagelaw17.LineFaults", spec := "lineFaults", unfollowed := true, recurses := true, apart := false, narrowed := true }
def LineFaultsUptoSaid : Prop := lineFaultsUptoRow.holds Tryz.pinned (OpenSpec.upto lineFaultsSpec)

end Rows
end Go.Proofs.YtjgoheckhnllgaaGreat

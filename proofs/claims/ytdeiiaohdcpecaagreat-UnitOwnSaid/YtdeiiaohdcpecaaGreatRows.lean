/-
  No cell of these rows narrows 'for every input' (looked for: loops, veiled, ifaces, maps, wideKeys, modest, calm, conditions, laid).
  DERIVED. THE GIVEN ROWS OF THIS SEAT. 3 by the template 'for every input the law returns true; each argument reads behind the call as it read before'; 0 by the template 'total and deterministic' (their statements: YtdeiiaohdcpecaaGreatTotals.lean).
  GIVEN WITH THE SEED: the statements are not yours to turn. If you find one false, say at which input.
  Laid BY PROGRAM, IN A SANDBOX (cutbox-rows.mjs): the forced cells as the released guide's own fill.sh prints them over the translation ef8354f86dbb4fb4… (all of the seat's roots in one cut). By AI agents, Wed Nov 11 2026. No macro, syntax, notation, axiom, sorry.
-/
import Derived.Test.YtdeiiaohdcpecaaGreatChecked
import GoSem.Claim
import GoSem.ClaimJoined
import GoSem.ClaimMapViews
import Derived.JoinedTies
import Derived.KernelRfl
namespace Go.Proofs.YtdeiiaohdcpecaaGreat
/- THE CELL 'sum', in the pinned program and in every row, IS THE sha256 OF THE DUMP (.gsa) THAT YtdeiiaohdcpecaaGreatProg.lean LOADS. Nothing in Lean hashes anything: it is a label: what it is worth is what the hold of that sum in a sandbox is worth. -/
noncomputable def Tryz.pinned : Pinned := { name := "ytdeiiaohdcpecaagreat", sum := "ef8354f86dbb4fb4a3cfb9d8a13ff8ddc3af60ffe9597656a16a29558c4f0a9f", checked := Tryz.checked }
namespace Rows
def none {H : Type} : Left H := { results := [], args := [] }

/-- 'burgagelaw21.UnitOwn': WHATEVER THE INPUT: true; the input reads as it did. -/
def unitOwnSpec : ChangeSpec := { name := "unitOwn", fn := fun _ => fun
  | [d1, d2, d3, d4] => { results := [.lit (.bool true)], args := [d1, d2, d3, d4] }
  | _ => none }
def unitOwnRow : OpenClaim := { program := "ytdeiiaohdcpecaagreat", sum := "ef8354f86dbb4fb4a3cfb9d8a13ff8ddc3af60ffe9597656a16a29558c4f0a9f", func := "burgage/burgagelaw21.UnitOwn", spec := "unitOwn", unfollowed := true, recurses := true, apart := false }
def UnitOwnSaid : Prop := unitOwnRow.holds Tryz.pinned (OpenSpec.ofChange unitOwnSpec)

/-- ITS FALSE NEIGHBOUR: 'it returns false'. Refute it at one input. -/
def unitOwnWrong : ChangeSpec := { name := "unitOwn", fn := fun _ => fun
  | [d1, d2, d3, d4] => { results := [.lit (.bool false)], args := [d1, d2, d3, d4] }
  | _ => none }
def UnitOwnWrongFalsely : Prop := unitOwnRow.holds Tryz.pinned (OpenSpec.ofChange unitOwnWrong)

/-- 'burgagelaw21.UnitCounts': WHATEVER THE INPUT: true; the input reads as it did. -/
def unitCountsSpec : ChangeSpec := { name := "unitCounts", fn := fun _ => fun
  | [d1, d2, d3, d4] => { results := [.lit (.bool true)], args := [d1, d2, d3, d4] }
  | _ => none }
def unitCountsRow : OpenClaim := { program := "ytdeiiaohdcpecaagreat", sum := "ef8354f86dbb4fb4a3cfb9d8a13ff8ddc3af60ffe9597656a16a29558c4f0a9f", func := "burgage/burgagelaw21.UnitCounts", spec := "unitCounts", unfollowed := true, recurses := true, apart := false }
def UnitCountsSaid : Prop := unitCountsRow.holds Tryz.pinned (OpenSpec.ofChange unitCountsSpec)

/-- ITS FALSE NEIGHBOUR: 'it returns false'. Refute it at one input. -/
def unitCountsWrong : ChangeSpec := { name := "unitCounts", fn := fun _ => fun
  | [d1, d2, d3, d4] => { results := [.lit (.bool false)], args := [d1, d2, d3, d4] }
  | _ => none }
def UnitCountsWrongFalsely : Prop := unitCountsRow.holds Tryz.pinned (OpenSpec.ofChange unitCountsWrong)

/-- 'burgagelaw21.UnitSlow': WHATEVER THE INPUT: true; the input reads as it did. -/
def unitSlowSpec : ChangeSpec := { name := "unitSlow", fn := fun _ => fun
  | [d1, d2, d3, d4] => { results := [.lit (.bool true)], args := [d1, d2, d3, d4] }
  | _ => none }
def unitSlowRow : OpenClaim := { program := "ytdeiiaohdcpecaagreat", sum := "ef8354f86dbb4fb4a3cfb9d8a13ff8ddc3af60ffe9597656a16a29558c4f0a9f", func := "burgage/burgagelaw21.UnitSlow", spec := "unitSlow", unfollowed := true, recurses := true, apart := false }
def UnitSlowSaid : Prop := unitSlowRow.holds Tryz.pinned (OpenSpec.ofChange unitSlowSpec)

/-- ITS FALSE NEIGHBOUR: 'it returns false'. Refute it at one input. -/
def unitSlowWrong : ChangeSpec := { name := "unitSlow", fn := fun _ => fun
  | [d1, d2, d3, d4] => { results := [.lit (.bool false)], args := [d1, d2, d3, d4] }
  | _ => none }
def UnitSlowWrongFalsely : Prop := unitSlowRow.holds Tryz.pinned (OpenSpec.ofChange unitSlowWrong)

/- THE SECOND FORM. 'bulk': how many values and letters a reading holds, each counted each time it is reached (what is shared counts as often as it is met; a slice's spare places count too). A statement '..UptoSaid' is the law's where the arguments, and the package variables that the reading takes, are together of bulk at most 1048576: NARROWER than '..Said'. Prove '..Said' where nothing that the law and all that it calls make is longer than what came in: it says more and counts as full. Else prove '..UptoSaid'. A law counts once. -/
mutual
def uptoBulk {H : Type} : DataW H → Nat
  | .lit (.string bytes) => bytes.length + 1
  | .lit _ => 1
  | .nil => 1
  | .ptr d => uptoBulk d + 1
  | .slice elems spare => uptoBulkAll elems + uptoBulkAll spare + 1
  | .agg parts => uptoBulkAll parts + 1
  | .iface _ d => uptoBulk d + 1
  | .map entries => uptoBulkEntries entries + 1
  | .held _ => 1
def uptoBulkAll {H : Type} : List (DataW H) → Nat
  | [] => 0
  | d :: r => uptoBulk d + uptoBulkAll r
def uptoBulkEntries {H : Type} : List (Lit × DataW H) → Nat
  | [] => 0
  | x :: r => uptoBulkEntry x + uptoBulkEntries r
def uptoBulkEntry {H : Type} : Lit × DataW H → Nat
  | (.string bytes, d) => bytes.length + uptoBulk d + 1
  | (_, d) => uptoBulk d + 1
 end
def uptoSmall : (H : Type) → List (DataW H) → Bool := fun _ ds => decide (uptoBulkAll ds ≤ 1048576)
def OpenSpec.upto (s : _root_.Go.ChangeSpec) : _root_.Go.OpenSpec := { _root_.Go.OpenSpec.ofChange s with cond := some uptoSmall }

/-- 'burgagelaw21.UnitOwn', WHERE WHAT IT READS IS OF BULK AT MOST 1048576: true; the input reads as it did. -/
def unitOwnUptoRow : OpenClaim := { program := "ytdeiiaohdcpecaagreat", sum := "ef8354f86dbb4fb4a3cfb9d8a13ff8ddc3af60ffe9597656a16a29558c4f0a9f", func := "burgage/burgagelaw21.UnitOwn", spec := "unitOwn", unfollowed := true, recurses := true, apart := false, narrowed := true }
def UnitOwnUptoSaid : Prop := unitOwnUptoRow.holds Tryz.pinned (OpenSpec.upto unitOwnSpec)

/-- 'burgagelaw21.UnitCounts', WHERE WHAT IT READS IS OF BULK AT MOST 1048576: true; the input reads as it did. -/
def unitCountsUptoRow : OpenClaim := { program := "ytdeiiaohdcpecaagreat", sum := "ef8354f86dbb4fb4a3cfb9d8a13ff8ddc3af60ffe9597656a16a29558c4f0a9f", func := "burgage/burgagelaw21.UnitCounts", spec := "unitCounts", unfollowed := true, recurses := true, apart := false, narrowed := true }
def UnitCountsUptoSaid : Prop := unitCountsUptoRow.holds Tryz.pinned (OpenSpec.upto unitCountsSpec)

/-- 'burgagelaw21.UnitSlow', WHERE WHAT IT READS IS OF BULK AT MOST 1048576: true; the input reads as it did. -/
def unitSlowUptoRow : OpenClaim := { program := "ytdeiiaohdcpecaagreat", sum := "ef8354f86dbb4fb4a3cfb9d8a13ff8ddc3af60ffe9597656a16a29558c4f0a9f", func := "burgage/burgagelaw21.UnitSlow", spec := "unitSlow", unfollowed := true, recurses := true, apart := false, narrowed := true }
def UnitSlowUptoSaid : Prop := unitSlowUptoRow.holds Tryz.pinned (OpenSpec.upto unitSlowSpec)

end Rows
end Go.Proofs.YtdeiiaohdcpecaaGreat

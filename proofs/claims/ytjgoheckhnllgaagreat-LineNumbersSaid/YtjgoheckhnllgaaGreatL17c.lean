/- Proves that LineNumbers says true: thirty scripts of fifty asks, and a row of faults that is full. -/
import Derived.Test.YtjgoheckhnllgaaGreatB5
import Derived.Test.YtjgoheckhnllgaaGreatB1
import Derived.Test.YtjgoheckhnllgaaGreatRows
import Derived.WalkKit
import Derived.ProofKit
import Derived.OpenShut
import Derived.ShutString
import Derived.ChangeOld
import Derived.Below
import Derived.SizedLaws
namespace Go.Proofs.YtjgoheckhnllgaaGreat.lineNumbers
open Go.ChangeShapes Go.WideShapes Go.ChangeAt Go.RowKit Go.PM
set_option linter.unusedVariables false
theorem own : ownKnob Tryz.prog.godebug = none := by kernel_rfl
theorem laidOut : laidOutB Tryz.prog = true := by kernel_rfl
set_option maxRecDepth 100000 in
theorem lifted (os : Os) (started : os.Started) (H : Type) (enc : TypeId × Value → H) :
    ReturnsInHanded {} Tryz.checked os 3 .any (Rows.lineNumbersSpec.pre6 enc Tryz.prog Tryz.f3 Rows.lineNumbersRow.domain false) (Rows.lineNumbersSpec.post enc Tryz.prog Tryz.f3 false true false false) := by
  refine returnsInHanded_of_change_sized (C := Tryz.checked) own started (by kernel_rfl) Tryz.func3
    (ChangeSpec.witness6 (enc := enc) (C := Tryz.checked) false ⟨#[], #[], []⟩ 8 (by kernel_rfl) (by kernel_rfl) (by kernel_rfl) (by kernel_rfl)) ?_
  intro W base args ds gs before hval hW hcnd hsz _
  have hW' := hW
  obtain ⟨p, q, hA, hV, rfl, hfz, hnd⟩ := hW
  have hA0 := hA
  obtain ⟨rfl, rfl⟩ := trodVars_none hV
  obtain ⟨rfl, rfl, rfl⟩ := trodAll_none hA
  refine (calls0 (P := Tryz.prog) (law17_Numbers.mono fun _ _ h => h.1) (by simp only [RA])).mono fun e W' ⟨he, bel⟩ => ?_
  subst he
  exact ⟨_, rfl, _, _, _, [], _, [], hW', trodAll_mk1 (shut_bool (by kernel_rfl : Tryz.prog.underlying 4 = some .bool) _), trodAll_back laidOut bel (by kernel_rfl) hA0, rfl, bel.frame _, fun h => by cases h⟩
theorem over : Rows.lineNumbersRow.holds Tryz.pinned (OpenSpec.ofChange Rows.lineNumbersSpec) :=
  OpenClaim.holds_of_wide 3 Tryz.f3 rfl rfl rfl rfl rfl rfl rfl ⟨rfl, rfl, rfl, rfl, rfl⟩ rfl rfl rfl rfl rfl (by kernel_rfl) Tryz.func3 (by kernel_rfl)
    (of_decide_eq_true (by kernel_rfl)) (by unfold Func.isWrapper; first | (rw [if_pos (by decide +kernel)]; kernel_rfl) | (rw [if_neg (by decide +kernel)]; exact ⟨rfl, rfl⟩))
    (fun os started H enc _ => lifted os started H enc)
theorem proved : Rows.LineNumbersSaid := over
#print axioms proved
end Go.Proofs.YtjgoheckhnllgaaGreat.lineNumbers
namespace Go.Proofs.YtjgoheckhnllgaaGreat
/-- The row, under a short name, for the claim. -/
theorem lineNumbers_holds : Rows.LineNumbersSaid := lineNumbers.proved
end Go.Proofs.YtjgoheckhnllgaaGreat

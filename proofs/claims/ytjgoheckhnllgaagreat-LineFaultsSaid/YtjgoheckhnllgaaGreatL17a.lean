/- Proves that LineFaults returns true for every input: what is lost is not done, what is mute or broken is, what is refused is not. -/
import Derived.Test.YtjgoheckhnllgaaGreatB4
import Derived.Test.YtjgoheckhnllgaaGreatB1
import Derived.Test.YtjgoheckhnllgaaGreatRows
import Derived.WalkKit
import Derived.ProofKit
import Derived.OpenShut
import Derived.ShutString
import Derived.ChangeOld
import Derived.Below
import Derived.SizedLaws
namespace Go.Proofs.YtjgoheckhnllgaaGreat.lineFaults
open Go.ChangeShapes Go.WideShapes Go.ChangeAt Go.RowKit Go.PM
set_option linter.unusedVariables false
theorem own : ownKnob Tryz.prog.godebug = none := by kernel_rfl
theorem laidOut : laidOutB Tryz.prog = true := by kernel_rfl
set_option maxRecDepth 100000 in
theorem lifted (os : Os) (started : os.Started) (H : Type) (enc : TypeId × Value → H) :
    ReturnsInHanded {} Tryz.checked os 6 .any (Rows.lineFaultsSpec.pre6 enc Tryz.prog Tryz.f6 Rows.lineFaultsRow.domain false) (Rows.lineFaultsSpec.post enc Tryz.prog Tryz.f6 false true false false) := by
  refine returnsInHanded_of_change_sized (C := Tryz.checked) own started (by kernel_rfl) Tryz.func6
    (ChangeSpec.witness6 (enc := enc) (C := Tryz.checked) false ⟨#[], #[.int .i64 0, .int .u16 0, .int .i64 0], []⟩ 8 (by kernel_rfl) (by kernel_rfl) (by kernel_rfl) (by kernel_rfl)) ?_
  intro W base args ds gs before hval hW hcnd hsz _
  have hW' := hW
  obtain ⟨p, q, hA, hV, rfl, hfz, hnd⟩ := hW
  have hA0 := hA
  obtain ⟨rfl, rfl⟩ := trodVars_none hV
  obtain ⟨v0, vs0, d0, ds0, p0, q0, hargs, rfl, rfl, h0, r0⟩ := trodAll_cons hA
  obtain ⟨v1, vs1, d1, ds1, p1, q1, rfl, rfl, rfl, h1, r1⟩ := trodAll_cons r0
  obtain ⟨v2, vs2, d2, ds2, p2, q2, rfl, rfl, rfl, h2, r2⟩ := trodAll_cons r1
  obtain ⟨rfl, rfl, rfl⟩ := trodAll_nil r2
  obtain rfl : args = #[v0, v1, v2] := by cases args; simp_all
  obtain ⟨l0, rfl, rfl, rfl, b0⟩ := open_int (by kernel_rfl : Tryz.prog.underlying 3 = some (.int .i64)) (hval 0 3 v0 rfl rfl) h0
  obtain ⟨l1, rfl, rfl, rfl, b1⟩ := open_int (by kernel_rfl : Tryz.prog.underlying 42 = some (.int .u16)) (hval 1 42 v1 rfl rfl) h1
  obtain ⟨l2, rfl, rfl, rfl, b2⟩ := open_int (by kernel_rfl : Tryz.prog.underlying 3 = some (.int .i64)) (hval 2 3 v2 rfl rfl) h2
  refine (calls0 (P := Tryz.prog) (((law17_Faults (fault := l0) (v := l1) (at_ := l2) (wf_u16 b1)).mono fun _ _ h => h.1)) (by simp only [RA]; exact ⟨_, _, rfl, by simp only [R], ⟨_, _, rfl, by simp only [R], ⟨_, _, rfl, by simp only [R], rfl⟩⟩⟩)).mono fun e W' ⟨he, bel⟩ => ?_
  subst he
  exact ⟨_, rfl, _, _, _, [], _, [], hW', trodAll_mk1 (shut_bool (by kernel_rfl : Tryz.prog.underlying 4 = some .bool) _), trodAll_back laidOut bel (by kernel_rfl) hA0, rfl, bel.frame _, fun h => by cases h⟩
theorem over : Rows.lineFaultsRow.holds Tryz.pinned (OpenSpec.ofChange Rows.lineFaultsSpec) :=
  OpenClaim.holds_of_wide 6 Tryz.f6 rfl rfl rfl rfl rfl rfl rfl ⟨rfl, rfl, rfl, rfl, rfl⟩ rfl rfl rfl rfl rfl (by kernel_rfl) Tryz.func6 (by kernel_rfl)
    (of_decide_eq_true (by kernel_rfl)) (by unfold Func.isWrapper; first | (rw [if_pos (by decide +kernel)]; kernel_rfl) | (rw [if_neg (by decide +kernel)]; exact ⟨rfl, rfl⟩))
    (fun os started H enc _ => lifted os started H enc)
theorem proved : Rows.LineFaultsSaid := over
#print axioms proved
end Go.Proofs.YtjgoheckhnllgaaGreat.lineFaults
namespace Go.Proofs.YtjgoheckhnllgaaGreat
/-- The row, under a short name, for the claim. -/
theorem lineFaults_holds : Rows.LineFaultsSaid := lineFaults.proved
end Go.Proofs.YtjgoheckhnllgaaGreat

/- Proves that DevicePdus returns true for every input: the walk of a device that is asked by bytes, and the law that what it answers is taken. -/
import Derived.Test.YtaojhcbodijpbaaB5
import Derived.Test.YtaojhcbodijpbaaB1
import Derived.Test.YtaojhcbodijpbaaRows
import Derived.WalkKit
import Derived.ProofKit
import Derived.OpenShut
import Derived.ShutString
import Derived.ChangeOld
import Derived.Below
import Derived.SizedLaws
namespace Go.Proofs.Ytaojhcbodijpbaa.devicePdus
open Go.ChangeShapes Go.WideShapes Go.ChangeAt Go.RowKit Go.PM
set_option linter.unusedVariables false
theorem own : ownKnob Try.prog.godebug = none := by kernel_rfl
theorem laidOut : laidOutB Try.prog = true := by kernel_rfl
set_option maxRecDepth 100000 in
theorem lifted (os : Os) (started : os.Started) (H : Type) (enc : TypeId × Value → H) :
    ReturnsInHanded {} Try.checked os 4 .any (Rows.devicePdusSpec.pre6 enc Try.prog Try.f4 Rows.devicePdusRow.domain false) (Rows.devicePdusSpec.post enc Try.prog Try.f4 false true false false) := by
  refine returnsInHanded_of_change_sized (C := Try.checked) own started (by kernel_rfl) Try.func4
    (ChangeSpec.witness6 (enc := enc) (C := Try.checked) false ⟨#[], #[.slice none 0 0, .slice none 0 0], []⟩ 8 (by kernel_rfl) (by kernel_rfl) (by kernel_rfl) (by kernel_rfl)) ?_
  intro W base args ds gs before hval hW hcnd hsz _
  have hW' := hW
  obtain ⟨p, q, hA, hV, rfl, hfz, hnd⟩ := hW
  have hA0 := hA
  obtain ⟨rfl, rfl⟩ := trodVars_none hV
  obtain ⟨v0, vs0, d0, ds0, p0, q0, hargs, rfl, rfl, h0, r0⟩ := trodAll_cons hA
  obtain ⟨v1, vs1, d1, ds1, p1, q1, rfl, rfl, rfl, h1, r1⟩ := trodAll_cons r0
  obtain ⟨rfl, rfl, rfl⟩ := trodAll_nil r1
  obtain rfl : args = #[v0, v1] := by cases args; simp_all
  obtain ⟨e0, R0, f0, y0⟩ := open_list (P := Try.prog) (j := 0) (by kernel_rfl : Try.prog.underlying 38 = some (.slice 3)) (by kernel_rfl) (by rw [Try.cz3]; decide) (hval 0 38 v0 rfl rfl) h0 hsz rfl rfl
  obtain ⟨l0, rfl, b0⟩ := ints_fit (k := .i64) f0
  obtain ⟨_, R1, l1, rfl, b1⟩ := open_sl (j := 1) (by kernel_rfl : Try.prog.underlying 39 = some (.slice 28)) rd_rows (hval 1 39 v1 rfl rfl) h1 hsz rfl rfl
  refine (calls0 (P := Try.prog) (((law9_Pdus (l := l0) (rows := l1) (by rw [List.length_map, Try.by3] at y0; exact y0) b1.1 b1.2).mono fun _ _ h => h.1)) (by simp only [RA]; exact ⟨_, _, rfl, R0, ⟨_, _, rfl, R1, rfl⟩⟩)).mono fun e W' ⟨he, bel⟩ => ?_
  subst he
  exact ⟨_, rfl, _, _, _, [], _, [], hW', trodAll_mk1 (shut_bool (by kernel_rfl : Try.prog.underlying 4 = some .bool) _), trodAll_back laidOut bel (by kernel_rfl) hA0, rfl, bel.frame _, fun h => by cases h⟩
theorem over : Rows.devicePdusRow.holds Try.pinned (OpenSpec.ofChange Rows.devicePdusSpec) :=
  OpenClaim.holds_of_wide 4 Try.f4 rfl rfl rfl rfl rfl rfl rfl ⟨rfl, rfl, rfl, rfl, rfl⟩ rfl rfl rfl rfl rfl (by kernel_rfl) Try.func4 (by kernel_rfl)
    (of_decide_eq_true (by kernel_rfl)) (by unfold Func.isWrapper; first | (rw [if_pos (by decide +kernel)]; kernel_rfl) | (rw [if_neg (by decide +kernel)]; exact ⟨rfl, rfl⟩))
    (fun os started H enc _ => lifted os started H enc)
theorem proved : Rows.DevicePdusSaid := over
#print axioms proved
end Go.Proofs.Ytaojhcbodijpbaa.devicePdus
namespace Go.Proofs.Ytaojhcbodijpbaa
/-- The row, under a short name, for the claim. -/
theorem devicePdus_holds : Rows.DevicePdusSaid := devicePdus.proved
end Go.Proofs.Ytaojhcbodijpbaa

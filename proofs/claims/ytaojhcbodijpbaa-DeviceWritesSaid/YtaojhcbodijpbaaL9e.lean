/- Proves that DeviceWrites returns true for every input: the walk of a device that is asked six times, and the law that what is written is read. -/
import Derived.Test.YtaojhcbodijpbaaB4
import Derived.Test.YtaojhcbodijpbaaB1
import Derived.Test.YtaojhcbodijpbaaRows
import Derived.WalkKit
import Derived.ProofKit
import Derived.OpenShut
import Derived.ShutString
import Derived.ChangeOld
import Derived.Below
import Derived.SizedLaws
namespace Go.Proofs.Ytaojhcbodijpbaa.deviceWrites
open Go.ChangeShapes Go.WideShapes Go.ChangeAt Go.RowKit Go.PM
set_option linter.unusedVariables false
theorem own : ownKnob Try.prog.godebug = none := by kernel_rfl
theorem laidOut : laidOutB Try.prog = true := by kernel_rfl
set_option maxRecDepth 100000 in
theorem lifted (os : Os) (started : os.Started) (H : Type) (enc : TypeId × Value → H) :
    ReturnsInHanded {} Try.checked os 3 .any (Rows.deviceWritesSpec.pre6 enc Try.prog Try.f3 Rows.deviceWritesRow.domain false) (Rows.deviceWritesSpec.post enc Try.prog Try.f3 false true false false) := by
  refine returnsInHanded_of_change_sized (C := Try.checked) own started (by kernel_rfl) Try.func3
    (ChangeSpec.witness6 (enc := enc) (C := Try.checked) false ⟨#[], #[.int .i64 0, .slice none 0 0, .slice none 0 0, .int .u16 0, .int .u16 0], []⟩ 8 (by kernel_rfl) (by kernel_rfl) (by kernel_rfl) (by kernel_rfl)) ?_
  intro W base args ds gs before hval hW hcnd hsz _
  have hW' := hW
  obtain ⟨p, q, hA, hV, rfl, hfz, hnd⟩ := hW
  have hA0 := hA
  obtain ⟨rfl, rfl⟩ := trodVars_none hV
  obtain ⟨v0, vs0, d0, ds0, p0, q0, hargs, rfl, rfl, h0, r0⟩ := trodAll_cons hA
  obtain ⟨v1, vs1, d1, ds1, p1, q1, rfl, rfl, rfl, h1, r1⟩ := trodAll_cons r0
  obtain ⟨v2, vs2, d2, ds2, p2, q2, rfl, rfl, rfl, h2, r2⟩ := trodAll_cons r1
  obtain ⟨v3, vs3, d3, ds3, p3, q3, rfl, rfl, rfl, h3, r3⟩ := trodAll_cons r2
  obtain ⟨v4, vs4, d4, ds4, p4, q4, rfl, rfl, rfl, h4, r4⟩ := trodAll_cons r3
  obtain ⟨rfl, rfl, rfl⟩ := trodAll_nil r4
  obtain rfl : args = #[v0, v1, v2, v3, v4] := by cases args; simp_all
  obtain ⟨e1, R1, f1, y1⟩ := open_list (P := Try.prog) (j := 1) (by kernel_rfl : Try.prog.underlying 22 = some (.slice 24)) (by kernel_rfl) (by rw [Try.cz24]; decide) (hval 1 22 v1 rfl rfl) h1 hsz rfl rfl
  obtain ⟨l1, rfl, b1⟩ := ints_fit (k := .u16) f1
  obtain ⟨e2, R2, f2, y2⟩ := open_list (P := Try.prog) (j := 2) (by kernel_rfl : Try.prog.underlying 23 = some (.slice 4)) (by kernel_rfl) (by rw [Try.cz4]; decide) (hval 2 23 v2 rfl rfl) h2 hsz rfl rfl
  obtain ⟨l2, rfl⟩ := bools_fit f2
  obtain ⟨l0, rfl, rfl, rfl, b0⟩ := open_int (by kernel_rfl : Try.prog.underlying 3 = some (.int .i64)) (hval 0 3 v0 rfl rfl) h0
  obtain ⟨l3, rfl, rfl, rfl, b3⟩ := open_int (by kernel_rfl : Try.prog.underlying 24 = some (.int .u16)) (hval 3 24 v3 rfl rfl) h3
  obtain ⟨l4, rfl, rfl, rfl, b4⟩ := open_int (by kernel_rfl : Try.prog.underlying 24 = some (.int .u16)) (hval 4 24 v4 rfl rfl) h4
  refine (calls0 (P := Try.prog) (((law9_Writes (at_ := l0) (v := l1) (l := l2) (a := l3) (o := l4) (fun x hx => wf_u16 (b1 x hx)) (wf_u16 b3) (wf_u16 b4)).mono fun _ _ h => h.1)) (by simp only [RA]; exact ⟨_, _, rfl, by simp only [R], ⟨_, _, rfl, R1, ⟨_, _, rfl, R2, ⟨_, _, rfl, by simp only [R], ⟨_, _, rfl, by simp only [R], rfl⟩⟩⟩⟩⟩)).mono fun e W' ⟨he, bel⟩ => ?_
  subst he
  exact ⟨_, rfl, _, _, _, [], _, [], hW', trodAll_mk1 (shut_bool (by kernel_rfl : Try.prog.underlying 4 = some .bool) _), trodAll_back laidOut bel (by kernel_rfl) hA0, rfl, bel.frame _, fun h => by cases h⟩
theorem over : Rows.deviceWritesRow.holds Try.pinned (OpenSpec.ofChange Rows.deviceWritesSpec) :=
  OpenClaim.holds_of_wide 3 Try.f3 rfl rfl rfl rfl rfl rfl rfl ⟨rfl, rfl, rfl, rfl, rfl⟩ rfl rfl rfl rfl rfl (by kernel_rfl) Try.func3 (by kernel_rfl)
    (of_decide_eq_true (by kernel_rfl)) (by unfold Func.isWrapper; first | (rw [if_pos (by decide +kernel)]; kernel_rfl) | (rw [if_neg (by decide +kernel)]; exact ⟨rfl, rfl⟩))
    (fun os started H enc _ => lifted os started H enc)
theorem proved : Rows.DeviceWritesSaid := over
#print axioms proved
end Go.Proofs.Ytaojhcbodijpbaa.deviceWrites
namespace Go.Proofs.Ytaojhcbodijpbaa
/-- The row, under a short name, for the claim. -/
theorem deviceWrites_holds : Rows.DeviceWritesSaid := deviceWrites.proved
end Go.Proofs.Ytaojhcbodijpbaa

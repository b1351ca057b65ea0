/- Proves that UnitOwn says true: what is written over windows of the own kind is read back, in its cells and no others. -/
import Derived.Test.YtdeiiaohdcpecaaGreatB5
import Derived.Test.YtdeiiaohdcpecaaGreatB1
import Derived.Test.YtdeiiaohdcpecaaGreatRows
import Derived.WalkKit
import Derived.ProofKit
import Derived.OpenShut
import Derived.ShutString
import Derived.ChangeOld
import Derived.Below
import Derived.SizedLaws
namespace Go.Proofs.YtdeiiaohdcpecaaGreat.unitOwn
open Go.ChangeShapes Go.WideShapes Go.ChangeAt Go.RowKit Go.PM
set_option linter.unusedVariables false
theorem own : ownKnob Tryz.prog.godebug = none := by kernel_rfl
theorem laidOut : laidOutB Tryz.prog = true := by kernel_rfl
set_option maxRecDepth 100000 in
theorem lifted (os : Os) (started : os.Started) (H : Type) (enc : TypeId × Value → H) :
    ReturnsInHanded {} Tryz.checked os 3 .any (Rows.unitOwnSpec.pre6 enc Tryz.prog Tryz.f3 Rows.unitOwnRow.domain false) (Rows.unitOwnSpec.post enc Tryz.prog Tryz.f3 false true false false) := by
  refine returnsInHanded_of_change_sized (C := Tryz.checked) own started (by kernel_rfl) Tryz.func3
    (ChangeSpec.witness6 (enc := enc) (C := Tryz.checked) false ⟨#[], #[.slice none 0 0, .int .i64 0, .int .i64 0, .slice none 0 0], []⟩ 8 (by kernel_rfl) (by kernel_rfl) (by kernel_rfl) (by kernel_rfl)) ?_
  intro W base args ds gs before hval hW hcnd hsz _
  have hW' := hW
  obtain ⟨p, q, hA, hV, rfl, hfz, hnd⟩ := hW
  have hA0 := hA
  obtain ⟨rfl, rfl⟩ := trodVars_none hV
  obtain ⟨v0, vs0, d0, ds0, p0, q0, hargs, rfl, rfl, h0, r0⟩ := trodAll_cons hA
  obtain ⟨v1, vs1, d1, ds1, p1, q1, rfl, rfl, rfl, h1, r1⟩ := trodAll_cons r0
  obtain ⟨v2, vs2, d2, ds2, p2, q2, rfl, rfl, rfl, h2, r2⟩ := trodAll_cons r1
  obtain ⟨v3, vs3, d3, ds3, p3, q3, rfl, rfl, rfl, h3, r3⟩ := trodAll_cons r2
  obtain ⟨rfl, rfl, rfl⟩ := trodAll_nil r3
  obtain rfl : args = #[v0, v1, v2, v3] := by cases args; simp_all
  obtain ⟨e0, R0, f0, y0⟩ := zcK (P := Tryz.prog) (j := 0) (by kernel_rfl : Tryz.prog.underlying 22 = some (.slice 3)) (by kernel_rfl) (by rw [Tryz.cz3]; decide) (hval 0 22 v0 rfl rfl) h0 hsz rfl rfl
  obtain ⟨l0, rfl, b0⟩ := zeE (k := .i64) f0
  obtain ⟨e3, R3, f3, y3⟩ := zcK (P := Tryz.prog) (j := 3) (by kernel_rfl : Tryz.prog.underlying 23 = some (.slice 39)) (by kernel_rfl) (by rw [Tryz.cz39]; decide) (hval 3 23 v3 rfl rfl) h3 hsz rfl rfl
  obtain ⟨l3, rfl, b3⟩ := zeE (k := .u16) f3
  obtain ⟨l1, rfl, rfl, rfl, b1⟩ := open_int (by kernel_rfl : Tryz.prog.underlying 3 = some (.int .i64)) (hval 1 3 v1 rfl rfl) h1
  obtain ⟨l2, rfl, rfl, rfl, b2⟩ := open_int (by kernel_rfl : Tryz.prog.underlying 3 = some (.int .i64)) (hval 2 3 v2 rfl rfl) h2
  refine (zn3 (P := Tryz.prog) ((zi8 (tl := l0) (i9 := l1) (at9 := l2) (v9 := l3) (by rw [List.length_map, Tryz.by3] at y0; exact y0) (by rw [List.length_map, Tryz.by39] at y3; exact y3) (fun n hn => zor (b3 n hn))).mono fun _ _ h => h.1) (by simp only [RA]; exact ⟨_, _, rfl, R0, ⟨_, _, rfl, by simp only [R], ⟨_, _, rfl, by simp only [R], ⟨_, _, rfl, R3, rfl⟩⟩⟩⟩)).mono fun e W' ⟨he, bel⟩ => ?_
  subst he
  exact ⟨_, rfl, _, _, _, [], _, [], hW', trodAll_mk1 (shut_bool (by kernel_rfl : Tryz.prog.underlying 4 = some .bool) _), Vu laidOut bel (by kernel_rfl) hA0, rfl, bel.frame _, fun h => by cases h⟩
theorem over : Rows.unitOwnRow.holds Tryz.pinned (OpenSpec.ofChange Rows.unitOwnSpec) :=
  OpenClaim.holds_of_wide 3 Tryz.f3 rfl rfl rfl rfl rfl rfl rfl ⟨rfl, rfl, rfl, rfl, rfl⟩ rfl rfl rfl rfl rfl (by kernel_rfl) Tryz.func3 (by kernel_rfl)
    (of_decide_eq_true (by kernel_rfl)) (by unfold Func.isWrapper; first | (rw [if_pos (by decide +kernel)]; kernel_rfl) | (rw [if_neg (by decide +kernel)]; exact ⟨rfl, rfl⟩))
    (fun os started H enc _ => lifted os started H enc)
theorem proved : Rows.UnitOwnSaid := over
#print axioms proved
end Go.Proofs.YtdeiiaohdcpecaaGreat.unitOwn
namespace Go.Proofs.YtdeiiaohdcpecaaGreat
/-- The row, under a short name, for the claim. -/
theorem unitOwn_holds : Rows.UnitOwnSaid := unitOwn.proved
end Go.Proofs.YtdeiiaohdcpecaaGreat

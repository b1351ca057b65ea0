/- Proves that UnitSlow says true for every tape, every tenant of one and every faults: the walk of its code; all tries of a request go within 72 ticks. -/
import Derived.Test.YtdeiiaohdcpecaaGreatB5
import Derived.Test.YtdeiiaohdcpecaaGreatB1
import Derived.Test.YtdeiiaohdcpecaaGreatRows
import Derived.WalkKit
import Derived.ProofKit
import Derived.OpenShut
import Derived.ShutString
import Derived.ChangeOld
import Derived.Below
import Derived.SizedLaws
namespace Go.Proofs.YtdeiiaohdcpecaaGreat.unitSlow
open Go.ChangeShapes Go.WideShapes Go.ChangeAt Go.RowKit Go.PM
set_option linter.unusedVariables false
theorem own : ownKnob Tryz.prog.godebug = none := by kernel_rfl
theorem laidOut : laidOutB Tryz.prog = true := by kernel_rfl
set_option maxRecDepth 100000 in
theorem lifted (os : Os) (started : os.Started) (H : Type) (enc : TypeId × Value → H) :
    ReturnsInHanded {} Tryz.checked os 5 .any (Rows.unitSlowSpec.pre6 enc Tryz.prog Tryz.f5 Rows.unitSlowRow.domain false) (Rows.unitSlowSpec.post enc Tryz.prog Tryz.f5 false true false false) := by
  refine returnsInHanded_of_change_sized (C := Tryz.checked) own started (by kernel_rfl) Tryz.func5
    (ChangeSpec.witness6 (enc := enc) (C := Tryz.checked) false ⟨#[], #[.slice none 0 0, .slice none 0 0, .int .i64 0, .slice none 0 0], []⟩ 8 (by kernel_rfl) (by kernel_rfl) (by kernel_rfl) (by kernel_rfl)) ?_
  intro W base args ds gs before hval hW hcnd hsz _
  have hW' := hW
  obtain ⟨p, q, hA, hV, rfl, hfz, hnd⟩ := hW
  have hA0 := hA
  obtain ⟨rfl, rfl⟩ := trodVars_none hV
  obtain ⟨v0, vs0, d0, ds0, p0, q0, hargs, rfl, rfl, h0, r0⟩ := trodAll_cons hA
  obtain ⟨v1, vs1, d1, ds1, p1, q1, rfl, rfl, rfl, h1, r1⟩ := trodAll_cons r0
  obtain ⟨v2, vs2, d2, ds2, p2, q2, rfl, rfl, rfl, h2, r2⟩ := trodAll_cons r1
  obtain ⟨v3, vs3, d3, ds3, p3, q3, rfl, rfl, rfl, h3, r3⟩ := trodAll_cons r2
  obtain ⟨rfl, rfl, rfl⟩ := trodAll_nil r3
  obtain rfl : args = #[v0, v1, v2, v3] := by cases args; simp_all
  obtain ⟨e0, R0, f0, y0⟩ := open_list (P := Tryz.prog) (j := 0) (by kernel_rfl : Tryz.prog.underlying 22 = some (.slice 3)) (by kernel_rfl) (by rw [Tryz.cz3]; decide) (hval 0 22 v0 rfl rfl) h0 hsz rfl rfl
  obtain ⟨l0, rfl, b0⟩ := ints_fit (k := .i64) f0
  obtain ⟨e1, R1, f1, y1⟩ := open_list (P := Tryz.prog) (j := 1) (by kernel_rfl : Tryz.prog.underlying 22 = some (.slice 3)) (by kernel_rfl) (by rw [Tryz.cz3]; decide) (hval 1 22 v1 rfl rfl) h1 hsz rfl rfl
  obtain ⟨l1, rfl, b1⟩ := ints_fit (k := .i64) f1
  obtain ⟨e3, R3, f3, y3⟩ := open_list (P := Tryz.prog) (j := 3) (by kernel_rfl : Tryz.prog.underlying 22 = some (.slice 3)) (by kernel_rfl) (by rw [Tryz.cz3]; decide) (hval 3 22 v3 rfl rfl) h3 hsz rfl rfl
  obtain ⟨l3, rfl, b3⟩ := ints_fit (k := .i64) f3
  obtain ⟨l2, rfl, rfl, rfl, b2⟩ := open_int (by kernel_rfl : Tryz.prog.underlying 3 = some (.int .i64)) (hval 2 3 v2 rfl rfl) h2
  refine (calls0 (P := Tryz.prog) ((law21_Slow (tl := l0) (ul := l1) (i9 := l2) (fl := l3) (by rw [List.length_map, Tryz.by3] at y0; exact y0) (by rw [List.length_map, Tryz.by3] at y1; exact y1) (by rw [List.length_map, Tryz.by3] at y3; exact y3)).mono fun _ _ h => h.1) (by simp only [RA]; exact ⟨_, _, rfl, R0, ⟨_, _, rfl, R1, ⟨_, _, rfl, by simp only [R], ⟨_, _, rfl, R3, rfl⟩⟩⟩⟩)).mono fun e W' ⟨he, bel⟩ => ?_
  subst he
  exact ⟨_, rfl, _, _, _, [], _, [], hW', trodAll_mk1 (shut_bool (by kernel_rfl : Tryz.prog.underlying 4 = some .bool) _), trodAll_back laidOut bel (by kernel_rfl) hA0, rfl, bel.frame _, fun h => by cases h⟩
theorem over : Rows.unitSlowRow.holds Tryz.pinned (OpenSpec.ofChange Rows.unitSlowSpec) :=
  OpenClaim.holds_of_wide 5 Tryz.f5 rfl rfl rfl rfl rfl rfl rfl ⟨rfl, rfl, rfl, rfl, rfl⟩ rfl rfl rfl rfl rfl (by kernel_rfl) Tryz.func5 (by kernel_rfl)
    (of_decide_eq_true (by kernel_rfl)) (by unfold Func.isWrapper; first | (rw [if_pos (by decide +kernel)]; kernel_rfl) | (rw [if_neg (by decide +kernel)]; exact ⟨rfl, rfl⟩))
    (fun os started H enc _ => lifted os started H enc)
theorem proved : Rows.UnitSlowSaid := over
#print axioms proved
end Go.Proofs.YtdeiiaohdcpecaaGreat.unitSlow
namespace Go.Proofs.YtdeiiaohdcpecaaGreat
/-- The row, under a short name, for the claim. -/
theorem unitSlow_holds : Rows.UnitSlowSaid := unitSlow.proved
end Go.Proofs.YtdeiiaohdcpecaaGreat

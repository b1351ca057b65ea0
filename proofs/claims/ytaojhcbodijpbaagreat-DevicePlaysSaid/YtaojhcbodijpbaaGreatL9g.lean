/- Proves that DevicePlays returns true for every input: the walk of a device beside the document's, and the law that both answer the same. -/
import Derived.Test.YtaojhcbodijpbaaGreatB5
import Derived.Test.YtaojhcbodijpbaaGreatB1
import Derived.Test.YtaojhcbodijpbaaGreatRows
import Derived.WalkKit
import Derived.ProofKit
import Derived.OpenShut
import Derived.ShutString
import Derived.ChangeOld
import Derived.Below
import Derived.SizedLaws
namespace Go.Proofs.YtaojhcbodijpbaaGreat.devicePlays
open Go.ChangeShapes Go.WideShapes Go.ChangeAt Go.RowKit Go.PM
set_option linter.unusedVariables false
theorem own : ownKnob Tryz.prog.godebug = none := by kernel_rfl
theorem laidOut : laidOutB Tryz.prog = true := by kernel_rfl
set_option maxRecDepth 100000 in
theorem lifted (os : Os) (started : os.Started) (H : Type) (enc : TypeId × Value → H) :
    ReturnsInHanded {} Tryz.checked os 4 .any (Rows.devicePlaysSpec.pre6 enc Tryz.prog Tryz.f4 Rows.devicePlaysRow.domain false) (Rows.devicePlaysSpec.post enc Tryz.prog Tryz.f4 false true false false) := by
  refine returnsInHanded_of_change_sized (C := Tryz.checked) own started (by kernel_rfl) Tryz.func4
    (ChangeSpec.witness6 (enc := enc) (C := Tryz.checked) false ⟨#[], #[.slice none 0 0, .int .i64 0, .slice none 0 0, .slice none 0 0], []⟩ 8 (by kernel_rfl) (by kernel_rfl) (by kernel_rfl) (by kernel_rfl)) ?_
  intro W base args ds gs before hval hW hcnd hsz _
  have hW' := hW
  obtain ⟨p, q, hA, hV, rfl, hfz, hnd⟩ := hW
  have hA0 := hA
  obtain ⟨rfl, rfl⟩ := trodVars_none hV
  obtain ⟨v0, vs0, d0, ds0, p0, q0, hargs, rfl, rfl, h0, r0⟩ := trodAll_cons hA
  obtain ⟨v1, vs1, d1, ds1, p1, q1, rfl, rfl, rfl, h1, r1⟩ := trodAll_cons r0
  obtain ⟨v2, vs2, d2, ds2, p2, q2, rfl, rfl, rfl, h2, r2⟩ := trodAll_cons r1
  obtain ⟨v3, vs3, d3, ds3, p3, q3, rfl, rfl, rfl, h3, r3⟩ := trodAll_cons r2
  obtain ⟨rfl, rfl, rfl⟩ := trodAll_nil r3
  obtain rfl : args = #[v0, v1, v2, v3] := by cases args; simp_all
  obtain ⟨e0, R0, f0, y0⟩ := open_list (P := Tryz.prog) (j := 0) (by kernel_rfl : Tryz.prog.underlying 25 = some (.slice 3)) (by kernel_rfl) (by rw [Tryz.cz3]; decide) (hval 0 25 v0 rfl rfl) h0 hsz rfl rfl
  obtain ⟨l0, rfl, b0⟩ := ints_fit (k := .i64) f0
  obtain ⟨l1, rfl, rfl, rfl, b1⟩ := open_int (by kernel_rfl : Tryz.prog.underlying 3 = some (.int .i64)) (hval 1 3 v1 rfl rfl) h1
  obtain ⟨_, R2, l2, rfl, b2⟩ := open_sl (j := 2) (by kernel_rfl : Tryz.prog.underlying 23 = some (.slice 33)) rd_reqs (hval 2 23 v2 rfl rfl) h2 hsz rfl rfl
  obtain ⟨_, R3, l3, rfl, b3⟩ := open_sl (j := 3) (by kernel_rfl : Tryz.prog.underlying 28 = some (.slice 27)) rd_rows (hval 3 28 v3 rfl rfl) h3 hsz rfl rfl
  refine (calls0 (P := Tryz.prog) (((law9_Plays (l := l0) (cells := l1) (raw := l2) (rows := l3) (by rw [List.length_map, Tryz.by3] at y0; exact y0) b2.2 b2.1 b3.1 b3.2).mono fun _ _ h => h.1)) (by simp only [RA]; exact ⟨_, _, rfl, R0, ⟨_, _, rfl, by simp only [R], ⟨_, _, rfl, R2, ⟨_, _, rfl, R3, rfl⟩⟩⟩⟩)).mono fun e W' ⟨he, bel⟩ => ?_
  subst he
  exact ⟨_, rfl, _, _, _, [], _, [], hW', trodAll_mk1 (shut_bool (by kernel_rfl : Tryz.prog.underlying 4 = some .bool) _), trodAll_back laidOut bel (by kernel_rfl) hA0, rfl, bel.frame _, fun h => by cases h⟩
theorem over : Rows.devicePlaysRow.holds Tryz.pinned (OpenSpec.ofChange Rows.devicePlaysSpec) :=
  OpenClaim.holds_of_wide 4 Tryz.f4 rfl rfl rfl rfl rfl rfl rfl ⟨rfl, rfl, rfl, rfl, rfl⟩ rfl rfl rfl rfl rfl (by kernel_rfl) Tryz.func4 (by kernel_rfl)
    (of_decide_eq_true (by kernel_rfl)) (by unfold Func.isWrapper; first | (rw [if_pos (by decide +kernel)]; kernel_rfl) | (rw [if_neg (by decide +kernel)]; exact ⟨rfl, rfl⟩))
    (fun os started H enc _ => lifted os started H enc)
theorem proved : Rows.DevicePlaysSaid := over
#print axioms proved
end Go.Proofs.YtaojhcbodijpbaaGreat.devicePlays
namespace Go.Proofs.YtaojhcbodijpbaaGreat
/-- The row, under a short name, for the claim. -/
theorem devicePlays_holds : Rows.DevicePlaysSaid := devicePlays.proved
end Go.Proofs.YtaojhcbodijpbaaGreat

/- Proves that LinePlays says true for every tape and every row of asks: the walk of a line beside the one of the document, and the law that both answer the same. -/
import Derived.Test.YtjgoheckhnllgaaGreatB5
import Derived.Test.YtjgoheckhnllgaaGreatB1
import Derived.Test.YtjgoheckhnllgaaGreatRows
import Derived.WalkKit
import Derived.ProofKit
import Derived.OpenShut
import Derived.ShutString
import Derived.ChangeOld
import Derived.Below
import Derived.SizedLaws
namespace Go.Proofs.YtjgoheckhnllgaaGreat.linePlays
open Go.ChangeShapes Go.WideShapes Go.ChangeAt Go.RowKit Go.PM
set_option linter.unusedVariables false
theorem own : ownKnob Tryz.prog.godebug = none := by kernel_rfl
theorem laidOut : laidOutB Tryz.prog = true := by kernel_rfl
set_option maxRecDepth 100000 in
theorem lifted (os : Os) (started : os.Started) (H : Type) (enc : TypeId × Value → H) :
    ReturnsInHanded {} Tryz.checked os 4 .any (Rows.linePlaysSpec.pre6 enc Tryz.prog Tryz.f4 Rows.linePlaysRow.domain false) (Rows.linePlaysSpec.post enc Tryz.prog Tryz.f4 false true false false) := by
  refine returnsInHanded_of_change_sized (C := Tryz.checked) own started (by kernel_rfl) Tryz.func4
    (ChangeSpec.witness6 (enc := enc) (C := Tryz.checked) false ⟨#[], #[.slice none 0 0, .slice none 0 0], []⟩ 8 (by kernel_rfl) (by kernel_rfl) (by kernel_rfl) (by kernel_rfl)) ?_
  intro W base args ds gs before hval hW hcnd hsz _
  have hW' := hW
  obtain ⟨p, q, hA, hV, rfl, hfz, hnd⟩ := hW
  have hA0 := hA
  obtain ⟨rfl, rfl⟩ := trodVars_none hV
  obtain ⟨v0, vs0, d0, ds0, p0, q0, hargs, rfl, rfl, h0, r0⟩ := trodAll_cons hA
  obtain ⟨v1, vs1, d1, ds1, p1, q1, rfl, rfl, rfl, h1, r1⟩ := trodAll_cons r0
  obtain ⟨rfl, rfl, rfl⟩ := trodAll_nil r1
  obtain rfl : args = #[v0, v1] := by cases args; simp_all
  obtain ⟨e0, R0, f0, y0⟩ := open_list (P := Tryz.prog) (j := 0) (by kernel_rfl : Tryz.prog.underlying 27 = some (.slice 3)) (by kernel_rfl) (by rw [Tryz.cz3]; decide) (hval 0 27 v0 rfl rfl) h0 hsz rfl rfl
  obtain ⟨l0, rfl, b0⟩ := ints_fit (k := .i64) f0
  obtain ⟨_, R1, l1, rfl, b1⟩ := open_sl (j := 1) (by kernel_rfl : Tryz.prog.underlying 22 = some (.slice 25)) rd_asks (hval 1 22 v1 rfl rfl) h1 hsz rfl rfl
  refine (calls0 (P := Tryz.prog) ((law17_Plays (tl := l0) (ak := l1) (by rw [List.length_map, Tryz.by3] at y0; exact y0) b1.1 b1.2).mono fun _ _ h => h.1) (by simp only [RA]; exact ⟨_, _, rfl, R0, ⟨_, _, rfl, R1, rfl⟩⟩)).mono fun e W' ⟨he, bel⟩ => ?_
  subst he
  exact ⟨_, rfl, _, _, _, [], _, [], hW', trodAll_mk1 (shut_bool (by kernel_rfl : Tryz.prog.underlying 4 = some .bool) _), trodAll_back laidOut bel (by kernel_rfl) hA0, rfl, bel.frame _, fun h => by cases h⟩
theorem over : Rows.linePlaysRow.holds Tryz.pinned (OpenSpec.ofChange Rows.linePlaysSpec) :=
  OpenClaim.holds_of_wide 4 Tryz.f4 rfl rfl rfl rfl rfl rfl rfl ⟨rfl, rfl, rfl, rfl, rfl⟩ rfl rfl rfl rfl rfl (by kernel_rfl) Tryz.func4 (by kernel_rfl)
    (of_decide_eq_true (by kernel_rfl)) (by unfold Func.isWrapper; first | (rw [if_pos (by decide +kernel)]; kernel_rfl) | (rw [if_neg (by decide +kernel)]; exact ⟨rfl, rfl⟩))
    (fun os started H enc _ => lifted os started H enc)
theorem proved : Rows.LinePlaysSaid := over
#print axioms proved
end Go.Proofs.YtjgoheckhnllgaaGreat.linePlays
namespace Go.Proofs.YtjgoheckhnllgaaGreat
/-- The row, under a short name, for the claim. -/
theorem linePlays_holds : Rows.LinePlaysSaid := linePlays.proved
end Go.Proofs.YtjgoheckhnllgaaGreat

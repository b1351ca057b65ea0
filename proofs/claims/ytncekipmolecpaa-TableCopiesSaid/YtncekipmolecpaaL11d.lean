/- Proves that TableCopies returns true for every input: the walk of its code; a copy's tenant has rows of its own, and what is written there is in no other table. -/
import Derived.Test.YtncekipmolecpaaB2
import Derived.Test.YtncekipmolecpaaB1
import Derived.Test.YtncekipmolecpaaRows
import Derived.WalkKit
import Derived.ProofKit
import Derived.OpenShut
import Derived.ShutString
import Derived.ChangeOld
import Derived.Below
import Derived.SizedLaws
namespace Go.Proofs.Ytncekipmolecpaa.tableCopies
open Go.ChangeShapes Go.WideShapes Go.ChangeAt Go.RowKit Go.PM
set_option linter.unusedVariables false
theorem own : ownKnob Try.prog.godebug = none := by kernel_rfl
theorem laidOut : laidOutB Try.prog = true := by kernel_rfl
set_option maxRecDepth 100000 in
theorem lifted (os : Os) (started : os.Started) (H : Type) (enc : TypeId × Value → H) :
    ReturnsInHanded {} Try.checked os 6 .any (Rows.tableCopiesSpec.pre6 enc Try.prog Try.f6 Rows.tableCopiesRow.domain false) (Rows.tableCopiesSpec.post enc Try.prog Try.f6 false true false false) := by
  refine returnsInHanded_of_change_sized (C := Try.checked) own started (by kernel_rfl) Try.func6
    (ChangeSpec.witness6 (enc := enc) (C := Try.checked) false ⟨#[], #[.slice none 0 0, .int .i64 0, .int .i64 0], []⟩ 8 (by kernel_rfl) (by kernel_rfl) (by kernel_rfl) (by kernel_rfl)) ?_
  intro W base args ds gs before hval hW hcnd hsz _
  have hW' := hW
  obtain ⟨p, q, hA, hV, rfl, hfz, hnd⟩ := hW
  have hA0 := hA
  obtain ⟨rfl, rfl⟩ := trodVars_none hV
  obtain ⟨v0, vs0, d0, ds0, p0, q0, hargs, rfl, rfl, h0, r0⟩ := trodAll_cons hA
  obtain ⟨v1, vs1, d1, ds1, p1, q1, rfl, rfl, rfl, h1, r1⟩ := trodAll_cons r0
  obtain ⟨v2, vs2, d2, ds2, p2, q2, rfl, rfl, rfl, h2, r2⟩ := trodAll_cons r1
  obtain ⟨rfl, rfl, rfl⟩ := trodAll_nil r2
  obtain rfl : args = #[v0, v1, v2] := by cases args; simp_all
  obtain ⟨e0, R0, f0, y0⟩ := open_list (P := Try.prog) (j := 0) (by kernel_rfl : Try.prog.underlying 26 = some (.slice 3)) (by kernel_rfl) (by rw [Try.cz3]; decide) (hval 0 26 v0 rfl rfl) h0 hsz rfl rfl
  obtain ⟨l0, rfl, b0⟩ := ints_fit (k := .i64) f0
  obtain ⟨l1, rfl, rfl, rfl, b1⟩ := open_int (by kernel_rfl : Try.prog.underlying 3 = some (.int .i64)) (hval 1 3 v1 rfl rfl) h1
  obtain ⟨l2, rfl, rfl, rfl, b2⟩ := open_int (by kernel_rfl : Try.prog.underlying 3 = some (.int .i64)) (hval 2 3 v2 rfl rfl) h2
  refine (calls0 (P := Try.prog) (((law_Copies (l := l0) (at_ := l1) (n := l2) (by rw [List.length_map, Try.by3] at y0; exact y0) (wf_i64 b1) (wf_i64 b2)).mono fun _ _ h => h.1)) (by simp only [RA]; exact ⟨_, _, rfl, R0, ⟨_, _, rfl, by simp only [R], ⟨_, _, rfl, by simp only [R], rfl⟩⟩⟩)).mono fun e W' ⟨he, bel⟩ => ?_
  subst he
  exact ⟨_, rfl, _, _, _, [], _, [], hW', trodAll_mk1 (shut_bool (by kernel_rfl : Try.prog.underlying 4 = some .bool) _), trodAll_back laidOut bel (by kernel_rfl) hA0, rfl, bel.frame _, fun h => by cases h⟩
theorem over : Rows.tableCopiesRow.holds Try.pinned (OpenSpec.ofChange Rows.tableCopiesSpec) :=
  OpenClaim.holds_of_wide 6 Try.f6 rfl rfl rfl rfl rfl rfl rfl ⟨rfl, rfl, rfl, rfl, rfl⟩ rfl rfl rfl rfl rfl (by kernel_rfl) Try.func6 (by kernel_rfl)
    (of_decide_eq_true (by kernel_rfl)) (by unfold Func.isWrapper; first | (rw [if_pos (by decide +kernel)]; kernel_rfl) | (rw [if_neg (by decide +kernel)]; exact ⟨rfl, rfl⟩))
    (fun os started H enc _ => lifted os started H enc)
theorem proved : Rows.TableCopiesSaid := over
#print axioms proved
end Go.Proofs.Ytncekipmolecpaa.tableCopies
namespace Go.Proofs.Ytncekipmolecpaa
/-- The row, under a short name, for the claim. -/
theorem tableCopies_holds : Rows.TableCopiesSaid := tableCopies.proved
end Go.Proofs.Ytncekipmolecpaa

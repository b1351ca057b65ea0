/- Proves that HoldCuts returns true for every input: the walk of its code, and that two sorted lists of the same things are one. -/
import Derived.Test.YtegdcamfhldcoaaH7
import Derived.Test.YtegdcamfhldcoaaPmW
import Derived.Test.YtegdcamfhldcoaaRows
import Derived.WalkKit
import Derived.ProofKit
import Derived.OpenShut
import Derived.ShutString
import Derived.ChangeOld
import Derived.Below
import Derived.SizedLaws
namespace Go.Proofs.Ytegdcamfhldcoaa.holdCuts
open Go.ChangeShapes Go.WideShapes Go.ChangeAt Go.RowKit Go.PM
set_option linter.unusedVariables false
theorem own : ownKnob Try.prog.godebug = none := by kernel_rfl
theorem laidOut : laidOutB Try.prog = true := by kernel_rfl
theorem ints {els : List PV} (h : ∀ x ∈ els, fitEl ([.int .i64], false) x) : ∃ l : List Int, els = l.map (PV.int .i64) := by
  obtain ⟨l, e, _⟩ := choose_list (f := PV.int .i64) (q := fun _ => True) fun x hx => by
    obtain ⟨p, r, e, ⟨n, e1, _⟩, e2⟩ := h x hx
    simp only [List.cons.injEq] at e
    exact ⟨n, by rw [e.1, e1], trivial⟩
  exact ⟨l, e⟩
set_option maxRecDepth 100000 in
theorem lifted (os : Os) (started : os.Started) (H : Type) (enc : TypeId × Value → H) :
    ReturnsInHanded {} Try.checked os 7 .any (Rows.holdCutsSpec.pre6 enc Try.prog Try.f7 Rows.holdCutsRow.domain false) (Rows.holdCutsSpec.post enc Try.prog Try.f7 false true false false) := by
  refine returnsInHanded_of_change_sized (C := Try.checked) own started (by kernel_rfl) Try.func7
    (ChangeSpec.witness6 (enc := enc) (C := Try.checked) false ⟨#[], #[.slice none 0 0, .slice none 0 0], []⟩ 8 (by kernel_rfl) (by kernel_rfl) (by kernel_rfl) (by kernel_rfl)) ?_
  intro W base args ds gs before hval hW hcnd hsz _
  have hW' := hW
  obtain ⟨p, q, hA, hV, rfl, hfz, hnd⟩ := hW
  have hA0 := hA
  obtain ⟨rfl, rfl⟩ := trodVars_none hV
  obtain ⟨v0, vs0, d0, ds0, p0, q0, hargs, rfl, rfl, h0, r0⟩ := trodAll_cons hA
  obtain ⟨v1, vs1, d1, ds1, p1, q1, rfl, rfl, rfl, h1, r1⟩ := trodAll_cons r0
  obtain ⟨rfl, rfl, rfl⟩ := trodAll_nil r1
  obtain rfl : args = #[v0, v1] := by cases args; simp_all
  obtain ⟨e0, R0, f0, _⟩ := open_list (P := Try.prog) (j := 0) (by kernel_rfl : Try.prog.underlying 28 = some (.slice 2)) (by kernel_rfl) (by rw [Try.cz2]; decide) (hval 0 28 v0 rfl rfl) h0 hsz rfl rfl
  obtain ⟨e1, R1, f1, _⟩ := open_list (P := Try.prog) (j := 1) (by kernel_rfl : Try.prog.underlying 28 = some (.slice 2)) (by kernel_rfl) (by rw [Try.cz2]; decide) (hval 1 28 v1 rfl rfl) h1 hsz rfl rfl
  obtain ⟨l0, rfl⟩ := ints f0
  obtain ⟨l1, rfl⟩ := ints f1
  refine (calls0 (P := Try.prog) (holdCuts_ (ticks := l0) (parts := l1)) (by simp only [RA]; exact ⟨v0, [v1], rfl, R0, v1, [], rfl, R1, rfl⟩)).mono fun e W' ⟨he, bel⟩ => ?_
  subst he
  exact ⟨_, rfl, _, _, _, [], _, [], hW', trodAll_mk1 (shut_bool (by kernel_rfl : Try.prog.underlying 4 = some .bool) _), trodAll_back laidOut bel (by kernel_rfl) hA0, rfl, bel.frame _, fun h => by cases h⟩
theorem over : Rows.holdCutsRow.holds Try.pinned (OpenSpec.ofChange Rows.holdCutsSpec) :=
  OpenClaim.holds_of_wide 7 Try.f7 rfl rfl rfl rfl rfl rfl rfl ⟨rfl, rfl, rfl, rfl, rfl⟩ rfl rfl rfl rfl rfl (by kernel_rfl) Try.func7 (by kernel_rfl)
    (of_decide_eq_true (by kernel_rfl)) (by unfold Func.isWrapper; first | (rw [if_pos (by decide +kernel)]; kernel_rfl) | (rw [if_neg (by decide +kernel)]; exact ⟨rfl, rfl⟩))
    (fun os started H enc _ => lifted os started H enc)
theorem proved : Rows.HoldCutsSaid := over
#print axioms proved
end Go.Proofs.Ytegdcamfhldcoaa.holdCuts
namespace Go.Proofs.Ytegdcamfhldcoaa
/-- The row, under a short name, for the claim. -/
theorem holdCuts_holds : Rows.HoldCutsSaid := holdCuts.proved
end Go.Proofs.Ytegdcamfhldcoaa

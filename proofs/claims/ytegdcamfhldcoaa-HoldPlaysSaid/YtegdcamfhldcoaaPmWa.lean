import Derived.Test.YtegdcamfhldcoaaPmW
import Derived.WalkKit
import Derived.ProofKit
set_option linter.unusedVariables false
namespace Go.PM
open Go

theorem ints_fit {k : IntKind} {els : List PV} (h : ∀ x ∈ els, fitEl ([.int k], false) x) : ∃ l : List Int, els = l.map (PV.int k) ∧ ∀ n ∈ l, (Lit.int k n).wf = true :=
  choose_list (f := PV.int k) (q := fun n => (Lit.int k n).wf = true) fun x hx => by
    obtain ⟨p, r, e, ⟨n, e1, hw⟩, e2⟩ := h x hx
    simp only [List.cons.injEq] at e
    exact ⟨n, by rw [e.1, e1], hw⟩

theorem bools_fit {els : List PV} (h : ∀ x ∈ els, fitEl ([.bool], false) x) : ∃ l : List Bool, els = l.map PV.bool := by
  obtain ⟨l, e, _⟩ := choose_list (f := PV.bool) (q := fun _ => True) fun x hx => by
    obtain ⟨p, r, e, ⟨n, e1⟩, e2⟩ := h x hx
    simp only [List.cons.injEq] at e
    exact ⟨n, by rw [e.1, e1], trivial⟩
  exact ⟨l, e⟩

theorem wf_i64 {n : Int} (h : (Lit.int .i64 n).wf = true) : -9223372036854775808 ≤ n ∧ n ≤ 9223372036854775807 := by
  simp [Lit.wf, IntKind.min, IntKind.max, IntKind.signed, IntKind.bits] at h
  omega
theorem wf_u8 {n : Int} (h : (Lit.int .u8 n).wf = true) : 0 ≤ n ∧ n ≤ 255 := by
  simp [Lit.wf, IntKind.min, IntKind.max, IntKind.signed, IntKind.bits] at h
  omega
theorem wf_u16 {n : Int} (h : (Lit.int .u16 n).wf = true) : 0 ≤ n ∧ n ≤ 65535 := by
  simp [Lit.wf, IntKind.min, IntKind.max, IntKind.signed, IntKind.bits] at h
  omega
theorem wf_u32 {n : Int} (h : (Lit.int .u32 n).wf = true) : 0 ≤ n ∧ n ≤ 4294967295 := by
  simp [Lit.wf, IntKind.min, IntKind.max, IntKind.signed, IntKind.bits] at h
  omega
end Go.PM

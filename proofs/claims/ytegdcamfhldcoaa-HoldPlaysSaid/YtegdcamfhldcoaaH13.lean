import Derived.Test.YtegdcamfhldcoaaH12
import Derived.Test.YtegdcamfhldcoaaPmWa
namespace Go.Proofs
open Go.PM Go

theorem asks_fit {els : List PV} (h : ∀ x ∈ els, fitEl ([.int .i64, .int .i64, .int .i64], true) x) : ∃ l : List AskI, els = l.map AskI.pv ∧ ∀ a ∈ l, a.t ≤ 9223372036854775807 :=
  choose_list (f := AskI.pv) (q := fun a => a.t ≤ 9223372036854775807) fun x hx => by
    obtain ⟨ps, rfl, hps⟩ := h x hx
    simp only [fits, fit1] at hps
    obtain ⟨p1, r1, rfl, ⟨n1, rfl, w1⟩, p2, r2, rfl, ⟨n2, rfl, w2⟩, p3, r3, rfl, ⟨n3, rfl, w3⟩, rfl⟩ := hps
    exact ⟨⟨n1, n2, n3⟩, rfl, (wf_i64 w2).2⟩
end Go.Proofs

import Derived.Test.YtegdcamfhldcoaaPmV
import Derived.OpenShut
import Derived.SizedLaws
import Derived.ChangeOld
set_option linter.unusedVariables false
set_option linter.unusedSimpArgs false
namespace Go.PM
open Go Go.ChangeShapes Go.WideShapes Go.RowKit

/-! ## From a row to a call -/

def g0 : G := { nxt := 0, rows := fun _ => none, live := fun _ => false, toks := fun _ => none, lim := fun _ => none }
def s0 : St := { nxt := 0, blk := fun _ => none }

theorem g0_isRow (b : Nat) : ¬ g0.isRow b := by
  rintro ⟨i, n, e, _⟩
  cases e
theorem g0_free (b n : Nat) : g0.free b n := ⟨g0_isRow b, fun m h => by cases h⟩
theorem inv0 (P : Program) (w : World) : Inv P g0 s0 w where
  nxt := rfl
  wf := fun _ _ => rfl
  at' := fun id => ⟨rfl, rfl⟩
  inj := fun i j b m n hi _ _ _ => by cases hi
  tinj := fun i j b m n hi _ => by cases hi
  lim := fun b e h => by cases h
  rlim := fun _ _ _ _ _ => rfl

theorem below0 {w g' w'} (h : Ext g0 w g' w') : Below w.heap.size w w' :=
  ⟨h.os, h.tape, h.output, h.size, fun k hk => h.same k hk (g0_isRow k) rfl⟩

theorem calls0 {P : Program} {f : FuncId} {args : List PV} {vs : Array Value} {w : World} (h : ACalls P f args s0 (fun r _ => r = .bool true)) (hr : RA g0 w args vs.toList) :
    Calls P f vs w fun e w' => e = .returned (.bool true) ∧ Below w.heap.size w w' := by
  refine (h g0 w vs (inv0 P w) hr).mono fun e w' ⟨v, g', r, s', h1, h2, h3, h4, h5⟩ => ?_
  subst h5
  simp only [R] at h3
  subst h3
  exact ⟨h1, below0 h4⟩

theorem trodAll_back {H : Type} {enc : TypeId × Value → H} {P : Program} (hl : laidOutB P = true) {W W' : World} (hb : Below W.heap.size W W') : ∀ {ts : List TypeId} {vs : List Value} {ds : List (DataW H)} {ps : List MemPlace},
    ts.all (fun t => P.readableRec t && decide (t < P.types.size)) = true → DataW.TrodAll enc P W 0 (fun _ => true) true ts vs ds ps →
    DataW.TrodAll enc P W' 0 (fun b => decide (b < W.heap.size)) true ts vs ds ps
  | [], vs, ds, ps, _, h => by
    obtain ⟨rfl, rfl, rfl⟩ := trodAll_nil h
    exact trodAll_mk0
  | t :: ts, vs, ds, ps, ht, h => by
    obtain ⟨v, vs', d, ds', p, q, rfl, rfl, rfl, h1, h2⟩ := trodAll_cons h
    simp only [List.all_cons, Bool.and_eq_true, decide_eq_true_eq] at ht
    have lt : ∀ x ∈ p, x.block < W.heap.size := by obtain ⟨m, hm⟩ := h1; exact DataW.trod_lt m _ _ _ hm
    exact trodAll_cons_mk (Below.trod hl ht.1.1 ht.1.2 h1 hb lt) (trodAll_back hl hb ht.2 h2)

theorem trodAll_length {H : Type} {enc : TypeId × Value → H} {P : Program} {w : World} {base : Nat} {sp : Nat → Bool} {held : Bool} : ∀ {ts : List TypeId} {vs : List Value} {ds : List (DataW H)} {ps : List MemPlace},
    DataW.TrodAll enc P w base sp held ts vs ds ps → ds.length = ts.length
  | [], vs, ds, ps, h => by obtain ⟨_, rfl, _⟩ := trodAll_nil h; rfl
  | t :: ts, vs, ds, ps, h => by
    obtain ⟨v, vs', d, ds', p, q, rfl, rfl, rfl, h1, h2⟩ := trodAll_cons h
    simp [trodAll_length h2]

/-! ## What is handed in -/

inductive Sh where
  | int (k : IntKind) | bool

def scal (P : Program) (t : TypeId) : Option Sh := match P.underlying t with
  | some (.int k) => some (.int k)
  | some .bool => some .bool
  | _ => none

def shFields (P : Program) : Nat → List Field → Option (List Sh)
  | _, [] => some []
  | o, f :: fs => match scal P f.type with
    | some s => if f.offset = o ∧ P.cellsOf f.type = 1 then (shFields P (o + 1) fs).map (s :: ·) else none
    | none => none

def shEl (P : Program) (t : TypeId) : Option (List Sh × Bool) := match P.underlying t with
  | some (.struct fs) => if P.cellsOf t = fs.size then (shFields P 0 fs.toList).map (·, true) else none
  | _ => (scal P t).map fun s => ([s], false)

def fit1 : Sh → PV → Prop
  | .int k, p => ∃ n, p = .int k n ∧ (Lit.int k n).wf = true
  | .bool, p => ∃ b, p = .bool b

def fits : List Sh → List PV → Prop
  | [], ps => ps = []
  | s :: ss, ps => ∃ p r, ps = p :: r ∧ fit1 s p ∧ fits ss r

def fitEl : List Sh × Bool → PV → Prop
  | (ss, true), p => ∃ ps, p = .agg ps ∧ fits ss ps
  | (ss, false), p => fits ss [p]

section
variable {H : Type} {enc : TypeId × Value → H} {P : Program} {w : World} {base : Nat} {sp : Nat → Bool} {held : Bool}

theorem trod_scal {t s fuel cs x} (g : G) (hs : scal P t = some s) (h : DataW.trod enc P w base sp held fuel t cs = some x) :
    ∃ p v, cs = [v] ∧ fit1 s p ∧ R g w p v ∧ v.flat = true := by
  unfold scal at hs
  split at hs
  · rename_i k hu
    cases hs
    obtain ⟨n, rfl, _, hw⟩ := DataW.trod_int hu h
    exact ⟨.int k n, _, rfl, ⟨n, rfl, hw⟩, by simp [R], rfl⟩
  · rename_i hu
    cases hs
    obtain ⟨b, rfl, _⟩ := DataW.trod_bool hu h
    exact ⟨.bool b, _, rfl, ⟨b, rfl⟩, by simp [R], rfl⟩
  · cases hs

theorem trod_fields {fuel : Nat} (g : G) (cs : List Value) : ∀ (fs : List Field) (o : Nat) (ss : List Sh), shFields P o fs = some ss → cs.length = o + fs.length →
    (∀ (i : Nat) (f : Field), fs[i]? = some f → ∃ x, DataW.trod enc P w base sp held fuel f.type ((cs.drop f.offset).take (P.cellsOf f.type)) = some x) →
    ∃ ps, fits ss ps ∧ RA g w ps (cs.drop o) ∧ ∀ v ∈ cs.drop o, v.flat = true
  | [], o, ss, h, hl, _ => by
    simp only [shFields, Option.some.injEq] at h
    subst h
    have : cs.drop o = [] := List.drop_eq_nil_of_le (by simp at hl; omega)
    rw [this]
    exact ⟨[], rfl, rfl, by simp⟩
  | f :: fs, o, ss, h, hl, hx => by
    simp only [shFields] at h
    cases hs : scal P f.type with
    | none => rw [hs] at h; cases h
    | some s =>
      rw [hs] at h
      simp only at h
      split at h
      case isFalse => cases h
      rename_i hc
      obtain ⟨ho, hc1⟩ := hc
      cases hr : shFields P (o + 1) fs with
      | none => rw [hr] at h; cases h
      | some ss' =>
        rw [hr] at h
        simp only [Option.map_some, Option.some.injEq] at h
        subst h
        obtain ⟨x, hx0⟩ := hx 0 f (by simp)
        rw [ho, hc1] at hx0
        obtain ⟨p, v, e, h1, h2, h3⟩ := trod_scal g hs hx0
        simp only [List.length_cons] at hl
        obtain ⟨ps, k1, k2, k3⟩ := trod_fields g cs fs (o + 1) ss' hr (by omega) (fun i f' hf' => hx (i + 1) f' (by simpa using hf'))
        have hd : cs.drop o = v :: cs.drop (o + 1) := by
          have hlt : o < cs.length := by omega
          have h2 := List.drop_eq_getElem_cons hlt
          rw [h2] at e
          simp only [List.take_succ_cons, List.take_zero, List.cons.injEq, and_true] at e
          rw [h2, e]
        refine ⟨p :: ps, ⟨p, ps, rfl, h1, k1⟩, ?_, ?_⟩
        · rw [hd]; simp only [RA]; exact ⟨v, _, rfl, h2, k2⟩
        · rw [hd]
          intro u hu
          rcases List.mem_cons.1 hu with rfl | hu
          · exact h3
          · exact k3 u hu

theorem trod_el {t q fuel cs x} (g : G) (hq : shEl P t = some q) (h : DataW.trod enc P w base sp held fuel t cs = some x) :
    ∃ p v, R g w p v ∧ v.cells.toList = cs ∧ fitEl q p ∧ ∀ x ∈ cs, x.flat = true := by
  unfold shEl at hq
  split at hq
  · rename_i fs hu
    split at hq
    case isFalse => cases hq
    rename_i hc
    obtain ⟨xs, n, _, _, hl, hn, hx⟩ := DataW.trod_struct hu h
    cases hr : shFields P 0 fs.toList with
    | none => rw [hr] at hq; cases hq
    | some ss =>
      rw [hr] at hq
      simp only [Option.map_some, Option.some.injEq] at hq
      subst hq
      obtain ⟨ps, k1, k2, k3⟩ := trod_fields (enc := enc) (base := base) (sp := sp) (held := held) (fuel := n) g cs fs.toList 0 ss hr (by rw [hl, hc]; simp) (fun i f hf => by
        rw [hx i f (by simpa using hf)]
        have : i < xs.length := by rw [hn]; have := (List.getElem?_eq_some_iff.1 hf).1; simpa using this
        exact ⟨xs[i], by simp [this]⟩)
      rw [List.drop_zero] at k2 k3
      exact ⟨.agg ps, .agg cs.toArray, by simp only [R]; exact ⟨cs.toArray, rfl, by simpa using k3, by simpa using k2⟩, by simp [Value.cells], ⟨ps, rfl, k1⟩, k3⟩
  · cases hs : scal P t with
    | none => rw [hs] at hq; cases hq
    | some s =>
      rw [hs] at hq
      simp only [Option.map_some, Option.some.injEq] at hq
      subst hq
      obtain ⟨p, v, rfl, h1, h2, h3⟩ := trod_scal g hs h
      exact ⟨p, v, h2, by rw [flat_cells h3], ⟨p, [], rfl, h1, rfl⟩, by simpa using h3⟩

theorem open_list {r : Reach} {b0 : Nat} {t e q v d ps} (ht : P.underlying t = some (.slice e)) (hq : shEl P e = some q) (hpos : 0 < P.cellsOf e) (hval : Value.okWide P w r b0 t v) (hd : DataW.Trod enc P w base sp held t v d ps)
    {ts : List TypeId} {ds : List (DataW H)} (hsz : (DataW.weightsEach P ts ds).all (· ≤ reachBytes) = true) {j : Nat} (htj : ts[j]? = some t) (hdj : ds[j]? = some d) :
    ∃ els, R g0 w (.sl .unk els) v ∧ (∀ x ∈ els, fitEl q x) ∧ els.length * P.bytesOf e ≤ reachBytes := by
  obtain ⟨a, len, cap, rfl⟩ := okWide_slice ht hval
  obtain ⟨fuel, hf⟩ := hd
  rcases DataW.trod_slice ht hf with ⟨hcs, _⟩ | ⟨a', l', c', elems, rest, n, _, hcs, hx, _, hlc, _, hel, hat, _⟩
  · simp [Value.cells] at hcs
    obtain ⟨rfl, rfl, rfl⟩ := hcs
    exact ⟨[], R_unk.2 (.inl (R_nil.2 ⟨rfl, rfl⟩)), by simp, by simp⟩
  · simp [Value.cells] at hcs
    obtain ⟨rfl, rfl, rfl⟩ := hcs
    have hsp : a'.spot = none := by
      simp only [Value.okWide, ht, Cell.okWide, Cell.ok] at hval
      exact hval.2.2.2.1
    obtain ⟨b, o, s⟩ := a'
    simp only at hsp
    subst hsp
    have main : ∀ k, k ≤ len → ∃ els vs, els.length = k ∧ RA g0 w els vs ∧ cellsAt w b o (flat vs) ∧ (∀ v ∈ vs, v.cells.size = P.cellsOf e) ∧ ∀ x ∈ els, fitEl q x := by
      intro k
      induction k with
      | zero => exact fun _ => ⟨[], [], rfl, rfl, by intro j hj; simp [flat] at hj, by simp, by simp⟩
      | succ k ih =>
        intro hk
        obtain ⟨els, vs, h1, h2, h3, h4, h5⟩ := ih (by omega)
        have := hat k (by omega)
        have hk' : k < elems.length := by omega
        rw [List.getElem?_eq_getElem hk'] at this
        obtain ⟨cs, hc1, hc2⟩ := Option.bind_eq_some_iff.1 this
        obtain ⟨_, hcl, hcc⟩ := World.cells?_some hc1
        obtain ⟨p, v, p1, p2, p3, p4⟩ := trod_el g0 hq hc2
        have hvs : v.cells.size = P.cellsOf e := by rw [← Array.length_toList, p2, hcl]
        refine ⟨els ++ [p], vs ++ [v], by simp [h1], RA_append h2 (by simp only [RA]; exact ⟨v, [], rfl, p1, rfl⟩), ?_, ?_, ?_⟩
        · rw [flat_append, cellsAt_append]
          refine ⟨h3, ?_⟩
          have hvl := RA_length h2
          rw [flat_length h4, ← hvl, h1]
          intro j hj
          simp only [flat, List.flatMap_cons, List.flatMap_nil, List.append_nil] at hj ⊢
          have hj' : j < cs.length := by rw [← p2]; exact hj
          have := hcc j (by omega)
          rw [add_plain, add_plain, List.getElem?_eq_getElem hj'] at this
          rw [this]
          simp only [p2]
        · intro u hu
          rcases List.mem_append.1 hu with hu | hu
          · exact h4 u hu
          · simp at hu; subst hu; exact hvs
        · intro u hu
          rcases List.mem_append.1 hu with hu | hu
          · exact h5 u hu
          · simp at hu; subst hu; exact p3
    obtain ⟨els, vs, h1, h2, h3, h4, h5⟩ := main len (Nat.le_refl _)
    refine ⟨els, R_unk.2 (.inr ?_), h5, ?_⟩
    · simp only [R, slHead, slHead0]
      exact ⟨vs, h2, b, o, cap, P.cellsOf e, by rw [h1], by omega, hpos, by simp, fun _ => g0_free _ _, h3, h4, by simp⟩
    · have hx1 : d = .slice (elems.map (·.1)) (rest.map (·.1)) := congrArg (·.1) hx
      subst hx1
      have := sized_slice hsz htj hdj ht
      simp only [List.length_map] at this
      rw [h1, ← hel]
      exact Nat.le_trans (Nat.mul_le_mul_right _ (Nat.le_add_right _ _)) this

end

/-- a list whose every element is the image of something -/
theorem choose_list {α : Type} {f : α → PV} {q : α → Prop} : ∀ {l : List PV}, (∀ x ∈ l, ∃ a, x = f a ∧ q a) → ∃ as : List α, l = as.map f ∧ ∀ a ∈ as, q a
  | [], _ => ⟨[], rfl, by simp⟩
  | x :: l, h => by
    obtain ⟨a, rfl, ha⟩ := h x (by simp)
    obtain ⟨as, rfl, has⟩ := choose_list (f := f) (q := q) (l := l) fun y hy => h y (by simp [hy])
    exact ⟨a :: as, rfl, fun y hy => by
      rcases List.mem_cons.1 hy with h1 | h1
      · rw [h1]; exact ha
      · exact has y h1⟩

end Go.PM

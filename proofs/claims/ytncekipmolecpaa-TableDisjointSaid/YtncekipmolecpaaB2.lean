import Derived.Test.YtncekipmolecpaaB1
import Derived.OpenShut
import Derived.SizedLaws
import Derived.ChangeOld
import Derived.WalkKit
import Derived.ProofKit
import Derived.KernelRfl
import Derived.Test.YtncekipmolecpaaProg
set_option linter.unusedVariables false
set_option linter.unusedSimpArgs false
namespace Go.PM
open Go
theorem range_zero {z : Value} {n : Nat} (hz : 0 < z.cells.size) : (Array.range (n * z.cells.size)).map (z.cells[· % z.cells.size]!) = (flat (List.replicate n z)).toArray := by
  have hl : (flat (List.replicate n z)).length = n * z.cells.size := by
    rw [flat_length (sz := z.cells.size) (fun v hv => by rw [(List.mem_replicate.1 hv).2]), List.length_replicate]
  refine Array.ext (by simp [hl]) fun i h1 h2 => ?_
  simp only [Array.size_map, Array.size_range] at h1
  have := flat_replicate_get z n i h1
  have hm : i % z.cells.size < z.cells.size := Nat.mod_lt _ hz
  simp only [Array.getElem_map, Array.getElem_range]
  rw [List.getElem_toArray]
  rw [List.getElem?_eq_getElem (by rw [hl]; exact h1)] at this
  simp only [Array.getElem?_toList, Array.getElem?_eq_getElem hm, Option.some.injEq] at this
  rw [this, getElem!_pos z.cells _ hm]
theorem flatV_agg {z : Value} (h : flatV z = true) : ∀ cs, z = .agg cs → ∀ x ∈ cs.toList, x.flat = true := by
  intro cs e x hx
  subst e
  exact List.all_eq_true.1 h x hx
theorem makeSlice_run {P : Program} {w : World} {t e : TypeId} {v : PV} {n : Nat} (htd : td P t = .sl e) (hz : zpv P e = some v) (hn : 0 < n) (hn2 : n < 1073741824) (hroom : n * P.bytesOf e ≤ roomBytes) (h48 : n * P.bytesOf e ≤ 140737488355328) :
    ∃ z, v = pvOf z ∧ z.cells.size = P.cellsOf e ∧ (∀ cs, z = .agg cs → ∀ x ∈ cs.toList, x.flat = true) ∧ (Instr.makeSlice t (.int .i64 n) (.int .i64 n)).run P w = .ok (.slice (some ⟨w.heap.size, 0, none⟩) n n) (World.newB w (.cells (flat (List.replicate n z)).toArray e (0, 0))) := by
  obtain ⟨z, hz1, hz2, hz3, hz4, hpos, hz6, hz7⟩ := zero_run (P := P) (w := w) hz
  obtain ⟨i, hi, hsz⟩ := cells_info hpos
  have hby : P.bytesOf e = i.bytes := by unfold Program.bytesOf; rw [hi]; rfl
  refine ⟨z, hz2, hz4, ?_, ?_⟩
  · exact flatV_agg hz3
  · unfold Instr.makeSlice
    rw [bind_run, underlying_run (td_slice htd)]
    simp only [asInt, pure_run, bind_run, typeInfo_run hi]
    have hw : IntKind.i64.wrap (n : Int) = (n : Int) := wrap_i64 (by omega)
    have hc : ¬ ((decide ((n : Int) < 0) || decide ((i.bytes : Int) * (n : Int) > 2 ^ 48)) || decide ((n : Int) < 0) || decide ((n : Int) > n)) = true := by
      have : (i.bytes : Int) * (n : Int) = ((n * P.bytesOf e : Nat) : Int) := by rw [hby]; push_cast; exact Int.mul_comm _ _
      rw [this]
      simp
      omega
    have ha : (asIntOf (Value.int IntKind.i64 (n : Int))).run P w = .ok (IntKind.i64, (n : Int)) w := rfl
    simp only [ha, hw]
    rw [if_neg hc]
    have hr : askRoom ((n : Int).toNat * i.bytes) = pure () := by
      unfold askRoom
      rw [if_neg]
      rw [Int.toNat_natCast, ← hby]
      omega
    rw [hr]
    have hne : ¬ n * P.cellsOf e = 0 := by
      have := Nat.mul_pos hn hpos
      omega
    simp only [bind_run, pure_run, sizeOf_run hpos, Int.toNat_natCast]
    rw [if_neg hne]
    simp only [bind_run, pure_run, hz1]
    rw [← range_zero (by rw [hz4]; exact hpos), hz4]
    rfl
section
variable {P : Program} {N : Nat} {k : List KI} {e : Env} {s : St} {rt : Env → St → Prop}
theorem RunO.makeSlice {ops : Array Oper} {d : Option Nat} {t ty el : TypeId} {x y : Operand} {pos : String} {af : Array Edge} {gd : Option (Nat × Bool)} {l : List Oper} {n : Nat} {v : PV}
    (hg : guard? ops ⟨d, .makeSlice t x y, ty, pos, af, gd⟩ e = some true) (hx : ev e x = .int .i64 n) (hy : ev e y = .int .i64 n) (htd : td P t = .sl el) (hz : zpv P el = some v) (hn : 0 < n) (hn2 : n < 1073741824) (hroom : n * P.bytesOf el ≤ 140737488355328)
    (h : RunO P N ops l k (e.put d (.sl .clip (List.replicate n v))) s rt) : RunO P N ops (⟨d, .makeSlice t x y, ty, pos, af, gd⟩ :: l) k e s rt := by
  refine RunO.eff hg (fun g w a hI hE => ?_) h
  have h1 := ev_R hE x
  have h2 := ev_R hE y
  rw [hx] at h1
  rw [hy] at h2
  simp only [R] at h1 h2
  obtain ⟨z, r1, r2, r3, r4⟩ := makeSlice_run (w := w) htd hz hn hn2 (by unfold roomBytes; omega) hroom
  obtain ⟨k1, k2, k3⟩ := newClip_R (ty := el) (sz := P.cellsOf el) hI (RA_replicate (show R g w v z by rw [r1]; exact pvOf_R g w z r3) n) (fun u hu => by rw [(List.mem_replicate.1 hu).2]; exact r2) (by
    obtain ⟨_, _, _, _, _, hp, _⟩ := zero_run (P := P) (w := w) hz
    exact hp)
  rw [List.length_replicate] at k3
  refine ⟨_, _, g, .inl ?_, k1, k2, k3⟩
  unfold execOp
  simp only [bind_run, pure_run, h1, h2, r4]
end
end Go.PM
namespace Go.PM
open Go Go.ChangeShapes Go.WideShapes Go.RowKit
def g0 : G := { nxt := 0, rows := fun _ => none, live := fun _ => false, toks := fun _ => none, lim := fun _ => none }
def s0 : St := { nxt := 0, blk := fun _ => none }
theorem g0_isRow (b : Nat) : ¬ g0.isRow b := by
  rintro ⟨i, n, e, _⟩
  cases e
theorem g0_free (b n : Nat) : g0.free b n := ⟨g0_isRow b, fun m h => by cases h⟩
theorem inv0 (P : Program) (w : World) : Inv P g0 s0 w where
  nxt := rfl
  wf := fun _ _ => rfl
  at' := fun id => ⟨rfl, rfl⟩
  inj := fun i j b m n hi _ _ _ => by cases hi
  tinj := fun i j b m n hi _ => by cases hi
  lim := fun b e h => by cases h
  rlim := fun _ _ _ _ _ => rfl
theorem below0 {w g' w'} (h : Ext g0 w g' w') : Below w.heap.size w w' :=
  ⟨h.os, h.tape, h.output, h.size, fun k hk => h.same k hk (g0_isRow k) rfl⟩
theorem calls0 {P : Program} {f : FuncId} {args : List PV} {vs : Array Value} {w : World} (h : ACalls P f args s0 (fun r _ => r = .bool true)) (hr : RA g0 w args vs.toList) :
    Calls P f vs w fun e w' => e = .returned (.bool true) ∧ Below w.heap.size w w' := by
  refine (h g0 w vs (inv0 P w) hr).mono fun e w' ⟨v, g', r, s', h1, h2, h3, h4, h5⟩ => ?_
  subst h5
  simp only [R] at h3
  subst h3
  exact ⟨h1, below0 h4⟩
theorem trodAll_back {H : Type} {enc : TypeId × Value → H} {P : Program} (hl : laidOutB P = true) {W W' : World} (hb : Below W.heap.size W W') : ∀ {ts : List TypeId} {vs : List Value} {ds : List (DataW H)} {ps : List MemPlace},
    ts.all (fun t => P.readableRec t && decide (t < P.types.size)) = true → DataW.TrodAll enc P W 0 (fun _ => true) true ts vs ds ps →
    DataW.TrodAll enc P W' 0 (fun b => decide (b < W.heap.size)) true ts vs ds ps
  | [], vs, ds, ps, _, h => by
    obtain ⟨rfl, rfl, rfl⟩ := trodAll_nil h
    exact trodAll_mk0
  | t :: ts, vs, ds, ps, ht, h => by
    obtain ⟨v, vs', d, ds', p, q, rfl, rfl, rfl, h1, h2⟩ := trodAll_cons h
    simp only [List.all_cons, Bool.and_eq_true, decide_eq_true_eq] at ht
    have lt : ∀ x ∈ p, x.block < W.heap.size := by obtain ⟨m, hm⟩ := h1; exact DataW.trod_lt m _ _ _ hm
    exact trodAll_cons_mk (Below.trod hl ht.1.1 ht.1.2 h1 hb lt) (trodAll_back hl hb ht.2 h2)
theorem trodAll_length {H : Type} {enc : TypeId × Value → H} {P : Program} {w : World} {base : Nat} {sp : Nat → Bool} {held : Bool} : ∀ {ts : List TypeId} {vs : List Value} {ds : List (DataW H)} {ps : List MemPlace},
    DataW.TrodAll enc P w base sp held ts vs ds ps → ds.length = ts.length
  | [], vs, ds, ps, h => by obtain ⟨_, rfl, _⟩ := trodAll_nil h; rfl
  | t :: ts, vs, ds, ps, h => by
    obtain ⟨v, vs', d, ds', p, q, rfl, rfl, rfl, h1, h2⟩ := trodAll_cons h
    simp [trodAll_length h2]
inductive Sh where
  | int (k : IntKind) | bool
def scal (P : Program) (t : TypeId) : Option Sh := match P.underlying t with
  | some (.int k) => some (.int k)
  | some .bool => some .bool
  | _ => none
def shFields (P : Program) : Nat → List Field → Option (List Sh)
  | _, [] => some []
  | o, f :: fs => match scal P f.type with
    | some s => if f.offset = o ∧ P.cellsOf f.type = 1 then (shFields P (o + 1) fs).map (s :: ·) else none
    | none => none
def shEl (P : Program) (t : TypeId) : Option (List Sh × Bool) := match P.underlying t with
  | some (.struct fs) => if P.cellsOf t = fs.size then (shFields P 0 fs.toList).map (·, true) else none
  | _ => (scal P t).map fun s => ([s], false)
def fit1 : Sh → PV → Prop
  | .int k, p => ∃ n, p = .int k n ∧ (Lit.int k n).wf = true
  | .bool, p => ∃ b, p = .bool b
def fits : List Sh → List PV → Prop
  | [], ps => ps = []
  | s :: ss, ps => ∃ p r, ps = p :: r ∧ fit1 s p ∧ fits ss r
def fitEl : List Sh × Bool → PV → Prop
  | (ss, true), p => ∃ ps, p = .agg ps ∧ fits ss ps
  | (ss, false), p => fits ss [p]
section
variable {H : Type} {enc : TypeId × Value → H} {P : Program} {w : World} {base : Nat} {sp : Nat → Bool} {held : Bool}
theorem trod_scal {t s fuel cs x} (g : G) (hs : scal P t = some s) (h : DataW.trod enc P w base sp held fuel t cs = some x) :
    ∃ p v, cs = [v] ∧ fit1 s p ∧ R g w p v ∧ v.flat = true := by
  unfold scal at hs
  split at hs
  · rename_i k hu
    cases hs
    obtain ⟨n, rfl, _, hw⟩ := DataW.trod_int hu h
    exact ⟨.int k n, _, rfl, ⟨n, rfl, hw⟩, by simp [R], rfl⟩
  · rename_i hu
    cases hs
    obtain ⟨b, rfl, _⟩ := DataW.trod_bool hu h
    exact ⟨.bool b, _, rfl, ⟨b, rfl⟩, by simp [R], rfl⟩
  · cases hs
theorem trod_fields {fuel : Nat} (g : G) (cs : List Value) : ∀ (fs : List Field) (o : Nat) (ss : List Sh), shFields P o fs = some ss → cs.length = o + fs.length →
    (∀ (i : Nat) (f : Field), fs[i]? = some f → ∃ x, DataW.trod enc P w base sp held fuel f.type ((cs.drop f.offset).take (P.cellsOf f.type)) = some x) →
    ∃ ps, fits ss ps ∧ RA g w ps (cs.drop o) ∧ ∀ v ∈ cs.drop o, v.flat = true
  | [], o, ss, h, hl, _ => by
    simp only [shFields, Option.some.injEq] at h
    subst h
    have : cs.drop o = [] := List.drop_eq_nil_of_le (by simp at hl; omega)
    rw [this]
    exact ⟨[], rfl, rfl, by simp⟩
  | f :: fs, o, ss, h, hl, hx => by
    simp only [shFields] at h
    cases hs : scal P f.type with
    | none => rw [hs] at h; cases h
    | some s =>
      rw [hs] at h
      simp only at h
      split at h
      case isFalse => cases h
      rename_i hc
      obtain ⟨ho, hc1⟩ := hc
      cases hr : shFields P (o + 1) fs with
      | none => rw [hr] at h; cases h
      | some ss' =>
        rw [hr] at h
        simp only [Option.map_some, Option.some.injEq] at h
        subst h
        obtain ⟨x, hx0⟩ := hx 0 f (by simp)
        rw [ho, hc1] at hx0
        obtain ⟨p, v, e, h1, h2, h3⟩ := trod_scal g hs hx0
        simp only [List.length_cons] at hl
        obtain ⟨ps, k1, k2, k3⟩ := trod_fields g cs fs (o + 1) ss' hr (by omega) (fun i f' hf' => hx (i + 1) f' (by simpa using hf'))
        have hd : cs.drop o = v :: cs.drop (o + 1) := by
          have hlt : o < cs.length := by omega
          have h2 := List.drop_eq_getElem_cons hlt
          rw [h2] at e
          simp only [List.take_succ_cons, List.take_zero, List.cons.injEq, and_true] at e
          rw [h2, e]
        refine ⟨p :: ps, ⟨p, ps, rfl, h1, k1⟩, ?_, ?_⟩
        · rw [hd]; simp only [RA]; exact ⟨v, _, rfl, h2, k2⟩
        · rw [hd]
          intro u hu
          rcases List.mem_cons.1 hu with rfl | hu
          · exact h3
          · exact k3 u hu
theorem trod_el {t q fuel cs x} (g : G) (hq : shEl P t = some q) (h : DataW.trod enc P w base sp held fuel t cs = some x) :
    ∃ p v, R g w p v ∧ v.cells.toList = cs ∧ fitEl q p ∧ ∀ x ∈ cs, x.flat = true := by
  unfold shEl at hq
  split at hq
  · rename_i fs hu
    split at hq
    case isFalse => cases hq
    rename_i hc
    obtain ⟨xs, n, _, _, hl, hn, hx⟩ := DataW.trod_struct hu h
    cases hr : shFields P 0 fs.toList with
    | none => rw [hr] at hq; cases hq
    | some ss =>
      rw [hr] at hq
      simp only [Option.map_some, Option.some.injEq] at hq
      subst hq
      obtain ⟨ps, k1, k2, k3⟩ := trod_fields (enc := enc) (base := base) (sp := sp) (held := held) (fuel := n) g cs fs.toList 0 ss hr (by rw [hl, hc]; simp) (fun i f hf => by
        rw [hx i f (by simpa using hf)]
        have : i < xs.length := by rw [hn]; have := (List.getElem?_eq_some_iff.1 hf).1; simpa using this
        exact ⟨xs[i], by simp [this]⟩)
      rw [List.drop_zero] at k2 k3
      exact ⟨.agg ps, .agg cs.toArray, by simp only [R]; exact ⟨cs.toArray, rfl, by simpa using k3, by simpa using k2⟩, by simp [Value.cells], ⟨ps, rfl, k1⟩, k3⟩
  · cases hs : scal P t with
    | none => rw [hs] at hq; cases hq
    | some s =>
      rw [hs] at hq
      simp only [Option.map_some, Option.some.injEq] at hq
      subst hq
      obtain ⟨p, v, rfl, h1, h2, h3⟩ := trod_scal g hs h
      exact ⟨p, v, h2, by rw [flat_cells h3], ⟨p, [], rfl, h1, rfl⟩, by simpa using h3⟩
theorem open_list {r : Reach} {b0 : Nat} {t e q v d ps} (ht : P.underlying t = some (.slice e)) (hq : shEl P e = some q) (hpos : 0 < P.cellsOf e) (hval : Value.okWide P w r b0 t v) (hd : DataW.Trod enc P w base sp held t v d ps)
    {ts : List TypeId} {ds : List (DataW H)} (hsz : (DataW.weightsEach P ts ds).all (· ≤ reachBytes) = true) {j : Nat} (htj : ts[j]? = some t) (hdj : ds[j]? = some d) :
    ∃ els, R g0 w (.sl .unk els) v ∧ (∀ x ∈ els, fitEl q x) ∧ els.length * P.bytesOf e ≤ reachBytes := by
  obtain ⟨a, len, cap, rfl⟩ := okWide_slice ht hval
  obtain ⟨fuel, hf⟩ := hd
  rcases DataW.trod_slice ht hf with ⟨hcs, _⟩ | ⟨a', l', c', elems, rest, n, _, hcs, hx, _, hlc, _, hel, hat, _⟩
  · simp [Value.cells] at hcs
    obtain ⟨rfl, rfl, rfl⟩ := hcs
    exact ⟨[], R_unk.2 (.inl (R_nil.2 ⟨rfl, rfl⟩)), by simp, by simp⟩
  · simp [Value.cells] at hcs
    obtain ⟨rfl, rfl, rfl⟩ := hcs
    have hsp : a'.spot = none := by
      simp only [Value.okWide, ht, Cell.okWide, Cell.ok] at hval
      exact hval.2.2.2.1
    obtain ⟨b, o, s⟩ := a'
    simp only at hsp
    subst hsp
    have main : ∀ k, k ≤ len → ∃ els vs, els.length = k ∧ RA g0 w els vs ∧ cellsAt w b o (flat vs) ∧ (∀ v ∈ vs, v.cells.size = P.cellsOf e) ∧ ∀ x ∈ els, fitEl q x := by
      intro k
      induction k with
      | zero => exact fun _ => ⟨[], [], rfl, rfl, by intro j hj; simp [flat] at hj, by simp, by simp⟩
      | succ k ih =>
        intro hk
        obtain ⟨els, vs, h1, h2, h3, h4, h5⟩ := ih (by omega)
        have := hat k (by omega)
        have hk' : k < elems.length := by omega
        rw [List.getElem?_eq_getElem hk'] at this
        obtain ⟨cs, hc1, hc2⟩ := Option.bind_eq_some_iff.1 this
        obtain ⟨_, hcl, hcc⟩ := World.cells?_some hc1
        obtain ⟨p, v, p1, p2, p3, p4⟩ := trod_el g0 hq hc2
        have hvs : v.cells.size = P.cellsOf e := by rw [← Array.length_toList, p2, hcl]
        refine ⟨els ++ [p], vs ++ [v], by simp [h1], RA_append h2 (by simp only [RA]; exact ⟨v, [], rfl, p1, rfl⟩), ?_, ?_, ?_⟩
        · rw [flat_append, cellsAt_append]
          refine ⟨h3, ?_⟩
          have hvl := RA_length h2
          rw [flat_length h4, ← hvl, h1]
          intro j hj
          simp only [flat, List.flatMap_cons, List.flatMap_nil, List.append_nil] at hj ⊢
          have hj' : j < cs.length := by rw [← p2]; exact hj
          have := hcc j (by omega)
          rw [add_plain, add_plain, List.getElem?_eq_getElem hj'] at this
          rw [this]
          simp only [p2]
        · intro u hu
          rcases List.mem_append.1 hu with hu | hu
          · exact h4 u hu
          · simp at hu; subst hu; exact hvs
        · intro u hu
          rcases List.mem_append.1 hu with hu | hu
          · exact h5 u hu
          · simp at hu; subst hu; exact p3
    obtain ⟨els, vs, h1, h2, h3, h4, h5⟩ := main len (Nat.le_refl _)
    refine ⟨els, R_unk.2 (.inr ?_), h5, ?_⟩
    · simp only [R, slHead, slHead0]
      exact ⟨vs, h2, .inl ⟨b, o, cap, P.cellsOf e, by rw [h1], by omega, hpos, by simp, fun _ => g0_free _ _, h3, h4, by simp⟩⟩
    · have hx1 : d = .slice (elems.map (·.1)) (rest.map (·.1)) := congrArg (·.1) hx
      subst hx1
      have := sized_slice hsz htj hdj ht
      simp only [List.length_map] at this
      rw [h1, ← hel]
      exact Nat.le_trans (Nat.mul_le_mul_right _ (Nat.le_add_right _ _)) this
end
theorem choose_list {α : Type} {f : α → PV} {q : α → Prop} : ∀ {l : List PV}, (∀ x ∈ l, ∃ a, x = f a ∧ q a) → ∃ ls : List α, l = ls.map f ∧ ∀ a ∈ ls, q a
  | [], _ => ⟨[], rfl, by simp⟩
  | x :: l, h => by
    obtain ⟨a, rfl, ha⟩ := h x (by simp)
    obtain ⟨ls, rfl, has⟩ := choose_list (f := f) (q := q) (l := l) fun y hy => h y (by simp [hy])
    exact ⟨a :: ls, rfl, fun y hy => by
      rcases List.mem_cons.1 hy with h1 | h1
      · rw [h1]; exact ha
      · exact has y h1⟩
end Go.PM
namespace Go.PM
open Go
theorem ints_fit {k : IntKind} {els : List PV} (h : ∀ x ∈ els, fitEl ([.int k], false) x) : ∃ l : List Int, els = l.map (PV.int k) ∧ ∀ n ∈ l, (Lit.int k n).wf = true :=
  choose_list (f := PV.int k) (q := fun n => (Lit.int k n).wf = true) fun x hx => by
    obtain ⟨p, r, e, ⟨n, e1, hw⟩, e2⟩ := h x hx
    simp only [List.cons.injEq] at e
    exact ⟨n, by rw [e.1, e1], hw⟩
theorem bools_fit {els : List PV} (h : ∀ x ∈ els, fitEl ([.bool], false) x) : ∃ l : List Bool, els = l.map PV.bool := by
  obtain ⟨l, e, _⟩ := choose_list (f := PV.bool) (q := fun _ => True) fun x hx => by
    obtain ⟨p, r, e, ⟨n, e1⟩, e2⟩ := h x hx
    simp only [List.cons.injEq] at e
    exact ⟨n, by rw [e.1, e1], trivial⟩
  exact ⟨l, e⟩
theorem wf_i64 {n : Int} (h : (Lit.int .i64 n).wf = true) : -9223372036854775808 ≤ n ∧ n ≤ 9223372036854775807 := by
  simp [Lit.wf, IntKind.min, IntKind.max, IntKind.signed, IntKind.bits] at h
  omega
theorem wf_u8 {n : Int} (h : (Lit.int .u8 n).wf = true) : 0 ≤ n ∧ n ≤ 255 := by
  simp [Lit.wf, IntKind.min, IntKind.max, IntKind.signed, IntKind.bits] at h
  omega
theorem wf_u16 {n : Int} (h : (Lit.int .u16 n).wf = true) : 0 ≤ n ∧ n ≤ 65535 := by
  simp [Lit.wf, IntKind.min, IntKind.max, IntKind.signed, IntKind.bits] at h
  omega
theorem wf_u32 {n : Int} (h : (Lit.int .u32 n).wf = true) : 0 ≤ n ∧ n ≤ 4294967295 := by
  simp [Lit.wf, IntKind.min, IntKind.max, IntKind.signed, IntKind.bits] at h
  omega
end Go.PM
namespace Go.PM
open Go Go.ChangeShapes Go.WideShapes Go.RowKit
def mkv (a : Bool) (cs : List Value) : Value := if a = true then .agg cs.toArray else cs.headD .nilFunc
theorem mkv_cells {a : Bool} {cs : List Value} (hf : ∀ y ∈ cs, y.flat = true) (h : a = false → cs.length = 1) : (mkv a cs).cells.toList = cs := by
  cases a with
  | true => rfl
  | false =>
    obtain ⟨x, rfl⟩ := List.length_eq_one_iff.1 (h rfl)
    simp only [mkv, Bool.false_eq_true, if_false, List.headD_cons]
    exact congrArg Array.toList (flat_cells (hf x (by simp)))
structure Rd (P : Program) (t : TypeId) (a : Bool) (φ : PV → Prop) : Prop where
  rd : ∀ {H : Type} {enc : TypeId × Value → H} {w : World} {base fuel : Nat} {held : Bool} {cs : List Value} {x : DataW H × List MemPlace},
  DataW.trod enc P w base (fun _ => true) held fuel t cs = some x → (∀ n ∈ x.1.weights P t, n ≤ reachBytes) → ∃ p, R g0 w p (mkv a cs) ∧ φ p ∧ (∀ y ∈ cs, y.flat = true) ∧ (a = false → cs.length = 1)
theorem rd_int {P : Program} {t : TypeId} {k : IntKind} (h : P.underlying t = some (.int k)) : Rd P t false fun p => ∃ n, p = .int k n ∧ (Lit.int k n).wf = true := by
  refine ⟨@fun H enc w base fuel held cs x hx _ => ?_⟩
  obtain ⟨n, rfl, _, hw⟩ := DataW.trod_int h hx
  exact ⟨.int k n, by simp [R, mkv], ⟨n, rfl, hw⟩, by simp [Value.flat], fun _ => rfl⟩
theorem rd_bool {P : Program} {t : TypeId} (h : P.underlying t = some .bool) : Rd P t false fun p => ∃ b, p = .bool b := by
  refine ⟨@fun H enc w base fuel held cs x hx _ => ?_⟩
  obtain ⟨n, rfl, _⟩ := DataW.trod_bool h hx
  exact ⟨.bool n, by simp [R, mkv], ⟨n, rfl⟩, by simp [Value.flat], fun _ => rfl⟩
theorem rd_str {P : Program} {t : TypeId} (h : P.underlying t = some .string) : Rd P t false fun p => ∃ s, p = .str s ∧ s.size ≤ reachBytes := by
  refine ⟨@fun H enc w base fuel held cs x hx hw => ?_⟩
  obtain ⟨s, rfl, rfl, _⟩ := DataW.trod_string h hx
  have := hw s.size (by simp only [DataW.weights, Array.length_toList, List.mem_singleton]; rfl)
  exact ⟨.str s, by simp [R, mkv], ⟨s, rfl, this⟩, by simp [Value.flat], fun _ => rfl⟩
def fitL : List (PV → Prop) → List PV → Prop
  | [], ps => ps = []
  | f :: fs, ps => ∃ p r, ps = p :: r ∧ f p ∧ fitL fs r
inductive RdF (P : Program) : Nat → List (Nat × TypeId × Nat) → List (PV → Prop) → Prop
  | nil (o : Nat) : RdF P o [] []
  | cons {o t φ fs φs} : Rd P t false φ → RdF P (o + 1) fs φs → RdF P o ((o, t, 1) :: fs) (φ :: φs)
def ftypes (P : Program) (t : TypeId) : Option (List (Nat × TypeId × Nat)) := match P.underlying t with
  | some (.struct fs) => if P.cellsOf t = fs.size then some (fs.toList.map fun f => (f.offset, f.type, P.cellsOf f.type)) else none
  | _ => none
theorem rd_fields {P : Program} {H : Type} {enc : TypeId × Value → H} {w : World} {base fuel : Nat} {held : Bool} {cs : List Value} : ∀ {fs : List (Nat × TypeId × Nat)} {o : Nat} {φs : List (PV → Prop)}, RdF P o fs φs → cs.length = o + fs.length →
    (∀ (i : Nat) (f : Nat × TypeId × Nat), fs[i]? = some f → ∃ x, DataW.trod enc P w base (fun _ => true) held fuel f.2.1 ((cs.drop f.1).take f.2.2) = some x ∧ ∀ n ∈ x.1.weights P f.2.1, n ≤ reachBytes) →
    ∃ ps, fitL φs ps ∧ RA g0 w ps (cs.drop o) ∧ ∀ v ∈ cs.drop o, v.flat = true
  | [], o, φs, h, hl, _ => by
    cases h
    have : cs.drop o = [] := List.drop_eq_nil_of_le (by simp at hl; omega)
    rw [this]
    exact ⟨[], rfl, rfl, by simp⟩
  | f :: fs, o, φs, h, hl, hx => by
    cases h with
    | cons h1 h2 =>
      rename_i t φ φs
      obtain ⟨x, hx0, hw⟩ := hx 0 (o, t, 1) (by simp)
      obtain ⟨p, k1, k3, k4, _⟩ := h1.rd hx0 hw
      simp only [List.length_cons] at hl
      obtain ⟨ps, m1, m2, m3⟩ := rd_fields h2 (by omega) (fun i f' hf' => hx (i + 1) f' (by simpa using hf'))
      have hlt : o < cs.length := by omega
      have hd := List.drop_eq_getElem_cons hlt
      rw [hd] at k1 k4
      simp only [List.take_succ_cons, List.take_zero, mkv, Bool.false_eq_true, if_false, List.headD_cons] at k1 k4
      refine ⟨p :: ps, ⟨p, ps, rfl, k3, m1⟩, ?_, ?_⟩
      · rw [hd]; simp only [RA]; exact ⟨_, _, rfl, k1, m2⟩
      · rw [hd]
        intro u hu
        rcases List.mem_cons.1 hu with rfl | hu
        · exact k4 _ (by simp)
        · exact m3 u hu
theorem rd_struct {P : Program} {t : TypeId} {fs : List (Nat × TypeId × Nat)} {φs : List (PV → Prop)} (h : ftypes P t = some fs) (hf : RdF P 0 fs φs) : Rd P t true fun p => ∃ ps, p = .agg ps ∧ fitL φs ps := by
  refine ⟨@fun H enc w base fuel held cs x hx hw => ?_⟩
  unfold ftypes at h
  split at h
  · rename_i fa hu
    split at h
    · rename_i hc
      cases h
      obtain ⟨xs, n, _, rfl, hl, hn, hxx⟩ := DataW.trod_struct hu hx
      obtain ⟨ps, k1, k2, k3⟩ := rd_fields (enc := enc) (base := base) (held := held) (fuel := n) (w := w) (cs := cs) hf (by rw [hl, hc]; simp) (fun i f hf => by
        rw [List.getElem?_map] at hf
        obtain ⟨f0, hf0, rfl⟩ := Option.map_eq_some_iff.1 hf
        rw [hxx i f0 (by simpa using hf0)]
        have hi : i < xs.length := by rw [hn]; have := (List.getElem?_eq_some_iff.1 hf0).1; simpa using this
        refine ⟨xs[i], by simp [hi], fun m hm => hw m ?_⟩
        simp only [DataW.weights, hu]
        exact DataW.weights_mem_each (j := i) (t := f0.type) (d := xs[i].1) (by rw [List.getElem?_map, hf0]; rfl) (by rw [List.getElem?_map, List.getElem?_eq_getElem hi]; rfl) m hm)
      rw [List.drop_zero] at k2 k3
      exact ⟨.agg ps, by simp only [R, mkv, if_true]; exact ⟨cs.toArray, rfl, by simpa using k3, by simpa using k2⟩, ⟨ps, rfl, k1⟩, k3, fun e => by cases e⟩
    · cases h
  · cases h
theorem weights_mem_all {H : Type} {P : Program} {e : TypeId} : ∀ {ds : List (DataW H)} {d : DataW H}, d ∈ ds → ∀ n ∈ d.weights P e, n ∈ DataW.weightsAll P e ds
  | [], _, h, _, _ => by cases h
  | a :: ds, d, h, n, hn => by
    simp only [DataW.weightsAll, List.mem_append]
    rcases List.mem_cons.1 h with rfl | h
    · exact .inl hn
    · exact .inr (weights_mem_all h n hn)
theorem cells_spot {w : World} {base : Nat} {a : Addr} {n : Nat} {cs : List Value} (h : w.cells? base a n = some cs) (hn : 0 < n) : a.spot = none := by
  obtain ⟨_, hl, hc⟩ := World.cells?_some h
  have h0 := hc 0 hn
  rw [List.getElem?_eq_getElem (by omega)] at h0
  have e : a.add 0 = a := rfl
  rw [e] at h0
  unfold World.cell? at h0
  split at h0
  · split at h0
    · cases h0
    · rename_i h; simpa using h
  · cases h0
theorem rd_slice {P : Program} {t e : TypeId} {a : Bool} {φ : PV → Prop} (ht : P.underlying t = some (.slice e)) (hpos : 0 < P.cellsOf e) (h : Rd P e a φ) : Rd P t false fun p => ∃ els, p = .sl .unk els ∧ (∀ x ∈ els, φ x) ∧ els.length * P.bytesOf e ≤ reachBytes := by
  refine ⟨@fun H enc w base fuel held cs x hx hw => ?_⟩
  rcases DataW.trod_slice ht hx with ⟨rfl, _⟩ | ⟨ad, len, cap, elems, rest, n, _, rfl, hxx, _, hlc, _, hel, hat, hsp, _⟩
  · exact ⟨.sl .unk [], R_unk.2 (.inl (R_nil.2 ⟨rfl, rfl⟩)), ⟨[], rfl, by simp, by simp⟩, by simp [Value.flat], fun _ => rfl⟩
  · have hx1 : x.1 = .slice (elems.map (·.1)) (rest.map (·.1)) := by rw [hxx]
    have hw1 : (elems.length + rest.length) * P.bytesOf e ≤ reachBytes := hw _ (by rw [hx1]; simp only [DataW.weights, ht, List.length_map]; exact List.mem_cons_self)
    have hw2 : ∀ d ∈ elems, ∀ m ∈ d.1.weights P e, m ≤ reachBytes := fun d hd m hm => hw m (by
      rw [hx1]; simp only [DataW.weights, ht]
      exact List.mem_cons_of_mem _ (List.mem_append_left _ (weights_mem_all (List.mem_map_of_mem hd) m hm)))
    have hbound : len * P.bytesOf e ≤ reachBytes := by
      rw [← hel]; exact Nat.le_trans (Nat.mul_le_mul_right _ (Nat.le_add_right _ _)) hw1
    simp only [mkv, Bool.false_eq_true, if_false, List.headD_cons]
    by_cases h00 : len = 0 ∧ cap = 0
    · obtain ⟨rfl, rfl⟩ := h00
      exact ⟨.sl .unk [], R_unk.2 (.inr (by simp only [R]; exact ⟨[], rfl, .inr ⟨.inl rfl, rfl, ad, rfl⟩⟩)), ⟨[], rfl, by simp, by simp⟩, by simp [Value.flat], fun _ => rfl⟩
    have hspot : ad.spot = none := by
      by_cases hl0 : len = 0
      · obtain ⟨hr, hrr⟩ := hsp rfl
        have h1 := hrr 0 (by omega)
        have : 0 < rest.length := by omega
        rw [List.getElem?_eq_getElem this] at h1
        obtain ⟨cs, hc1, _⟩ := Option.bind_eq_some_iff.1 h1
        subst hl0
        rw [Nat.zero_add, Nat.zero_mul] at hc1
        exact cells_spot hc1 hpos
      · have h1 := hat 0 (by omega)
        have : 0 < elems.length := by omega
        rw [List.getElem?_eq_getElem this] at h1
        obtain ⟨cs, hc1, _⟩ := Option.bind_eq_some_iff.1 h1
        rw [Nat.zero_mul] at hc1
        exact cells_spot hc1 hpos
    obtain ⟨b, o, s⟩ := ad
    simp only at hspot
    subst hspot
    have main : ∀ k, k ≤ len → ∃ els vs, els.length = k ∧ RA g0 w els vs ∧ cellsAt w b o (flat vs) ∧ (∀ v ∈ vs, v.cells.size = P.cellsOf e) ∧ ∀ x ∈ els, φ x := by
      intro k
      induction k with
      | zero => exact fun _ => ⟨[], [], rfl, rfl, by intro j hj; simp [flat] at hj, by simp, by simp⟩
      | succ k ih =>
        intro hk
        obtain ⟨els, vs, h1, h2, h3, h4, h5⟩ := ih (by omega)
        have := hat k (by omega)
        have hk' : k < elems.length := by omega
        rw [List.getElem?_eq_getElem hk'] at this
        obtain ⟨cs, hc1, hc2⟩ := Option.bind_eq_some_iff.1 this
        obtain ⟨_, hcl, hcc⟩ := World.cells?_some hc1
        obtain ⟨p, p1, p3, p4, p5⟩ := h.rd hc2 (hw2 _ (List.getElem_mem hk'))
        have p2 := mkv_cells p4 p5
        have hvs : (mkv a cs).cells.size = P.cellsOf e := by rw [← Array.length_toList, p2, hcl]
        refine ⟨els ++ [p], vs ++ [mkv a cs], by simp [h1], RA_append h2 (by simp only [RA]; exact ⟨_, [], rfl, p1, rfl⟩), ?_, ?_, ?_⟩
        · rw [flat_append, cellsAt_append]
          refine ⟨h3, ?_⟩
          have hvl := RA_length h2
          rw [flat_length h4, ← hvl, h1]
          intro j hj
          simp only [flat, List.flatMap_cons, List.flatMap_nil, List.append_nil] at hj ⊢
          have hj' : j < cs.length := by rw [← p2]; exact hj
          have := hcc j (by omega)
          rw [add_plain, add_plain, List.getElem?_eq_getElem hj'] at this
          rw [this]
          simp only [p2]
        · intro u hu
          rcases List.mem_append.1 hu with hu | hu
          · exact h4 u hu
          · simp at hu; subst hu; exact hvs
        · intro u hu
          rcases List.mem_append.1 hu with hu | hu
          · exact h5 u hu
          · simp at hu; subst hu; exact p3
    obtain ⟨els, vs, h1, h2, h3, h4, h5⟩ := main len (Nat.le_refl _)
    refine ⟨.sl .unk els, R_unk.2 (.inr ?_), ⟨els, rfl, h5, by rw [h1]; exact hbound⟩, by simp [Value.flat], fun _ => rfl⟩
    simp only [R, slHead, slHead0]
    exact ⟨vs, h2, .inl ⟨b, o, cap, P.cellsOf e, by rw [h1], by omega, hpos, by simp, fun _ => g0_free _ _, h3, h4, by simp⟩⟩
section
variable {H : Type} {enc : TypeId × Value → H} {P : Program} {w : World} {base : Nat} {held : Bool}
theorem sized_each {ts : List TypeId} {ds : List (DataW H)} (hsz : (DataW.weightsEach P ts ds).all (· ≤ reachBytes) = true) {j : Nat} {t : TypeId} {d : DataW H} (htj : ts[j]? = some t) (hdj : ds[j]? = some d) : ∀ n ∈ d.weights P t, n ≤ reachBytes :=
  fun n hn => by simpa using List.all_eq_true.1 hsz n (DataW.weights_mem_each htj hdj n hn)
theorem open_agg {r : Reach} {b0 : Nat} {t v d ps φ} (ht : (ftypes P t).isSome = true) (h : Rd P t true φ) (hval : Value.okWide P w r b0 t v) (hd : DataW.Trod enc P w base (fun _ => true) held t v d ps)
    {ts : List TypeId} {ds : List (DataW H)} (hsz : (DataW.weightsEach P ts ds).all (· ≤ reachBytes) = true) {j : Nat} (htj : ts[j]? = some t) (hdj : ds[j]? = some d) : ∃ p, R g0 w p v ∧ φ p := by
  obtain ⟨fs, ht⟩ : ∃ fs, P.underlying t = some (.struct fs) := by
    unfold ftypes at ht
    split at ht
    · exact ⟨_, by assumption⟩
    · cases ht
  obtain ⟨cs, rfl, _⟩ := okWide_struct ht hval
  obtain ⟨fuel, hf⟩ := hd
  obtain ⟨p, h1, h2, _, _⟩ := h.rd hf (sized_each hsz htj hdj)
  exact ⟨p, by simpa [mkv, Value.cells] using h1, h2⟩
theorem open_sl {r : Reach} {b0 : Nat} {t e v d ps φ} (ht : P.underlying t = some (.slice e)) (h : Rd P t false φ) (hval : Value.okWide P w r b0 t v) (hd : DataW.Trod enc P w base (fun _ => true) held t v d ps)
    {ts : List TypeId} {ds : List (DataW H)} (hsz : (DataW.weightsEach P ts ds).all (· ≤ reachBytes) = true) {j : Nat} (htj : ts[j]? = some t) (hdj : ds[j]? = some d) : ∃ p, R g0 w p v ∧ φ p := by
  obtain ⟨a, len, cap, rfl⟩ := okWide_slice ht hval
  obtain ⟨fuel, hf⟩ := hd
  obtain ⟨p, h1, h2, _, _⟩ := h.rd hf (sized_each hsz htj hdj)
  exact ⟨p, by simpa [mkv, Value.cells] using h1, h2⟩
theorem open_str {r : Reach} {b0 : Nat} {t v d ps} (ht : P.underlying t = some .string) (hval : Value.okWide P w r b0 t v) (hd : DataW.Trod enc P w base (fun _ => true) held t v d ps)
    {ts : List TypeId} {ds : List (DataW H)} (hsz : (DataW.weightsEach P ts ds).all (· ≤ reachBytes) = true) {j : Nat} (htj : ts[j]? = some t) (hdj : ds[j]? = some d) : ∃ s, R g0 w (.str s) v ∧ s.size ≤ reachBytes := by
  obtain ⟨a, rfl⟩ := okWide_string ht hval
  obtain ⟨fuel, hf⟩ := hd
  obtain ⟨p, h1, ⟨s, rfl, h2⟩, _, _⟩ := (rd_str ht).rd hf (sized_each hsz htj hdj)
  exact ⟨s, by simpa [mkv, Value.cells] using h1, h2⟩
end
end Go.PM
namespace Go.PM
theorem Rd.mono {P : Go.Program} {t : Go.TypeId} {a : Bool} {φ ψ : PV → Prop} (h : Rd P t a φ) (k : ∀ p, φ p → ψ p) : Rd P t a ψ := by
  refine ⟨@fun H enc w base fuel held cs x hx hw => ?_⟩
  obtain ⟨p, h1, h2, h3, h4⟩ := h.rd hx hw
  exact ⟨p, h1, k p h2, h3, h4⟩
end Go.PM
namespace Go.Proofs
open Go.PM Go
structure Sp where
  pos : Int
  cnt : Int
  deriving DecidableEq
def Sp.pv (s : Sp) : PV := .agg [.int .i64 s.pos, .int .i64 s.cnt]
structure Win where
  space : Int
  virt : Int
  phys : Int
  cnt : Int
  deriving DecidableEq
def Win.pv (w : Win) : PV := .agg [.int .i64 w.space, .int .i64 w.virt, .int .i64 w.phys, .int .i64 w.cnt]
structure Slt where
  pos : Int
  len : Int
  deriving DecidableEq
def Slt.pv (s : Slt) : PV := .agg [.int .i64 s.pos, .int .i64 s.len]
structure Ten where
  unit : Int
  fns : Int
  queue : Int
  wins : List Win
  slts : List Slt
  deriving DecidableEq
def Ten.pv (t : Ten) : PV := .agg [.int .i64 t.unit, .int .u32 t.fns, .int .i64 t.queue, .sl .unk (t.wins.map Win.pv), .sl .unk (t.slts.map Slt.pv)]
structure Tab where
  frame : Int
  tens : List Ten
  deriving DecidableEq
def Tab.pv (t : Tab) : PV := .agg [.int .i64 t.frame, .sl .unk (t.tens.map Ten.pv)]
def I64 (n : Int) : Prop := -9223372036854775808 ≤ n ∧ n ≤ 9223372036854775807
def U32 (n : Int) : Prop := 0 ≤ n ∧ n ≤ 4294967295
structure Sp.ok (s : Sp) : Prop where
  pos : I64 s.pos
  cnt : I64 s.cnt
structure Win.ok (w : Win) : Prop where
  space : I64 w.space
  virt : I64 w.virt
  phys : I64 w.phys
  cnt : I64 w.cnt
structure Slt.ok (s : Slt) : Prop where
  pos : I64 s.pos
  len : I64 s.len
structure Ten.ok (t : Ten) : Prop where
  unit : I64 t.unit
  fns : U32 t.fns
  queue : I64 t.queue
  wins : ∀ w ∈ t.wins, w.ok
  slts : ∀ s ∈ t.slts, s.ok
  bw : t.wins.length * 32 ≤ 140737488351232
  bs : t.slts.length * 16 ≤ 140737488351232
structure Tab.ok (t : Tab) : Prop where
  frame : I64 t.frame
  tens : ∀ x ∈ t.tens, x.ok
  bt : t.tens.length * 72 ≤ 140737488351232
theorem Ten.ok.nw {t : Ten} (h : t.ok) : t.wins.length < 140737488355328 := by have := h.bw; omega
theorem Ten.ok.ns {t : Ten} (h : t.ok) : t.slts.length < 140737488355328 := by have := h.bs; omega
theorem Tab.ok.nt {t : Tab} (h : t.ok) : t.tens.length < 140737488355328 := by have := h.bt; omega
theorem weaks_sps (l : List Sp) : PV.weaks (l.map Sp.pv) = l.map Sp.pv := weaks_map_id Sp.pv (fun _ => rfl) l
theorem weaks_wins (l : List Win) : PV.weaks (l.map Win.pv) = l.map Win.pv := weaks_map_id Win.pv (fun _ => rfl) l
theorem weaks_slts (l : List Slt) : PV.weaks (l.map Slt.pv) = l.map Slt.pv := weaks_map_id Slt.pv (fun _ => rfl) l
theorem weak_ten (t : Ten) : t.pv.weak = t.pv := by
  simp only [Ten.pv, PV.weak, PV.weaks, weaks_wins, weaks_slts]
theorem weaks_tens (l : List Ten) : PV.weaks (l.map Ten.pv) = l.map Ten.pv := weaks_map_id Ten.pv weak_ten l
theorem weak_tab (t : Tab) : t.pv.weak = t.pv := by
  simp only [Tab.pv, PV.weak, PV.weaks, weaks_tens]
theorem blws_wins (n : Nat) (l : List Win) : PV.blws n (l.map Win.pv) := blws_map Win.pv n (fun a => by simp [Win.pv, PV.blw, PV.blws]) l
theorem blws_slts (n : Nat) (l : List Slt) : PV.blws n (l.map Slt.pv) := blws_map Slt.pv n (fun a => by simp [Slt.pv, PV.blw, PV.blws]) l
theorem blws_sps (n : Nat) (l : List Sp) : PV.blws n (l.map Sp.pv) := blws_map Sp.pv n (fun a => by simp [Sp.pv, PV.blw, PV.blws]) l
theorem blw_ten (n : Nat) (t : Ten) : t.pv.blw n := by
  simp only [Ten.pv, PV.blw, PV.blws, true_and, and_true]
  exact ⟨⟨fun t z e => (by cases e), blws_wins _ _⟩, fun t z e => (by cases e), blws_slts _ _⟩
theorem blws_tens (n : Nat) (l : List Ten) : PV.blws n (l.map Ten.pv) := blws_map Ten.pv n (blw_ten n) l
theorem blw_tab (n : Nat) (t : Tab) : t.pv.blw n := by
  simp only [Tab.pv, PV.blw, PV.blws, true_and, and_true]
  exact ⟨fun t z e => (by cases e), blws_tens _ _⟩
def Ten.pvc (t : Ten) : PV := .agg [.int .i64 t.unit, .int .u32 t.fns, .int .i64 t.queue, .sl .unc (t.wins.map Win.pv), .sl .unc (t.slts.map Slt.pv)]
theorem weaks_tensc (l : List Ten) : PV.weaks (l.map Ten.pvc) = l.map Ten.pv := by
  rw [weaks_map, List.map_map]
  refine List.map_congr_left fun t _ => ?_
  simp only [Function.comp, Ten.pvc, Ten.pv, PV.weak, PV.weaks, weaks_wins, weaks_slts]
attribute [go_sem] Int.natCast_nonneg Int.ofNat_lt List.length_map decide_true decide_false ne_eq not_true_eq_false not_false_eq_true Int.lt_irrefl Int.le_refl weaks_wins weaks_slts weaks_tens weaks_sps
theorem map_get {α : Type} {f : α → PV} {l : List α} {i : Nat} (h : i < l.length) : (l.map f)[i]? = some (f l[i]) := by
  rw [List.getElem?_map, List.getElem?_eq_getElem h]; rfl
def withinI (n lo hi : Int) : Int := if lo ≤ n ∧ n ≤ hi then n else lo + if n.tmod (hi - lo + 1) < 0 then n.tmod (hi - lo + 1) + hi - lo + 1 else n.tmod (hi - lo + 1)
theorem tmod_bound (n : Int) {m : Int} (h : 0 < m) : -m < n.tmod m ∧ n.tmod m < m := by
  constructor
  · rcases Int.le_total 0 n with h1 | h1
    · have := Int.tmod_nonneg m h1; omega
    · have h2 := Int.tmod_lt_of_pos (-n) h
      rw [Int.neg_tmod] at h2
      omega
  · exact Int.tmod_lt_of_pos n h
theorem withinI_bound {n lo hi : Int} (h : lo ≤ hi) : lo ≤ withinI n lo hi ∧ withinI n lo hi ≤ hi := by
  unfold withinI
  have := tmod_bound n (m := hi - lo + 1) (by omega)
  split
  · omega
  · split <;> omega
theorem wrap_le (n : Int) : -9223372036854775808 ≤ IntKind.i64.wrap n ∧ IntKind.i64.wrap n ≤ 9223372036854775807 := by
  simp [IntKind.wrap, IntKind.signed, IntKind.bits]
  omega
structure Tp where
  l : List Int
  pos : Nat
def Tp.pv (t : Tp) : PV := .agg [.sl .unk (t.l.map (PV.int .i64)), .int .i64 t.pos]
def Tp.val (t : Tp) (n : Int) : Int := if t.l.length ≤ t.pos ∨ n < 1 then 0 else (withinI (t.l[t.pos]?.getD 0) 0 1073741824).tmod n
def Tp.nx (t : Tp) (n : Int) : Tp := if t.l.length ≤ t.pos ∨ n < 1 then t else ⟨t.l, t.pos + 1⟩
structure Tp.ok (t : Tp) : Prop where
  len : t.l.length * 8 ≤ 140737488351232
  pos : t.pos ≤ t.l.length
theorem Tp.ok.nx {t : Tp} (h : t.ok) (n : Int) : (t.nx n).ok := by
  unfold Tp.nx
  split
  · exact h
  · rename_i hc
    exact ⟨h.len, by simp only; omega⟩
theorem Tp.val_bound (t : Tp) {n : Int} (hn : 1 ≤ n) : 0 ≤ t.val n ∧ t.val n ≤ n - 1 := by
  unfold Tp.val
  split
  · omega
  · have h1 := withinI_bound (n := t.l[t.pos]?.getD 0) (lo := 0) (hi := 1073741824) (by decide)
    have h2 := Int.tmod_nonneg n h1.1
    have h3 := Int.tmod_lt_of_pos (withinI (t.l[t.pos]?.getD 0) 0 1073741824) (show 0 < n by omega)
    omega
def spRight (s : Sp) (most : Int) : Bool := decide (0 ≤ s.pos ∧ 1 ≤ s.cnt ∧ s.pos ≤ most ∧ s.cnt ≤ most - s.pos)
def great : Int := 2147483648
def spMeets (a b : Sp) : Bool := spRight a great && spRight b great && decide (max a.pos b.pos < min (a.pos + a.cnt) (b.pos + b.cnt))
def spMeet (a b : Sp) : Sp := if spMeets a b then ⟨max a.pos b.pos, min (a.pos + a.cnt) (b.pos + b.cnt) - max a.pos b.pos⟩ else ⟨0, 0⟩
theorem spRight_iff {s : Sp} {m : Int} : spRight s m = true ↔ 0 ≤ s.pos ∧ 1 ≤ s.cnt ∧ s.pos ≤ m ∧ s.cnt ≤ m - s.pos := by simp [spRight]
theorem spMeets_l {a b : Sp} (h : (!spRight a great) = true) : spMeets a b = false ∧ spMeet a b = ⟨0, 0⟩ := by
  have h : spRight a great = false := by simpa using h
  have h2 : spMeets a b = false := by simp [spMeets, h]
  exact ⟨h2, by simp [spMeet, h2]⟩
theorem spMeets_r {a b : Sp} (h : (!spRight b great) = true) : spMeets a b = false ∧ spMeet a b = ⟨0, 0⟩ := by
  have h : spRight b great = false := by simpa using h
  have h2 : spMeets a b = false := by simp [spMeets, h]
  exact ⟨h2, by simp [spMeet, h2]⟩
theorem spMeets_not {a b : Sp} (ha : (!spRight a great) = false) (hb : (!spRight b great) = false) (h : decide ((if IntKind.i64.wrap (b.pos + b.cnt) < IntKind.i64.wrap (a.pos + a.cnt) then IntKind.i64.wrap (b.pos + b.cnt) else IntKind.i64.wrap (a.pos + a.cnt)) ≤ if a.pos < b.pos then b.pos else a.pos) = true) :
    spMeets a b = false ∧ spMeet a b = ⟨0, 0⟩ := by
  have h1 := spRight_iff.1 (show spRight a great = true by simpa using ha)
  have h2 := spRight_iff.1 (show spRight b great = true by simpa using hb)
  unfold great at h1 h2
  rw [wrap_i64 (by omega), wrap_i64 (by omega)] at h
  have h := of_decide_eq_true h
  have h3 : spMeets a b = false := by
    simp only [spMeets, Bool.and_eq_false_iff, decide_eq_false_iff_not]
    right
    have e1 : max a.pos b.pos = if a.pos < b.pos then b.pos else a.pos := by omega
    have e2 : min (a.pos + a.cnt) (b.pos + b.cnt) = if b.pos + b.cnt < a.pos + a.cnt then b.pos + b.cnt else a.pos + a.cnt := by omega
    rw [e1, e2]
    omega
  exact ⟨h3, by simp [spMeet, h3]⟩
theorem spMeets_yes {a b : Sp} (ha : (!spRight a great) = false) (hb : (!spRight b great) = false) (h : decide ((if IntKind.i64.wrap (b.pos + b.cnt) < IntKind.i64.wrap (a.pos + a.cnt) then IntKind.i64.wrap (b.pos + b.cnt) else IntKind.i64.wrap (a.pos + a.cnt)) ≤ if a.pos < b.pos then b.pos else a.pos) = false) :
    spMeets a b = true ∧ spMeet a b = ⟨if a.pos < b.pos then b.pos else a.pos, IntKind.i64.wrap ((if IntKind.i64.wrap (b.pos + b.cnt) < IntKind.i64.wrap (a.pos + a.cnt) then IntKind.i64.wrap (b.pos + b.cnt) else IntKind.i64.wrap (a.pos + a.cnt)) - if a.pos < b.pos then b.pos else a.pos)⟩ := by
  have ha' : spRight a great = true := by simpa using ha
  have hb' : spRight b great = true := by simpa using hb
  have h1 := spRight_iff.1 ha'
  have h2 := spRight_iff.1 hb'
  unfold great at h1 h2
  have w1 : IntKind.i64.wrap (b.pos + b.cnt) = b.pos + b.cnt := wrap_i64 (by omega)
  have w2 : IntKind.i64.wrap (a.pos + a.cnt) = a.pos + a.cnt := wrap_i64 (by omega)
  rw [w1, w2] at h ⊢
  have h := of_decide_eq_false h
  have e1 : max a.pos b.pos = if a.pos < b.pos then b.pos else a.pos := by omega
  have e2 : min (a.pos + a.cnt) (b.pos + b.cnt) = if b.pos + b.cnt < a.pos + a.cnt then b.pos + b.cnt else a.pos + a.cnt := by omega
  have h3 : spMeets a b = true := by
    simp only [spMeets, ha', hb', Bool.true_and, decide_eq_true_eq]
    rw [e1, e2]
    omega
  refine ⟨h3, ?_⟩
  rw [spMeet, if_pos h3, e1, e2, wrap_i64 (by split <;> split <;> omega)]
def Win.v (w : Win) : Sp := ⟨w.virt, w.cnt⟩
def Win.p (w : Win) : Sp := ⟨w.phys, w.cnt⟩
def Slt.sp (s : Slt) : Sp := ⟨s.pos, s.len⟩
def winRight (w : Win) : Bool := decide (0 ≤ w.space ∧ w.space ≤ 3) && spRight w.v 65536 && spRight w.p 512
def winMeet (a b : Win) : Bool := spMeets a.p b.p && decide (a.space = b.space) && winRight a && winRight b
def winMeetV (a b : Win) : Bool := spMeets a.v b.v && decide (a.space = b.space) && winRight a && winRight b
def winsMeet (a b : List Win) : Bool := a.any fun x => b.any fun y => winMeet x y
def winBad (a b : Win) : Bool := winMeet a b || winMeetV a b
def winsOwnA (ahead : List Win) : List Win → Bool
  | [] => true
  | x :: l => ahead.all (fun y => !winBad x y) && winsOwnA (ahead ++ [x]) l
def winsOwn (l : List Win) : Bool := winsOwnA [] l
theorem drop_get {α : Type} {l : List α} {i : Nat} (h : i < l.length) : l.drop i = l[i] :: l.drop (i + 1) := List.drop_eq_getElem_cons h
theorem take_get {α : Type} {l : List α} {i : Nat} (h : i < l.length) : l.take (i + 1) = l.take i ++ [l[i]] := by
  rw [List.take_add_one, List.getElem?_eq_getElem h]; rfl
theorem winsOwnA_step {l : List Win} {i : Nat} (h : i < l.length) : winsOwnA (l.take i) (l.drop i) = ((l.take i).all (fun y => !winBad l[i] y) && winsOwnA (l.take (i + 1)) (l.drop (i + 1))) := by
  rw [drop_get h, winsOwnA, take_get h]
def sltMeet (a b : Slt) : Bool := spMeets a.sp b.sp
def sltMeets (s : Slt) (l : List Slt) : Bool := l.any fun x => sltMeet s x
def sltRight (frame : Int) (s : Slt) : Bool := decide (72 ≤ s.len) && spRight s.sp frame
def tenWhy (x : Ten) (frame : Int) : Int :=
  if x.unit < 1 ∨ 247 < x.unit then 21
  else if x.queue < 1 ∨ 6 < x.queue then 22
  else if 6 < x.wins.length ∨ x.slts.length < 1 ∨ 3 < x.slts.length then 26
  else if x.wins.any (fun w => !winRight w) || !winsOwn x.wins then 23
  else if x.slts.any (fun s => !sltRight frame s) then 25
  else 0
def sltsBadA (ahead : List Ten) : List Slt → List Slt → Bool
  | _, [] => false
  | done, s :: l => sltMeets s done || ahead.any (fun y => sltMeets s y.slts) || sltsBadA ahead (done ++ [s]) l
def tenBeside (x : Ten) (ahead : List Ten) : Int :=
  if ahead.any fun y => winsMeet x.wins y.wins then 24 else if sltsBadA ahead [] x.slts then 25 else 0
def tabWhereA (frame : Int) : List Ten → List Ten → Int × Int
  | _, [] => (0, -1)
  | done, x :: l => if tenWhy x frame ≠ 0 then (tenWhy x frame, done.length) else if tenBeside x done ≠ 0 then (tenBeside x done, done.length) else tabWhereA frame (done ++ [x]) l
def tabWhere (t : Tab) : Int × Int :=
  if t.frame < 1 ∨ 2000 < t.frame then (20, -1) else if t.tens.length < 1 ∨ 4 < t.tens.length then (26, -1) else tabWhereA t.frame [] t.tens
def tabRight (t : Tab) : Bool := decide ((tabWhere t).1 = 0)
theorem sltsBadA_step {ahead : List Ten} {l : List Slt} {i : Nat} (h : i < l.length) : sltsBadA ahead (l.take i) (l.drop i) = (sltMeets l[i] (l.take i) || ahead.any (fun y => sltMeets l[i] y.slts) || sltsBadA ahead (l.take (i + 1)) (l.drop (i + 1))) := by
  rw [drop_get h, sltsBadA, take_get h]
theorem tabWhereA_step {frame : Int} {l : List Ten} {i : Nat} (h : i < l.length) : tabWhereA frame (l.take i) (l.drop i) = if tenWhy l[i] frame ≠ 0 then (tenWhy l[i] frame, (i : Int)) else if tenBeside l[i] (l.take i) ≠ 0 then (tenBeside l[i] (l.take i), (i : Int)) else tabWhereA frame (l.take (i + 1)) (l.drop (i + 1)) := by
  rw [drop_get h, tabWhereA, take_get h]
  simp only [List.length_take, Nat.min_eq_left (Nat.le_of_lt h)]
def tenAt (t : Tab) (x : Ten) (i : Nat) : Int := if tenWhy x t.frame ≠ 0 then tenWhy x t.frame else tenBeside x (t.tens.take i)
theorem any_take_step {α : Type} {p : α → Bool} {l : List α} {i : Nat} (h : i < l.length) (hp : p l[i] = false) (ha : (l.take i).any p = false) : (l.take (i + 1)).any p = false := by
  rw [take_get h, List.any_append, ha]; simp [hp]
theorem any_take_all {α : Type} {p : α → Bool} {l : List α} {i : Nat} (h : i = l.length) (ha : (l.take i).any p = false) : l.any p = false := by
  rwa [h, List.take_length] at ha
theorem any_get {α : Type} {p : α → Bool} {l : List α} {i : Nat} (h : i < l.length) (hp : p l[i] = true) : l.any p = true := List.any_eq_true.2 ⟨_, List.getElem_mem h, hp⟩
theorem sltRight_eq (frame : Int) (a : Slt) : sltRight frame a = (decide (0 ≤ a.pos) && decide (72 ≤ a.len) && decide (a.pos ≤ frame) && decide (a.len ≤ frame - a.pos)) := by
  simp only [sltRight, spRight, Slt.sp]
  by_cases h1 : 0 ≤ a.pos <;> by_cases h2 : 72 ≤ a.len <;> by_cases h3 : a.pos ≤ frame <;> by_cases h4 : a.len ≤ frame - a.pos <;> simp [h1, h2, h3, h4] <;> omega
def alikeF {α : Type} (p : α → α → Bool) : List α → List α → Bool
  | [], [] => true
  | x :: l, y :: m => p x y && alikeF p l m
  | _, _ => false
theorem alikeF_len {α : Type} (p : α → α → Bool) : ∀ (l m : List α), l.length ≠ m.length → alikeF p l m = false
  | [], [], h => absurd rfl h
  | [], _ :: _, _ => rfl
  | _ :: _, [], _ => rfl
  | x :: l, y :: m, h => by
    unfold alikeF
    rw [alikeF_len p l m (by simpa using h), Bool.and_false]
theorem alikeF_step {α : Type} (p : α → α → Bool) {l m : List α} {i : Nat} (h : i < l.length) (k : i < m.length) : alikeF p (l.drop i) (m.drop i) = (p l[i] m[i] && alikeF p (l.drop (i + 1)) (m.drop (i + 1))) := by
  rw [drop_get h, drop_get k, alikeF]
theorem alikeF_eq {α : Type} [DecidableEq α] (p : α → α → Bool) (hp : ∀ x y, p x y = decide (x = y)) : ∀ (l m : List α), alikeF p l m = decide (l = m)
  | [], [] => by simp [alikeF]
  | [], _ :: _ => by simp [alikeF]
  | _ :: _, [] => by simp [alikeF]
  | x :: l, y :: m => by
    unfold alikeF
    rw [hp, alikeF_eq p hp l m]
    by_cases h1 : x = y <;> by_cases h2 : l = m <;> simp [h1, h2]
def tenSame (a b : Ten) : Bool := decide (a = b)
def tabSame (a b : Tab) : Bool := decide (a = b)
theorem tenSame_eq (a b : Ten) : tenSame a b = (decide (a.unit = b.unit) && decide (a.fns = b.fns) && decide (a.queue = b.queue) && decide (a.wins = b.wins) && decide (a.slts = b.slts)) := by
  cases a; cases b
  simp [tenSame, Bool.and_assoc]
theorem tabSame_eq (a b : Tab) : tabSame a b = (decide (a.frame = b.frame) && alikeF tenSame a.tens b.tens) := by
  rw [alikeF_eq tenSame (fun _ _ => rfl)]
  cases a; cases b
  simp [tabSame]
def idxF {α : Type} (p : α → Bool) : List α → Nat → Int
  | [], _ => -1
  | x :: l, i => if p x then i else idxF p l (i + 1)
theorem idxF_any {α : Type} (p : α → Bool) : ∀ (l : List α) (i : Nat), decide (0 ≤ idxF p l i) = l.any p
  | [], i => rfl
  | x :: l, i => by
    unfold idxF
    cases h : p x with
    | true => simp [h]
    | false => simp [h, idxF_any p l (i + 1)]
theorem idxF_step {α : Type} (p : α → Bool) {l : List α} {i : Nat} (h : i < l.length) : idxF p (l.drop i) i = if p l[i] then (i : Int) else idxF p (l.drop (i + 1)) (i + 1) := by
  rw [drop_get h, idxF]
end Go.Proofs
namespace Go.Proofs
open Go.PM Go
def gD (l : List Int) (k : Nat) : Int := l[k]?.getD 0
theorem gD_set {l : List Int} {k j : Nat} {x : Int} (hk : k < l.length) : gD (l.set k x) j = if j = k then x else gD l j := by
  unfold gD
  rw [List.getElem?_set]
  by_cases h : k = j
  · subst h; simp [hk]
  · rw [if_neg h, if_neg (fun e => h e.symm)]
theorem gD_drop {l : List Int} {k : Nat} (hk : k < l.length) : ((l.map (PV.int .i64)).drop k).head? = some (.int .i64 (gD l k)) := by
  unfold gD
  rw [List.head?_drop, List.getElem?_map, List.getElem?_eq_getElem hk]; rfl
theorem gD_set_map {l : List Int} {k : Nat} {x : Int} : (l.map (PV.int .i64)).set k (.int .i64 x) = (l.set k x).map (PV.int .i64) := by rw [List.map_set]
def spL (v : Nat) : Nat := [3, 0, 3, 1, 2, 3][v]?.getD 0
def g4 (u : Nat) : Int := if u = 3 then 5 else 0
theorem spL_get {v : Nat} (h : v ≤ 5) : ([.int .i64 3, .int .i64 0, .int .i64 3, .int .i64 1, .int .i64 2, .int .i64 3] : List PV)[v]? = some (.int .i64 (spL v)) ∧ spL v < 4 := by
  have : v = 0 ∨ v = 1 ∨ v = 2 ∨ v = 3 ∨ v = 4 ∨ v = 5 := by omega
  rcases this with rfl | rfl | rfl | rfl | rfl | rfl <;> exact ⟨rfl, by decide⟩
theorem g4_get {u : Nat} (h : u ≤ 3) : ([.int .i64 0, .int .i64 0, .int .i64 0, .int .i64 5] : List PV)[u]? = some (.int .i64 (g4 u)) ∧ 0 ≤ g4 u ∧ g4 u ≤ 5 := by
  have : u = 0 ∨ u = 1 ∨ u = 2 ∨ u = 3 := by omega
  rcases this with rfl | rfl | rfl | rfl <;> exact ⟨rfl, by decide, by decide⟩
theorem spMeets_far {a b : Sp} (h : b.pos + b.cnt ≤ a.pos) : spMeets a b = false := by
  have : ¬ (max a.pos b.pos < min (a.pos + a.cnt) (b.pos + b.cnt)) := by omega
  simp [spMeets, this]
theorem spMeets_far' {a b : Sp} (h : a.pos + a.cnt ≤ b.pos) : spMeets a b = false := by
  have : ¬ (max a.pos b.pos < min (a.pos + a.cnt) (b.pos + b.cnt)) := by omega
  simp [spMeets, this]
theorem winsOwnA_snoc (x : Win) : ∀ (l ahead : List Win), winsOwnA ahead (l ++ [x]) = (winsOwnA ahead l && (ahead ++ l).all (fun y => !winBad x y))
  | [], ahead => by simp [winsOwnA]
  | y :: l, ahead => by
    rw [List.cons_append, winsOwnA, winsOwnA_snoc x l (ahead ++ [y]), winsOwnA, Bool.and_assoc, List.append_assoc]
    rfl
structure WInv (i c : Nat) (ws : List Win) (fr vi : List Int) : Prop where
  fl : fr.length = 4
  vl : vi.length = 4
  fb : ∀ k, k < 4 → 128 * (i : Int) ≤ gD fr k ∧ gD fr k ≤ 128 * i + 20 * c
  vb : ∀ k, k < 4 → 0 ≤ gD vi k ∧ gD vi k ≤ 23 * c
  len : ws.length = c
  all : ∀ w ∈ ws, ∃ k : Nat, k < 4 ∧ w.space = k ∧ 1 ≤ w.cnt ∧ w.cnt ≤ 18 ∧ 0 ≤ w.virt ∧ w.virt + w.cnt ≤ gD vi k ∧ 128 * (i : Int) ≤ w.phys ∧ w.phys + w.cnt ≤ gD fr k
  own : winsOwn ws = true
theorem WInv.first (i : Nat) : WInv i 0 [] [128 * (i : Int), 128 * i, 128 * i, 128 * i] [0, 0, 0, 0] where
  fl := rfl
  vl := rfl
  fb := fun k hk => by
    have : k = 0 ∨ k = 1 ∨ k = 2 ∨ k = 3 := by omega
    rcases this with rfl | rfl | rfl | rfl <;> simp [gD]
  vb := fun k hk => by
    have : k = 0 ∨ k = 1 ∨ k = 2 ∨ k = 3 := by omega
    rcases this with rfl | rfl | rfl | rfl <;> simp [gD]
  len := rfl
  all := fun w hw => by cases hw
  own := rfl
theorem WInv.step {i c : Nat} {ws : List Win} {fr vi : List Int} (h : WInv i c ws fr vi) {k : Nat} (hk : k < 4) {g n m : Int} (hg : 0 ≤ g ∧ g ≤ 5) (hn : 0 ≤ n ∧ n ≤ 2) (hm : 0 ≤ m ∧ m ≤ 17) :
    WInv i (c + 1) (ws ++ [⟨k, gD vi k + g, gD fr k + n, 1 + m⟩]) (fr.set k (gD fr k + n + (1 + m))) (vi.set k (gD vi k + g + (1 + m))) where
  fl := by rw [List.length_set]; exact h.fl
  vl := by rw [List.length_set]; exact h.vl
  fb := fun j hj => by
    rw [gD_set (by rw [h.fl]; exact hk)]
    have h1 := h.fb k hk
    have h2 := h.fb j hj
    split <;> omega
  vb := fun j hj => by
    rw [gD_set (by rw [h.vl]; exact hk)]
    have h1 := h.vb k hk
    have h2 := h.vb j hj
    split <;> omega
  len := by simp [h.len]
  all := fun w hw => by
    have h1 := h.fb k hk
    have h3 := h.vb k hk
    rcases List.mem_append.1 hw with hw | hw
    · obtain ⟨j, a1, a2, a3, a4, a5, a6, a7, a8⟩ := h.all w hw
      refine ⟨j, a1, a2, a3, a4, a5, ?_, a7, ?_⟩
      · rw [gD_set (by rw [h.vl]; exact hk)]
        split
        · rename_i e; subst e; omega
        · exact a6
      · rw [gD_set (by rw [h.fl]; exact hk)]
        split
        · rename_i e; subst e; omega
        · exact a8
    · rw [List.mem_singleton.1 hw]
      refine ⟨k, hk, rfl, by simp only; omega, by simp only; omega, by simp only; omega, ?_, by simp only; omega, ?_⟩
      · rw [gD_set (by rw [h.vl]; exact hk), if_pos rfl]; exact Int.le_refl _
      · rw [gD_set (by rw [h.fl]; exact hk), if_pos rfl]; exact Int.le_refl _
  own := by
    unfold winsOwn
    rw [winsOwnA_snoc, show winsOwnA [] ws = true from h.own, Bool.true_and, List.nil_append, List.all_eq_true]
    intro y hy
    obtain ⟨j, a1, a2, a3, a4, a5, a6, a7, a8⟩ := h.all y hy
    have hb : winBad ⟨k, gD vi k + g, gD fr k + n, 1 + m⟩ y = false := by
      by_cases hjk : j = k
      · subst hjk
        have e1 : spMeets (Win.p ⟨j, gD vi j + g, gD fr j + n, 1 + m⟩) y.p = false := spMeets_far (by simp only [Win.p]; omega)
        have e2 : spMeets (Win.v ⟨j, gD vi j + g, gD fr j + n, 1 + m⟩) y.v = false := spMeets_far (by simp only [Win.v]; omega)
        simp [winBad, winMeet, winMeetV, e1, e2]
      · have : ¬ ((k : Int) = y.space) := by omega
        simp [winBad, winMeet, winMeetV, this]
    simp [hb]
structure WGood (i : Nat) (ws : List Win) : Prop where
  len : ws.length ≤ 6
  right : ∀ w ∈ ws, winRight w = true
  lo : ∀ w ∈ ws, 128 * (i : Int) ≤ w.phys ∧ w.phys + w.cnt ≤ 128 * i + 120
  ok : ∀ w ∈ ws, w.ok
  own : winsOwn ws = true
theorem WInv.good {i c : Nat} {ws : List Win} {fr vi : List Int} (h : WInv i c ws fr vi) (hi : i ≤ 3) (hc : c ≤ 6) : WGood i ws where
  len := by rw [h.len]; exact hc
  right := fun w hw => by
    obtain ⟨k, a1, a2, a3, a4, a5, a6, a7, a8⟩ := h.all w hw
    have h1 := h.fb k a1
    have h3 := h.vb k a1
    have e1 : spRight w.v 65536 = true := spRight_iff.2 (by simp only [Win.v]; omega)
    have e2 : spRight w.p 512 = true := spRight_iff.2 (by simp only [Win.p]; omega)
    simp only [winRight, e1, e2, Bool.and_true, decide_eq_true_eq]
    omega
  lo := fun w hw => by
    obtain ⟨k, a1, a2, a3, a4, a5, a6, a7, a8⟩ := h.all w hw
    have h1 := h.fb k a1
    omega
  ok := fun w hw => by
    obtain ⟨k, a1, a2, a3, a4, a5, a6, a7, a8⟩ := h.all w hw
    have h1 := h.fb k a1
    have h3 := h.vb k a1
    exact ⟨⟨by omega, by omega⟩, ⟨by omega, by omega⟩, ⟨by omega, by omega⟩, ⟨by omega, by omega⟩⟩
  own := h.own
end Go.Proofs
namespace Go.Proofs
open Go.PM
def ivar1 (e : Env) (i : Nat) : Nat := match e.get i with
  | .int _ n => (n + 1).toNat
  | _ => 0
theorem Tp.val_nat (t : Tp) {n : Nat} (hn : 1 ≤ n) : ∃ u : Nat, u ≤ n - 1 ∧ t.val n = (u : Int) := by
  have := t.val_bound (n := (n : Int)) (by omega)
  exact ⟨(t.val n).toNat, by omega, by omega⟩
end Go.Proofs
namespace Go.PM
theorem ACalls.new_set {P : Program} {f : FuncId} {args : List PV} {s : St} {tp : Nat} {x : Option Blk} {b : Blk} {v : PV} (h : ACalls P f args (s.new b) (fun r s' => r = v ∧ s' = (s.new b).set tp x)) (hne : tp ≠ s.nxt) : ACalls P f args (s.new b) (fun r s' => r = v ∧ s' = (s.set tp x).new b) := by
  rw [← set_new_ne s b tp x hne]; exact h
end Go.PM
namespace Go.PM
theorem Kp.swap {s s' : St} {p q : Nat × Blk} {l : List (Nat × Blk)} (h : Kp s s' (p :: q :: l)) : Kp s s' (q :: p :: l) :=
  ⟨h.fr, fun x hx => h.all x (by simp only [List.mem_cons] at hx ⊢; rcases hx with h | h | h <;> simp [h])⟩
theorem Kp.tm {a s s' : St} {k k' : SK} {l : List (Nat × Blk)} (h : Kp a s l) (m : TMoves s s' k k') (hk : ∀ t z, k = .tok t z → a.nxt ≤ t) (hd : ∀ p ∈ l, ∀ z, k ≠ .tok p.1 z) : Kp a s' l :=
  ⟨h.fr.tm m hk, fun p hp => by
    have := h.all p hp
    exact ⟨Nat.lt_of_lt_of_le this.1 m.nxt, by rw [m.rest p.1 this.1 (hd p hp)]; exact this.2⟩⟩
theorem Ret.baseK {P : Program} {fn : Func} {args : List PV} {s0 : St} {Q : PV → St → Prop} {e : Env} {s : St} {r r' : PV} (id : Nat) (x : Blk) (hid : id < s0.nxt) (hr : retv P fn.results.toList e s = some r) (hr' : r' = r.weak) (hb : r'.blw s0.nxt) (hx : x.blw s0.nxt) (hwf : s0.wf)
    (hk : ∀ i, i < s0.nxt → s.blk i = (s0.set id (some x)).blk i) (h : Q r' (s0.set id (some x))) : Ret P fn args s0 Q e s := by
  have e1 : s.keep s0.nxt (fun i => decide (i < s0.nxt)) = s0.set id (some x) := by
    have e2 : ∀ a b : St, a.nxt = b.nxt → a.blk = b.blk → a = b := by
      rintro ⟨n, f⟩ ⟨m, g⟩ h1 h2
      simp only at h1 h2
      rw [h1, h2]
    refine e2 _ _ rfl (funext fun i => ?_)
    show (if decide (i < s0.nxt) = true then s.blk i else none) = _
    by_cases hi : i < s0.nxt
    · simp only [hi, decide_true, if_true]; exact hk i hi
    · simp only [hi, decide_false, Bool.false_eq_true, if_false]
      show none = if i = id then some x else s0.blk i
      rw [if_neg (by omega), hwf i (by omega)]
  refine Ret.keep s0.nxt (fun i => decide (i < s0.nxt)) hr hr' (Nat.le_refl _) hb (fun i hi _ => of_decide_eq_true hi) ?_ (by rw [e1]; exact h)
  intro i b hi hbi
  rw [hk i (of_decide_eq_true hi)] at hbi
  have hbi : (if i = id then some x else s0.blk i) = some b := hbi
  split at hbi
  · cases hbi; exact .inr hx
  · exact .inl hbi
end Go.PM
namespace Go.Proofs
open Go.PM
theorem blw_wins (n : Nat) (l : List Win) : (PV.sl .unk (l.map Win.pv)).blw n := by
  simp only [PV.blw]
  exact ⟨fun t z e => (by cases e), blws_wins _ _⟩
theorem blw_tape (n : Nat) (t : Tp) : t.pv.blw n := by
  simp only [Tp.pv, PV.blw, PV.blws, and_true]
  exact ⟨fun t z e => (by cases e), blws_map (PV.int .i64) n (fun a => by simp only [PV.blw]) _⟩
end Go.Proofs
namespace Go.PM
theorem Kp.trans {a s s2 : St} {l l2 : List (Nat × Blk)} (h : Kp a s l) (h2 : Kp s s2 l2) : Kp a s2 (l2 ++ l) :=
  ⟨h.fr.trans h2.fr, fun p hp => by
    rcases List.mem_append.1 hp with hp | hp
    · exact h2.all p hp
    · have := h.all p hp
      exact ⟨Nat.lt_of_lt_of_le this.1 h2.fr.nxt, by rw [h2.fr.blk p.1 this.1]; exact this.2⟩⟩
theorem RunO.wkE {P : Program} {N : Nat} {ops : Array Oper} {l : List Oper} {k : List KI} {e : Env} {s : St} {rt : Env → St → Prop} (i : Nat) {v : PV} (hi : (e.get i).weak = v) (h : RunO P N ops l k ((i, v) :: e) s rt) : RunO P N ops l k e s rt := by
  intro ok okk idx hidx g w a hI hE hd hN
  refine h ok okk idx hidx g w a hI (fun j => ?_) hd hN
  simp only [Env.get]
  split
  · rename_i hj
    rw [hj, ← hi]
    exact R_weak _ _ (hE i)
  · exact hE j
end Go.PM
namespace Go.Proofs
open Go.PM Go
theorem U32_wrap (n : Int) : U32 (IntKind.u32.wrap n) := by
  unfold U32
  simp [IntKind.wrap, IntKind.signed, IntKind.bits]
  omega
theorem U32_ibits (op : BinOp) (a b : Int) : U32 (ibits op .u32 a b) := by
  unfold ibits
  exact U32_wrap _
end Go.Proofs
namespace Go.Proofs
open Go.PM Go
theorem sltsBadA_snoc (ahead : List Ten) (x : Slt) : ∀ (l done : List Slt), sltsBadA ahead done (l ++ [x]) = (sltsBadA ahead done l || (sltMeets x (done ++ l) || ahead.any fun y => sltMeets x y.slts))
  | [], done => by simp [sltsBadA]
  | y :: l, done => by
    rw [List.cons_append, sltsBadA, sltsBadA_snoc ahead x l (done ++ [y]), sltsBadA, Bool.or_assoc, Bool.or_assoc, Bool.or_assoc, List.append_assoc]
    rfl
theorem sltMeet_far {a b : Slt} (h : b.pos + b.len ≤ a.pos) : sltMeet a b = false := spMeets_far (a := a.sp) (b := b.sp) h
structure SInv (lo q : Int) (l : List Slt) : Prop where
  all : ∀ a ∈ l, 72 ≤ a.len ∧ a.len ≤ 80 ∧ lo ≤ a.pos ∧ a.pos + a.len ≤ q
  own : ∀ ahead : List Ten, (∀ y ∈ ahead, ∀ o ∈ y.slts, o.pos + o.len ≤ lo) → sltsBadA ahead [] l = false
  lb : lo ≤ q
  ub : q ≤ lo + 86 * l.length
theorem SInv.first (lo : Int) : SInv lo lo [] := ⟨fun a h => (by cases h), fun _ _ => rfl, Int.le_refl _, by simp⟩
theorem SInv.step {lo q : Int} {l : List Slt} (h : SInv lo q l) {m n : Int} (hm : 0 ≤ m ∧ m ≤ 8) (hn : 0 ≤ n ∧ n ≤ 6) : SInv lo (q + (72 + m) + n) (l ++ [⟨q, 72 + m⟩]) where
  all := fun a ha => by
    rcases List.mem_append.1 ha with ha | ha
    · have := h.all a ha; omega
    · rw [List.mem_singleton.1 ha]
      have := h.lb
      exact ⟨by simp only; omega, by simp only; omega, by simp only; omega, by simp only; omega⟩
  own := fun ahead ho => by
    rw [sltsBadA_snoc, h.own ahead ho, Bool.false_or, List.nil_append, Bool.or_eq_false_iff]
    constructor
    · refine List.any_eq_false.2 fun y hy => ?_
      rw [sltMeet_far (by have := h.all y hy; simp only; omega)]; simp
    · refine List.any_eq_false.2 fun y hy => ?_
      rw [show sltMeets (⟨q, 72 + m⟩ : Slt) y.slts = false from List.any_eq_false.2 fun o ho' => by
        rw [sltMeet_far (by have := ho y hy o ho'; have := h.lb; simp only; omega)]; simp]
      simp
  lb := by have := h.lb; omega
  ub := by have := h.ub; rw [List.length_append]; simp only [List.length_cons, List.length_nil]; omega
structure XGood (j : Nat) (q : Int) (x : Ten) : Prop where
  unit : 1 ≤ x.unit ∧ x.unit ≤ 247
  fns : U32 x.fns
  queue : 1 ≤ x.queue ∧ x.queue ≤ 4
  wins : WGood j x.wins
  slts : ∀ a ∈ x.slts, 72 ≤ a.len ∧ a.len ≤ 80 ∧ 0 ≤ a.pos ∧ a.pos + a.len ≤ q
  ns : 1 ≤ x.slts.length ∧ x.slts.length ≤ 2
theorem XGood.mono {j : Nat} {q q' : Int} {x : Ten} (h : XGood j q x) (hq : q ≤ q') : XGood j q' x :=
  ⟨h.unit, h.fns, h.queue, h.wins, fun a ha => by have := h.slts a ha; omega, h.ns⟩
theorem XGood.why {j : Nat} {q frame : Int} {x : Ten} (h : XGood j q x) (hf : q ≤ frame) : tenWhy x frame = 0 := by
  have h1 := h.unit
  have h2 := h.queue
  have h3 := h.ns
  have h4 := h.wins.len
  rw [tenWhy, if_neg (by omega), if_neg (by omega), if_neg (by omega), if_neg, if_neg]
  · rw [List.any_eq_true]
    rintro ⟨a, ha, hb⟩
    have := h.slts a ha
    rw [sltRight_eq] at hb
    simp at hb
    omega
  · simp only [Bool.or_eq_true, List.any_eq_true, Bool.not_eq_true', not_or]
    refine ⟨?_, by rw [h.wins.own]; decide⟩
    rintro ⟨w, hw, hb⟩
    rw [h.wins.right w hw] at hb; cases hb
theorem XGood.ok {j : Nat} {q : Int} {x : Ten} (h : XGood j q x) (hq : q ≤ 2000) : x.ok where
  unit := by have := h.unit; exact ⟨by omega, by omega⟩
  fns := h.fns
  queue := by have := h.queue; exact ⟨by omega, by omega⟩
  wins := h.wins.ok
  slts := fun a ha => by have := h.slts a ha; exact ⟨⟨by omega, by omega⟩, ⟨by omega, by omega⟩⟩
  bw := by have := h.wins.len; omega
  bs := by have := h.ns; omega
structure TInv (i : Nat) (q : Int) (l : List Ten) : Prop where
  len : l.length = i
  lo : 0 ≤ q
  hi : q ≤ 4 + 172 * i
  all : ∀ j (h : j < l.length), XGood j q l[j]
  beside : ∀ j (h : j < l.length), tenBeside l[j] (l.take j) = 0
theorem TInv.first {q : Int} (h : 0 ≤ q ∧ q ≤ 4) : TInv 0 q [] := ⟨rfl, h.1, by omega, fun j h => by simp at h, fun j h => by simp at h⟩
theorem TInv.step {i : Nat} {q q' : Int} {l : List Ten} {x : Ten} (h : TInv i q l) (hx : XGood i q' x) (hs : SInv q q' x.slts) : TInv (i + 1) q' (l ++ [x]) where
  len := by rw [List.length_append, h.len]; rfl
  lo := by have := h.lo; have := hs.lb; omega
  hi := by have := h.hi; have := hs.ub; have := hx.ns; omega
  all := fun j hj => by
    rw [List.length_append] at hj
    simp only [List.length_cons, List.length_nil] at hj
    by_cases e : j < l.length
    · rw [List.getElem_append_left e]
      exact (h.all j e).mono hs.lb
    · have e1 : j = l.length := by omega
      subst e1
      rw [List.getElem_append_right (Nat.le_refl _)]
      simp only [Nat.sub_self, List.getElem_cons_zero]
      rw [h.len]; exact hx
  beside := fun j hj => by
    rw [List.length_append] at hj
    simp only [List.length_cons, List.length_nil] at hj
    by_cases e : j < l.length
    · rw [List.getElem_append_left e, List.take_append_of_le_length (by omega)]
      exact h.beside j e
    · have e1 : j = l.length := by omega
      subst e1
      rw [List.getElem_append_right (Nat.le_refl _), List.take_left]
      simp only [Nat.sub_self, List.getElem_cons_zero]
      rw [tenBeside, if_neg, if_neg]
      · rw [hs.own l (fun y hy o ho => ?_)]
        · decide
        · obtain ⟨j, hj, rfl⟩ := List.getElem_of_mem hy
          exact ((h.all j hj).slts o ho).2.2.2
      · rw [List.any_eq_true]
        rintro ⟨y, hy, hb⟩
        obtain ⟨j, hj, rfl⟩ := List.getElem_of_mem hy
        simp only [winsMeet, List.any_eq_true] at hb
        obtain ⟨a, ha, b, hb, hm⟩ := hb
        have h1 := (h.all j hj).wins.lo b hb
        have h2 := hx.wins.lo a ha
        have h3 := h.len
        have e1 : spMeets a.p b.p = false := spMeets_far (by simp only [Win.p]; omega)
        simp [winMeet, e1] at hm
theorem tabWhereA_ok (frame : Int) : ∀ (l done : List Ten), (∀ j (h : j < l.length), tenWhy l[j] frame = 0 ∧ tenBeside l[j] (done ++ l.take j) = 0) → tabWhereA frame done l = (0, -1)
  | [], done, _ => rfl
  | x :: l, done, h => by
    have h0 := h 0 (by simp)
    simp only [List.getElem_cons_zero, List.take_zero, List.append_nil] at h0
    rw [tabWhereA, h0.1, h0.2]
    simp only [ne_eq, not_true_eq_false, if_false]
    refine tabWhereA_ok frame l (done ++ [x]) fun j hj => ?_
    have := h (j + 1) (by simpa using hj)
    simpa [List.append_assoc] using this
theorem TInv.right {i : Nat} {q frame : Int} {l : List Ten} (h : TInv i q l) (hi : 1 ≤ i ∧ i ≤ 4) (hf : q ≤ frame ∧ frame ≤ q + 19) (h1 : 1 ≤ frame) : tabRight ⟨frame, l⟩ = true ∧ Tab.ok ⟨frame, l⟩ := by
  have h2 := h.hi
  have h3 := h.len
  constructor
  · rw [tabRight, tabWhere, if_neg (by simp only; omega), if_neg (by simp only; omega), tabWhereA_ok]
    · rfl
    · intro j hj
      exact ⟨(h.all j hj).why hf.1, by rw [List.nil_append]; exact h.beside j hj⟩
  · refine ⟨⟨by simp only; omega, by simp only; omega⟩, fun x hx => ?_, by simp only; omega⟩
    obtain ⟨j, hj, rfl⟩ := List.getElem_of_mem hx
    exact (h.all j hj).ok (by omega)
structure Tab.few (t : Tab) (m : Nat) : Prop where
  ok : t.ok
  nt : t.tens.length ≤ m
  nw : ∀ x ∈ t.tens, x.wins.length ≤ m
  ns : ∀ x ∈ t.tens, x.slts.length ≤ m
theorem TInv.few {i : Nat} {q frame : Int} {l : List Ten} (h : TInv i q l) (hi : 1 ≤ i ∧ i ≤ 4) (hf : q ≤ frame ∧ frame ≤ q + 19) (h1 : 1 ≤ frame) : Tab.few ⟨frame, l⟩ 6 := by
  refine ⟨(h.right hi hf h1).2, by have := h.len; simp only; omega, fun x hx => ?_, fun x hx => ?_⟩
  · obtain ⟨j, hj, rfl⟩ := List.getElem_of_mem hx
    exact (h.all j hj).wins.len
  · obtain ⟨j, hj, rfl⟩ := List.getElem_of_mem hx
    have := (h.all j hj).ns
    show l[j].slts.length ≤ 6
    omega
theorem TInv.pos {i : Nat} {q : Int} {l : List Ten} (h : TInv i q l) (hi : 1 ≤ i) : 72 ≤ q := by
  have h1 := h.len
  have h2 := h.all 0 (by omega)
  have h3 := h2.ns
  cases hl : (l[0]'(by omega)).slts with
  | nil => rw [hl] at h3; simp at h3
  | cons a r =>
    have := h2.slts a (by rw [hl]; exact List.mem_cons_self)
    omega
end Go.Proofs
namespace Go.PM
open Go
theorem blk_new_ne {s : St} {b : Blk} {i : Nat} (h : i ≠ s.nxt) : (s.new b).blk i = s.blk i := if_neg h
theorem blk_new_eq {s : St} {b : Blk} : (s.new b).blk s.nxt = some b := if_pos rfl
theorem blk_set_ne {s : St} {b : Option Blk} {i id : Nat} (h : i ≠ id) : (s.set id b).blk i = s.blk i := if_neg h
attribute [go_sem high] blk_new_ne blk_set_ne blk_new_eq blk_set_self
theorem Kp.lt' {s s' : St} {i : Nat} {b : Blk} {l : List (Nat × Blk)} (h : Kp s s' ((i, b) :: l)) : i < s'.nxt := h.lt
theorem Kp.hd' {s s' : St} {i : Nat} {b : Blk} {l : List (Nat × Blk)} (h : Kp s s' ((i, b) :: l)) : s'.blk i = some b := h.hd
theorem Kp.nx {s s' : St} {l : List (Nat × Blk)} (h : Kp s s' l) : s.nxt ≤ s'.nxt := h.fr.nxt
theorem au {p : Prop} (h : p := by simp (disch := first | omega | (simp only [nxt_set, nxt_new] <;> omega) | fail) only [go_sem, ↓reduceIte, Nat.reduceEqDiff, Nat.reduceLT, Nat.reduceLeDiff, Nat.reduceAdd, Nat.reduceMul, H] <;> rfl) : p := h
theorem ltn {i a : Nat} (h : i < a) (n : Nat) : (i = a + n) = False := eq_false (by omega)
theorem lte {i a : Nat} (h : i < a) : (i = a) = False := eq_false (by omega)
theorem aj {p q : Prop} (a : p) (b : q) : p ∧ q := ⟨a, b⟩
def gat : List (Option Nat) → Nat → Option Nat
  | [], _ => none
  | a :: _, 0 => a
  | _ :: l, n + 1 => gat l n
theorem gat_zero (a : Option Nat) (l : List (Option Nat)) : gat (a :: l) 0 = a := rfl
theorem gat_succ (a : Option Nat) (l : List (Option Nat)) (n : Nat) : gat (a :: l) (n + 1) = gat l n := rfl
attribute [go_sem] gat_zero gat_succ
def outK (i : Nat) : List KI → Option (List KI)
  | .blk id :: k => if i = id then some k else outK i k
  | _ :: k => outK i k
  | [] => none
theorem outK_run {P : Program} {N i : Nat} {e : Env} {s : St} {rt : Env → St → Prop} : ∀ {k k' : List KI}, outK i k = some k' → Run P N k' e s rt → Out P N i k e s rt
  | [], _, h, _ => by cases h
  | .blk id :: k, k', h, r => by
    simp only [outK] at h
    simp only [Out]
    split
    · rename_i hi; rw [if_pos hi] at h; cases h; exact r
    · rename_i hi; rw [if_neg hi] at h; exact outK_run h r
  | .code c :: k, k', h, r => outK_run (k := k) h r
  | .lp I :: k, k', h, r => outK_run (k := k) h r
section
variable {P : Program} {N : Nat} {kk : List KI} {e e1 e2 : Env} {s s1 : St} {rt : Env → St → Prop}
theorem rs {a b : Code} (k : Run P N (.code a :: .code b :: kk) e s rt) : Run P N (.code (.seq a b) :: kk) e s rt := .seq k
theorem rk (k : Run P N kk e s rt) : Run P N (.code .skip :: kk) e s rt := .skip k
theorem rb {id : Nat} {c : Code} (k : Run P N (.code c :: .blk id :: kk) e s rt) : Run P N (.code (.block id c) :: kk) e s rt := .block k
theorem rB {id : Nat} (k : Run P N kk e s rt) : Run P N (.blk id :: kk) e s rt := .blk k
theorem rR (k : rt e s) : Run P N (.code .ret :: kk) e s rt := .ret k
theorem rN (k : rt e s) : Run P N [] e s rt := .nil k
theorem rX {i : Nat} {kk' : List KI} (ho : outK i kk = some kk' := by rfl) (k : Run P N kk' e s rt) : Run P N (.code (.exit i) :: kk) e s rt := .exit (outK_run ho k)
theorem rr {id : Nat} {ops : Array Oper} (k : RunO P N ops ops.toList kk e s rt) : Run P N (.code (.region id ops false) :: kk) e s rt := .region k
theorem rc {c : Operand} {x y : Code} {t : Bool} (hc : ev e c = .bool t := by simp (disch := first | omega | (simp only [nxt_set, nxt_new] <;> omega) | fail) only [go_sem, ↓reduceIte, Nat.reduceEqDiff, Nat.reduceLT, Nat.reduceLeDiff, Nat.reduceAdd, Nat.reduceMul, H] <;> rfl) (ht : t = true → Run P N (.code x :: kk) e s rt)
    (hf : t = false → Run P N (.code y :: kk) e s rt) : Run P N (.code (.cond c x y) :: kk) e s rt := .cond hc ht hf
theorem rl {ops : Array Oper} (l : List Nat) (he : Env.keep l e = e1 := by simp (disch := first | omega | (simp only [nxt_set, nxt_new] <;> omega) | fail) only [go_sem, ↓reduceIte, Nat.reduceEqDiff, Nat.reduceLT, Nat.reduceLeDiff, Nat.reduceAdd, Nat.reduceMul, H] <;> rfl) (k : Run P N kk e1 s rt) : RunO P N ops [] kk e s rt := .live' l he k
theorem ra {ops : Array Oper} {l : List Oper} (h : aops P ops l e s = some (e1, s1) := by simp (disch := first | omega | (simp only [nxt_set, nxt_new] <;> omega) | fail) only [go_sem, ↓reduceIte, Nat.reduceEqDiff, Nat.reduceLT, Nat.reduceLeDiff, Nat.reduceAdd, Nat.reduceMul, H] <;> rfl) (k : RunO P N ops [] kk e1 s1 rt) : RunO P N ops l kk e s rt := .all h k
theorem ro {ops : Array Oper} {pre l : List Oper} (h : aops P ops pre e s = some (e1, s1) := by simp (disch := first | omega | (simp only [nxt_set, nxt_new] <;> omega) | fail) only [go_sem, ↓reduceIte, Nat.reduceEqDiff, Nat.reduceLT, Nat.reduceLeDiff, Nat.reduceAdd, Nat.reduceMul, H] <;> rfl) (k : RunO P N ops l kk e1 s1 rt) : RunO P N ops (pre ++ l) kk e s rt := .ops h k
theorem rrA {id : Nat} {ops : Array Oper} (lits : List (Option Nat)) (hd : ops.toList.map (·.dst) = lits := by rfl) (k : ∀ ops' : Array Oper, (∀ j : Nat, (ops'[j]?).bind (fun o => o.dst) = gat lits j) → RunO P N ops' ops.toList kk e s rt) : Run P N (.code (.region id ops false) :: kk) e s rt :=
  .region (k ops fun j => by
    rw [← hd, ← Array.getElem?_toList]
    induction ops.toList generalizing j with
    | nil => simp [gat]
    | cons a l ih => cases j with
      | zero => simp [gat]
      | succ j => simpa [gat] using ih j)
theorem rg {id : Nat} {ops : Array Oper} (l : List Nat) (h : aops P ops ops.toList e s = some (e1, s1) := by simp (disch := first | omega | (simp only [nxt_set, nxt_new] <;> omega) | fail) only [go_sem, ↓reduceIte, Nat.reduceEqDiff, Nat.reduceLT, Nat.reduceLeDiff, Nat.reduceAdd, Nat.reduceMul, H] <;> rfl) (he : Env.keep l e1 = e2 := by simp (disch := first | omega | (simp only [nxt_set, nxt_new] <;> omega) | fail) only [go_sem, ↓reduceIte, Nat.reduceEqDiff, Nat.reduceLT, Nat.reduceLeDiff, Nat.reduceAdd, Nat.reduceMul, H] <;> rfl) (k : Run P N kk e2 s1 rt) : Run P N (.code (.region id ops false) :: kk) e s rt :=
  .region (.all h (.live' l he k))
theorem rh {ops : Array Oper} {l : List Oper} (v : List Nat) (h : aops P ops l e s = some (e1, s1) := by simp (disch := first | omega | (simp only [nxt_set, nxt_new] <;> omega) | fail) only [go_sem, ↓reduceIte, Nat.reduceEqDiff, Nat.reduceLT, Nat.reduceLeDiff, Nat.reduceAdd, Nat.reduceMul, H] <;> rfl) (he : Env.keep v e1 = e2 := by simp (disch := first | omega | (simp only [nxt_set, nxt_new] <;> omega) | fail) only [go_sem, ↓reduceIte, Nat.reduceEqDiff, Nat.reduceLT, Nat.reduceLeDiff, Nat.reduceAdd, Nat.reduceMul, H] <;> rfl) (k : Run P N kk e2 s1 rt) : RunO P N ops l kk e s rt :=
  .all h (.live' v he k)
theorem rC {ops : Array Oper} {d : Option Nat} {c : Call} {t : TypeId} {pos : String} {af : Array Edge} {gd : Option (Nat × Bool)} {l : List Oper} {f : FuncId} {args args' : List PV} {v : PV} (hg : guard? ops ⟨d, .call c, t, pos, af, gd⟩ e = some true := by simp (disch := first | omega | (simp only [nxt_set, nxt_new] <;> omega) | fail) only [go_sem, ↓reduceIte, Nat.reduceEqDiff, Nat.reduceLT, Nat.reduceLeDiff, Nat.reduceAdd, Nat.reduceMul, H] <;> rfl) (ha : acall c e = some (f, args) := by simp (disch := first | omega | (simp only [nxt_set, nxt_new] <;> omega) | fail) only [go_sem, ↓reduceIte, Nat.reduceEqDiff, Nat.reduceLT, Nat.reduceLeDiff, Nat.reduceAdd, Nat.reduceMul, H] <;> rfl) (hw : PV.weaks args = args' := by simp (disch := first | omega | (simp only [nxt_set, nxt_new] <;> omega) | fail) only [go_sem, ↓reduceIte, Nat.reduceEqDiff, Nat.reduceLT, Nat.reduceLeDiff, Nat.reduceAdd, Nat.reduceMul, H] <;> rfl) (hc : callable P f = true := by kernel_rfl)
    (h : ACalls P f args' s fun r s' => r = v ∧ s' = s) (k : RunO P N ops l kk (e.put d v) s rt) : RunO P N ops (⟨d, .call c, t, pos, af, gd⟩ :: l) kk e s rt :=
  .callw hg ha hw hc (h.mono fun r s' ⟨e1, e2⟩ => by subst e1; subst e2; exact k)
theorem rD {ops : Array Oper} {d : Option Nat} {c : Call} {t : TypeId} {pos : String} {af : Array Edge} {gd : Option (Nat × Bool)} {l : List Oper} {f : FuncId} {args args' : List PV} {Q : PV → St → Prop} (hg : guard? ops ⟨d, .call c, t, pos, af, gd⟩ e = some true := by simp (disch := first | omega | (simp only [nxt_set, nxt_new] <;> omega) | fail) only [go_sem, ↓reduceIte, Nat.reduceEqDiff, Nat.reduceLT, Nat.reduceLeDiff, Nat.reduceAdd, Nat.reduceMul, H] <;> rfl) (ha : acall c e = some (f, args) := by simp (disch := first | omega | (simp only [nxt_set, nxt_new] <;> omega) | fail) only [go_sem, ↓reduceIte, Nat.reduceEqDiff, Nat.reduceLT, Nat.reduceLeDiff, Nat.reduceAdd, Nat.reduceMul, H] <;> rfl) (hw : PV.weaks args = args' := by simp (disch := first | omega | (simp only [nxt_set, nxt_new] <;> omega) | fail) only [go_sem, ↓reduceIte, Nat.reduceEqDiff, Nat.reduceLT, Nat.reduceLeDiff, Nat.reduceAdd, Nat.reduceMul, H] <;> rfl) (hc : callable P f = true := by kernel_rfl)
    (h : ACalls P f args' s Q) (k : ∀ r s', Q r s' → RunO P N ops l kk (e.put d r) s' rt) : RunO P N ops (⟨d, .call c, t, pos, af, gd⟩ :: l) kk e s rt :=
  .callw hg ha hw hc (h.mono k)
theorem rE {ops : Array Oper} {d : Option Nat} {c : Call} {t : TypeId} {pos : String} {af : Array Edge} {gd : Option (Nat × Bool)} {l : List Oper} {f : FuncId} {args args' : List PV} {Q : PV → St → Prop} (hg : guard? ops ⟨d, .call c, t, pos, af, gd⟩ e = some true := by simp (disch := first | omega | (simp only [nxt_set, nxt_new] <;> omega) | fail) only [go_sem, ↓reduceIte, Nat.reduceEqDiff, Nat.reduceLT, Nat.reduceLeDiff, Nat.reduceAdd, Nat.reduceMul, H] <;> rfl) (ha : acall c e = some (f, args) := by simp (disch := first | omega | (simp only [nxt_set, nxt_new] <;> omega) | fail) only [go_sem, ↓reduceIte, Nat.reduceEqDiff, Nat.reduceLT, Nat.reduceLeDiff, Nat.reduceAdd, Nat.reduceMul, H] <;> rfl) (hc : callable P f = true := by kernel_rfl)
    (h : ACalls P f args s Q) (k : ∀ r s', Q r s' → RunO P N ops l kk (e.put d r) s' rt) : RunO P N ops (⟨d, .call c, t, pos, af, gd⟩ :: l) kk e s rt :=
  .call hg ha hc (h.mono k)
theorem rg0 {ops : Array Oper} {o : Oper} {l : List Oper} (hg : guard? ops o e = some false := by simp (disch := first | omega | (simp only [nxt_set, nxt_new] <;> omega) | fail) only [go_sem, ↓reduceIte, Nat.reduceEqDiff, Nat.reduceLT, Nat.reduceLeDiff, Nat.reduceAdd, Nat.reduceMul, H] <;> rfl) (k : RunO P N ops l kk (e.put o.dst (.tuple [])) s rt) : RunO P N ops (o :: l) kk e s rt := .gskip' hg k
theorem rgU {ops : Array Oper} {o : Oper} {l : List Oper} (hg : gundef ops o e = true := by simp (disch := first | omega | (simp only [nxt_set, nxt_new] <;> omega) | fail) only [go_sem, ↓reduceIte, Nat.reduceEqDiff, Nat.reduceLT, Nat.reduceLeDiff, Nat.reduceAdd, Nat.reduceMul, H] <;> rfl) (k : RunO P N ops l kk (e.put o.dst (.tuple [])) s rt) : RunO P N ops (o :: l) kk e s rt := .gskipU hg k
theorem rg1 {ops : Array Oper} {o : Oper} {l : List Oper} {v : PV} (hg : guard? ops o e = some true := by simp (disch := first | omega | (simp only [nxt_set, nxt_new] <;> omega) | fail) only [go_sem, ↓reduceIte, Nat.reduceEqDiff, Nat.reduceLT, Nat.reduceLeDiff, Nat.reduceAdd, Nat.reduceMul, H] <;> rfl) (he : acore P o.op (ev e) s = some (v, s1) := by simp (disch := first | omega | (simp only [nxt_set, nxt_new] <;> omega) | fail) only [go_sem, ↓reduceIte, Nat.reduceEqDiff, Nat.reduceLT, Nat.reduceLeDiff, Nat.reduceAdd, Nat.reduceMul, H] <;> rfl) (k : RunO P N ops l kk (e.put o.dst v) s1 rt) : RunO P N ops (o :: l) kk e s rt := .gdo hg he k
theorem rO {ops : Array Oper} {d : Option Nat} {t ty : TypeId} {len : Nat} {parts : Array (Nat × Operand)} {pos : String} {af : Array Edge} {gd : Option (Nat × Bool)} {l : List Oper} {els : List PV}
    (hg : guard? ops ⟨d, .buildSlice t len parts, ty, pos, af, gd⟩ e = some true := by simp (disch := first | omega | (simp only [nxt_set, nxt_new] <;> omega) | fail) only [go_sem, ↓reduceIte, Nat.reduceEqDiff, Nat.reduceLT, Nat.reduceLeDiff, Nat.reduceAdd, Nat.reduceMul, H] <;> rfl) (hb : aBuildSlice P t len parts.toList (ev e) = some els := by simp (disch := first | omega | (simp only [nxt_set, nxt_new] <;> omega) | fail) only [go_sem, ↓reduceIte, Nat.reduceEqDiff, Nat.reduceLT, Nat.reduceLeDiff, Nat.reduceAdd, Nat.reduceMul, H] <;> rfl) (k : RunO P N ops l kk (e.put d (.sl .clip els)) s rt) :
    RunO P N ops (⟨d, .buildSlice t len parts, ty, pos, af, gd⟩ :: l) kk e s rt := .lit hg hb k
theorem rQ {ops : Array Oper} {l : List Oper} {b : Bool} (i : Nat) (hi : e.get i = .bool b := by simp (disch := first | omega | (simp only [nxt_set, nxt_new] <;> omega) | fail) only [go_sem, ↓reduceIte, Nat.reduceEqDiff, Nat.reduceLT, Nat.reduceLeDiff, Nat.reduceAdd, Nat.reduceMul, H] <;> rfl) (ht : b = true → RunO P N ops l kk ((i, .bool true) :: e) s rt) (hf : b = false → RunO P N ops l kk ((i, .bool false) :: e) s rt) : RunO P N ops l kk e s rt := .bcase i hi ht hf
theorem rp {c : Code} (l : List Nat) (he : Env.keep l e = e1 := by simp (disch := first | omega | (simp only [nxt_set, nxt_new] <;> omega) | fail) only [go_sem, ↓reduceIte, Nat.reduceEqDiff, Nat.reduceLT, Nat.reduceLeDiff, Nat.reduceAdd, Nat.reduceMul, H] <;> rfl) (k : Run P N (.code c :: kk) e1 s rt) : Run P N (.code c :: kk) e s rt := .prune l he k
theorem re (he : e = e1 := by simp (disch := first | omega | (simp only [nxt_set, nxt_new] <;> omega) | fail) only [go_sem, ↓reduceIte, Nat.reduceEqDiff, Nat.reduceLT, Nat.reduceLeDiff, Nat.reduceAdd, Nat.reduceMul, H] <;> rfl) (k : Run P N kk e1 s rt) : Run P N kk e s rt := .envEq' he k
end
theorem go {P : Program} {f : FuncId} {fn : Func} {c : Code} {args : List PV} {s : St} {Q : PV → St → Prop} (hf : P.funcs[f]? = some fn) (hb : fn.body = some c := by rfl) (hn : Nat.ble args.length fn.ntmps = true := by rfl)
    (hok : okC fn.ntmps c = true := by rfl) (k : s.wf → True → Run P fn.ntmps [.code c] (argEnv 0 args) s (Ret P fn args s Q)) : ACalls P f args s Q :=
  .body hf hb (Nat.le_of_ble_eq_true hn) hok fun w => k w trivial
theorem rP {P : Program} {fn : Func} {args : List PV} {s0 : St} {Q : PV → St → Prop} {e : Env} {s : St} {r r' : PV} (hr : retv P fn.results.toList e s = some r) (hwf : s0.wf) (k : Q r' s0)
    (hr' : r' = r.weak := by rfl) (hb : r'.blw s0.nxt := by simp only [go_sem, reduceCtorEq, false_implies, implies_true])
    (hk : ∀ i, i < s0.nxt → s.blk i = s0.blk i := by first | (intro i hi; rfl) | (intro i hi; have h0 := ltn hi; have h1 := lte hi; simp only [go_sem, Nat.add_assoc, Nat.reduceAdd, ↓reduceIte, h0, h1])) : Ret P fn args s0 Q e s :=
  .pure hr hr' hb hwf hk k
end Go.PM
namespace Go.Proofs
open Go.PM
attribute [go_sem] Int.sub_zero List.drop_zero Int.toNat_zero Nat.mul_one Option.isSome_some List.not_mem_nil false_implies implies_true true_or and_self Int.toNat_natCast Tab.pv Ten.pv Win.pv Sp.pv Slt.pv
end Go.Proofs
namespace Go.PM
open Go
theorem okEls_map {α : Type} {f : α → PV} {n : Nat} (h : ∀ x, (f x).ok = true ∧ (f x).cells.length = n) (l : List α) : okEls n (l.map f) = True := eq_true (by
  intro el hel
  obtain ⟨x, _, rfl⟩ := List.mem_map.1 hel
  exact h x)
end Go.PM
namespace Go.Proofs
open Go.PM Go
abbrev U8 (n : Int) : Prop := 0 ≤ n ∧ n ≤ 255
abbrev U16 (n : Int) : Prop := 0 ≤ n ∧ n ≤ 65535
abbrev byt (l : List Int) : List PV := l.map (PV.int .u8)
def OkB (l : List Int) : Prop := ∀ x ∈ l, U8 x
theorem u8_wrap (n : Int) : IntKind.u8.wrap n = n % 256 := by simp [IntKind.wrap, IntKind.signed, IntKind.bits]
theorem u16_wrap (n : Int) : IntKind.u16.wrap n = n % 65536 := by simp [IntKind.wrap, IntKind.signed, IntKind.bits]
theorem u32_wrap (n : Int) : IntKind.u32.wrap n = n % 4294967296 := by simp [IntKind.wrap, IntKind.signed, IntKind.bits]
theorem u64_wrap (n : Int) : IntKind.u64.wrap n = n % 18446744073709551616 := by simp [IntKind.wrap, IntKind.signed, IntKind.bits]
theorem weaks_u8 (l : List Int) : PV.weaks (l.map (PV.int .u8)) = l.map (PV.int .u8) := weaks_map_id (PV.int .u8) (fun _ => rfl) l
theorem weaks_i64 (l : List Int) : PV.weaks (l.map (PV.int .i64)) = l.map (PV.int .i64) := weaks_map_id (PV.int .i64) (fun _ => rfl) l
theorem weaks_u16 (l : List Int) : PV.weaks (l.map (PV.int .u16)) = l.map (PV.int .u16) := weaks_map_id (PV.int .u16) (fun _ => rfl) l
theorem blws_u8 (n : Nat) (l : List Int) : PV.blws n (l.map (PV.int .u8)) := blws_map (PV.int .u8) n (fun a => by simp [PV.blw]) l
theorem blws_u16 (n : Nat) (l : List Int) : PV.blws n (l.map (PV.int .u16)) := blws_map (PV.int .u16) n (fun a => by simp [PV.blw]) l
theorem blws_i64 (n : Nat) (l : List Int) : PV.blws n (l.map (PV.int .i64)) := blws_map (PV.int .i64) n (fun a => by simp [PV.blw]) l
attribute [go_sem] weaks_u8 weaks_i64 weaks_u16 u8_wrap
def num2 (n : Int) : List Int := [n / 256 % 256, n % 256]
theorem num2_ok (n : Int) : OkB (num2 n) := by
  intro x hx
  simp only [num2, List.mem_cons, List.not_mem_nil, or_false] at hx
  rcases hx with rfl | rfl <;> constructor <;> omega
theorem OkB.append {a b : List Int} (h : OkB a) (k : OkB b) : OkB (a ++ b) := fun x hx => (List.mem_append.1 hx).elim (h x) (k x)
theorem OkB.take {a : List Int} (h : OkB a) (n : Nat) : OkB (a.take n) := fun x hx => h x (List.mem_of_mem_take hx)
theorem OkB.drop {a : List Int} (h : OkB a) (n : Nat) : OkB (a.drop n) := fun x hx => h x (List.mem_of_mem_drop hx)
theorem u8_hi (n : Int) : n.fdiv 256 % 256 = n / 256 % 256 := by rw [Int.fdiv_eq_ediv_of_nonneg _ (by decide)]
def get2 (l : List Int) (at_ : Int) : Option Int := if 0 ≤ at_ ∧ at_ + 2 ≤ l.length then some (256 * (l[at_.toNat]?.getD 0) + l[at_.toNat + 1]?.getD 0) else none
theorem get2_bound {l : List Int} (h : OkB l) {a n : Int} (hn : get2 l a = some n) : U16 n := by
  unfold get2 at hn
  split at hn
  · rename_i hc
    cases hn
    have h1 := h (l[a.toNat]'(by omega)) (List.getElem_mem _)
    have h2 := h (l[a.toNat + 1]'(by omega)) (List.getElem_mem _)
    rw [List.getElem?_eq_getElem (show a.toNat < l.length by omega), List.getElem?_eq_getElem (show a.toNat + 1 < l.length by omega)]
    simp only [Option.getD_some]
    constructor <;> omega
  · cases hn
def bitS (n : Int) : Int := if ibits .and .u16 n 1 = 1 then ibits .xor .u16 (n / 2) 40961 else n / 2
def bitN : Nat → Int → Int
  | 0, n => n
  | k + 1, n => bitN k (bitS n)
def crcB (n x : Int) : Int := bitN 8 (ibits .xor .u16 n x)
def crcOf (l : List Int) : Int := l.foldl crcB 65535
def sealB (l : List Int) : List Int := l ++ [crcOf l % 256, crcOf l / 256]
theorem ibits_u16 (op : BinOp) (a b : Int) : U16 (ibits op .u16 a b) := by
  unfold ibits
  rw [u16_wrap]
  constructor <;> omega
theorem bitS_ok {n : Int} (h : U16 n) : U16 (bitS n) := by
  unfold bitS
  split
  · exact ibits_u16 _ _ _
  · constructor <;> omega
theorem bitN_ok : ∀ (k : Nat) {n : Int}, U16 n → U16 (bitN k n)
  | 0, _, h => h
  | k + 1, _, h => bitN_ok k (bitS_ok h)
theorem crcB_ok (n x : Int) : U16 (crcB n x) := bitN_ok 8 (ibits_u16 _ _ _)
theorem foldl_crcB_ok : ∀ (l : List Int) {n : Int}, U16 n → U16 (l.foldl crcB n)
  | [], _, h => h
  | x :: l, n, _ => foldl_crcB_ok l (crcB_ok n x)
theorem crcOf_ok (l : List Int) : U16 (crcOf l) := foldl_crcB_ok l (by constructor <;> decide)
theorem sealB_ok {l : List Int} (h : OkB l) : OkB (sealB l) := by
  have := crcOf_ok l
  refine h.append ?_
  intro x hx
  simp only [List.mem_cons, List.not_mem_nil, or_false] at hx
  rcases hx with rfl | rfl <;> constructor <;> omega
theorem sealB_len (l : List Int) : (sealB l).length = l.length + 2 := by simp [sealB]
def openB (l : List Int) : Option (List Int) := if 2 ≤ l.length ∧ sealB (l.take (l.length - 2)) = l then some (l.take (l.length - 2)) else none
structure Fresh (s s' : St) (r : PV) (els : List PV) (z : Nat) : Prop where
  fr : Fr s s'
  kk : ∃ kk, r = .sl kk els ∧ Grows s' kk els.length z ∧ ∀ t z, kk = .tok t z → s.nxt ≤ t ∧ t < s'.nxt
theorem Fresh.ret {P : Program} {fn : Func} {args els : List PV} {s0 s : St} {e : Env} {kk : SK} {z : Nat} (hr : retv P fn.results.toList e s = some (.sl kk els)) (hF : Fr s0 s) (hg : Grows s kk els.length z)
    (ht : ∀ t z, kk = .tok t z → s0.nxt ≤ t ∧ t < s.nxt) : Ret P fn args s0 (fun r s' => Fresh s0 s' r els z) e s := Ret.all hr ⟨hF, kk, rfl, hg, ht⟩
theorem Fresh.ret0 {P : Program} {fn : Func} {args : List PV} {s0 s : St} {e : Env} {z : Nat} (hr : retv P fn.results.toList e s = some (.sl .nil [])) (hF : Fr s0 s) : Ret P fn args s0 (fun r s' => Fresh s0 s' r [] z) e s :=
  Ret.all hr ⟨hF, .nil, rfl, .inl ⟨rfl, rfl⟩, fun _ _ e => by cases e⟩
theorem byt_get {l : List Int} {i : Nat} (h : i < l.length) : (l.map (PV.int .u8))[i]? = some (.int .u8 l[i]) := map_get h
end Go.Proofs
namespace Go.Proofs
open Go.PM Go
theorem hi_u64 {n : Int} : (n % 18446744073709551616).fdiv 256 % 256 = n / 256 % 256 := by rw [Int.fdiv_eq_ediv_of_nonneg _ (by decide)]; omega
theorem crc_hi (l : List Int) : (crcOf l).fdiv 256 % 256 = crcOf l / 256 := by
  have := crcOf_ok l
  rw [Int.fdiv_eq_ediv_of_nonneg _ (by decide)]
  unfold U16 at this
  omega
theorem ibits_or2 {x y : Int} (hx : U8 x) (hy : U8 y) : ibits .or .i64 (x * 256) y = 256 * x + y := by
  obtain ⟨a, rfl⟩ : ∃ a : Nat, x = a := ⟨x.toNat, (Int.toNat_of_nonneg hx.1).symm⟩
  obtain ⟨b, rfl⟩ : ∃ b : Nat, y = b := ⟨y.toNat, (Int.toNat_of_nonneg hy.1).symm⟩
  have ha : a < 256 := by unfold U8 at hx; omega
  have hb : b < 256 := by unfold U8 at hy; omega
  have e : (BitVec.ofInt 64 ((a : Int) * 256) ||| BitVec.ofInt 64 (b : Int)).toNat = 256 * a + b := by
    rw [BitVec.toNat_or, show ((a : Int) * 256) = ((a * 256 : Nat) : Int) by omega, BitVec.ofInt_natCast, BitVec.ofInt_natCast, BitVec.toNat_ofNat, BitVec.toNat_ofNat, Nat.mod_eq_of_lt (by omega), Nat.mod_eq_of_lt (by omega)]
    have := Nat.two_pow_add_eq_or_of_lt (i := 8) (b := b) (by omega) a
    rw [show a * 256 = 2 ^ 8 * a by omega, ← this]
  unfold ibits
  show IntKind.i64.wrap (((BitVec.ofInt 64 ((a : Int) * 256) ||| BitVec.ofInt 64 (b : Int)).toNat : Int)) = _
  rw [e, wrap_i64 (by omega)]
  omega
end Go.Proofs
namespace Go.Proofs
open Go.PM Go
theorem hi_u64' {n : Int} : n % 18446744073709551616 / 256 % 256 = n / 256 % 256 := by omega
theorem crc_hi' (l : List Int) : crcOf l / 256 % 256 = crcOf l / 256 := by
  have := crcOf_ok l
  unfold U16 at this
  omega
theorem blws_u8T (n : Nat) (l : List Int) : PV.blws n (l.map (PV.int .u8)) = True := eq_true (blws_u8 n l)
theorem blws_u16T (n : Nat) (l : List Int) : PV.blws n (l.map (PV.int .u16)) = True := eq_true (blws_u16 n l)
theorem blws_i64T (n : Nat) (l : List Int) : PV.blws n (l.map (PV.int .i64)) = True := eq_true (blws_i64 n l)
theorem blws_winsT (n : Nat) (l : List Win) : PV.blws n (l.map Win.pv) = True := eq_true (blws_wins n l)
theorem blws_sltsT (n : Nat) (l : List Slt) : PV.blws n (l.map Slt.pv) = True := eq_true (blws_slts n l)
theorem blws_tensT (n : Nat) (l : List Ten) : PV.blws n (l.map Ten.pv) = True := eq_true (blws_tens n l)
theorem okEls_win (l : List Win) : okEls 4 (l.map Win.pv) = True := okEls_map (f := Win.pv) (fun _ => ⟨rfl, rfl⟩) l
theorem okEls_slt (l : List Slt) : okEls 2 (l.map Slt.pv) = True := okEls_map (f := Slt.pv) (fun _ => ⟨rfl, rfl⟩) l
theorem okEls_ten (l : List Ten) : okEls 5 (l.map Ten.pv) = True := okEls_map (f := Ten.pv) (fun _ => ⟨rfl, rfl⟩) l
attribute [go_sem] okEls_win okEls_slt okEls_ten blws_u8T blws_u16T blws_i64T blws_winsT blws_sltsT blws_tensT
end Go.Proofs
namespace Go.PM
open Go
theorem le_i1 : ((0 : Int) ≤ 1) = True := by decide
theorem le_i8 : ((0 : Int) ≤ 8) = True := by decide
theorem le_i16 : ((0 : Int) ≤ 16) = True := by decide
theorem le_i4 : ((0 : Int) ≤ 4) = True := by decide
theorem p1_16 : (2 : Int) ^ min (Int.toNat 1) 16 = 2 := by decide
theorem p8_8 : (2 : Int) ^ min (Int.toNat 8) 8 = 256 := by decide
theorem p8_16 : (2 : Int) ^ min (Int.toNat 8) 16 = 256 := by decide
theorem p8_32 : (2 : Int) ^ min (Int.toNat 8) 32 = 256 := by decide
theorem p8_64 : (2 : Int) ^ min (Int.toNat 8) 64 = 256 := by decide
theorem p16_32 : (2 : Int) ^ min (Int.toNat 16) 32 = 65536 := by decide
theorem p16_64 : (2 : Int) ^ min (Int.toNat 16) 64 = 65536 := by decide
attribute [go_sem] le_i1 le_i8 le_i16 le_i4 p1_16 p8_8 p8_16 p8_32 p8_64 p16_32 p16_64
end Go.PM
namespace Go.Proofs
open Go.PM Go
theorem tl_loop (a : Array UInt8) : ∀ (n i : Nat) (r : List UInt8), a.size - i = n → ByteArray.toList.loop ⟨a⟩ i r = r.reverse ++ a.toList.drop i := by
  intro n
  induction n with
  | zero =>
    intro i r h
    unfold ByteArray.toList.loop
    rw [if_neg (by show ¬ i < a.size; omega), List.drop_eq_nil_of_le (by simp; omega), List.append_nil]
  | succ n ih =>
    intro i r h
    have hi : i < a.size := by omega
    have hd : a.toList.drop i = a[i] :: a.toList.drop (i + 1) := by
      rw [List.drop_eq_getElem_cons (by simpa using hi)]; simp
    unfold ByteArray.toList.loop
    rw [if_pos (show i < ByteArray.size ⟨a⟩ from hi), ih (i + 1) _ (by omega), hd, List.reverse_cons, List.append_assoc]
    simp [ByteArray.get!, getElem!_pos a i hi]
theorem tl_eq (a : Array UInt8) : (ByteArray.mk a).toList = a.toList := by
  unfold ByteArray.toList
  rw [tl_loop a _ 0 [] rfl]; rfl
def toB (n : Int) : UInt8 := UInt8.ofNat n.toNat
theorem toB_inj {x y : Int} (hx : U8 x) (hy : U8 y) (h : toB x = toB y) : x = y := by
  have := congrArg UInt8.toNat h
  simp only [toB, UInt8.toNat_ofNat'] at this
  unfold U8 at hx hy
  omega
theorem map_toB_inj : ∀ {a b : List Int}, OkB a → OkB b → a.map toB = b.map toB → a = b
  | [], [], _, _, _ => rfl
  | [], _ :: _, _, _, h => by simp at h
  | _ :: _, [], _, _, h => by simp at h
  | x :: a, y :: b, ha, hb, h => by
    simp only [List.map_cons, List.cons.injEq] at h
    rw [toB_inj (ha x (by simp)) (hb y (by simp)) h.1, map_toB_inj (fun z hz => ha z (by simp [hz])) (fun z hz => hb z (by simp [hz])) h.2]
theorem mapM_byt : ∀ (l : List Int), (l.map (PV.int .u8)).mapM Go.PM.byteOf = some (l.map toB)
  | [] => rfl
  | x :: l => by
    rw [List.map_cons, List.mapM_cons, mapM_byt l]; rfl
def strB (l : List Int) : ByteArray := ⟨(l.map toB).toArray⟩
theorem strB_mk (l : List Int) : ByteArray.mk (l.map toB).toArray = strB l := rfl
theorem strB_beq {a b : List Int} (ha : OkB a) (hb : OkB b) : ((strB a).toList == (strB b).toList) = decide (a = b) := by
  unfold strB
  rw [tl_eq, tl_eq]
  by_cases h : a = b
  · subst h; simp
  · rw [decide_eq_false h]
    simp only [List.toList_toArray, beq_eq_false_iff_ne, ne_eq]
    exact fun e => h (map_toB_inj ha hb e)
attribute [go_sem] mapM_byt strB_mk
end Go.Proofs
namespace Go.Proofs
theorem flat2_len (l : List Int) : (l.flatMap num2).length = 2 * l.length := by
  induction l with
  | nil => rfl
  | cons x l ih => simp [ih, num2]; omega
end Go.Proofs
namespace Go.PM
open Go
theorem okEls_int (k : IntKind) (l : List Int) : okEls 1 (l.map (PV.int k)) = True := okEls_map (f := PV.int k) (fun _ => ⟨rfl, rfl⟩) l
attribute [go_sem] okEls_int or_true
end Go.PM
namespace Go.Proofs
open Go.PM Go
structure Rr where
  b : List Int
  fell : Bool
abbrev Rr.pv (r : Rr) : PV := .agg [.sl .unk (r.b.map (PV.int .u8)), .bool r.fell]
def Rr.num (r : Rr) : Int := if r.fell = true then 0 else (get2 r.b 0).getD 0
def Rr.nx (r : Rr) : Rr := if r.fell = true ∨ get2 r.b 0 = none then ⟨r.b, true⟩ else ⟨r.b.drop 2, false⟩
structure Rr.ok (r : Rr) : Prop where
  b : OkB r.b
  n : r.b.length ≤ 1000
theorem Rr.ok.nx {r : Rr} (h : r.ok) : r.nx.ok := by
  unfold Rr.nx
  split
  · exact ⟨h.b, h.n⟩
  · exact ⟨h.b.drop 2, by have := h.n; simp only [List.length_drop]; omega⟩
theorem Rr.num_ok {r : Rr} (h : r.ok) : U16 r.num := by
  unfold Rr.num
  split
  · constructor <;> decide
  · cases hg : get2 r.b 0 with
    | none => constructor <;> decide
    | some n => exact get2_bound h.b hg
structure Dr where
  b : List Int
  pos : Nat
  bad : Bool
abbrev Dr.pv (r : Dr) : PV := .agg [.sl .unk (r.b.map (PV.int .u8)), .int .i64 r.pos, .bool r.bad]
def Dr.num (r : Dr) : Int := if r.bad = true then 0 else (get2 r.b r.pos).getD 0
def Dr.nx (r : Dr) : Dr := if r.bad = true ∨ get2 r.b r.pos = none then ⟨r.b, r.pos, true⟩ else ⟨r.b, r.pos + 2, false⟩
structure Dr.ok (r : Dr) : Prop where
  b : OkB r.b
  n : r.b.length ≤ 1000
  pos : r.pos ≤ r.b.length
theorem get2_some {l : List Int} {n : Nat} (h : ¬ get2 l n = none) : n + 2 ≤ l.length := by
  unfold get2 at h
  split at h
  · omega
  · exact absurd rfl h
theorem Dr.ok.nx {r : Dr} (h : r.ok) : r.nx.ok := by
  unfold Dr.nx
  split
  · exact ⟨h.b, h.n, h.pos⟩
  · rename_i hc
    have := get2_some (fun e => hc (.inr e))
    exact ⟨h.b, h.n, by simpa using this⟩
theorem Dr.num_ok {r : Dr} (h : r.ok) : U16 r.num := by
  unfold Dr.num
  split
  · constructor <;> decide
  · cases hg : get2 r.b r.pos with
    | none => constructor <;> decide
    | some n => exact get2_bound h.b hg
def Dr.over (r : Dr) : Prop := (r.nx.b.length : Int) - r.nx.pos < r.num
instance (r : Dr) : Decidable r.over := by unfold Dr.over; exact inferInstance
def Dr.cnt (r : Dr) : Int := if r.over then 0 else r.num
def Dr.cx (r : Dr) : Dr := if r.over then ⟨r.nx.b, r.nx.pos, true⟩ else r.nx
theorem Dr.ok.cx {r : Dr} (h : r.ok) : r.cx.ok := by
  unfold Dr.cx
  split
  · exact ⟨h.nx.b, h.nx.n, h.nx.pos⟩
  · exact h.nx
theorem Dr.cnt_ok {r : Dr} (h : r.ok) : U16 r.cnt := by
  unfold Dr.cnt
  split
  · constructor <;> decide
  · exact Dr.num_ok h
def Rr.nx4 (r : Rr) : Rr := r.nx.nx.nx.nx
def Rr.win (r : Rr) : Win := ⟨r.num, r.nx.num, r.nx.nx.num, r.nx.nx.nx.num⟩
def Rr.slt (r : Rr) : Slt := ⟨r.num, r.nx.num⟩
def Rr.many {α : Type} (f : Rr → α × Rr) : Nat → Rr → List α → List α × Rr
  | 0, r, l => (l, r)
  | n + 1, r, l => if r.fell = true then (l, r) else Rr.many f n (f r).2 (l ++ [(f r).1])
def Rr.wins (r : Rr) : List Win × Rr := Rr.many (fun r => (r.win, r.nx4)) r.num.toNat r.nx []
def Rr.slts (r : Rr) : List Slt × Rr := Rr.many (fun r => (r.slt, r.nx.nx)) r.num.toNat r.nx []
def fns2 (hi lo : Int) : Int := ibits .or .u32 (IntKind.u32.wrap (IntKind.u32.wrap hi * 65536)) (IntKind.u32.wrap lo)
def Rr.ten (r : Rr) : Ten × Rr :=
  (⟨r.num, fns2 r.nx.num r.nx.nx.num, r.nx.nx.nx.num, r.nx4.wins.1, r.nx4.wins.2.slts.1⟩, r.nx4.wins.2.slts.2)
def Rr.tens (r : Rr) : List Ten × Rr := Rr.many Rr.ten r.num.toNat r.nx []
def Dr.nx4 (r : Dr) : Dr := r.nx.nx.nx.nx
def Dr.win (r : Dr) : Win := ⟨r.num, r.nx.num, r.nx.nx.num, r.nx.nx.nx.num⟩
def Dr.slt (r : Dr) : Slt := ⟨r.num, r.nx.num⟩
def Dr.many {α : Type} (f : Dr → α × Dr) : Nat → Dr → List α → List α × Dr
  | 0, r, l => (l, r)
  | n + 1, r, l => Dr.many f n (f r).2 (l ++ [(f r).1])
def Dr.wins (r : Dr) : List Win × Dr := Dr.many (fun r => (r.win, r.nx4)) r.cnt.toNat r.cx []
def Dr.slts (r : Dr) : List Slt × Dr := Dr.many (fun r => (r.slt, r.nx.nx)) r.cnt.toNat r.cx []
def Dr.ten (r : Dr) : Ten × Dr :=
  (⟨r.num, fns2 r.nx.num r.nx.nx.num, r.nx.nx.nx.num, r.nx4.wins.1, r.nx4.wins.2.slts.1⟩, r.nx4.wins.2.slts.2)
def Dr.tens (r : Dr) : List Ten × Dr := Dr.many Dr.ten r.cnt.toNat r.cx []
def markB : List Int := [66, 71, 49]
def tab0 : Tab := ⟨0, []⟩
def rRead (l : List Int) : Tab × Int :=
  if 1000 < l.length then (tab0, 3)
  else match openB l with
    | none => (tab0, 14)
    | some x =>
      if x.length < 3 ∨ x.take 3 ≠ markB then (tab0, 12)
      else
        let r : Rr := ⟨x.drop 3, false⟩
        let t : Tab := ⟨r.num, r.nx.tens.1⟩
        if r.nx.tens.2.fell = true ∨ 0 < r.nx.tens.2.b.length then (tab0, 12)
        else if (tabWhere t).1 ≠ 0 then (tab0, (tabWhere t).1) else (t, 0)
def dRead (l : List Int) : Tab × Int :=
  if 1000 < l.length then (tab0, 3)
  else match openB l with
    | none => (tab0, 14)
    | some x =>
      if x.length < 3 ∨ x.take 3 ≠ markB then (tab0, 12)
      else
        let r : Dr := ⟨x, 3, false⟩
        let t : Tab := ⟨r.num, r.nx.tens.1⟩
        if r.nx.tens.2.bad = true ∨ r.nx.tens.2.pos ≠ x.length then (tab0, 12)
        else if (tabWhere t).1 ≠ 0 then (tab0, (tabWhere t).1) else (t, 0)
def winB (w : Win) : List Int := num2 w.space ++ num2 w.virt ++ num2 w.phys ++ num2 w.cnt
def sltB (s : Slt) : List Int := num2 s.pos ++ num2 s.len
def tenB (x : Ten) : List Int := num2 x.unit ++ num2 (x.fns / 65536) ++ num2 x.fns ++ num2 x.queue ++ num2 x.wins.length ++ x.wins.flatMap winB ++ num2 x.slts.length ++ x.slts.flatMap sltB
def bodyB (t : Tab) : List Int := markB ++ num2 t.frame ++ num2 t.tens.length ++ t.tens.flatMap tenB
def bytesB (t : Tab) : List Int := sealB (bodyB t)
attribute [go_sem] Rr.pv Dr.pv
end Go.Proofs
namespace Go.PM
open Go
theorem RunO.abs {P : Program} {N : Nat} {ops : Array Oper} {l : List Oper} {k : List KI} {e : Env} {s : St} {rt : Env → St → Prop} (I : St → Prop) (h1 : I s) (h2 : ∀ s', I s' → RunO P N ops l k e s' rt) : RunO P N ops l k e s rt := h2 s h1
theorem Run.abs' {P : Program} {N : Nat} {k : List KI} {e : Env} {s : St} {rt : Env → St → Prop} (I : St → Prop) (h1 : I s) (h2 : ∀ s', I s' → Run P N k e s' rt) : Run P N k e s rt := h2 s h1
theorem Kp.set' {s s' : St} {l : List (Nat × Blk)} (h : Kp s s' l) {id : Nat} (b : Option Blk) (hlo : s.nxt ≤ id) (hlt : id < s'.nxt) (hd : ∀ p ∈ l, p.1 ≠ id) : Kp s (s'.set id b) l :=
  ⟨h.fr.set hlo hlt _, fun p hp => ⟨(h.all p hp).1, by
    show (if p.1 = id then b else s'.blk p.1) = _
    rw [if_neg (hd p hp)]; exact (h.all p hp).2⟩⟩
end Go.PM
namespace Go.Proofs
open Go.PM Go
theorem Rr.many_step {α : Type} {f : Rr → α × Rr} {m : Nat} {r : Rr} {l : List α} (hm : 0 < m) (hf : r.fell = false) : Rr.many f m r l = Rr.many f (m - 1) (f r).2 (l ++ [(f r).1]) := by
  cases m with
  | zero => omega
  | succ m => rw [Rr.many, if_neg (by rw [hf]; simp)]; rfl
theorem Rr.many_stop {α : Type} {f : Rr → α × Rr} {m : Nat} {r : Rr} {l : List α} (h : m = 0 ∨ r.fell = true) : Rr.many f m r l = (l, r) := by
  cases m with
  | zero => rfl
  | succ m =>
    rcases h with h | h
    · omega
    · rw [Rr.many, if_pos h]
theorem Dr.many_step {α : Type} {f : Dr → α × Dr} {m : Nat} {r : Dr} {l : List α} (hm : 0 < m) : Dr.many f m r l = Dr.many f (m - 1) (f r).2 (l ++ [(f r).1]) := by
  cases m with
  | zero => omega
  | succ m => rfl
end Go.Proofs
namespace Go.PM
open Go
theorem set_set_eq (s : St) (i : Nat) (a b : Option Blk) : (s.set i a).set i b = s.set i b := by
  cases s with
  | mk n f =>
    simp only [St.set, St.mk.injEq, true_and]
    funext k
    by_cases h : k = i <;> simp [h]
end Go.PM
namespace Go.Proofs
open Go.PM Go
theorem I64_of_U16 {n : Int} (h : U16 n) : I64 n := by unfold U16 at h; constructor <;> omega
theorem Rr.many_ok {α : Type} {f : Rr → α × Rr} {p : α → Prop} (hf : ∀ r : Rr, r.ok → p (f r).1 ∧ (f r).2.ok) : ∀ (m : Nat) (r : Rr) (l : List α), r.ok → (∀ x ∈ l, p x) → (∀ x ∈ (Rr.many f m r l).1, p x) ∧ (Rr.many f m r l).2.ok ∧ (Rr.many f m r l).1.length ≤ l.length + m
  | 0, r, l, hr, hl => ⟨hl, hr, Nat.le_refl _⟩
  | m + 1, r, l, hr, hl => by
    rw [Rr.many]
    split
    · exact ⟨hl, hr, by simp only; omega⟩
    · have := Rr.many_ok hf m (f r).2 (l ++ [(f r).1]) (hf r hr).2 (fun x hx => by
        rcases List.mem_append.1 hx with hx | hx
        · exact hl x hx
        · rw [List.mem_singleton.1 hx]; exact (hf r hr).1)
      exact ⟨this.1, this.2.1, by have := this.2.2; simp only [List.length_append, List.length_cons, List.length_nil] at this; omega⟩
theorem Dr.many_ok {α : Type} {f : Dr → α × Dr} {p : α → Prop} (hf : ∀ r : Dr, r.ok → p (f r).1 ∧ (f r).2.ok) : ∀ (m : Nat) (r : Dr) (l : List α), r.ok → (∀ x ∈ l, p x) → (∀ x ∈ (Dr.many f m r l).1, p x) ∧ (Dr.many f m r l).2.ok ∧ (Dr.many f m r l).1.length ≤ l.length + m
  | 0, r, l, hr, hl => ⟨hl, hr, Nat.le_refl _⟩
  | m + 1, r, l, hr, hl => by
    rw [Dr.many]
    have := Dr.many_ok hf m (f r).2 (l ++ [(f r).1]) (hf r hr).2 (fun x hx => by
      rcases List.mem_append.1 hx with hx | hx
      · exact hl x hx
      · rw [List.mem_singleton.1 hx]; exact (hf r hr).1)
    exact ⟨this.1, this.2.1, by have := this.2.2; simp only [List.length_append, List.length_cons, List.length_nil] at this; omega⟩
theorem Rr.win_ok {r : Rr} (h : r.ok) : r.win.ok ∧ r.nx4.ok := ⟨⟨I64_of_U16 (Rr.num_ok h), I64_of_U16 (Rr.num_ok h.nx), I64_of_U16 (Rr.num_ok h.nx.nx), I64_of_U16 (Rr.num_ok h.nx.nx.nx)⟩, h.nx.nx.nx.nx⟩
theorem Rr.slt_ok {r : Rr} (h : r.ok) : r.slt.ok ∧ r.nx.nx.ok := ⟨⟨I64_of_U16 (Rr.num_ok h), I64_of_U16 (Rr.num_ok h.nx)⟩, h.nx.nx⟩
theorem Dr.win_ok {r : Dr} (h : r.ok) : r.win.ok ∧ r.nx4.ok := ⟨⟨I64_of_U16 (Dr.num_ok h), I64_of_U16 (Dr.num_ok h.nx), I64_of_U16 (Dr.num_ok h.nx.nx), I64_of_U16 (Dr.num_ok h.nx.nx.nx)⟩, h.nx.nx.nx.nx⟩
theorem Dr.slt_ok {r : Dr} (h : r.ok) : r.slt.ok ∧ r.nx.nx.ok := ⟨⟨I64_of_U16 (Dr.num_ok h), I64_of_U16 (Dr.num_ok h.nx)⟩, h.nx.nx⟩
theorem Rr.ten_ok {r : Rr} (h : r.ok) : r.ten.1.ok ∧ r.ten.2.ok := by
  have hn := Rr.num_ok h.nx.nx.nx.nx
  have h1 := Rr.many_ok (f := fun r => (r.win, r.nx4)) (p := Win.ok) (fun r => Rr.win_ok) r.nx4.num.toNat r.nx4.nx [] h.nx.nx.nx.nx.nx (by simp)
  have hn2 := Rr.num_ok (r := r.nx4.wins.2) h1.2.1
  have h2 := Rr.many_ok (f := fun r => (r.slt, r.nx.nx)) (p := Slt.ok) (fun r => Rr.slt_ok) r.nx4.wins.2.num.toNat r.nx4.wins.2.nx [] (Rr.ok.nx h1.2.1) (by simp)
  refine ⟨⟨I64_of_U16 (Rr.num_ok h), (by show U32 (fns2 _ _); exact U32_ibits _ _ _), I64_of_U16 (Rr.num_ok h.nx.nx.nx), h1.1, h2.1, ?_, ?_⟩, h2.2.1⟩
  · have := h1.2.2
    have e : r.ten.1.wins.length ≤ 65535 := by
      refine Nat.le_trans this ?_
      have : r.nx4.num ≤ 65535 := hn.2
      simp only [List.length_nil]; omega
    omega
  · have := h2.2.2
    have e : r.ten.1.slts.length ≤ 65535 := by
      refine Nat.le_trans this ?_
      have : r.nx4.wins.2.num ≤ 65535 := hn2.2
      simp only [List.length_nil]; omega
    omega
theorem Dr.ten_ok {r : Dr} (h : r.ok) : r.ten.1.ok ∧ r.ten.2.ok := by
  have hn := Dr.cnt_ok h.nx.nx.nx.nx
  have h1 := Dr.many_ok (f := fun r => (r.win, r.nx4)) (p := Win.ok) (fun r => Dr.win_ok) r.nx4.cnt.toNat r.nx4.cx [] h.nx.nx.nx.nx.cx (by simp)
  have hn2 := Dr.cnt_ok (r := r.nx4.wins.2) h1.2.1
  have h2 := Dr.many_ok (f := fun r => (r.slt, r.nx.nx)) (p := Slt.ok) (fun r => Dr.slt_ok) r.nx4.wins.2.cnt.toNat r.nx4.wins.2.cx [] (Dr.ok.cx h1.2.1) (by simp)
  refine ⟨⟨I64_of_U16 (Dr.num_ok h), (by show U32 (fns2 _ _); exact U32_ibits _ _ _), I64_of_U16 (Dr.num_ok h.nx.nx.nx), h1.1, h2.1, ?_, ?_⟩, h2.2.1⟩
  · have := h1.2.2
    have e : r.ten.1.wins.length ≤ 65535 := by
      refine Nat.le_trans this ?_
      have : r.nx4.cnt ≤ 65535 := hn.2
      simp only [List.length_nil]; omega
    omega
  · have := h2.2.2
    have e : r.ten.1.slts.length ≤ 65535 := by
      refine Nat.le_trans this ?_
      have : r.nx4.wins.2.cnt ≤ 65535 := hn2.2
      simp only [List.length_nil]; omega
    omega
theorem openB_ok {l x : List Int} (h : OkB l) (hx : openB l = some x) : OkB x ∧ x.length + 2 = l.length := by
  unfold openB at hx
  split at hx
  · rename_i hc
    cases hx
    exact ⟨h.take _, by simp; omega⟩
  · cases hx
end Go.Proofs
namespace Go.Proofs
open Go.PM Go
theorem num2_and {f : Int} (h : U32 f) : num2 (ibits .and .u32 f 65535) = num2 f := by
  obtain ⟨a, rfl⟩ : ∃ a : Nat, f = a := ⟨f.toNat, (Int.toNat_of_nonneg h.1).symm⟩
  have ha : a < 4294967296 := by unfold U32 at h; omega
  have e : (BitVec.ofInt 32 (a : Int) &&& BitVec.ofInt 32 (65535 : Int)).toNat = a % 65536 := by
    rw [BitVec.toNat_and, BitVec.ofInt_natCast, show ((65535 : Int)) = ((65535 : Nat) : Int) from rfl, BitVec.ofInt_natCast, BitVec.toNat_ofNat, BitVec.toNat_ofNat, Nat.mod_eq_of_lt ha, Nat.mod_eq_of_lt (by decide)]
    exact Nat.and_two_pow_sub_one_eq_mod a 16
  have e2 : ibits .and .u32 (a : Int) 65535 = ((a % 65536 : Nat) : Int) := by
    unfold ibits
    show IntKind.u32.wrap (((BitVec.ofInt 32 (a : Int) &&& BitVec.ofInt 32 (65535 : Int)).toNat : Int)) = _
    rw [e, u32_wrap]; omega
  rw [e2]
  simp only [num2, List.cons.injEq, and_true]
  constructor <;> omega
theorem ibits_u32_bound (op : BinOp) (a b : Int) : 0 ≤ ibits op .u32 a b ∧ ibits op .u32 a b ≤ 4294967295 := U32_ibits op a b
theorem tabWhereA_all {frame : Int} : ∀ {l done : List Ten}, (tabWhereA frame done l).1 = 0 → ∀ x ∈ l, tenWhy x frame = 0
  | [], _, _, x, hx => by cases hx
  | y :: l, done, h, x, hx => by
    unfold tabWhereA at h
    split at h
    · rename_i hc; exact absurd h hc
    · rename_i hc
      split at h
      · rename_i hc2; exact absurd h hc2
      · rcases List.mem_cons.1 hx with rfl | hx
        · simpa using hc
        · exact tabWhereA_all h x hx
theorem tenWhy_few {x : Ten} {f : Int} (h : tenWhy x f = 0) : x.wins.length ≤ 6 ∧ x.slts.length ≤ 3 ∧ 1 ≤ x.slts.length ∧ (1 ≤ x.unit ∧ x.unit ≤ 247) ∧ (1 ≤ x.queue ∧ x.queue ≤ 6) ∧ (∀ w ∈ x.wins, winRight w = true) ∧ ∀ s ∈ x.slts, sltRight f s = true := by
  unfold tenWhy at h
  split at h
  · cases h
  split at h
  · cases h
  split at h
  · cases h
  split at h
  · cases h
  split at h
  · cases h
  rename_i h1 h2 h3 h4 h5
  simp only [Bool.or_eq_true, List.any_eq_true, Bool.not_eq_true', not_or, not_exists, not_and, Bool.not_eq_false] at h4 h5
  exact ⟨by omega, by omega, by omega, by omega, by omega, fun w hw => h4.1 w hw, fun s hs => h5 s hs⟩
theorem tabWhere_few {t : Tab} (h : (tabWhere t).1 = 0) : (1 ≤ t.frame ∧ t.frame ≤ 2000) ∧ (1 ≤ t.tens.length ∧ t.tens.length ≤ 4) ∧ ∀ x ∈ t.tens, tenWhy x t.frame = 0 := by
  unfold tabWhere at h
  split at h
  · cases h
  split at h
  · cases h
  rename_i h1 h2
  exact ⟨by omega, by omega, tabWhereA_all h⟩
theorem flatMap_len_le {α : Type} {f : α → List Int} {n : Nat} : ∀ {l : List α}, (∀ x ∈ l, (f x).length ≤ n) → (l.flatMap f).length ≤ l.length * n
  | [], _ => by simp
  | x :: l, h => by
    have := flatMap_len_le (l := l) fun y hy => h y (by simp [hy])
    have hx := h x (by simp)
    simp only [List.flatMap_cons, List.length_append, List.length_cons, Nat.add_mul, Nat.one_mul]
    omega
theorem num2_len (n : Int) : (num2 n).length = 2 := rfl
theorem winB_len (w : Win) : (winB w).length = 8 := rfl
theorem sltB_len (w : Slt) : (sltB w).length = 4 := rfl
theorem tenB_len (x : Ten) : (tenB x).length = 12 + 8 * x.wins.length + 4 * x.slts.length := by
  have h1 : ∀ l : List Win, (l.flatMap winB).length = 8 * l.length := fun l => by
    induction l with
    | nil => rfl
    | cons y l ih => simp [ih, winB_len]; omega
  have h2 : ∀ l : List Slt, (l.flatMap sltB).length = 4 * l.length := fun l => by
    induction l with
    | nil => rfl
    | cons y l ih => simp [ih, sltB_len]; omega
  simp [tenB, num2_len, h1, h2]; omega
end Go.Proofs
namespace Go.Proofs
open Go.PM Go
theorem OkB.flatMap {α : Type} {f : α → List Int} {l : List α} (h : ∀ x ∈ l, OkB (f x)) : OkB (l.flatMap f) := fun y hy => by
  obtain ⟨x, hx, hy⟩ := List.mem_flatMap.1 hy
  exact h x hx y hy
theorem tenB_ok (x : Ten) : OkB (tenB x) := by
  refine OkB.append (OkB.append (OkB.append (OkB.append (OkB.append (OkB.append (OkB.append (num2_ok _) (num2_ok _)) (num2_ok _)) (num2_ok _)) (num2_ok _)) ?_) (num2_ok _)) ?_
  · exact OkB.flatMap fun w _ => OkB.append (OkB.append (OkB.append (num2_ok _) (num2_ok _)) (num2_ok _)) (num2_ok _)
  · exact OkB.flatMap fun w _ => OkB.append (num2_ok _) (num2_ok _)
theorem markB_ok : OkB markB := by intro y hy; simp only [markB, List.mem_cons, List.not_mem_nil, or_false] at hy; rcases hy with rfl | rfl | rfl <;> decide
theorem bodyB_ok (t : Tab) : OkB (bodyB t) := OkB.append (OkB.append (OkB.append markB_ok (num2_ok _)) (num2_ok _)) (OkB.flatMap fun x _ => tenB_ok x)
end Go.Proofs
namespace Go.Proofs
open Go.PM Go
structure Sim (d : Dr) (r : Rr) : Prop where
  e : d.bad = r.fell
  p : d.pos ≤ d.b.length
  s : d.bad = false → r.b = d.b.drop d.pos
theorem get2_drop {l : List Int} {p : Nat} (h : p ≤ l.length) : get2 (l.drop p) 0 = get2 l p := by
  unfold get2
  by_cases hc : p + 2 ≤ l.length
  · rw [if_pos (by simp only [List.length_drop]; omega), if_pos (by omega)]
    simp only [Int.toNat_natCast, List.getElem?_drop, Int.toNat_zero, Nat.add_zero, Nat.zero_add]
  · rw [if_neg (by simp only [List.length_drop]; omega), if_neg (by omega)]
theorem Sim.get {d : Dr} {r : Rr} (h : Sim d r) (hb : d.bad = false) : get2 r.b 0 = get2 d.b d.pos := by rw [h.s hb, get2_drop h.p]
theorem Sim.num {d : Dr} {r : Rr} (h : Sim d r) : d.num = r.num := by
  unfold Dr.num Rr.num
  rw [← h.e]
  split
  · rfl
  · rename_i hb
    rw [h.get (by simpa using hb)]
theorem Dr.nx_b (d : Dr) : d.nx.b = d.b := by unfold Dr.nx; split <;> rfl
theorem Dr.cx_b (d : Dr) : d.cx.b = d.b := by unfold Dr.cx; split <;> exact Dr.nx_b d
theorem Sim.nx {d : Dr} {r : Rr} (h : Sim d r) : Sim d.nx r.nx := by
  by_cases hb : d.bad = true
  · have h1 : d.nx = ⟨d.b, d.pos, true⟩ := by unfold Dr.nx; rw [if_pos (.inl hb)]
    have h2 : r.nx = ⟨r.b, true⟩ := by unfold Rr.nx; rw [if_pos (.inl (by rw [← h.e]; exact hb))]
    rw [h1, h2]
    exact ⟨rfl, h.p, fun e => by cases e⟩
  · have hb' : d.bad = false := by simpa using hb
    have hg := h.get hb'
    unfold Dr.nx Rr.nx
    rw [hg, ← h.e]
    split
    · exact ⟨rfl, h.p, fun e => by cases e⟩
    · rename_i hc
      have := get2_some (fun e => hc (.inr e))
      exact ⟨rfl, this, fun _ => by simp only; rw [h.s hb', List.drop_drop]⟩
theorem Dr.nx_bad {d : Dr} (h : d.bad = true) : d.nx.bad = true := by unfold Dr.nx; rw [if_pos (.inl h)]
theorem Rr.nx_fell {r : Rr} (h : r.fell = true) : r.nx.fell = true := by unfold Rr.nx; rw [if_pos (.inl h)]
theorem Rr.nx_len (r : Rr) : r.nx.b.length ≤ r.b.length := by unfold Rr.nx; split <;> simp
theorem Rr.nx_use (r : Rr) : r.nx.fell = true ∨ r.nx.b.length + 2 = r.b.length := by
  unfold Rr.nx
  split
  · exact .inl rfl
  · rename_i hc
    have := get2_some (l := r.b) (n := 0) (fun e => hc (.inr e))
    exact .inr (by simp only [List.length_drop]; omega)
structure SimF {α : Type} (fd : Dr → α × Dr) (fr : Rr → α × Rr) : Prop where
  sim : ∀ d r, Sim d r → Sim (fd d).2 (fr r).2 ∧ ((fd d).2.bad = false → (fd d).1 = (fr r).1)
  bad : ∀ d, d.bad = true → (fd d).2.bad = true
  fell : ∀ r, r.fell = true → (fr r).2.fell = true
  len : ∀ r, (fr r).2.b.length ≤ r.b.length
  use : ∀ r, r.fell = false → (fr r).2.fell = true ∨ (fr r).2.b.length + 1 ≤ r.b.length
  b : ∀ d, (fd d).2.b = d.b
section
variable {α : Type} {fd : Dr → α × Dr} {fr : Rr → α × Rr}
theorem Dr.many_bad (h : ∀ d, d.bad = true → (fd d).2.bad = true) : ∀ (n : Nat) (d : Dr) (l : List α), d.bad = true → (Dr.many fd n d l).2.bad = true
  | 0, d, l, hd => hd
  | n + 1, d, l, hd => Dr.many_bad h n _ _ (h d hd)
theorem Dr.many_b (h : ∀ d, (fd d).2.b = d.b) : ∀ (n : Nat) (d : Dr) (l : List α), (Dr.many fd n d l).2.b = d.b
  | 0, d, l => rfl
  | n + 1, d, l => by rw [Dr.many, Dr.many_b h n, h d]
theorem Rr.many_fell : ∀ (n : Nat) (r : Rr) (l : List α), r.fell = true → Rr.many fr n r l = (l, r) := fun n r l h => Rr.many_stop (.inr h)
theorem Rr.many_len (h : ∀ r, (fr r).2.b.length ≤ r.b.length) : ∀ (n : Nat) (r : Rr) (l : List α), (Rr.many fr n r l).2.b.length ≤ r.b.length
  | 0, r, l => Nat.le_refl _
  | n + 1, r, l => by
    rw [Rr.many]
    split
    · exact Nat.le_refl _
    · exact Nat.le_trans (Rr.many_len h n _ _) (h r)
theorem SimF.many (h : SimF fd fr) : ∀ (n : Nat) (d : Dr) (r : Rr) (l m : List α), Sim d r → (d.bad = false → l = m) → Sim (Dr.many fd n d l).2 (Rr.many fr n r m).2 ∧ ((Dr.many fd n d l).2.bad = false → (Dr.many fd n d l).1 = (Rr.many fr n r m).1)
  | 0, d, r, l, m, hs, hl => ⟨hs, hl⟩
  | n + 1, d, r, l, m, hs, hl => by
    by_cases hb : d.bad = true
    · have hf : r.fell = true := by rw [← hs.e]; exact hb
      have h1 := Dr.many_bad h.bad (n + 1) d l hb
      rw [Rr.many_fell _ _ _ hf]
      refine ⟨⟨by rw [h1, hf], ?_, fun e => by rw [h1] at e; cases e⟩, fun e => by rw [h1] at e; cases e⟩
      have hp : ∀ (n : Nat) (d : Dr) (r : Rr) (l : List α), Sim d r → d.bad = true → (Dr.many fd n d l).2.pos ≤ (Dr.many fd n d l).2.b.length := by
        intro n
        induction n with
        | zero => exact fun d r l hs _ => hs.p
        | succ n ih => exact fun d r l hs hb => ih _ _ _ (h.sim d r hs).1 (h.bad d hb)
      exact hp (n + 1) d r l hs hb
    · have hb' : d.bad = false := by simpa using hb
      have hf : r.fell = false := by rw [← hs.e]; exact hb'
      rw [Rr.many_step (Nat.succ_pos n) hf, Dr.many_step (Nat.succ_pos n)]
      obtain ⟨h1, h2⟩ := h.sim d r hs
      exact SimF.many h n _ _ _ _ h1 (fun e => by rw [hl hb', h2 e])
theorem SimF.over (h : SimF fd fr) : ∀ (n : Nat) (r : Rr) (l : List α), r.b.length < n → (Rr.many fr n r l).2.fell = true
  | 0, r, l, hn => by omega
  | n + 1, r, l, hn => by
    by_cases hf : r.fell = true
    · rw [Rr.many_fell _ _ _ hf]; exact hf
    · have hf' : r.fell = false := by simpa using hf
      rw [Rr.many_step (Nat.succ_pos n) hf']
      rcases h.use r hf' with h1 | h1
      · rw [Rr.many_fell _ _ _ h1]; exact h1
      · exact SimF.over h n _ _ (by omega)
theorem SimF.counted (h : SimF fd fr) {d : Dr} {r : Rr} (hs : Sim d r) : Sim (Dr.many fd d.cnt.toNat d.cx []).2 (Rr.many fr r.num.toNat r.nx []).2 ∧ ((Dr.many fd d.cnt.toNat d.cx []).2.bad = false → (Dr.many fd d.cnt.toNat d.cx []).1 = (Rr.many fr r.num.toNat r.nx []).1) := by
  have hx := hs.nx
  have hn := hs.num
  by_cases ho : d.over
  · have hb : d.bad = false := by
      cases hb : d.bad with
      | false => rfl
      | true =>
        have h0 : d.num = 0 := by unfold Dr.num; rw [if_pos hb]
        have := hx.p
        unfold Dr.over at ho
        omega
    have hnb : d.nx.bad = false := by
      cases hc : d.nx.bad with
      | false => rfl
      | true =>
        have h0 : d.num = 0 := by
          unfold Dr.num
          unfold Dr.nx at hc
          split at hc
          · rename_i h1
            rcases h1 with h1 | h1
            · rw [hb] at h1; cases h1
            · rw [h1]; split <;> rfl
          · cases hc
        have := hx.p
        unfold Dr.over at ho
        omega
    have e1 : d.cnt = 0 := by unfold Dr.cnt; rw [if_pos ho]
    have e2 : d.cx = ⟨d.nx.b, d.nx.pos, true⟩ := by unfold Dr.cx; rw [if_pos ho]
    rw [e1, e2]
    have hlen : r.nx.b.length < r.num.toNat := by
      rw [hx.s hnb, List.length_drop, ← hn]
      have := hx.p
      unfold Dr.over at ho
      omega
    have hfe := SimF.over h _ r.nx [] hlen
    exact ⟨⟨by rw [hfe]; rfl, hx.p, fun e => by cases e⟩, fun e => by cases e⟩
  · have e1 : d.cnt = d.num := by unfold Dr.cnt; rw [if_neg ho]
    have e2 : d.cx = d.nx := by unfold Dr.cx; rw [if_neg ho]
    rw [e1, e2, hn]
    exact h.many _ _ _ _ _ hx (fun _ => rfl)
end
theorem Dr.cx_bad {d : Dr} (h : d.bad = true) : d.cx.bad = true := by
  unfold Dr.cx
  split
  · rfl
  · exact Dr.nx_bad h
theorem not_bad {d : Dr} (h : ∀ e : d.bad = true, False) : d.bad = false := by cases hd : d.bad with
  | false => rfl
  | true => exact (h hd).elim
theorem bad_back {d : Dr} (h : d.nx.bad = false) : d.bad = false := not_bad fun e => by rw [Dr.nx_bad e] at h; cases h
theorem simWin : SimF (fun r : Dr => (r.win, r.nx4)) (fun r : Rr => (r.win, r.nx4)) where
  sim := fun d r hs => ⟨hs.nx.nx.nx.nx, fun _ => by simp only [Dr.win, Rr.win, hs.num, hs.nx.num, hs.nx.nx.num, hs.nx.nx.nx.num]⟩
  bad := fun d h => Dr.nx_bad (Dr.nx_bad (Dr.nx_bad (Dr.nx_bad h)))
  fell := fun r h => Rr.nx_fell (Rr.nx_fell (Rr.nx_fell (Rr.nx_fell h)))
  len := fun r => Nat.le_trans (Rr.nx_len _) (Nat.le_trans (Rr.nx_len _) (Nat.le_trans (Rr.nx_len _) (Rr.nx_len _)))
  use := fun r _ => by
    rcases Rr.nx_use r with h | h
    · exact .inl (Rr.nx_fell (Rr.nx_fell (Rr.nx_fell h)))
    · have h1 := Rr.nx_len r.nx
      have h2 := Rr.nx_len r.nx.nx
      have h3 := Rr.nx_len r.nx.nx.nx
      exact .inr (by simp only [Rr.nx4]; omega)
  b := fun d => by simp only [Dr.nx4, Dr.nx_b]
theorem simSlt : SimF (fun r : Dr => (r.slt, r.nx.nx)) (fun r : Rr => (r.slt, r.nx.nx)) where
  sim := fun d r hs => ⟨hs.nx.nx, fun _ => by simp only [Dr.slt, Rr.slt, hs.num, hs.nx.num]⟩
  bad := fun d h => Dr.nx_bad (Dr.nx_bad h)
  fell := fun r h => Rr.nx_fell (Rr.nx_fell h)
  len := fun r => Nat.le_trans (Rr.nx_len _) (Rr.nx_len _)
  use := fun r _ => by
    rcases Rr.nx_use r with h | h
    · exact .inl (Rr.nx_fell h)
    · have h1 := Rr.nx_len r.nx
      exact .inr (by simp only; omega)
  b := fun d => by simp only [Dr.nx_b]
theorem simTen : SimF Dr.ten Rr.ten where
  sim := fun d r hs => by
    have h4 : Sim d.nx4 r.nx4 := hs.nx.nx.nx.nx
    have hw := simWin.counted h4
    have hs2 := simSlt.counted (d := d.nx4.wins.2) (r := r.nx4.wins.2) hw.1
    refine ⟨hs2.1, fun hb => ?_⟩
    have hb2 : d.nx4.wins.2.bad = false := not_bad fun e => by
      have : d.nx4.wins.2.slts.2.bad = true := Dr.many_bad simSlt.bad _ _ _ (Dr.cx_bad e)
      have hb : d.nx4.wins.2.slts.2.bad = false := hb
      rw [this] at hb; cases hb
    have e1 : d.nx4.wins.1 = r.nx4.wins.1 := hw.2 hb2
    have e2 : d.nx4.wins.2.slts.1 = r.nx4.wins.2.slts.1 := hs2.2 hb
    simp only [Dr.ten, Rr.ten, hs.num, hs.nx.num, hs.nx.nx.num, hs.nx.nx.nx.num, e1, e2]
  bad := fun d h => by
    have h4 : d.nx4.bad = true := Dr.nx_bad (Dr.nx_bad (Dr.nx_bad (Dr.nx_bad h)))
    have h5 : d.nx4.wins.2.bad = true := Dr.many_bad simWin.bad _ _ _ (Dr.cx_bad h4)
    exact Dr.many_bad simSlt.bad _ _ _ (Dr.cx_bad h5)
  fell := fun r h => by
    have h4 : r.nx4.fell = true := Rr.nx_fell (Rr.nx_fell (Rr.nx_fell (Rr.nx_fell h)))
    have h5 : r.nx4.wins.2.fell = true := by unfold Rr.wins; rw [Rr.many_fell _ _ _ (Rr.nx_fell h4)]; exact Rr.nx_fell h4
    show r.nx4.wins.2.slts.2.fell = true
    rw [Rr.slts, Rr.many_fell _ _ _ (Rr.nx_fell h5)]; exact Rr.nx_fell h5
  len := fun r => by
    have h1 : r.nx4.b.length ≤ r.b.length := simWin.len r
    have h2 : r.nx4.wins.2.b.length ≤ r.nx4.b.length := Nat.le_trans (Rr.many_len simWin.len _ _ _) (Rr.nx_len _)
    have h3 : r.nx4.wins.2.slts.2.b.length ≤ r.nx4.wins.2.b.length := Nat.le_trans (Rr.many_len simSlt.len _ _ _) (Rr.nx_len _)
    exact Nat.le_trans h3 (Nat.le_trans h2 h1)
  use := fun r hf => by
    have h2 : r.nx4.wins.2.b.length ≤ r.nx4.b.length := Nat.le_trans (Rr.many_len simWin.len _ _ _) (Rr.nx_len _)
    have h3 : r.nx4.wins.2.slts.2.b.length ≤ r.nx4.wins.2.b.length := Nat.le_trans (Rr.many_len simSlt.len _ _ _) (Rr.nx_len _)
    rcases simWin.use r hf with h | h
    · have h4 : r.nx4.fell = true := h
      left
      have h5 : r.nx4.wins.2.fell = true := by unfold Rr.wins; rw [Rr.many_fell _ _ _ (Rr.nx_fell h4)]; exact Rr.nx_fell h4
      show r.nx4.wins.2.slts.2.fell = true
      rw [Rr.slts, Rr.many_fell _ _ _ (Rr.nx_fell h5)]; exact Rr.nx_fell h5
    · have h : r.nx4.b.length + 1 ≤ r.b.length := h
      right
      show r.nx4.wins.2.slts.2.b.length + 1 ≤ r.b.length
      omega
  b := fun d => by
    show d.nx4.wins.2.slts.2.b = d.b
    rw [Dr.slts, Dr.many_b simSlt.b, Dr.cx_b, Dr.wins, Dr.many_b simWin.b, Dr.cx_b]
    simp only [Dr.nx4, Dr.nx_b]
theorem read_same (l : List Int) : dRead l = rRead l := by
  unfold dRead rRead
  split
  · rfl
  cases openB l with
  | none => rfl
  | some x =>
    simp only
    split
    · rfl
    rename_i hc
    have hs : Sim ⟨x, 3, false⟩ ⟨x.drop 3, false⟩ := ⟨rfl, by simp only; omega, fun _ => rfl⟩
    have ht := simTen.counted hs.nx
    obtain ⟨hsim, heq⟩ := ht
    have hb : (Dr.tens (Dr.nx ⟨x, 3, false⟩)).2.b = x := by rw [Dr.tens, Dr.many_b simTen.b, Dr.cx_b, Dr.nx_b]
    have hn := hs.num
    have e : ((Dr.tens (Dr.nx ⟨x, 3, false⟩)).2.bad = true ∨ (Dr.tens (Dr.nx ⟨x, 3, false⟩)).2.pos ≠ x.length) ↔ ((Rr.tens (Rr.nx ⟨x.drop 3, false⟩)).2.fell = true ∨ 0 < (Rr.tens (Rr.nx ⟨x.drop 3, false⟩)).2.b.length) := by
      have h1 : (Dr.tens (Dr.nx ⟨x, 3, false⟩)).2.bad = (Rr.tens (Rr.nx ⟨x.drop 3, false⟩)).2.fell := hsim.e
      rw [← h1]
      cases hbad : (Dr.tens (Dr.nx ⟨x, 3, false⟩)).2.bad with
      | true => simp
      | false =>
        have h2 : (Rr.tens (Rr.nx ⟨x.drop 3, false⟩)).2.b = (Dr.tens (Dr.nx ⟨x, 3, false⟩)).2.b.drop (Dr.tens (Dr.nx ⟨x, 3, false⟩)).2.pos := hsim.s hbad
        have h3 : (Dr.tens (Dr.nx ⟨x, 3, false⟩)).2.pos ≤ (Dr.tens (Dr.nx ⟨x, 3, false⟩)).2.b.length := hsim.p
        rw [h2, hb]
        rw [hb] at h3
        simp only [List.length_drop, Bool.false_eq_true, false_or]
        omega
    by_cases hc2 : (Dr.tens (Dr.nx ⟨x, 3, false⟩)).2.bad = true ∨ (Dr.tens (Dr.nx ⟨x, 3, false⟩)).2.pos ≠ x.length
    · rw [if_pos hc2, if_pos (e.1 hc2)]
    · rw [if_neg hc2, if_neg (fun h => hc2 (e.2 h))]
      have hnb : (Dr.tens (Dr.nx ⟨x, 3, false⟩)).2.bad = false := not_bad fun h => hc2 (.inl h)
      have hl : (Dr.tens (Dr.nx ⟨x, 3, false⟩)).1 = (Rr.tens (Rr.nx ⟨x.drop 3, false⟩)).1 := heq hnb
      rw [hl, hn]
end Go.Proofs
namespace Go.Proofs
open Go.PM Go
theorem get2_num2 {n : Int} (h : U16 n) (r : List Int) : get2 (num2 n ++ r) 0 = some n := by
  unfold get2
  unfold U16 at h
  rw [if_pos (by simp [num2]; omega)]
  simp only [num2, Int.toNat_zero, List.cons_append, List.getElem?_cons_zero, List.getElem?_cons_succ, Option.getD_some, Nat.zero_add, Option.some.injEq]
  omega
theorem get2_num2' (n : Int) (r : List Int) : get2 (num2 n ++ r) 0 = some (n % 65536) := by
  unfold get2
  rw [if_pos (by simp [num2]; omega)]
  simp only [num2, Int.toNat_zero, List.cons_append, List.getElem?_cons_zero, List.getElem?_cons_succ, Option.getD_some, Nat.zero_add, Option.some.injEq]
  omega
theorem rr_at {n m : Int} {r : List Int} (h : get2 (num2 n ++ r) 0 = some m) : (⟨num2 n ++ r, false⟩ : Rr).num = m ∧ (⟨num2 n ++ r, false⟩ : Rr).nx = ⟨r, false⟩ := by
  constructor
  · unfold Rr.num; simp only [Bool.false_eq_true, if_false, h, Option.getD_some]
  · unfold Rr.nx; simp only [Bool.false_eq_true, false_or, h, reduceCtorEq, if_false]; rfl
structure Win.u (w : Win) : Prop where
  a : U16 w.space
  b : U16 w.virt
  c : U16 w.phys
  d : U16 w.cnt
structure Slt.u (s : Slt) : Prop where
  a : U16 s.pos
  b : U16 s.len
structure Ten.u (t : Ten) : Prop where
  unit : U16 t.unit
  fns : U32 t.fns
  queue : U16 t.queue
  wins : ∀ w ∈ t.wins, w.u
  slts : ∀ s ∈ t.slts, s.u
  nw : t.wins.length ≤ 6
  ns : t.slts.length ≤ 3
structure Tab.u (t : Tab) : Prop where
  frame : U16 t.frame
  tens : ∀ x ∈ t.tens, x.u
  n : t.tens.length ≤ 4
theorem spRight_b {s : Sp} {m : Int} (h : spRight s m = true) : 0 ≤ s.pos ∧ 1 ≤ s.cnt ∧ s.pos ≤ m ∧ s.cnt ≤ m - s.pos := spRight_iff.1 h
theorem winRight_u {w : Win} (h : winRight w = true) : w.u := by
  simp only [winRight, Bool.and_eq_true, decide_eq_true_eq] at h
  have h1 := spRight_b h.1.2
  have h2 := spRight_b h.2
  simp only [Win.v, Win.p] at h1 h2
  exact ⟨⟨by omega, by omega⟩, ⟨by omega, by omega⟩, ⟨by omega, by omega⟩, ⟨by omega, by omega⟩⟩
theorem right_u {t : Tab} (ht : t.ok) (h : (tabWhere t).1 = 0) : t.u := by
  obtain ⟨hf, hn, hal⟩ := tabWhere_few h
  refine ⟨⟨by omega, by omega⟩, fun x hx => ?_, hn.2⟩
  obtain ⟨h1, h2, h3, h4, h5, h6, h7⟩ := tenWhy_few (hal x hx)
  refine ⟨⟨by omega, by omega⟩, (ht.tens x hx).fns, ⟨by omega, by omega⟩, fun w hw => winRight_u (h6 w hw), fun s hs => ?_, h1, h2⟩
  have := h7 s hs
  simp only [sltRight, Bool.and_eq_true, decide_eq_true_eq] at this
  have h8 := spRight_b this.2
  simp only [Slt.sp] at h8
  exact ⟨⟨by omega, by omega⟩, ⟨by omega, by omega⟩⟩
theorem rr_win {w : Win} (h : w.u) (r : List Int) : (⟨winB w ++ r, false⟩ : Rr).win = w ∧ (⟨winB w ++ r, false⟩ : Rr).nx4 = ⟨r, false⟩ := by
  have e : winB w ++ r = num2 w.space ++ (num2 w.virt ++ (num2 w.phys ++ (num2 w.cnt ++ r))) := by simp [winB]
  rw [e]
  have h1 := rr_at (get2_num2 h.a (num2 w.virt ++ (num2 w.phys ++ (num2 w.cnt ++ r))))
  have h2 := rr_at (get2_num2 h.b (num2 w.phys ++ (num2 w.cnt ++ r)))
  have h3 := rr_at (get2_num2 h.c (num2 w.cnt ++ r))
  have h4 := rr_at (get2_num2 h.d r)
  simp only [Rr.win, Rr.nx4, h1.1, h1.2, h2.1, h2.2, h3.1, h3.2, h4.1, h4.2, and_self]
theorem rr_slt {s : Slt} (h : s.u) (r : List Int) : (⟨sltB s ++ r, false⟩ : Rr).slt = s ∧ (⟨sltB s ++ r, false⟩ : Rr).nx.nx = ⟨r, false⟩ := by
  have e : sltB s ++ r = num2 s.pos ++ (num2 s.len ++ r) := by simp [sltB]
  rw [e]
  have h1 := rr_at (get2_num2 h.a (num2 s.len ++ r))
  have h2 := rr_at (get2_num2 h.b r)
  simp only [Rr.slt, h1.1, h1.2, h2.1, h2.2, and_self]
theorem rr_many {α : Type} {f : Rr → α × Rr} {g : α → List Int} : ∀ (l : List α) (acc : List α) (r : List Int), (∀ x ∈ l, ∀ r, f ⟨g x ++ r, false⟩ = (x, ⟨r, false⟩)) → Rr.many f l.length ⟨l.flatMap g ++ r, false⟩ acc = (acc ++ l, ⟨r, false⟩)
  | [], acc, r, _ => by simp [Rr.many]
  | x :: l, acc, r, h => by
    rw [List.length_cons, Rr.many_step (Nat.succ_pos _) rfl]
    have e : (x :: l).flatMap g ++ r = g x ++ (l.flatMap g ++ r) := by simp
    rw [e, h x (by simp)]
    show Rr.many f l.length ⟨l.flatMap g ++ r, false⟩ (acc ++ [x]) = _
    rw [rr_many l _ _ fun y hy => h y (by simp [hy])]
    simp
theorem fns2_eq {f : Int} (h : U32 f) : fns2 (f / 65536) (f % 65536) = f := by
  obtain ⟨a, rfl⟩ : ∃ a : Nat, f = a := ⟨f.toNat, (Int.toNat_of_nonneg h.1).symm⟩
  have ha : a < 4294967296 := by unfold U32 at h; omega
  unfold fns2
  have e1 : IntKind.u32.wrap (IntKind.u32.wrap ((a : Int) / 65536) * 65536) = ((2 ^ 16 * (a / 65536) : Nat) : Int) := by rw [u32_wrap, u32_wrap]; omega
  have e2 : IntKind.u32.wrap ((a : Int) % 65536) = ((a % 65536 : Nat) : Int) := by rw [u32_wrap]; omega
  rw [e1, e2]
  have e : (BitVec.ofInt 32 ((2 ^ 16 * (a / 65536) : Nat) : Int) ||| BitVec.ofInt 32 ((a % 65536 : Nat) : Int)).toNat = a := by
    rw [BitVec.toNat_or, BitVec.ofInt_natCast, BitVec.ofInt_natCast, BitVec.toNat_ofNat, BitVec.toNat_ofNat, Nat.mod_eq_of_lt (by omega), Nat.mod_eq_of_lt (by omega), ← Nat.two_pow_add_eq_or_of_lt (i := 16) (b := a % 65536) (by omega)]
    omega
  unfold ibits
  show IntKind.u32.wrap (((BitVec.ofInt 32 ((2 ^ 16 * (a / 65536) : Nat) : Int) ||| BitVec.ofInt 32 ((a % 65536 : Nat) : Int)).toNat : Int)) = _
  rw [e, u32_wrap]
  omega
theorem rr_tens1 {x : Ten} (h : x.u) (r : List Int) : Rr.ten ⟨tenB x ++ r, false⟩ = (x, ⟨r, false⟩) := by
  have e : tenB x ++ r = num2 x.unit ++ (num2 (x.fns / 65536) ++ (num2 x.fns ++ (num2 x.queue ++ (num2 x.wins.length ++ (x.wins.flatMap winB ++ (num2 x.slts.length ++ (x.slts.flatMap sltB ++ r))))))) := by simp [tenB]
  rw [e]
  have hf := h.fns
  unfold U32 at hf
  have hnw := h.nw
  have hns := h.ns
  have h1 := rr_at (get2_num2 h.unit (num2 (x.fns / 65536) ++ (num2 x.fns ++ (num2 x.queue ++ (num2 x.wins.length ++ (x.wins.flatMap winB ++ (num2 x.slts.length ++ (x.slts.flatMap sltB ++ r))))))))
  have h2 := rr_at (get2_num2 (n := x.fns / 65536) ⟨by omega, by omega⟩ (num2 x.fns ++ (num2 x.queue ++ (num2 x.wins.length ++ (x.wins.flatMap winB ++ (num2 x.slts.length ++ (x.slts.flatMap sltB ++ r)))))))
  have h3 := rr_at (get2_num2' x.fns (num2 x.queue ++ (num2 x.wins.length ++ (x.wins.flatMap winB ++ (num2 x.slts.length ++ (x.slts.flatMap sltB ++ r))))))
  have h4 := rr_at (get2_num2 h.queue (num2 x.wins.length ++ (x.wins.flatMap winB ++ (num2 x.slts.length ++ (x.slts.flatMap sltB ++ r)))))
  have h5 := rr_at (get2_num2 (n := x.wins.length) ⟨by omega, by omega⟩ (x.wins.flatMap winB ++ (num2 x.slts.length ++ (x.slts.flatMap sltB ++ r))))
  have h6 := rr_many (f := fun r => (r.win, r.nx4)) x.wins [] (num2 x.slts.length ++ (x.slts.flatMap sltB ++ r)) (fun w hw r => by have := rr_win (h.wins w hw) r; exact Prod.ext this.1 this.2)
  have h7 := rr_at (get2_num2 (n := x.slts.length) ⟨by omega, by omega⟩ (x.slts.flatMap sltB ++ r))
  have h8 := rr_many (f := fun r => (r.slt, r.nx.nx)) x.slts [] r (fun w hw r => by have := rr_slt (h.slts w hw) r; exact Prod.ext this.1 this.2)
  have e4 : Rr.nx4 ⟨num2 x.unit ++ (num2 (x.fns / 65536) ++ (num2 x.fns ++ (num2 x.queue ++ (num2 x.wins.length ++ (x.wins.flatMap winB ++ (num2 x.slts.length ++ (x.slts.flatMap sltB ++ r))))))), false⟩ = ⟨num2 x.wins.length ++ (x.wins.flatMap winB ++ (num2 x.slts.length ++ (x.slts.flatMap sltB ++ r))), false⟩ := by
    simp only [Rr.nx4, h1.2, h2.2, h3.2, h4.2]
  have ew : Rr.wins ⟨num2 x.wins.length ++ (x.wins.flatMap winB ++ (num2 x.slts.length ++ (x.slts.flatMap sltB ++ r))), false⟩ = (x.wins, ⟨num2 x.slts.length ++ (x.slts.flatMap sltB ++ r), false⟩) := by
    unfold Rr.wins
    rw [h5.1, h5.2, Int.toNat_natCast, h6, List.nil_append]
  have es : Rr.slts ⟨num2 x.slts.length ++ (x.slts.flatMap sltB ++ r), false⟩ = (x.slts, ⟨r, false⟩) := by
    unfold Rr.slts
    rw [h7.1, h7.2, Int.toNat_natCast, h8, List.nil_append]
  unfold Rr.ten
  rw [e4, ew]
  simp only
  rw [es]
  simp only [h1.1, h1.2, h2.1, h2.2, h3.1, h3.2, h4.1, fns2_eq h.fns]
theorem openB_seal (l : List Int) : openB (sealB l) = some l := by
  have e : (sealB l).take ((sealB l).length - 2) = l := by rw [sealB_len, Nat.add_sub_cancel]; simp [sealB]
  unfold openB
  rw [e, if_pos ⟨by rw [sealB_len]; omega, rfl⟩]
theorem bodyB_len {t : Tab} (h : t.u) : (bodyB t).length ≤ 295 := by
  have := flatMap_len_le (f := tenB) (n := 72) (l := t.tens) fun x hx => by
    have := (h.tens x hx).nw
    have := (h.tens x hx).ns
    rw [tenB_len]; omega
  have hn := h.n
  have : t.tens.length * 72 ≤ 288 := by omega
  simp only [bodyB, List.length_append, num2_len, markB, List.length_cons, List.length_nil]
  omega
theorem bytesB_len {t : Tab} (h : t.u) : (bytesB t).length ≤ 297 := by
  have := bodyB_len h
  unfold bytesB
  rw [sealB_len]
  omega
theorem rRead_bytes {t : Tab} (h : t.u) (hw : (tabWhere t).1 = 0) : rRead (bytesB t) = (t, 0) := by
  unfold rRead
  have hl := bytesB_len h
  rw [if_neg (by omega), show openB (bytesB t) = some (bodyB t) from openB_seal _]
  simp only
  have e : bodyB t = markB ++ (num2 t.frame ++ (num2 t.tens.length ++ (t.tens.flatMap tenB ++ []))) := by simp [bodyB]
  have e3 : (bodyB t).take 3 = markB := by rw [e]; rfl
  have ed : (bodyB t).drop 3 = num2 t.frame ++ (num2 t.tens.length ++ (t.tens.flatMap tenB ++ [])) := by rw [e]; rfl
  have hlen : 3 ≤ (bodyB t).length := by rw [e]; simp [markB]
  rw [if_neg (by rw [e3]; simp; omega), ed]
  have hn := h.n
  have h1 := rr_at (get2_num2 h.frame (num2 t.tens.length ++ (t.tens.flatMap tenB ++ [])))
  have h2 := rr_at (get2_num2 (n := t.tens.length) ⟨by omega, by omega⟩ (t.tens.flatMap tenB ++ []))
  have h3 := rr_many (f := Rr.ten) t.tens [] [] (fun x hx r => rr_tens1 (h.tens x hx) r)
  have et : Rr.tens ⟨num2 t.tens.length ++ (t.tens.flatMap tenB ++ []), false⟩ = (t.tens, ⟨[], false⟩) := by
    unfold Rr.tens
    rw [h2.1, h2.2, Int.toNat_natCast, h3, List.nil_append]
  rw [h1.1, h1.2, et]
  simp only [Bool.false_eq_true, false_or, List.length_nil, Nat.lt_irrefl, if_false]
  rw [if_neg (by simpa using hw)]
theorem bytesB_inj {t u : Tab} (ht : t.u) (hu : u.u) (h1 : (tabWhere t).1 = 0) (h2 : (tabWhere u).1 = 0) (h : bytesB t = bytesB u) : t = u := by
  have e1 := rRead_bytes ht h1
  have e2 := rRead_bytes hu h2
  rw [h, e2] at e1
  exact (congrArg Prod.fst e1).symm
theorem bytesB_ok (t : Tab) : OkB (bytesB t) := sealB_ok (bodyB_ok t)
theorem bytesB_size (t : Tab) : (bytesB t).length = 9 + (t.tens.map fun x => 12 + 8 * x.wins.length + 4 * x.slts.length).sum := by
  have h : ∀ l : List Ten, (l.flatMap tenB).length = (l.map fun x => 12 + 8 * x.wins.length + 4 * x.slts.length).sum := fun l => by
    induction l with
    | nil => rfl
    | cons x l ih => simp [ih, tenB_len]
  unfold bytesB
  rw [sealB_len]
  simp only [bodyB, List.length_append, num2_len, markB, List.length_cons, List.length_nil, h]
  omega
end Go.Proofs
namespace Go.Proofs
open Go.PM Go
theorem weaks_rep (n : Nat) (k : Int) : PV.weaks (List.replicate n (PV.int .u8 k)) = List.replicate n (PV.int .u8 k) := by
  rw [weaks_map, List.map_replicate]; rfl
theorem rRead_ok {l : List Int} (h : OkB l) : (rRead l).1.ok := by
  have o0 : Tab.ok tab0 := ⟨by constructor <;> decide, fun x hx => (by cases hx), by decide⟩
  unfold rRead
  split
  · exact o0
  · rename_i hc
    cases hx : openB l with
    | none => exact o0
    | some x =>
      simp only
      obtain ⟨hxb, hxl⟩ := openB_ok h hx
      split
      · exact o0
      have hr : Rr.ok ⟨x.drop 3, false⟩ := ⟨hxb.drop 3, by simp only [List.length_drop]; omega⟩
      have h1 := Rr.many_ok (f := Rr.ten) (p := Ten.ok) (fun r => Rr.ten_ok) (Rr.nx ⟨x.drop 3, false⟩).num.toNat (Rr.nx ⟨x.drop 3, false⟩).nx [] hr.nx.nx (by simp)
      have hn := Rr.num_ok hr.nx
      split
      · exact o0
      split
      · exact o0
      refine ⟨I64_of_U16 (Rr.num_ok hr), h1.1, ?_⟩
      have : (Rr.tens (Rr.nx ⟨x.drop 3, false⟩)).1.length ≤ 65535 := by
        refine Nat.le_trans h1.2.2 ?_
        have : (Rr.nx ⟨x.drop 3, false⟩).num ≤ 65535 := hn.2
        simp only [List.length_nil]; omega
      simp only
      omega
end Go.Proofs
namespace Go.Proofs
open Go.PM Go
def gS (l : List Slt) (a : Nat) : Slt := l[a]?.getD ⟨0, 0⟩
theorem gS_get {l : List Slt} {a : Nat} (h : a < l.length) : gS l a = l[a] := by unfold gS; rw [List.getElem?_eq_getElem h]; rfl
theorem gS_mem {l : List Slt} {a : Nat} (h : a < l.length) : gS l a ∈ l := by rw [gS_get h]; exact List.getElem_mem _
def swapS (l : List Slt) (j : Nat) : List Slt := (l.set (j + 1) (gS l j)).set j (gS l (j + 1))
theorem swapS_len (l : List Slt) (j : Nat) : (swapS l j).length = l.length := by simp [swapS]
theorem gS_set {l : List Slt} {k j : Nat} {x : Slt} (hk : k < l.length) : gS (l.set k x) j = if j = k then x else gS l j := by
  unfold gS
  rw [List.getElem?_set]
  by_cases h : k = j
  · subst h; simp [hk]
  · rw [if_neg h, if_neg (fun e => h e.symm)]
theorem gS_swap {l : List Slt} {j : Nat} (h : j + 1 < l.length) (a : Nat) : gS (swapS l j) a = if a = j then gS l (j + 1) else if a = j + 1 then gS l j else gS l a := by
  unfold swapS
  rw [gS_set (by rw [List.length_set]; omega), gS_set h]
theorem swapS_perm {l : List Slt} {j : Nat} (h : j + 1 < l.length) : (swapS l j).Perm l := by
  unfold swapS
  rw [gS_get h, gS_get (show j < l.length by omega)]
  exact List.set_set_perm h (by omega)
def insDown : Nat → List Slt → List Slt
  | 0, l => l
  | j + 1, l => if (gS l (j + 1)).pos < (gS l j).pos then insDown j (swapS l j) else l
def sortN : Nat → List Slt → List Slt
  | 0, l => l
  | i + 1, l => insDown i (sortN i l)
def sortS (l : List Slt) : List Slt := sortN l.length l
theorem insDown_perm : ∀ (j : Nat) (l : List Slt), j < l.length → (insDown j l).Perm l
  | 0, l, _ => .refl _
  | j + 1, l, h => by
    unfold insDown
    split
    · exact (insDown_perm j (swapS l j) (by rw [swapS_len]; omega)).trans (swapS_perm h)
    · exact .refl _
theorem sortN_perm (l : List Slt) : ∀ (i : Nat), i ≤ l.length → (sortN i l).Perm l
  | 0, _ => .refl _
  | i + 1, h => by
    have ih := sortN_perm l i (by omega)
    exact (insDown_perm i _ (by rw [ih.length_eq]; omega)).trans ih
theorem sortN_len {l : List Slt} {i : Nat} (h : i ≤ l.length) : (sortN i l).length = l.length := (sortN_perm l i h).length_eq
theorem sortS_perm (l : List Slt) : (sortS l).Perm l := sortN_perm l _ (Nat.le_refl _)
theorem sortS_len (l : List Slt) : (sortS l).length = l.length := (sortS_perm l).length_eq
theorem sortS_mem {l : List Slt} {x : Slt} : x ∈ sortS l ↔ x ∈ l := (sortS_perm l).mem_iff
def Asc (i : Nat) (l : List Slt) : Prop := ∀ a b, a < b → b < i → (gS l a).pos ≤ (gS l b).pos
theorem insDown_asc {i : Nat} : ∀ (j : Nat) (l : List Slt), j < i → i ≤ l.length → (∀ a b, a < b → b < i → a ≠ j → b ≠ j → (gS l a).pos ≤ (gS l b).pos) → (∀ b, j < b → b < i → (gS l j).pos ≤ (gS l b).pos) → Asc i (insDown j l)
  | 0, l, hj, hi, h1, h2 => by
    intro a b hab hb
    unfold insDown
    by_cases ha : a = 0
    · subst ha; exact h2 b hab hb
    · exact h1 a b hab hb ha (by omega)
  | j + 1, l, hj, hi, h1, h2 => by
    unfold insDown
    split
    · rename_i hlt
      refine insDown_asc j (swapS l j) (by omega) (by rw [swapS_len]; exact hi) ?_ ?_
      · intro a b hab hb ha hb'
        rw [gS_swap (by omega), gS_swap (by omega), if_neg ha, if_neg hb']
        by_cases h3 : a = j + 1
        · rw [if_pos h3, if_neg (by omega)]; exact h1 j b (by omega) hb (by omega) (by omega)
        · rw [if_neg h3]
          by_cases h4 : b = j + 1
          · rw [if_pos h4]; exact h1 a j (by omega) (by omega) h3 (by omega)
          · rw [if_neg h4]; exact h1 a b hab hb h3 h4
      · intro b hab hb
        rw [gS_swap (by omega), gS_swap (by omega), if_pos rfl, if_neg (by omega)]
        by_cases h4 : b = j + 1
        · rw [if_pos h4]; omega
        · rw [if_neg h4]; exact h2 b (by omega) hb
    · rename_i hlt
      intro a b hab hb
      by_cases h3 : a = j + 1
      · subst h3; exact h2 b hab hb
      · by_cases h4 : b = j + 1
        · subst h4
          by_cases h5 : a = j
          · subst h5; omega
          · have := h1 a j (by omega) (by omega) h3 (by omega)
            omega
        · exact h1 a b hab hb h3 h4
theorem sortN_asc (l : List Slt) : ∀ (i : Nat), i ≤ l.length → Asc i (sortN i l)
  | 0, _ => fun a b _ hb => by omega
  | i + 1, h => by
    have ih := sortN_asc l i (by omega)
    refine insDown_asc i _ (by omega) (by rw [sortN_len (by omega)]; exact h) ?_ ?_
    · intro a b hab hb ha hb'
      exact ih a b hab (by omega)
    · intro b hab hb
      omega
theorem sortS_asc (l : List Slt) : Asc l.length (sortS l) := sortN_asc l _ (Nat.le_refl _)
def cntS (x : Int) (l : List Slt) : Nat := l.countP fun s => decide (s.pos ≤ x)
theorem cntS_le (x : Int) (l : List Slt) : cntS x l ≤ l.length := List.countP_le_length
theorem cntS_take {x : Int} {l : List Slt} {i : Nat} (h : i < l.length) : cntS x (l.take (i + 1)) = cntS x (l.take i) + if l[i].pos ≤ x then 1 else 0 := by
  unfold cntS
  rw [take_get h, List.countP_append, List.countP_singleton]
  simp
theorem cntS_pre {x : Int} : ∀ {l : List Slt} {i : Nat}, Asc l.length l → i ≤ l.length → (∀ a, a < i → (gS l a).pos ≤ x) → (i < l.length → x < (gS l i).pos) → cntS x l = i
  | [], i, _, h, _, _ => by simp at h; subst h; rfl
  | s :: l, 0, hA, _, _, h2 => by
    have h3 := h2 (by simp)
    unfold cntS
    rw [List.countP_eq_zero]
    intro y hy
    simp only [decide_eq_true_eq]
    rcases List.mem_cons.1 hy with rfl | hy
    · simp [gS] at h3; omega
    · obtain ⟨b, hb, rfl⟩ := List.mem_iff_getElem.1 hy
      have := hA 0 (b + 1) (by omega) (by simp; omega)
      simp [gS, List.getElem?_eq_getElem hb] at this h3
      omega
  | s :: l, i + 1, hA, h, h1, h2 => by
    have e0 : s.pos ≤ x := by have := h1 0 (by omega); simpa [gS] using this
    have ih := cntS_pre (x := x) (l := l) (i := i) (fun a b hab hb => by have := hA (a + 1) (b + 1) (by omega) (by simp; omega); simpa [gS] using this) (by simpa using h) (fun a ha => by have := h1 (a + 1) (by omega); simpa [gS] using this) (fun hi => by have := h2 (by simpa using hi); simpa [gS] using this)
    unfold cntS at ih ⊢
    rw [List.countP_cons, ih]
    simp [e0]
def holds (k : Int) (s : Slt) : Bool := decide (s.pos ≤ k) && decide (k < s.pos + s.len)
def atA (k : Int) : List Ten → Nat → Int × Int
  | [], _ => (-1, -1)
  | x :: l, i => if 0 ≤ idxF (holds k) x.slts 0 then ((i : Int), idxF (holds k) x.slts 0) else atA k l (i + 1)
def atS (t : Tab) (tick : Int) : Int × Int := if tick < 0 ∨ tabRight t = false then (-1, -1) else atA (tick.tmod t.frame) t.tens 0
def tenG (t : Tab) (i : Nat) : Ten := t.tens[i]?.getD ⟨0, 0, 0, [], []⟩
def begS (t : Tab) (tick : Int) : Int := if (atS t tick).1 < 0 then -1 else if tick.tmod t.frame ≠ (gS (tenG t (atS t tick).1.toNat).slts (atS t tick).2.toNat).pos then -1 else (atS t tick).1
structure NextOk (t : Tab) (u after k : Int) : Prop where
  r : tabRight t = true
  u0 : 0 ≤ u
  u1 : u < t.tens.length
  a0 : 0 ≤ after
  a1 : after ≤ 1099511627776
  k0 : 0 ≤ k
  k1 : k ≤ 65536
instance (t : Tab) (u after k : Int) : Decidable (NextOk t u after k) := decidable_of_iff (tabRight t = true ∧ 0 ≤ u ∧ u < t.tens.length ∧ 0 ≤ after ∧ after ≤ 1099511627776 ∧ 0 ≤ k ∧ k ≤ 65536)
  ⟨fun ⟨a, b, c, d, e, f, g⟩ => ⟨a, b, c, d, e, f, g⟩, fun ⟨a, b, c, d, e, f, g⟩ => ⟨a, b, c, d, e, f, g⟩⟩
def nextL (l : List Slt) (frame after k : Int) : Int × Int :=
  let c := cntS (after % frame) l + k
  let s := gS l (c % l.length).toNat
  ((after / frame + c / l.length) * frame + s.pos, (after / frame + c / l.length) * frame + s.pos + s.len - 1)
def nextS (t : Tab) (u after k : Int) : Int × Int := if NextOk t u after k then nextL (sortS (tenG t u.toNat).slts) t.frame after k else (-1, -1)
theorem idxF_bound {α : Type} (p : α → Bool) : ∀ (l : List α) (i : Nat), idxF p l i = -1 ∨ ∃ j : Nat, ∃ h : j < l.length, idxF p l i = ((i + j : Nat) : Int) ∧ p l[j] = true
  | [], i => .inl rfl
  | x :: l, i => by
    unfold idxF
    split
    · rename_i h; exact .inr ⟨0, by simp, by simp, h⟩
    · rcases idxF_bound p l (i + 1) with h | ⟨j, h, e, hp⟩
      · exact .inl h
      · exact .inr ⟨j + 1, by simpa using h, by rw [e]; omega, by simpa using hp⟩
theorem atA_bound (k : Int) : ∀ (l : List Ten) (i : Nat), atA k l i = (-1, -1) ∨ ∃ a b : Nat, ∃ h : a < l.length, ∃ h' : b < l[a].slts.length, atA k l i = (((i + a : Nat) : Int), (b : Int)) ∧ holds k l[a].slts[b] = true
  | [], i => .inl rfl
  | x :: l, i => by
    unfold atA
    rcases idxF_bound (holds k) x.slts 0 with h | ⟨j, h, e, hp⟩
    · rw [h, if_neg (by decide)]
      rcases atA_bound k l (i + 1) with h | ⟨a, b, h, h', e, hp⟩
      · exact .inl h
      · exact .inr ⟨a + 1, b, by simpa using h, by simpa using h', by rw [e]; simp; omega, by simpa using hp⟩
    · rw [e, if_pos (by omega)]
      exact .inr ⟨0, j, by simp, by simpa using h, by simp, by simpa using hp⟩
theorem atS_bound (t : Tab) (tick : Int) : atS t tick = (-1, -1) ∨ ∃ a b : Nat, ∃ h : a < t.tens.length, ∃ h' : b < t.tens[a].slts.length, atS t tick = ((a : Int), (b : Int)) ∧ holds (tick.tmod t.frame) t.tens[a].slts[b] = true ∧ 0 ≤ tick ∧ tabRight t = true := by
  unfold atS
  split
  · exact .inl rfl
  · rename_i hc
    rcases atA_bound (tick.tmod t.frame) t.tens 0 with h | ⟨a, b, h, h', e, hp⟩
    · exact .inl h
    · exact .inr ⟨a, b, h, h', by rw [e]; simp, hp, by omega, by cases h9 : tabRight t <;> simp_all⟩
theorem atA_step (k : Int) {l : List Ten} {i : Nat} (h : i < l.length) : atA k (l.drop i) i = if 0 ≤ idxF (holds k) l[i].slts 0 then ((i : Int), idxF (holds k) l[i].slts 0) else atA k (l.drop (i + 1)) (i + 1) := by
  rw [drop_get h, atA]
theorem atS_neg {t : Tab} {tick : Int} (h : tick < 0) : atS t tick = (-1, -1) := if_pos (.inl h)
theorem atS_not {t : Tab} {tick : Int} (h : tabRight t = false) : atS t tick = (-1, -1) := if_pos (.inr h)
theorem atS_yes {t : Tab} {tick : Int} (h : 0 ≤ tick) (h' : tabRight t = true) : atS t tick = atA (tick.tmod t.frame) t.tens 0 := if_neg (by rw [h']; simp; omega)
theorem begS_yes {t : Tab} {tick : Int} {a b : Nat} (h : a < t.tens.length) (h' : b < t.tens[a].slts.length) (e : atS t tick = ((a : Int), (b : Int))) : begS t tick = if tick.tmod t.frame = t.tens[a].slts[b].pos then (a : Int) else -1 := by
  unfold begS
  rw [e]
  simp only [Int.toNat_natCast]
  rw [if_neg (by omega), show tenG t a = t.tens[a] from by unfold tenG; rw [List.getElem?_eq_getElem h]; rfl, gS_get h']
  simp only [ne_eq, ite_not]
structure Tab.rt (t : Tab) : Prop where
  f : 1 ≤ t.frame ∧ t.frame ≤ 2000
  n : 1 ≤ t.tens.length ∧ t.tens.length ≤ 4
  s : ∀ x ∈ t.tens, 1 ≤ x.slts.length ∧ x.slts.length ≤ 3
  p : ∀ x ∈ t.tens, ∀ s ∈ x.slts, 0 ≤ s.pos ∧ 72 ≤ s.len ∧ s.pos + s.len ≤ t.frame
theorem right_rt {t : Tab} (h : tabRight t = true) : t.rt := by
  have h : (tabWhere t).1 = 0 := by simpa [tabRight] using h
  obtain ⟨hf, hn, hal⟩ := tabWhere_few h
  refine ⟨hf, hn, fun x hx => ?_, fun x hx s hs => ?_⟩
  · obtain ⟨h1, h2, h3, h4, h5, h6, h7⟩ := tenWhy_few (hal x hx)
    exact ⟨h3, h2⟩
  · obtain ⟨h1, h2, h3, h4, h5, h6, h7⟩ := tenWhy_few (hal x hx)
    have := h7 s hs
    simp only [sltRight, Bool.and_eq_true, decide_eq_true_eq] at this
    have h8 := spRight_b this.2
    simp only [Slt.sp] at h8
    omega
theorem tmod_pos {a b : Int} (h : 0 ≤ a) : a.tmod b = a % b := Int.tmod_eq_emod_of_nonneg h
theorem tdiv_pos {a b : Int} (h : 0 ≤ a) : a.tdiv b = a / b := Int.tdiv_eq_ediv_of_nonneg h
theorem emod_bd (a : Int) {b : Int} (h : 0 < b) : 0 ≤ a % b ∧ a % b < b := ⟨Int.emod_nonneg a (by omega), Int.emod_lt_of_pos a h⟩
structure NA (q frame after e k : Int) (n c : Nat) : Prop where
  q0 : 0 ≤ q
  q1 : q ≤ 1099511627776
  e0 : 0 ≤ e
  e1 : e < frame
  qf : q * frame + e = after
  qf0 : 0 ≤ q * frame
  qn0 : 0 ≤ q * n
  qn1 : q * n ≤ 3298534883328
  di : (q * n + k + c) / n = q + (c + k) / n
  mo : (q * n + k + c) % n = (c + k) % n
  m0 : 0 ≤ (c + k) % n
  m1 : (c + k) % n < n
  d0 : 0 ≤ (c + k) / n
  d1 : (c + k) / n ≤ 65539
  w0 : 0 ≤ (q + (c + k) / n) * frame
  w1 : (q + (c + k) / n) * frame ≤ 1099642705776
theorem next_arith {after frame k : Int} {n c : Nat} (hf : 1 ≤ frame ∧ frame ≤ 2000) (ha : 0 ≤ after ∧ after ≤ 1099511627776) (hk : 0 ≤ k ∧ k ≤ 65536) (hn : 1 ≤ n ∧ n ≤ 3) (hc : c ≤ n) : NA (after / frame) frame after (after % frame) k n c := by
  have h1 : 0 ≤ after / frame := Int.ediv_nonneg ha.1 (by omega)
  have h2 : after / frame ≤ after := Int.ediv_le_self frame ha.1
  have h3 := Int.emod_nonneg after (show frame ≠ 0 by omega)
  have h4 := Int.emod_lt_of_pos after (show 0 < frame by omega)
  have h5 : after / frame * frame + after % frame = after := by rw [Int.mul_comm]; exact Int.mul_ediv_add_emod after frame
  have h6 : 0 ≤ after / frame * frame := Int.mul_nonneg h1 (by omega)
  have h7 : 0 ≤ after / frame * n := Int.mul_nonneg h1 (by omega)
  have h8 : after / frame * n ≤ after / frame * 3 := Int.mul_le_mul_of_nonneg_left (by omega) h1
  have hd : (after / frame * n + k + c) / n = after / frame + (c + k) / n := by
    rw [show after / frame * n + k + c = (c + k) + after / frame * n by omega, Int.add_mul_ediv_right _ _ (by omega)]
    omega
  have hm : (after / frame * n + k + c) % n = (c + k) % n := by
    rw [show after / frame * n + k + c = (c + k) + after / frame * n by omega, Int.add_mul_emod_self_right]
  have e0 : 0 ≤ ((c : Int) + k) / n := Int.ediv_nonneg (by omega) (by omega)
  have e1 : ((c : Int) + k) / n ≤ c + k := Int.ediv_le_self _ (by omega)
  have e2 : ((c : Int) + k) / n * frame ≤ ((c : Int) + k) / n * 2000 := Int.mul_le_mul_of_nonneg_left (by omega) e0
  have e3 : 0 ≤ ((c : Int) + k) / n * frame := Int.mul_nonneg e0 (by omega)
  exact ⟨h1, by omega, h3, h4, h5, h6, h7, by omega, hd, hm, Int.emod_nonneg _ (by omega), Int.emod_lt_of_pos _ (by omega), e0, by omega, by rw [Int.add_mul]; omega, by rw [Int.add_mul]; omega⟩
end Go.Proofs
namespace Go.Proofs
open Go.PM Go
theorem meet_disj {a b : Slt} (ha : 0 ≤ a.pos ∧ 72 ≤ a.len ∧ a.pos + a.len ≤ 2000) (hb : 0 ≤ b.pos ∧ 72 ≤ b.len ∧ b.pos + b.len ≤ 2000) (h : sltMeet a b = false) : a.pos + a.len ≤ b.pos ∨ b.pos + b.len ≤ a.pos := by
  have e1 : spRight a.sp great = true := spRight_iff.2 (by simp only [Slt.sp, great]; omega)
  have e2 : spRight b.sp great = true := spRight_iff.2 (by simp only [Slt.sp, great]; omega)
  unfold sltMeet spMeets at h
  rw [e1, e2] at h
  simp only [Bool.and_self, Bool.true_and, Slt.sp] at h
  have h := of_decide_eq_false h
  omega
theorem sltsBadA_no {ahead : List Ten} : ∀ {l done : List Slt}, sltsBadA ahead done l = false → (∀ s ∈ l, ∀ y ∈ done, sltMeet s y = false) ∧ l.Pairwise (fun a b => sltMeet b a = false) ∧ ∀ s ∈ l, ∀ y ∈ ahead, ∀ z ∈ y.slts, sltMeet s z = false
  | [], done, _ => ⟨fun s hs => (by cases hs), .nil, fun s hs => (by cases hs)⟩
  | s :: l, done, h => by
    unfold sltsBadA at h
    simp only [Bool.or_eq_false_iff] at h
    obtain ⟨⟨h1, h2⟩, h3⟩ := h
    obtain ⟨i1, i2, i3⟩ := sltsBadA_no h3
    have m1 : ∀ y ∈ done, sltMeet s y = false := fun y hy => by
      unfold sltMeets at h1
      exact List.any_eq_false.1 h1 y hy |> fun h => by simpa using h
    refine ⟨fun x hx y hy => ?_, .cons (fun x hx => i1 x hx s (by simp)) i2, fun x hx y hy z hz => ?_⟩
    · rcases List.mem_cons.1 hx with rfl | hx
      · exact m1 y hy
      · exact i1 x hx y (by simp [hy])
    · rcases List.mem_cons.1 hx with rfl | hx
      · have := List.any_eq_false.1 h2 y hy
        have this : sltMeets x y.slts = false := by simpa using this
        unfold sltMeets at this
        exact List.any_eq_false.1 this z hz |> fun h => by simpa using h
      · exact i3 x hx y hy z hz
theorem tabWhereA_no {f : Int} : ∀ {l done : List Ten}, (tabWhereA f done l).1 = 0 → (∀ x ∈ l, ∀ s ∈ x.slts, ∀ y ∈ done, ∀ z ∈ y.slts, sltMeet s z = false) ∧ l.Pairwise (fun y x => ∀ s ∈ x.slts, ∀ z ∈ y.slts, sltMeet s z = false) ∧ ∀ x ∈ l, x.slts.Pairwise (fun a b => sltMeet b a = false)
  | [], done, _ => ⟨fun s hs => (by cases hs), .nil, fun s hs => (by cases hs)⟩
  | x :: l, done, h => by
    unfold tabWhereA at h
    split at h
    · rename_i hne; exact absurd h hne
    split at h
    · rename_i hne; exact absurd h hne
    rename_i h1 h2
    obtain ⟨i1, i2, i3⟩ := tabWhereA_no h
    have h2 : tenBeside x done = 0 := by omega
    unfold tenBeside at h2
    split at h2
    · cases h2
    split at h2
    · cases h2
    rename_i h3 h4
    obtain ⟨j1, j2, j3⟩ := sltsBadA_no (by simpa using h4)
    refine ⟨fun y hy s hs z hz w hw => ?_, .cons (fun y hy s hs z hz => i1 y hy s hs x (by simp) z hz) i2, fun y hy => ?_⟩
    · rcases List.mem_cons.1 hy with rfl | hy
      · exact j3 s hs z hz w hw
      · exact i1 y hy s hs z (by simp [hz]) w hw
    · rcases List.mem_cons.1 hy with rfl | hy
      · exact j2
      · exact i3 y hy
def Disj (a b : Slt) : Prop := a.pos + a.len ≤ b.pos ∨ b.pos + b.len ≤ a.pos
theorem tens_disj {t : Tab} (h : tabRight t = true) : (∀ a b (ha : a < t.tens.length) (hb : b < t.tens.length), a < b → ∀ y ∈ t.tens[a].slts, ∀ z ∈ t.tens[b].slts, Disj y z) ∧ ∀ x ∈ t.tens, x.slts.Pairwise Disj := by
  have hr := right_rt h
  have h0 : (tabWhere t).1 = 0 := by simpa [tabRight] using h
  unfold tabWhere at h0
  split at h0
  · cases h0
  split at h0
  · cases h0
  obtain ⟨i1, i2, i3⟩ := tabWhereA_no h0
  have hb : ∀ x ∈ t.tens, ∀ s ∈ x.slts, 0 ≤ s.pos ∧ 72 ≤ s.len ∧ s.pos + s.len ≤ 2000 := fun x hx s hs => by have := hr.p x hx s hs; have := hr.f; omega
  refine ⟨fun a b ha hb' hab y hy z hz => ?_, fun x hx => ?_⟩
  · have := List.pairwise_iff_getElem.1 i2 a b ha hb' hab z hz y hy
    exact (meet_disj (hb _ (List.getElem_mem _) z hz) (hb _ (List.getElem_mem _) y hy) this).symm
  · refine List.Pairwise.imp_of_mem ?_ (i3 x hx)
    intro a b ha hb' hm
    exact (meet_disj (hb x hx b hb') (hb x hx a ha) hm).symm
theorem holds_not {k : Int} {a b : Slt} (h : Disj a b) (ha : holds k a = true) (hb : holds k b = true) : False := by
  simp only [holds, Bool.and_eq_true, decide_eq_true_eq] at ha hb
  unfold Disj at h
  omega
theorem holds_one {t : Tab} (h : tabRight t = true) {k : Int} {a b a' b' : Nat} (ha : a < t.tens.length) (hb : b < t.tens[a].slts.length) (ha' : a' < t.tens.length) (hb' : b' < t.tens[a'].slts.length) (h1 : holds k t.tens[a].slts[b] = true) (h2 : holds k t.tens[a'].slts[b'] = true) : a = a' ∧ b = b' := by
  obtain ⟨d1, d2⟩ := tens_disj h
  rcases Nat.lt_trichotomy a a' with hl | rfl | hl
  · exact (holds_not (d1 a a' ha ha' hl _ (List.getElem_mem _) _ (List.getElem_mem _)) h1 h2).elim
  · have d3 := d2 _ (List.getElem_mem ha)
    rcases Nat.lt_trichotomy b b' with hl | rfl | hl
    · exact (holds_not (List.pairwise_iff_getElem.1 d3 b b' hb hb' hl) h1 h2).elim
    · exact ⟨rfl, rfl⟩
    · exact (holds_not (List.pairwise_iff_getElem.1 d3 b' b hb' hb hl) h2 h1).elim
  · exact (holds_not (d1 a' a ha' ha hl _ (List.getElem_mem _) _ (List.getElem_mem _)) h2 h1).elim
theorem atA_none {k : Int} : ∀ {l : List Ten} {i : Nat}, atA k l i = (-1, -1) → ∀ x ∈ l, ∀ s ∈ x.slts, holds k s = false
  | [], _, _ => fun x hx => by cases hx
  | x :: l, i, h => by
    unfold atA at h
    split at h
    · rename_i h1
      have := congrArg Prod.fst h
      simp only at this
      omega
    · rename_i h1
      intro y hy s hs
      rcases List.mem_cons.1 hy with rfl | hy
      · have h2 : y.slts.any (holds k) = false := by rw [← idxF_any _ _ 0]; exact decide_eq_false h1
        have := List.any_eq_false.1 h2 s hs
        simpa using this
      · exact atA_none h y hy s hs
theorem atS_at {t : Tab} (h : tabRight t = true) {tick : Int} (h0 : 0 ≤ tick) {a b : Nat} (ha : a < t.tens.length) (hb : b < t.tens[a].slts.length) (h1 : holds (tick.tmod t.frame) t.tens[a].slts[b] = true) : atS t tick = ((a : Int), (b : Int)) := by
  rcases atS_bound t tick with h2 | ⟨a', b', ha', hb', e, h3, _, _⟩
  · rw [atS_yes h0 h] at h2
    have := atA_none h2 _ (List.getElem_mem ha) _ (List.getElem_mem hb)
    rw [this] at h1; cases h1
  · obtain ⟨rfl, rfl⟩ := holds_one h ha hb ha' hb' h1 h3
    exact e
structure Lok (L : List Slt) (frame : Int) : Prop where
  f : 1 ≤ frame ∧ frame ≤ 2000
  n : 1 ≤ L.length ∧ L.length ≤ 3
  p : ∀ a, a < L.length → 0 ≤ (gS L a).pos ∧ 72 ≤ (gS L a).len ∧ (gS L a).pos + (gS L a).len ≤ frame
  s : ∀ a b, a < b → b < L.length → (gS L a).pos + (gS L a).len ≤ (gS L b).pos
theorem lok_sort {t : Tab} (h : tabRight t = true) {x : Ten} (hx : x ∈ t.tens) : Lok (sortS x.slts) t.frame := by
  have hr := right_rt h
  have hp : ∀ a, a < (sortS x.slts).length → 0 ≤ (gS (sortS x.slts) a).pos ∧ 72 ≤ (gS (sortS x.slts) a).len ∧ (gS (sortS x.slts) a).pos + (gS (sortS x.slts) a).len ≤ t.frame := fun a ha => hr.p x hx _ (sortS_mem.1 (gS_mem ha))
  refine ⟨hr.f, by rw [sortS_len]; exact hr.s x hx, hp, fun a b hab hb => ?_⟩
  have h1 : (sortS x.slts).Pairwise Disj := ((sortS_perm x.slts).pairwise_iff (fun h => h.symm)).2 ((tens_disj h).2 x hx)
  have h2 := List.pairwise_iff_getElem.1 h1 a b (by omega) hb hab
  rw [← gS_get (by omega), ← gS_get hb] at h2
  have h3 := sortS_asc x.slts a b hab (by rw [sortS_len] at hb; exact hb)
  have := hp a (by omega)
  have := hp b hb
  unfold Disj at h2
  omega
theorem Lok.asc {L : List Slt} {f : Int} (h : Lok L f) : Asc L.length L := fun a b hab hb => by have := h.s a b hab hb; have := h.p a (by omega); omega
def fS (L : List Slt) (i : Int) : Slt := gS L (i % L.length).toNat
def fF (L : List Slt) (frame : Int) (i : Int) : Int := i / L.length * frame + (fS L i).pos
theorem fF_step {L : List Slt} {frame : Int} (h : Lok L frame) {i : Int} (hi : 0 ≤ i) : fF L frame i + (fS L i).len ≤ fF L frame (i + 1) := by
  have hn := h.n
  have hf := h.f
  unfold fF fS
  have h1 := Int.emod_nonneg i (show (L.length : Int) ≠ 0 by omega)
  have h2 := Int.emod_lt_of_pos i (show 0 < (L.length : Int) by omega)
  have hp := h.p (i % L.length).toNat (by omega)
  by_cases hc : i % L.length + 1 < L.length
  · have e1 : (i + 1) / L.length = i / L.length := by
      rcases (show L.length = 1 ∨ L.length = 2 ∨ L.length = 3 by omega) with e | e | e <;> rw [e] at hc ⊢ <;> omega
    have e2 : (i + 1) % L.length = i % L.length + 1 := by
      rcases (show L.length = 1 ∨ L.length = 2 ∨ L.length = 3 by omega) with e | e | e <;> rw [e] at hc ⊢ <;> omega
    rw [e1, e2]
    have := h.s (i % L.length).toNat (i % L.length + 1).toNat (by omega) (by omega)
    omega
  · have e1 : (i + 1) / L.length = i / L.length + 1 := by
      rcases (show L.length = 1 ∨ L.length = 2 ∨ L.length = 3 by omega) with e | e | e <;> rw [e] at hc ⊢ <;> omega
    have e2 : (i + 1) % L.length = 0 := by
      rcases (show L.length = 1 ∨ L.length = 2 ∨ L.length = 3 by omega) with e | e | e <;> rw [e] at hc ⊢ <;> omega
    rw [e1, e2, Int.add_mul]
    have := h.p (0 : Int).toNat (by simp; omega)
    omega
theorem fS_len {L : List Slt} {frame : Int} (h : Lok L frame) (i : Int) : 0 ≤ (fS L i).pos ∧ 72 ≤ (fS L i).len ∧ (fS L i).pos + (fS L i).len ≤ frame := by
  have hn := h.n
  have h1 := Int.emod_nonneg i (show (L.length : Int) ≠ 0 by omega)
  have h2 := Int.emod_lt_of_pos i (show 0 < (L.length : Int) by omega)
  exact h.p _ (by omega)
theorem fF_mono {L : List Slt} {frame : Int} (h : Lok L frame) {i : Int} (hi : 0 ≤ i) : ∀ k : Nat, fF L frame i ≤ fF L frame (i + k)
  | 0 => by simp
  | k + 1 => by
    have h1 := fF_mono h hi k
    have h2 := fF_step h (i := i + k) (by omega)
    have h3 := fS_len h (i + k)
    have e : i + ((k + 1 : Nat) : Int) = i + k + 1 := by omega
    rw [e]
    omega
theorem cnt_find {L : List Slt} (x : Int) : ∀ j, j ≤ L.length → (∀ a, a < j → (gS L a).pos ≤ x) ∨ ∃ i, i < j ∧ (∀ a, a < i → (gS L a).pos ≤ x) ∧ x < (gS L i).pos
  | 0, _ => .inl fun a h => by omega
  | j + 1, h => by
    rcases cnt_find (L := L) x j (by omega) with h1 | ⟨i, h1, h2, h3⟩
    · by_cases h2 : (gS L j).pos ≤ x
      · exact .inl fun a ha => by
          by_cases e : a = j
          · rw [e]; exact h2
          · exact h1 a (by omega)
      · exact .inr ⟨j, by omega, h1, by omega⟩
    · exact .inr ⟨i, by omega, h2, h3⟩
theorem cnt_spec {L : List Slt} (hA : Asc L.length L) (x : Int) : (∀ a, a < cntS x L → (gS L a).pos ≤ x) ∧ (cntS x L < L.length → x < (gS L (cntS x L)).pos) := by
  rcases cnt_find (L := L) x L.length (Nat.le_refl _) with h | ⟨i, h1, h2, h3⟩
  · rw [cntS_pre (l := L) (i := L.length) hA (Nat.le_refl _) h (fun h => absurd h (Nat.lt_irrefl _))]
    exact ⟨h, fun h => by omega⟩
  · rw [cntS_pre (l := L) (i := i) hA (by omega) h2 (fun _ => h3)]
    exact ⟨h2, fun _ => h3⟩
theorem nextL_eq {L : List Slt} {frame after k : Int} (h : Lok L frame) (ha : 0 ≤ after ∧ after ≤ 1099511627776) (hk : 0 ≤ k ∧ k ≤ 65536) : ∀ i, i = after / frame * L.length + k + cntS (after % frame) L → nextL L frame after k = (fF L frame i, fF L frame i + (fS L i).len - 1) := by
  rintro i rfl
  have hN := next_arith h.f ha hk h.n (cntS_le (after % frame) L)
  unfold nextL fF fS
  rw [hN.di, hN.mo]
structure Bd (L : List Slt) (frame after k from_ to from2 : Int) (z : Slt) : Prop where
  mem : z ∈ L
  e : ∃ d, 0 ≤ d ∧ from_ = d * frame + z.pos
  tt : to = from_ + z.len - 1
  hi : after < from_
  lo : to - after ≤ (k + 2) * frame
  nx : to < from2
theorem next_bd {L : List Slt} {frame after k : Int} (h : Lok L frame) (ha : 0 ≤ after ∧ after ≤ 1048575) (hk : 0 ≤ k ∧ k ≤ 31) :
    ∃ from_ to from2 to2 z, nextL L frame after k = (from_, to) ∧ nextL L frame after (k + 1) = (from2, to2) ∧ nextL L frame from_ 0 = (from2, to2) ∧ Bd L frame after k from_ to from2 z := by
  have hn := h.n
  have hf := h.f
  have hN := next_arith hf ⟨ha.1, by omega⟩ ⟨hk.1, by omega⟩ hn (cntS_le (after % frame) L)
  obtain ⟨q, hq⟩ : ∃ q, after / frame = q := ⟨_, rfl⟩
  obtain ⟨e, he⟩ : ∃ e, after % frame = e := ⟨_, rfl⟩
  obtain ⟨c, hc⟩ : ∃ c, cntS e L = c := ⟨_, rfl⟩
  have hcl : c ≤ L.length := by rw [← hc]; exact cntS_le _ _
  have hsp := cnt_spec h.asc e
  rw [hc] at hsp
  rw [hq, he, hc] at hN
  obtain ⟨i, hi⟩ : ∃ i, q * L.length + k + c = i := ⟨_, rfl⟩
  have e1 := nextL_eq h (after := after) (k := k) ⟨ha.1, by omega⟩ ⟨hk.1, by omega⟩ i (by rw [hq, he, hc, hi])
  have e2 := nextL_eq h (after := after) (k := k + 1) ⟨ha.1, by omega⟩ ⟨by omega, by omega⟩ (i + 1) (by rw [hq, he, hc]; omega)
  have n1 := hN.q0
  have n2 := hN.qn0
  have n3 := hN.qf
  have n4 := hN.e1
  have n5 := hN.d0
  have n6 := hN.e0
  have i0 : 0 ≤ i := by omega
  have hz := fS_len h i
  have hm0 := Int.emod_nonneg i (show (L.length : Int) ≠ 0 by omega)
  have hm1 := Int.emod_lt_of_pos i (show 0 < (L.length : Int) by omega)
  have hd : i / L.length = q + (c + k) / L.length := by rw [← hi]; exact hN.di
  have hd1 : ((c : Int) + k) / L.length ≤ k + 1 := by
    rcases (show L.length = 1 ∨ L.length = 2 ∨ L.length = 3 by omega) with e | e | e <;> rw [e] at hcl ⊢ <;> omega
  have hdf : ((c : Int) + k) / L.length * frame ≤ (k + 1) * frame := Int.mul_le_mul_of_nonneg_right hd1 (by omega)
  have hdf0 : 0 ≤ ((c : Int) + k) / L.length * frame := Int.mul_nonneg n5 (by omega)
  have hkf : (k + 1) * frame ≤ 32 * frame := Int.mul_le_mul_of_nonneg_right (by omega) (by omega)
  have hk2 : (k + 2) * frame = (k + 1) * frame + frame := by rw [show k + 2 = k + 1 + 1 by omega, Int.add_mul (k + 1) 1, Int.one_mul]
  have hF : fF L frame i = q * frame + ((c : Int) + k) / L.length * frame + (fS L i).pos := by
    unfold fF
    rw [hd, Int.add_mul]
  have hafter : after < fF L frame i := by
    have h1 : after < fF L frame (q * L.length + c) := by
      have hD := next_arith (k := 0) hf ⟨ha.1, by omega⟩ ⟨by omega, by omega⟩ hn hcl
      rw [hq, he] at hD
      have d1 := hD.di
      have d2 := hD.mo
      rw [show q * (L.length : Int) + 0 + c = q * L.length + c by omega, show (c : Int) + 0 = c by omega] at d1 d2
      unfold fF fS
      rw [d1, d2]
      by_cases h2 : c < L.length
      · have := hsp.2 h2
        rw [Int.ediv_eq_zero_of_lt (by omega) (by omega), Int.emod_eq_of_lt (by omega) (by omega), Int.toNat_natCast, Int.add_zero]
        omega
      · have h3 : c = L.length := by omega
        rw [h3, Int.ediv_self (by omega), Int.emod_self, Int.add_mul, Int.one_mul]
        have := h.p 0 (by omega)
        show after < q * frame + frame + (gS L 0).pos
        omega
    have h2 := fF_mono h (i := q * L.length + c) (by omega) k.toNat
    rw [show q * (L.length : Int) + c + (k.toNat : Int) = i by omega] at h2
    omega
  have hstep := fF_step h i0
  have hlo : fF L frame i + (fS L i).len - 1 - after ≤ (k + 2) * frame := by rw [hk2]; omega
  have hdd : 0 ≤ i / L.length := Int.ediv_nonneg i0 (by omega)
  have hfr : fF L frame i / frame = i / L.length := by
    unfold fF
    rw [Int.add_comm, Int.add_mul_ediv_right _ _ (by omega), Int.ediv_eq_zero_of_lt hz.1 (by omega)]
    omega
  have hfe : fF L frame i % frame = (fS L i).pos := by
    unfold fF
    rw [Int.add_comm, Int.add_mul_emod_self_right, Int.emod_eq_of_lt hz.1 (by omega)]
  have hcc : cntS (fS L i).pos L = (i % L.length).toNat + 1 := by
    refine cntS_pre h.asc (by omega) (fun a ha => ?_) (fun hl => ?_)
    · by_cases e : a = (i % L.length).toNat
      · rw [e]; exact Int.le_refl _
      · exact h.asc a (i % L.length).toNat (by omega) (by omega)
    · have := h.s (i % L.length).toNat ((i % L.length).toNat + 1) (by omega) hl
      have := h.p (i % L.length).toNat (by omega)
      show (gS L (i % L.length).toNat).pos < _
      omega
  have e3 := nextL_eq h (after := fF L frame i) (k := 0) ⟨by omega, by omega⟩ ⟨by omega, by omega⟩ (i + 1) (by
    rw [hfr, hfe, hcc]
    have := Int.mul_ediv_add_emod i L.length
    rw [Int.mul_comm] at this
    omega)
  exact ⟨_, _, _, _, fS L i, e1, e2, e3, ⟨gS_mem (by omega), ⟨i / L.length, hdd, rfl⟩, rfl, hafter, hlo, by omega⟩⟩
theorem atS_whole {t : Tab} {tick m : Int} (h0 : 0 ≤ tick) (hm : 0 ≤ m * t.frame) : atS t (tick + m * t.frame) = atS t tick := by
  cases h : tabRight t with
  | false => rw [atS_not h, atS_not h]
  | true => rw [atS_yes (by omega) h, atS_yes h0 h, tmod_pos (by omega), tmod_pos h0, Int.add_mul_emod_self_right]
end Go.Proofs
namespace Go.Proofs
open Go.PM Go
def cellsW (w : Win) : List (Int × Int) := (List.range w.cnt.toNat).map fun q : Nat => (w.space, w.phys + (q : Int))
def cellsT (x : Ten) : List (Int × Int) := x.wins.flatMap cellsW
def ticksS (s : Slt) : List Int := (List.range s.len.toNat).map fun q : Nat => s.pos + (q : Int)
def ticksT (x : Ten) : List Int := x.slts.flatMap ticksS
theorem cellsW_mem {w : Win} {c : Int × Int} (h : c ∈ cellsW w) : c.1 = w.space ∧ w.phys ≤ c.2 ∧ c.2 < w.phys + w.cnt := by
  unfold cellsW at h
  obtain ⟨q, hq, rfl⟩ := List.mem_map.1 h
  have := List.mem_range.1 hq
  exact ⟨rfl, by simp only; omega, by simp only; omega⟩
theorem ticksS_mem {w : Slt} {c : Int} (h : c ∈ ticksS w) : w.pos ≤ c ∧ c < w.pos + w.len := by
  unfold ticksS at h
  obtain ⟨q, hq, rfl⟩ := List.mem_map.1 h
  have := List.mem_range.1 hq
  omega
theorem cellsW_nodup (w : Win) : (cellsW w).Nodup := by
  unfold cellsW
  exact List.pairwise_map.2 (List.Pairwise.imp (fun hne h => hne (by have := congrArg Prod.snd h; simp only at this; omega)) List.nodup_range)
theorem ticksS_nodup (w : Slt) : (ticksS w).Nodup := by
  unfold ticksS
  exact List.pairwise_map.2 (List.Pairwise.imp (fun hne h => hne (by omega)) List.nodup_range)
theorem win_disj {a b : Win} (ha : winRight a = true) (hb : winRight b = true) (h : winMeet a b = false) : ∀ x ∈ cellsW a, ∀ y ∈ cellsW b, x ≠ y := by
  rintro x hx y hy rfl
  have h1 := cellsW_mem hx
  have h2 := cellsW_mem hy
  have ra := ha
  have rb := hb
  simp only [winRight, Bool.and_eq_true, decide_eq_true_eq] at ra rb
  have r1 := spRight_b ra.2
  have r2 := spRight_b rb.2
  simp only [Win.p] at r1 r2
  have e1 : spRight a.p great = true := spRight_iff.2 (by simp only [Win.p, great]; omega)
  have e2 : spRight b.p great = true := spRight_iff.2 (by simp only [Win.p, great]; omega)
  have e3 : spMeets a.p b.p = true := by
    unfold spMeets
    rw [e1, e2]
    simp only [Bool.and_self, Bool.true_and]
    exact decide_eq_true (by simp only [Win.p]; omega)
  unfold winMeet at h
  rw [e3, ha, hb] at h
  have : a.space = b.space := by omega
  simp [this] at h
theorem winsOwnA_no : ∀ {l ahead : List Win}, winsOwnA ahead l = true → (∀ x ∈ l, ∀ y ∈ ahead, winBad x y = false) ∧ l.Pairwise (fun a b => winBad b a = false)
  | [], _, _ => ⟨fun x hx => (by cases hx), .nil⟩
  | x :: l, ahead, h => by
    unfold winsOwnA at h
    simp only [Bool.and_eq_true] at h
    obtain ⟨i1, i2⟩ := winsOwnA_no h.2
    refine ⟨fun z hz y hy => ?_, .cons (fun z hz => i1 z hz x (by simp)) i2⟩
    rcases List.mem_cons.1 hz with rfl | hz
    · have := List.all_eq_true.1 h.1 y hy
      simpa using this
    · exact i1 z hz y (by simp [hy])
theorem tabWhereA_w {f : Int} : ∀ {l done : List Ten}, (tabWhereA f done l).1 = 0 → (∀ x ∈ l, ∀ y ∈ done, winsMeet x.wins y.wins = false) ∧ l.Pairwise (fun y x => winsMeet x.wins y.wins = false) ∧ ∀ x ∈ l, tenWhy x f = 0
  | [], done, _ => ⟨fun s hs => (by cases hs), .nil, fun s hs => (by cases hs)⟩
  | x :: l, done, h => by
    unfold tabWhereA at h
    split at h
    · rename_i hne; exact absurd h hne
    split at h
    · rename_i hne; exact absurd h hne
    rename_i h1 h2
    obtain ⟨i1, i2, i3⟩ := tabWhereA_w h
    have h2 : tenBeside x done = 0 := by omega
    unfold tenBeside at h2
    split at h2
    · cases h2
    rename_i h3
    refine ⟨fun y hy z hz => ?_, .cons (fun y hy => i1 y hy x (by simp)) i2, fun y hy => ?_⟩
    · rcases List.mem_cons.1 hy with rfl | hy
      · have : (done.any fun z => winsMeet y.wins z.wins) = false := by simpa using h3
        have := List.any_eq_false.1 this z hz
        simpa using this
      · exact i1 y hy z (by simp [hz])
    · rcases List.mem_cons.1 hy with rfl | hy
      · omega
      · exact i3 y hy
theorem cells_nodup {t : Tab} (h : tabRight t = true) : (t.tens.flatMap cellsT).Nodup := by
  have h0 : (tabWhere t).1 = 0 := by simpa [tabRight] using h
  unfold tabWhere at h0
  split at h0
  · cases h0
  split at h0
  · cases h0
  obtain ⟨i1, i2, i3⟩ := tabWhereA_w h0
  have hr : ∀ x ∈ t.tens, ∀ w ∈ x.wins, winRight w = true := fun x hx => (tenWhy_few (i3 x hx)).2.2.2.2.2.1
  have hown : ∀ x ∈ t.tens, winsOwn x.wins = true := fun x hx => by
    have := i3 x hx
    unfold tenWhy at this
    split at this
    · cases this
    split at this
    · cases this
    split at this
    · cases this
    split at this
    · cases this
    rename_i h4
    simp only [Bool.or_eq_true, not_or] at h4
    simpa using h4.2
  unfold List.Nodup
  rw [List.pairwise_flatMap]
  refine ⟨fun x hx => ?_, ?_⟩
  · unfold cellsT
    rw [List.pairwise_flatMap]
    refine ⟨fun w hw => cellsW_nodup w, ?_⟩
    have := (winsOwnA_no (hown x hx)).2
    refine List.Pairwise.imp_of_mem ?_ this
    intro a b ha hb hab c hc d hd
    have hm : winMeet b a = false := by
      unfold winBad at hab
      simp only [Bool.or_eq_false_iff] at hab
      exact hab.1
    exact fun e => win_disj (hr x hx b hb) (hr x hx a ha) hm d hd c hc e.symm
  · refine List.Pairwise.imp_of_mem ?_ i2
    intro y x hy hx hyx c hc d hd e
    unfold cellsT at hc hd
    obtain ⟨w, hw, hc⟩ := List.mem_flatMap.1 hc
    obtain ⟨v, hv, hd⟩ := List.mem_flatMap.1 hd
    unfold winsMeet at hyx
    have h1 := List.any_eq_false.1 hyx v hv
    have h1 : (y.wins.any fun y => winMeet v y) = false := by simpa using h1
    have h2 := List.any_eq_false.1 h1 w hw
    exact win_disj (hr x hx v hv) (hr y hy w hw) (by simpa using h2) d hd c hc e.symm
theorem ticks_nodup {t : Tab} (h : tabRight t = true) : (t.tens.flatMap ticksT).Nodup := by
  obtain ⟨d1, d2⟩ := tens_disj h
  have dis : ∀ {a b : Slt}, Disj a b → ∀ x ∈ ticksS a, ∀ y ∈ ticksS b, x ≠ y := by
    rintro a b hd x hx y hy rfl
    have h1 := ticksS_mem hx
    have h2 := ticksS_mem hy
    unfold Disj at hd
    omega
  unfold List.Nodup
  rw [List.pairwise_flatMap]
  refine ⟨fun x hx => ?_, ?_⟩
  · unfold ticksT
    rw [List.pairwise_flatMap]
    exact ⟨fun w hw => ticksS_nodup w, (d2 x hx).imp fun hd => dis hd⟩
  · rw [List.pairwise_iff_getElem]
    intro i j hi hj hij c hc d hd
    unfold ticksT at hc hd
    obtain ⟨w, hw, hc⟩ := List.mem_flatMap.1 hc
    obtain ⟨v, hv, hd⟩ := List.mem_flatMap.1 hd
    exact dis (d1 i j hi hj hij w hw v hv) c hc d hd
theorem nodup_next {α : Type} {l pre post : List α} {x : α} (h : l.Nodup) (e : l = pre ++ x :: post) : x ∉ pre := by
  subst e
  intro hx
  exact (List.nodup_append.1 h).2.2 x hx x (by simp) rfl
def Keys2 (es : List (PV × PV)) (ks : List (Int × Int)) : Prop := ∀ a b, (a, b) ∉ ks → pfind .i64 a b es 0 = some none
def Keys1 (es : List (PV × PV)) (ks : List Int) : Prop := ∀ a, a ∉ ks → mfind .i64 a es 0 = some none
theorem pfind_snoc {a b c d : Int} {v : PV} (hne : ¬ (a = c ∧ b = d)) : ∀ {es : List (PV × PV)} {i : Nat}, pfind .i64 a b es i = some none → pfind .i64 a b (es ++ [(.agg [.int .i64 c, .int .i64 d], v)]) i = some none
  | [], i, _ => by simp [pfind, hne]
  | (key, w) :: es, i, h => by
    simp only [List.cons_append]
    unfold pfind at h ⊢
    split at h
    case h_2 => cases h
    split at h
    case isFalse => cases h
    rename_i hk
    split at h
    · cases h
    · rename_i hn
      obtain ⟨rfl, rfl⟩ := hk
      rw [if_pos ⟨rfl, rfl⟩, if_neg hn]
      exact pfind_snoc hne h
theorem mfind_snoc {a c : Int} {v : PV} (hne : a ≠ c) : ∀ {es : List (PV × PV)} {i : Nat}, mfind .i64 a es i = some none → mfind .i64 a (es ++ [(.int .i64 c, v)]) i = some none
  | [], i, _ => by simp [mfind, hne]
  | (key, w) :: es, i, h => by
    simp only [List.cons_append]
    unfold mfind at h ⊢
    split at h
    case h_2 => cases h
    split at h
    case isFalse => cases h
    rename_i hk
    split at h
    · cases h
    · rename_i hn
      subst hk
      rw [if_pos rfl, if_neg hn]
      exact mfind_snoc hne h
theorem Keys2.snoc {es : List (PV × PV)} {ks : List (Int × Int)} (h : Keys2 es ks) {c d : Int} {v : PV} : Keys2 (es ++ [(.agg [.int .i64 c, .int .i64 d], v)]) (ks ++ [(c, d)]) := fun a b hab => by
  simp only [List.mem_append, List.mem_singleton, not_or, Prod.mk.injEq] at hab
  exact pfind_snoc hab.2 (h a b hab.1)
theorem Keys1.snoc {es : List (PV × PV)} {ks : List Int} (h : Keys1 es ks) {c : Int} {v : PV} : Keys1 (es ++ [(.int .i64 c, v)]) (ks ++ [c]) := fun a hab => by
  simp only [List.mem_append, List.mem_singleton, not_or] at hab
  exact mfind_snoc hab.2 (h a hab.1)
theorem range_snoc (n : Nat) : List.range (n + 1) = List.range n ++ [n] := List.range_succ
def cellsI (t : Tab) (i : Nat) : List (Int × Int) := (t.tens.take i).flatMap cellsT
def ticksI (t : Tab) (i : Nat) : List Int := (t.tens.take i).flatMap ticksT
theorem cellsI_step {t : Tab} {i : Nat} (h : i < t.tens.length) : cellsI t (i + 1) = cellsI t i ++ cellsT t.tens[i] := by unfold cellsI; rw [take_get h, List.flatMap_append]; simp
theorem ticksI_step {t : Tab} {i : Nat} (h : i < t.tens.length) : ticksI t (i + 1) = ticksI t i ++ ticksT t.tens[i] := by unfold ticksI; rw [take_get h, List.flatMap_append]; simp
theorem cells_new {t : Tab} (hR : tabRight t = true) {i j q : Nat} (hi : i < t.tens.length) (hj : j < t.tens[i].wins.length) (hq : (q : Int) < t.tens[i].wins[j].cnt) :
    (t.tens[i].wins[j].space, t.tens[i].wins[j].phys + q) ∉ cellsI t i ++ (t.tens[i].wins.take j).flatMap cellsW ++ (List.range q).map (fun q : Nat => (t.tens[i].wins[j].space, t.tens[i].wins[j].phys + (q : Int))) := by
  refine nodup_next (post := ((List.range t.tens[i].wins[j].cnt.toNat).drop (q + 1)).map (fun q : Nat => (t.tens[i].wins[j].space, t.tens[i].wins[j].phys + (q : Int))) ++ (t.tens[i].wins.drop (j + 1)).flatMap cellsW ++ (t.tens.drop (i + 1)).flatMap cellsT) (cells_nodup hR) ?_
  have e0 : List.range t.tens[i].wins[j].cnt.toNat = List.range q ++ q :: (List.range t.tens[i].wins[j].cnt.toNat).drop (q + 1) := by
    have h1 := List.take_append_drop q (List.range t.tens[i].wins[j].cnt.toNat)
    rw [List.take_range, Nat.min_eq_left (by omega), drop_get (by rw [List.length_range]; omega), List.getElem_range] at h1
    exact h1.symm
  have e1 : t.tens[i].wins = t.tens[i].wins.take j ++ t.tens[i].wins[j] :: t.tens[i].wins.drop (j + 1) := by
    have h1 := List.take_append_drop j t.tens[i].wins
    rw [drop_get hj] at h1
    exact h1.symm
  have e2 : t.tens = t.tens.take i ++ t.tens[i] :: t.tens.drop (i + 1) := by
    have h1 := List.take_append_drop i t.tens
    rw [drop_get hi] at h1
    exact h1.symm
  have c1 : cellsW t.tens[i].wins[j] = (List.range q).map (fun q : Nat => (t.tens[i].wins[j].space, t.tens[i].wins[j].phys + (q : Int))) ++ (t.tens[i].wins[j].space, t.tens[i].wins[j].phys + (q : Int)) :: ((List.range t.tens[i].wins[j].cnt.toNat).drop (q + 1)).map (fun q : Nat => (t.tens[i].wins[j].space, t.tens[i].wins[j].phys + (q : Int))) := by
    unfold cellsW
    conv => lhs; rw [e0]
    rw [List.map_append, List.map_cons]
  have c2 : cellsT t.tens[i] = (t.tens[i].wins.take j).flatMap cellsW ++ cellsW t.tens[i].wins[j] ++ (t.tens[i].wins.drop (j + 1)).flatMap cellsW := by
    unfold cellsT
    conv => lhs; rw [e1]
    rw [List.flatMap_append, List.flatMap_cons, List.append_assoc]
  conv => lhs; rw [e2]
  rw [List.flatMap_append, List.flatMap_cons, c2, c1]
  simp only [cellsI, List.append_assoc, List.cons_append]
theorem ticks_new {t : Tab} (hR : tabRight t = true) {i j q : Nat} (hi : i < t.tens.length) (hj : j < t.tens[i].slts.length) (hq : (q : Int) < t.tens[i].slts[j].len) :
    t.tens[i].slts[j].pos + (q : Int) ∉ ticksI t i ++ (t.tens[i].slts.take j).flatMap ticksS ++ (List.range q).map (fun q : Nat => t.tens[i].slts[j].pos + (q : Int)) := by
  refine nodup_next (post := ((List.range t.tens[i].slts[j].len.toNat).drop (q + 1)).map (fun q : Nat => t.tens[i].slts[j].pos + (q : Int)) ++ (t.tens[i].slts.drop (j + 1)).flatMap ticksS ++ (t.tens.drop (i + 1)).flatMap ticksT) (ticks_nodup hR) ?_
  have e0 : List.range t.tens[i].slts[j].len.toNat = List.range q ++ q :: (List.range t.tens[i].slts[j].len.toNat).drop (q + 1) := by
    have h1 := List.take_append_drop q (List.range t.tens[i].slts[j].len.toNat)
    rw [List.take_range, Nat.min_eq_left (by omega), drop_get (by rw [List.length_range]; omega), List.getElem_range] at h1
    exact h1.symm
  have e1 : t.tens[i].slts = t.tens[i].slts.take j ++ t.tens[i].slts[j] :: t.tens[i].slts.drop (j + 1) := by
    have h1 := List.take_append_drop j t.tens[i].slts
    rw [drop_get hj] at h1
    exact h1.symm
  have e2 : t.tens = t.tens.take i ++ t.tens[i] :: t.tens.drop (i + 1) := by
    have h1 := List.take_append_drop i t.tens
    rw [drop_get hi] at h1
    exact h1.symm
  have c1 : ticksS t.tens[i].slts[j] = (List.range q).map (fun q : Nat => t.tens[i].slts[j].pos + (q : Int)) ++ (t.tens[i].slts[j].pos + (q : Int)) :: ((List.range t.tens[i].slts[j].len.toNat).drop (q + 1)).map (fun q : Nat => t.tens[i].slts[j].pos + (q : Int)) := by
    unfold ticksS
    conv => lhs; rw [e0]
    rw [List.map_append, List.map_cons]
  have c2 : ticksT t.tens[i] = (t.tens[i].slts.take j).flatMap ticksS ++ ticksS t.tens[i].slts[j] ++ (t.tens[i].slts.drop (j + 1)).flatMap ticksS := by
    unfold ticksT
    conv => lhs; rw [e1]
    rw [List.flatMap_append, List.flatMap_cons, List.append_assoc]
  conv => lhs; rw [e2]
  rw [List.flatMap_append, List.flatMap_cons, c2, c1]
  simp only [ticksI, List.append_assoc, List.cons_append]
end Go.Proofs
namespace Go.PM
open Go
section
variable {P : Program} {N : Nat} {k : List KI} {e : Env} {s : St} {rt : Env → St → Prop}
theorem RunO.thaw {ops : Array Oper} {l : List Oper} (i id fuel : Nat) {v : PV} (hv : (e.get i).frz false s (fun j => j != id) fuel = v) (hb : v.blw s.nxt) (h : RunO P N ops l k ((i, v) :: e) (s.set id none) rt) : RunO P N ops l k e s rt := by
  intro ok okk idx hidx g w a hI hE hd hN
  have hX : Ext g w (g.keep s.nxt (fun i => i != id)) w := keep_ext _ (by rw [hI.nxt]; exact Nat.le_refl _)
  have hI' : Inv P (g.keep s.nxt (fun i => i != id)) (s.set id none) w := by
    have := keep_inv hI s.nxt (fun i => i != id) (fun i _ hi => hI.id_lt hi) (fun i b _ hb => hI.blw hb)
    have e : s.keep s.nxt (fun i => i != id) = s.set id none := by
      simp only [St.keep, St.set, St.mk.injEq, true_and]
      funext i
      by_cases hi : i = id
      · subst hi; simp
      · simp [hi]
    rw [e] at this
    exact this
  refine RunO.eff.wpOps_lift hX (h ok okk idx hidx _ w a hI' (fun j => ?_) hd hN)
  simp only [Env.get]
  split
  · rename_i hj
    subst hj
    have := R_frz hI s.nxt false (fun j => j != id) fuel (e.get j) (a.tmps.getD j undef) (by rw [hv]; exact hb) (hE j)
    rw [hv] at this
    exact this
  · exact R_ext hX _ _ (hE j)
end
theorem frz_own_ints {s : St} {q : Nat → Bool} {id n : Nat} {t : TypeId} {ik : IntKind} {l : List Int} (hn : n = l.length) (hq : q id = false) (hb : s.blk id = some (.row t (l.map (PV.int ik)))) : PV.frz false s q 2 (.own id 0 n) = .sl .unk (l.map (PV.int ik)) := by
  subst hn
  unfold PV.frz
  rw [if_neg (by rw [hq]; simp), hb]
  simp only [Nat.zero_add, List.length_map, Nat.le_refl, if_true, List.drop_zero, List.take_length]
  rw [show (l.map (PV.int ik)).take l.length = l.map (PV.int ik) by rw [← List.length_map (f := PV.int ik), List.take_length], List.map_map]
  congr 1
end Go.PM
namespace Go.PM
open Go
theorem reserve_step {P g s w} (h : Inv P g s w) : ∃ g', Inv P g' (s.new .res) w ∧ Ext g w g' w := by
  let g' : G := { nxt := g.nxt + 1, rows := upd g.rows s.nxt none, live := g.live, toks := g.toks, lim := g.lim }
  have hn := h.rows_none (Nat.le_refl s.nxt)
  have hk : ∀ b, g'.isRow b → g.isRow b := by
    rintro b ⟨id, sz, e, l⟩
    by_cases hid : id = s.nxt
    · subst hid; rw [show g'.rows s.nxt = none from upd_eq _ _ _] at e; cases e
    · rw [show g'.rows id = g.rows id from upd_ne _ _ hid] at e
      exact ⟨id, sz, e, l⟩
  have e : Ext g w g' w :=
    { os := rfl, tape := rfl, output := rfl, size := Nat.le_refl _, nxt := Nat.le_succ _, rd := fun _ _ _ _ h => h
      free := fun b n _ hf => ⟨fun k => hf.1 (hk b k), hf.2⟩
      same := fun _ _ _ _ => rfl
      rows := fun id hid x e => (upd_ne _ _ (by have := h.nxt; omega) : g'.rows id = g.rows id).trans e
      csz := fun _ _ => rfl, toks := toks_keep (fun _ _ => rfl) (fun _ _ _ _ => rfl) }
  refine ⟨g', ?_, e⟩
  refine Inv.step s.nxt h e (by show g.nxt + 1 = s.nxt + 1; rw [h.nxt]) ?_ ?_ ?_ ?_ ?_ ?_ ?_ ?_ ?_ (fun _ _ _ _ _ _ => rfl) (fun b m l => by rw [show g'.live s.nxt = false from hn.1] at l; cases l)
  · intro i hi
    simp only [St.new] at hi ⊢
    rw [if_neg (by omega)]
    exact h.wf i (by omega)
  · exact fun id hid => ⟨if_neg hid, upd_ne _ _ hid, rfl, rfl⟩
  · exact fun id b n hid l e => rfl
  · intro id b n hid et
    exact ⟨rfl, fun k => (h.toklt et).2.1 (hk _ k)⟩
  · exact fun b hb => hb
  · simp only [St.new, if_true, At]
    exact ⟨hn.1, hn.2, upd_eq _ _ _⟩
  · intro b m j n hx
    rw [show g'.live s.nxt = false from hn.1] at hx
    cases hx
  · intro b m j n hx
    rw [show g'.toks s.nxt = none from hn.2] at hx
    cases hx
  · exact fun b e hl => h.lim b e hl
theorem resRow_step {P g s w} (h : Inv P g s w) {id : Nat} (hid : s.blk id = some .res) {t ty : TypeId} {els vs} {c : Array Value} (hsz : 0 < P.cellsOf t) (hr : RA g w els vs) (hc : flat vs <+: c.toList)
    (hv : ∀ v ∈ vs, v.cells.size = P.cellsOf t ∧ ∀ x ∈ v.cells.toList, x.flat = true) :
    ∃ g', Inv P g' (s.set id (some (.row t els))) (World.newB w (.cells c ty (0, 0))) ∧ Ext g w g' (World.newB w (.cells c ty (0, 0))) ∧
      g'.rows id = some (w.heap.size, P.cellsOf t) ∧ g'.nxt = s.nxt := by
  let g' : G := { nxt := g.nxt, rows := upd g.rows id (some (w.heap.size, P.cellsOf t)), live := updB g.live id true, toks := g.toks, lim := g.lim }
  have hat := h.at' id
  rw [hid] at hat
  obtain ⟨a1, a2, a3⟩ := hat
  have hlt : id < s.nxt := h.id_lt (by rw [hid]; simp)
  have hold : ∀ i x, g.rows i = some x → g'.rows i = some x := by
    intro i x e
    by_cases hi : i = id
    · subst hi; rw [a3] at e; cases e
    · exact (upd_ne _ _ hi : g'.rows i = g.rows i).trans e
  have hrow : ∀ b, b < w.heap.size → g'.isRow b → g.isRow b := by
    intro b hb hk
    rcases isRow_upd rfl (fun i hi => updB_ne _ _ hi) hk with r | r
    · omega
    · exact r
  have e : Ext g w g' (World.newB w (.cells c ty (0, 0))) :=
    { os := rfl, tape := rfl, output := rfl, size := by rw [newB_size]; omega, nxt := Nat.le_refl _
      rd := fun b o v _ hc => by rw [cell_of_heap (newB_old w _ (cell_lt hc))]; exact hc
      free := fun b n hb hf => ⟨fun k => hf.1 (hrow b hb k), hf.2⟩
      same := fun b hb _ _ => newB_old w _ hb
      rows := fun i _ x e => hold i x e
      csz := fun b hb => csize_of_heap (newB_old w _ hb)
      toks := toks_keep (fun _ _ => rfl) (fun _ _ _ _ => rfl) }
  refine ⟨g', ?_, e, upd_eq _ _ _, h.nxt⟩
  refine Inv.step id h e h.nxt ?_ ?_ ?_ ?_ ?_ ?_ ?_ ?_ ?_ (fun _ _ _ _ _ _ => rfl) (fun b m _ e => by rw [show g'.rows id = some (w.heap.size, P.cellsOf t) from upd_eq _ _ _] at e; cases e; exact (h.newfree (Nat.le_refl _)).2)
  · intro i hi
    simp only [St.set] at hi ⊢
    rw [if_neg (by omega)]
    exact h.wf i (by omega)
  · exact fun i hi => ⟨if_neg hi, upd_ne _ _ hi, updB_ne _ _ hi, rfl⟩
  · exact fun i b n hi l e => newB_old w _ (h.rowlt l e)
  · intro i b n hi et
    refine ⟨rfl, fun hk => ?_⟩
    have ⟨h1, h2, _⟩ := h.toklt et
    exact h2 (hrow b h1 hk)
  · exact fun b hb => writable_of_heap (newB_old w _ hb.lt) hb
  · simp only [St.set, if_true, At]
    exact ⟨a2, updB_eq _ _ _, w.heap.size, vs, upd_eq _ _ _, hsz, newB_writable _ _ _, newB_cells _ _ _ _ _ hc, hv, RA_ext e _ _ hr⟩
  · intro b m j n _ hx hj lj hjr
    have : g'.rows id = some (w.heap.size, P.cellsOf t) := upd_eq _ _ _
    rw [this] at hx
    cases hx
    have := h.rowlt lj hjr
    omega
  · intro b m j n hx
    rw [show g'.toks id = none from a2] at hx
    cases hx
  · intro b e' hl
    have := h.lim b e' hl
    rw [newB_size]
    omega
theorem resAlloc_run {P : Program} {g s w} {a : Act} {o : Oper} {t : TypeId} {z : PV} {id : Nat} (h : Inv P g s w) (hid : s.blk id = some .res) (ho : o.op = .alloc t) (hz : zpv P t = some z) : Effect P o g w a (.ptr id 0 0) (s.set id (some (.row t [z]))) := by
  unfold Effect execOp
  rw [ho]
  obtain ⟨zv, h1, h2, h3, h4, h5, h6, h7⟩ := zero_run (P := P) (w := w) hz
  subst h2
  have hR := pvOf_R g w zv fun cs e x hx => by subst e; simp only [flatV, List.all_eq_true] at h3; exact h3 x hx
  obtain ⟨c1, c2, c3⟩ := RA_cells hR h7
  obtain ⟨g', k1, k2, k3, k4⟩ := resRow_step (t := t) (ty := t) (els := [pvOf zv]) (vs := [zv]) (c := zv.cells) h hid h5 (by simp only [RA]; exact ⟨zv, [], rfl, hR, rfl⟩)
    (by simp [flat]) (fun x hx => by simp at hx; subst hx; exact ⟨by omega, c2⟩)
  have hlt : id < s.nxt := h.id_lt (by rw [hid]; simp)
  refine ⟨.pointer (some ⟨w.heap.size, 0, none⟩), _, g', .inl ?_, k1, k2, ?_⟩
  · simp only [Instr.alloc, bind_run, h1, newVar_run, pure_run]
  · simp only [R]
    exact ⟨by omega, _, _, k3, by simp⟩
theorem set_comm (s : St) {i j : Nat} (h : i ≠ j) (b c : Option Blk) : (s.set i b).set j c = (s.set j c).set i b := by
  simp only [St.set, St.mk.injEq, true_and]
  funext k
  by_cases h1 : k = i
  · subst h1; simp [h]
  · by_cases h2 : k = j
    · subst h2; simp [h1]
    · simp [h1, h2]
theorem aAppend_clip {P : Program} {e : TypeId} {xs ys : List PV} {s : St} (hy : ys ≠ []) : aAppend P e .clip xs ys s = some (.sl (.tok s.nxt (P.cellsOf e)) (xs ++ ys), s.new (.tok (xs.length + ys.length))) := by unfold aAppend; rw [if_neg hy]
theorem aAppend_clip_set {P : Program} {e : TypeId} {xs ys : List PV} {s : St} {X : Nat} {r : Option Blk} (hy : ys ≠ []) (hX : X ≠ s.nxt) : aAppend P e .clip xs ys (s.set X r) = some (.sl (.tok s.nxt (P.cellsOf e)) (xs ++ ys), (s.new (.tok (xs.length + ys.length))).set X r) := by
  rw [aAppend_clip hy, set_new_ne _ _ _ _ hX]; rfl
theorem aAppend_tok {P : Program} {e : TypeId} {xs ys : List PV} {s : St} {t L : Nat} (hy : ys ≠ []) (ht : s.blk t = some (.tok L)) (hL : L = xs.length) : aAppend P e (.tok t (P.cellsOf e)) xs ys s = some (.sl (.tok t (P.cellsOf e)) (xs ++ ys), s.set t (some (.tok (xs.length + ys.length)))) := by
  unfold aAppend
  rw [if_neg hy]
  simp only [ht, hL, and_self, if_true]
theorem aAppend_tok_set {P : Program} {e : TypeId} {xs ys : List PV} {s : St} {t L X : Nat} {r : Option Blk} (hy : ys ≠ []) (ht : s.blk t = some (.tok L)) (hL : L = xs.length) (hX : t ≠ X) : aAppend P e (.tok t (P.cellsOf e)) xs ys (s.set X r) = some (.sl (.tok t (P.cellsOf e)) (xs ++ ys), (s.set t (some (.tok (xs.length + ys.length)))).set X r) := by
  rw [aAppend_tok hy (by rw [blk_set, if_neg hX]; exact ht) hL, set_comm _ hX]
theorem aAppend_clip_any {P : Program} {e : TypeId} {xs ys : List PV} {s : St} {X : Nat} (hX : X < s.nxt) : ∃ k s', (∀ r, aAppend P e .clip xs ys (s.set X r) = some (.sl k (xs ++ ys), s'.set X r)) ∧ aAppend P e .clip xs ys s = some (.sl k (xs ++ ys), s') ∧ s.nxt ≤ s'.nxt ∧ (∀ i, i < s.nxt → s'.blk i = s.blk i) ∧ (s.wf → s'.wf) := by
  by_cases hy : ys = []
  · subst hy
    exact ⟨.clip, s, fun r => by unfold aAppend; rw [if_pos rfl, List.append_nil], by unfold aAppend; rw [if_pos rfl, List.append_nil], Nat.le_refl _, fun _ _ => rfl, fun h => h⟩
  · exact ⟨_, _, fun r => aAppend_clip_set hy (by omega), aAppend_clip hy, by simp only [nxt_new]; omega, fun i hi => by rw [blk_new, if_neg (by omega)], fun h => new_wf h _⟩
section
variable {P : Program} {ops : Array Oper} {ws : List Nat} {al : Nat} {Gf : St → St} {σ : List St} {e e' : Env} {s s' s0 : St} {N : Nat} {k : List KI} {rt : Env → St → Prop}
theorem Run.reserve {c : Code} (h : Run P N (.code c :: k) e (s.new .res) rt) : Run P N (.code c :: k) e s rt := by
  intro ok
  have h := h ok
  intro oc g w a hI hE hd hN
  obtain ⟨g', hI', hX⟩ := reserve_step hI
  exact wp_mono (h oc g' w a hI' (fun j => R_ext hX _ _ (hE j)) hd hN) fun _ _ _ => Lift.trans hX
theorem DetGC.resAlloc {o : Oper} {l : List Oper} {i id : Nat} {t : TypeId} {z : PV} {K : Env → St → Prop} (hi : i = al) (hs : s ∈ σ) (hg : guard? ops o (Env.keep (slotsOf ops o) e) = some true) (ho : o.op = .alloc t) (hz : zpv P t = some z)
    (ha : ∀ s ∈ σ, (s.blk id = some .res ∧ Gf s = s.set id (some (.row t [z]))) ∨ ¬ s.wf) (hd : DetGC P ops ws al Gf σ (i + 1) l (e.put o.dst (.ptr id 0 0)) s K) : DetGC P ops ws al Gf σ i (o :: l) e s K := by
  obtain ⟨e', s', h1, h2⟩ := hd
  refine ⟨e', s', DetG.al hi (fun s hs => ?_) hs h1, h2⟩
  rcases ha s hs with hb | hb
  · rw [hb.2]
    exact DOp.of_effect hg fun g w a hI hE => resAlloc_run hI hb.1 ho hz
  · exact fun g w a hI => absurd hI.wf hb
theorem DetGC.effG {o : Oper} {l : List Oper} {i : Nat} {v : PV} (s1 : St) {K : Env → St → Prop} (hi : ws.contains i = true) (hs : s ∈ σ) (hm : ((masks ops.toList []).getD i 0).testBit al = true) (hg : guard? ops o (Env.keep (slotsOf ops o) e) = some true)
    (ha : acore P o.op (ev (Env.keep (slotsOf ops o) e)) (Gf s) = some (v, Gf s1)) (hd : DetGC P ops ws al Gf σ (i + 1) l (e.put o.dst v) s1 K) : DetGC P ops ws al Gf σ i (o :: l) e s K := by
  obtain ⟨e', s', h1, h2⟩ := hd
  exact ⟨e', s', DetG.ef2 (by simpa using hi) hs hm (DOp.of_effect hg fun g w a hI hE => acore_run hI (fun x => ev_R hE x) ha) h1, h2⟩
def badSt : St := ⟨0, fun _ => some .res⟩
theorem badSt_wf : ¬ badSt.wf := fun h => by have := h 0 (Nat.le_refl _); cases this
theorem DetGC.appE {d : Option Nat} {x y : Operand} {t ty : TypeId} {pos : String} {af : Array Edge} {gd : Option (Nat × Bool)} {l : List Oper} {i : Nat} {el : TypeId} {kx ky : SK} {xs ys : List PV} {v : PV} {s1 : St} {K : Env → St → Prop} (hi : ws.contains i = true) (hs : s ∈ σ)
    (hg : guard? ops ⟨d, .call ⟨.builtin .append, #[x, y], #[t, t]⟩, ty, pos, af, gd⟩ (Env.keep (slotsOf ops ⟨d, .call ⟨.builtin .append, #[x, y], #[t, t]⟩, ty, pos, af, gd⟩) e) = some true)
    (hx : ev (Env.keep (slotsOf ops ⟨d, .call ⟨.builtin .append, #[x, y], #[t, t]⟩, ty, pos, af, gd⟩) e) x = .sl kx xs) (hy : ev (Env.keep (slotsOf ops ⟨d, .call ⟨.builtin .append, #[x, y], #[t, t]⟩, ty, pos, af, gd⟩) e) y = .sl ky ys)
    (htd : td P t = .sl el) (hz : (zpv P el).isSome = true) (hex : isEls P el xs) (hey : isEls P el ys) (hb0 : 0 < P.bytesOf el) (hlen : (xs.length + ys.length) * P.bytesOf el ≤ 140737488355328)
    (ha : aAppend P el kx xs ys s = some (v, s1)) (ha' : aAppend P el kx xs ys (Gf s) = some (v, Gf s1)) (hd : DetGC P ops ws al Gf σ (i + 1) l (e.put d v) s1 K) : DetGC P ops ws al Gf σ i (⟨d, .call ⟨.builtin .append, #[x, y], #[t, t]⟩, ty, pos, af, gd⟩ :: l) e s K := by
  obtain ⟨e', s', h1, h2⟩ := hd
  have key : ∀ sa sb, aAppend P el kx xs ys sa = some (v, sb) → DOp P ops ⟨d, .call ⟨.builtin .append, #[x, y], #[t, t]⟩, ty, pos, af, gd⟩ e sa v sb := by
    intro sa sb h
    refine DOp.of_effect hg fun g w a hI hE => ?_
    have e1 := ev_R hE x
    have e2 := ev_R hE y
    rw [hx] at e1
    rw [hy] at e2
    obtain ⟨val, w', g', r1, r2, r3, r4⟩ := aAppend_run (ty := ty) hI e1 e2 htd hz hex hey hb0 hlen h
    exact ⟨val, w', g', .inl (append_exec rfl r1), r2, r3, r4⟩
  exact ⟨e', s', DetG.ef (v := v) (s1 := s1) (by simpa using hi) hs (key _ _ ha) (key _ _ ha') h1, h2⟩
end
end Go.PM
namespace Go.Proofs
open Go.PM
@[go_sem] theorem Try.td3 : td Try.prog 3 = TD.int Go.IntKind.i64 := by kernel_rfl
@[go_sem] theorem Try.cz3 : Try.prog.cellsOf 3 = 1 := by kernel_rfl
@[go_sem] theorem Try.by3 : Try.prog.bytesOf 3 = 8 := by kernel_rfl
@[go_sem] theorem Try.ag3 : aggO Try.prog 3 = some false := by kernel_rfl
@[go_sem] theorem Try.zp3 : zpv Try.prog 3 = some (PV.int Go.IntKind.i64 (0)) := by kernel_rfl
@[go_sem] theorem Try.td4 : td Try.prog 4 = TD.bool := by kernel_rfl
@[go_sem] theorem Try.cz4 : Try.prog.cellsOf 4 = 1 := by kernel_rfl
@[go_sem] theorem Try.by4 : Try.prog.bytesOf 4 = 1 := by kernel_rfl
@[go_sem] theorem Try.ag4 : aggO Try.prog 4 = some false := by kernel_rfl
@[go_sem] theorem Try.zp4 : zpv Try.prog 4 = some (PV.bool false) := by kernel_rfl
@[go_sem] theorem Try.td22 : td Try.prog 22 = TD.sl 43 := by kernel_rfl
@[go_sem] theorem Try.cz22 : Try.prog.cellsOf 22 = 1 := by kernel_rfl
@[go_sem] theorem Try.by22 : Try.prog.bytesOf 22 = 24 := by kernel_rfl
@[go_sem] theorem Try.ag22 : aggO Try.prog 22 = some false := by kernel_rfl
@[go_sem] theorem Try.zp22 : zpv Try.prog 22 = some (PV.sl SK.nil []) := by kernel_rfl
@[go_sem] theorem Try.td24 : td Try.prog 24 = TD.struct [(0, 1, some false), (1, 1, some false)] := by kernel_rfl
@[go_sem] theorem Try.cz24 : Try.prog.cellsOf 24 = 2 := by kernel_rfl
@[go_sem] theorem Try.by24 : Try.prog.bytesOf 24 = 32 := by kernel_rfl
@[go_sem] theorem Try.ag24 : aggO Try.prog 24 = some true := by kernel_rfl
@[go_sem] theorem Try.zp24 : zpv Try.prog 24 = some (PV.agg [PV.int Go.IntKind.i64 (0), PV.sl SK.nil []]) := by kernel_rfl
@[go_sem] theorem Try.sp24 : splaces Try.prog 24 = some [(0, 1), (1, 1)] := by kernel_rfl
@[go_sem] theorem Try.fs24 : flatStruct Try.prog 24 = some [TD.int Go.IntKind.i64, TD.sl 43] := by kernel_rfl
@[go_sem] theorem Try.td25 : td Try.prog 25 = TD.ptr 29 := by kernel_rfl
@[go_sem] theorem Try.cz25 : Try.prog.cellsOf 25 = 1 := by kernel_rfl
@[go_sem] theorem Try.by25 : Try.prog.bytesOf 25 = 8 := by kernel_rfl
@[go_sem] theorem Try.ag25 : aggO Try.prog 25 = some false := by kernel_rfl
@[go_sem] theorem Try.zp25 : zpv Try.prog 25 = some PV.nilp := by kernel_rfl
@[go_sem] theorem Try.td26 : td Try.prog 26 = TD.sl 3 := by kernel_rfl
@[go_sem] theorem Try.cz26 : Try.prog.cellsOf 26 = 1 := by kernel_rfl
@[go_sem] theorem Try.by26 : Try.prog.bytesOf 26 = 24 := by kernel_rfl
@[go_sem] theorem Try.ag26 : aggO Try.prog 26 = some false := by kernel_rfl
@[go_sem] theorem Try.zp26 : zpv Try.prog 26 = some (PV.sl SK.nil []) := by kernel_rfl
@[go_sem] theorem Try.td29 : td Try.prog 29 = TD.struct [(0, 1, some false), (1, 1, some false)] := by kernel_rfl
@[go_sem] theorem Try.cz29 : Try.prog.cellsOf 29 = 2 := by kernel_rfl
@[go_sem] theorem Try.by29 : Try.prog.bytesOf 29 = 32 := by kernel_rfl
@[go_sem] theorem Try.ag29 : aggO Try.prog 29 = some true := by kernel_rfl
@[go_sem] theorem Try.zp29 : zpv Try.prog 29 = some (PV.agg [PV.sl SK.nil [], PV.int Go.IntKind.i64 (0)]) := by kernel_rfl
@[go_sem] theorem Try.sp29 : splaces Try.prog 29 = some [(0, 1), (1, 1)] := by kernel_rfl
@[go_sem] theorem Try.fs29 : flatStruct Try.prog 29 = some [TD.sl 3, TD.int Go.IntKind.i64] := by kernel_rfl
@[go_sem] theorem Try.td37 : td Try.prog 37 = TD.map 46 3 := by kernel_rfl
@[go_sem] theorem Try.cz37 : Try.prog.cellsOf 37 = 1 := by kernel_rfl
@[go_sem] theorem Try.by37 : Try.prog.bytesOf 37 = 8 := by kernel_rfl
@[go_sem] theorem Try.ag37 : aggO Try.prog 37 = some false := by kernel_rfl
@[go_sem] theorem Try.zp37 : zpv Try.prog 37 = some PV.nilm := by kernel_rfl
@[go_sem] theorem Try.td38 : td Try.prog 38 = TD.map 3 3 := by kernel_rfl
@[go_sem] theorem Try.cz38 : Try.prog.cellsOf 38 = 1 := by kernel_rfl
@[go_sem] theorem Try.by38 : Try.prog.bytesOf 38 = 8 := by kernel_rfl
@[go_sem] theorem Try.ag38 : aggO Try.prog 38 = some false := by kernel_rfl
@[go_sem] theorem Try.zp38 : zpv Try.prog 38 = some PV.nilm := by kernel_rfl
@[go_sem] theorem Try.td39 : td Try.prog 39 = TD.int Go.IntKind.u32 := by kernel_rfl
@[go_sem] theorem Try.cz39 : Try.prog.cellsOf 39 = 1 := by kernel_rfl
@[go_sem] theorem Try.by39 : Try.prog.bytesOf 39 = 4 := by kernel_rfl
@[go_sem] theorem Try.ag39 : aggO Try.prog 39 = some false := by kernel_rfl
@[go_sem] theorem Try.zp39 : zpv Try.prog 39 = some (PV.int Go.IntKind.u32 (0)) := by kernel_rfl
@[go_sem] theorem Try.td40 : td Try.prog 40 = TD.sl 45 := by kernel_rfl
@[go_sem] theorem Try.cz40 : Try.prog.cellsOf 40 = 1 := by kernel_rfl
@[go_sem] theorem Try.by40 : Try.prog.bytesOf 40 = 24 := by kernel_rfl
@[go_sem] theorem Try.ag40 : aggO Try.prog 40 = some false := by kernel_rfl
@[go_sem] theorem Try.zp40 : zpv Try.prog 40 = some (PV.sl SK.nil []) := by kernel_rfl
@[go_sem] theorem Try.td41 : td Try.prog 41 = TD.sl 48 := by kernel_rfl
@[go_sem] theorem Try.cz41 : Try.prog.cellsOf 41 = 1 := by kernel_rfl
@[go_sem] theorem Try.by41 : Try.prog.bytesOf 41 = 24 := by kernel_rfl
@[go_sem] theorem Try.ag41 : aggO Try.prog 41 = some false := by kernel_rfl
@[go_sem] theorem Try.zp41 : zpv Try.prog 41 = some (PV.sl SK.nil []) := by kernel_rfl
@[go_sem] theorem Try.td43 : td Try.prog 43 = TD.struct [(0, 1, some false), (1, 1, some false), (2, 1, some false), (3, 1, some false), (4, 1, some false)] := by kernel_rfl
@[go_sem] theorem Try.cz43 : Try.prog.cellsOf 43 = 5 := by kernel_rfl
@[go_sem] theorem Try.by43 : Try.prog.bytesOf 43 = 72 := by kernel_rfl
@[go_sem] theorem Try.ag43 : aggO Try.prog 43 = some true := by kernel_rfl
@[go_sem] theorem Try.zp43 : zpv Try.prog 43 = some (PV.agg [PV.int Go.IntKind.i64 (0), PV.int Go.IntKind.u32 (0), PV.int Go.IntKind.i64 (0), PV.sl SK.nil [], PV.sl SK.nil []]) := by kernel_rfl
@[go_sem] theorem Try.sp43 : splaces Try.prog 43 = some [(0, 1), (1, 1), (2, 1), (3, 1), (4, 1)] := by kernel_rfl
@[go_sem] theorem Try.fs43 : flatStruct Try.prog 43 = some [TD.int Go.IntKind.i64, TD.int Go.IntKind.u32, TD.int Go.IntKind.i64, TD.sl 45, TD.sl 48] := by kernel_rfl
@[go_sem] theorem Try.td45 : td Try.prog 45 = TD.struct [(0, 1, some false), (1, 1, some false), (2, 1, some false), (3, 1, some false)] := by kernel_rfl
@[go_sem] theorem Try.cz45 : Try.prog.cellsOf 45 = 4 := by kernel_rfl
@[go_sem] theorem Try.by45 : Try.prog.bytesOf 45 = 32 := by kernel_rfl
@[go_sem] theorem Try.ag45 : aggO Try.prog 45 = some true := by kernel_rfl
@[go_sem] theorem Try.zp45 : zpv Try.prog 45 = some (PV.agg [PV.int Go.IntKind.i64 (0), PV.int Go.IntKind.i64 (0), PV.int Go.IntKind.i64 (0), PV.int Go.IntKind.i64 (0)]) := by kernel_rfl
@[go_sem] theorem Try.sp45 : splaces Try.prog 45 = some [(0, 1), (1, 1), (2, 1), (3, 1)] := by kernel_rfl
@[go_sem] theorem Try.fs45 : flatStruct Try.prog 45 = some [TD.int Go.IntKind.i64, TD.int Go.IntKind.i64, TD.int Go.IntKind.i64, TD.int Go.IntKind.i64] := by kernel_rfl
@[go_sem] theorem Try.td46 : td Try.prog 46 = TD.arr 2 3 := by kernel_rfl
@[go_sem] theorem Try.cz46 : Try.prog.cellsOf 46 = 2 := by kernel_rfl
@[go_sem] theorem Try.by46 : Try.prog.bytesOf 46 = 16 := by kernel_rfl
@[go_sem] theorem Try.ag46 : aggO Try.prog 46 = some true := by kernel_rfl
@[go_sem] theorem Try.zp46 : zpv Try.prog 46 = some (PV.agg [PV.int Go.IntKind.i64 (0), PV.int Go.IntKind.i64 (0)]) := by kernel_rfl
@[go_sem] theorem Try.td48 : td Try.prog 48 = TD.struct [(0, 1, some false), (1, 1, some false)] := by kernel_rfl
@[go_sem] theorem Try.cz48 : Try.prog.cellsOf 48 = 2 := by kernel_rfl
@[go_sem] theorem Try.by48 : Try.prog.bytesOf 48 = 16 := by kernel_rfl
@[go_sem] theorem Try.ag48 : aggO Try.prog 48 = some true := by kernel_rfl
@[go_sem] theorem Try.zp48 : zpv Try.prog 48 = some (PV.agg [PV.int Go.IntKind.i64 (0), PV.int Go.IntKind.i64 (0)]) := by kernel_rfl
@[go_sem] theorem Try.sp48 : splaces Try.prog 48 = some [(0, 1), (1, 1)] := by kernel_rfl
@[go_sem] theorem Try.fs48 : flatStruct Try.prog 48 = some [TD.int Go.IntKind.i64, TD.int Go.IntKind.i64] := by kernel_rfl
@[go_sem] theorem Try.td51 : td Try.prog 51 = TD.fn := by kernel_rfl
@[go_sem] theorem Try.cz51 : Try.prog.cellsOf 51 = 1 := by kernel_rfl
@[go_sem] theorem Try.by51 : Try.prog.bytesOf 51 = 8 := by kernel_rfl
@[go_sem] theorem Try.ag51 : aggO Try.prog 51 = some false := by kernel_rfl
@[go_sem] theorem Try.zp51 : zpv Try.prog 51 = some PV.nilf := by kernel_rfl
@[go_sem] theorem Try.td54 : td Try.prog 54 = TD.int Go.IntKind.u64 := by kernel_rfl
@[go_sem] theorem Try.cz54 : Try.prog.cellsOf 54 = 1 := by kernel_rfl
@[go_sem] theorem Try.by54 : Try.prog.bytesOf 54 = 8 := by kernel_rfl
@[go_sem] theorem Try.ag54 : aggO Try.prog 54 = some false := by kernel_rfl
@[go_sem] theorem Try.zp54 : zpv Try.prog 54 = some (PV.int Go.IntKind.u64 (0)) := by kernel_rfl
@[go_sem] theorem Try.td56 : td Try.prog 56 = TD.int Go.IntKind.i64 := by kernel_rfl
@[go_sem] theorem Try.cz56 : Try.prog.cellsOf 56 = 1 := by kernel_rfl
@[go_sem] theorem Try.by56 : Try.prog.bytesOf 56 = 8 := by kernel_rfl
@[go_sem] theorem Try.ag56 : aggO Try.prog 56 = some false := by kernel_rfl
@[go_sem] theorem Try.zp56 : zpv Try.prog 56 = some (PV.int Go.IntKind.i64 (0)) := by kernel_rfl
@[go_sem] theorem Try.td66 : td Try.prog 66 = TD.arr 4 3 := by kernel_rfl
@[go_sem] theorem Try.cz66 : Try.prog.cellsOf 66 = 4 := by kernel_rfl
@[go_sem] theorem Try.by66 : Try.prog.bytesOf 66 = 32 := by kernel_rfl
@[go_sem] theorem Try.ag66 : aggO Try.prog 66 = some true := by kernel_rfl
@[go_sem] theorem Try.zp66 : zpv Try.prog 66 = some (PV.agg [PV.int Go.IntKind.i64 (0), PV.int Go.IntKind.i64 (0), PV.int Go.IntKind.i64 (0), PV.int Go.IntKind.i64 (0)]) := by kernel_rfl
@[go_sem] theorem Try.td71 : td Try.prog 71 = TD.fn := by kernel_rfl
@[go_sem] theorem Try.cz71 : Try.prog.cellsOf 71 = 1 := by kernel_rfl
@[go_sem] theorem Try.by71 : Try.prog.bytesOf 71 = 8 := by kernel_rfl
@[go_sem] theorem Try.ag71 : aggO Try.prog 71 = some false := by kernel_rfl
@[go_sem] theorem Try.zp71 : zpv Try.prog 71 = some PV.nilf := by kernel_rfl
@[go_sem] theorem Try.td76 : td Try.prog 76 = TD.struct [(0, 1, some false), (1, 1, some false)] := by kernel_rfl
@[go_sem] theorem Try.cz76 : Try.prog.cellsOf 76 = 2 := by kernel_rfl
@[go_sem] theorem Try.by76 : Try.prog.bytesOf 76 = 16 := by kernel_rfl
@[go_sem] theorem Try.ag76 : aggO Try.prog 76 = some true := by kernel_rfl
@[go_sem] theorem Try.zp76 : zpv Try.prog 76 = some (PV.agg [PV.int Go.IntKind.i64 (0), PV.int Go.IntKind.i64 (0)]) := by kernel_rfl
@[go_sem] theorem Try.sp76 : splaces Try.prog 76 = some [(0, 1), (1, 1)] := by kernel_rfl
@[go_sem] theorem Try.fs76 : flatStruct Try.prog 76 = some [TD.int Go.IntKind.i64, TD.int Go.IntKind.i64] := by kernel_rfl
@[go_sem] theorem Try.td78 : td Try.prog 78 = TD.fn := by kernel_rfl
@[go_sem] theorem Try.cz78 : Try.prog.cellsOf 78 = 1 := by kernel_rfl
@[go_sem] theorem Try.by78 : Try.prog.bytesOf 78 = 8 := by kernel_rfl
@[go_sem] theorem Try.ag78 : aggO Try.prog 78 = some false := by kernel_rfl
@[go_sem] theorem Try.zp78 : zpv Try.prog 78 = some PV.nilf := by kernel_rfl
@[go_sem] theorem Try.td80 : td Try.prog 80 = TD.fn := by kernel_rfl
@[go_sem] theorem Try.cz80 : Try.prog.cellsOf 80 = 1 := by kernel_rfl
@[go_sem] theorem Try.by80 : Try.prog.bytesOf 80 = 8 := by kernel_rfl
@[go_sem] theorem Try.ag80 : aggO Try.prog 80 = some false := by kernel_rfl
@[go_sem] theorem Try.zp80 : zpv Try.prog 80 = some PV.nilf := by kernel_rfl
@[go_sem] theorem Try.td91 : td Try.prog 91 = TD.struct [(0, 1, some false), (1, 1, some false)] := by kernel_rfl
@[go_sem] theorem Try.cz91 : Try.prog.cellsOf 91 = 2 := by kernel_rfl
@[go_sem] theorem Try.by91 : Try.prog.bytesOf 91 = 16 := by kernel_rfl
@[go_sem] theorem Try.ag91 : aggO Try.prog 91 = some true := by kernel_rfl
@[go_sem] theorem Try.zp91 : zpv Try.prog 91 = some (PV.agg [PV.int Go.IntKind.i64 (0), PV.int Go.IntKind.i64 (0)]) := by kernel_rfl
@[go_sem] theorem Try.sp91 : splaces Try.prog 91 = some [(0, 1), (1, 1)] := by kernel_rfl
@[go_sem] theorem Try.fs91 : flatStruct Try.prog 91 = some [TD.int Go.IntKind.i64, TD.int Go.IntKind.i64] := by kernel_rfl
@[go_sem] theorem Try.td2 : td Try.prog 2 = TD.int Go.IntKind.i64 := by kernel_rfl
@[go_sem] theorem Try.cz2 : Try.prog.cellsOf 2 = 1 := by kernel_rfl
@[go_sem] theorem Try.by2 : Try.prog.bytesOf 2 = 8 := by kernel_rfl
@[go_sem] theorem Try.ag2 : aggO Try.prog 2 = some false := by kernel_rfl
@[go_sem] theorem Try.zp2 : zpv Try.prog 2 = some (PV.int Go.IntKind.i64 (0)) := by kernel_rfl
@[go_sem] theorem Try.cb2 : callable Try.prog 2 = true := by kernel_rfl
@[go_sem] theorem Try.cb3 : callable Try.prog 3 = true := by kernel_rfl
@[go_sem] theorem Try.cb4 : callable Try.prog 4 = true := by kernel_rfl
@[go_sem] theorem Try.cb5 : callable Try.prog 5 = true := by kernel_rfl
@[go_sem] theorem Try.cb6 : callable Try.prog 6 = true := by kernel_rfl
@[go_sem] theorem Try.cb7 : callable Try.prog 7 = true := by kernel_rfl
@[go_sem] theorem Try.cb8 : callable Try.prog 8 = true := by kernel_rfl
@[go_sem] theorem Try.cb9 : callable Try.prog 9 = true := by kernel_rfl
@[go_sem] theorem Try.cb10 : callable Try.prog 10 = true := by kernel_rfl
@[go_sem] theorem Try.cb11 : callable Try.prog 11 = true := by kernel_rfl
@[go_sem] theorem Try.cb12 : callable Try.prog 12 = true := by kernel_rfl
@[go_sem] theorem Try.cb13 : callable Try.prog 13 = true := by kernel_rfl
@[go_sem] theorem Try.cb14 : callable Try.prog 14 = true := by kernel_rfl
@[go_sem] theorem Try.cb15 : callable Try.prog 15 = true := by kernel_rfl
@[go_sem] theorem Try.cb16 : callable Try.prog 16 = true := by kernel_rfl
@[go_sem] theorem Try.cb17 : callable Try.prog 17 = true := by kernel_rfl
@[go_sem] theorem Try.cb18 : callable Try.prog 18 = true := by kernel_rfl
@[go_sem] theorem Try.cb19 : callable Try.prog 19 = true := by kernel_rfl
@[go_sem] theorem Try.cb20 : callable Try.prog 20 = true := by kernel_rfl
@[go_sem] theorem Try.cb21 : callable Try.prog 21 = true := by kernel_rfl
@[go_sem] theorem Try.cb22 : callable Try.prog 22 = true := by kernel_rfl
@[go_sem] theorem Try.cb23 : callable Try.prog 23 = true := by kernel_rfl
@[go_sem] theorem Try.cb24 : callable Try.prog 24 = true := by kernel_rfl
@[go_sem] theorem Try.cb25 : callable Try.prog 25 = true := by kernel_rfl
@[go_sem] theorem Try.cb26 : callable Try.prog 26 = true := by kernel_rfl
@[go_sem] theorem Try.cb27 : callable Try.prog 27 = true := by kernel_rfl
@[go_sem] theorem Try.cb28 : callable Try.prog 28 = true := by kernel_rfl
@[go_sem] theorem Try.cb29 : callable Try.prog 29 = true := by kernel_rfl
@[go_sem] theorem Try.cb30 : callable Try.prog 30 = true := by kernel_rfl
@[go_sem] theorem Try.cb31 : callable Try.prog 31 = true := by kernel_rfl
@[go_sem] theorem Try.cb32 : callable Try.prog 32 = true := by kernel_rfl
@[go_sem] theorem Try.cb33 : callable Try.prog 33 = true := by kernel_rfl
@[go_sem] theorem Try.cb34 : callable Try.prog 34 = true := by kernel_rfl
@[go_sem] theorem Try.cb35 : callable Try.prog 35 = true := by kernel_rfl
@[go_sem] theorem Try.cb36 : callable Try.prog 36 = true := by kernel_rfl
@[go_sem] theorem Try.cb37 : callable Try.prog 37 = true := by kernel_rfl
@[go_sem] theorem Try.cb38 : callable Try.prog 38 = true := by kernel_rfl
@[go_sem] theorem Try.cb39 : callable Try.prog 39 = true := by kernel_rfl
@[go_sem] theorem Try.cb40 : callable Try.prog 40 = true := by kernel_rfl
@[go_sem] theorem Try.cb41 : callable Try.prog 41 = true := by kernel_rfl
@[go_sem] theorem Try.cb42 : callable Try.prog 42 = true := by kernel_rfl
@[go_sem] theorem Try.cb43 : callable Try.prog 43 = true := by kernel_rfl
@[go_sem] theorem Try.cb44 : callable Try.prog 44 = true := by kernel_rfl
@[go_sem] theorem Try.cb45 : callable Try.prog 45 = true := by kernel_rfl
@[go_sem] theorem Try.cb46 : callable Try.prog 46 = true := by kernel_rfl
@[go_sem] theorem Try.cb47 : callable Try.prog 47 = true := by kernel_rfl
@[go_sem] theorem Try.cb48 : callable Try.prog 48 = true := by kernel_rfl
@[go_sem] theorem Try.cb49 : callable Try.prog 49 = true := by kernel_rfl
@[go_sem] theorem Try.cb50 : callable Try.prog 50 = true := by kernel_rfl
@[go_sem] theorem Try.cb51 : callable Try.prog 51 = true := by kernel_rfl
@[go_sem] theorem Try.cb52 : callable Try.prog 52 = true := by kernel_rfl
@[go_sem] theorem Try.cb53 : callable Try.prog 53 = true := by kernel_rfl
@[go_sem] theorem Try.cb54 : callable Try.prog 54 = true := by kernel_rfl
@[go_sem] theorem Try.cb55 : callable Try.prog 55 = true := by kernel_rfl
@[go_sem] theorem Try.cb56 : callable Try.prog 56 = true := by kernel_rfl
@[go_sem] theorem Try.cb57 : callable Try.prog 57 = true := by kernel_rfl
@[go_sem] theorem Try.cb58 : callable Try.prog 58 = true := by kernel_rfl
@[go_sem] theorem Try.cb59 : callable Try.prog 59 = true := by kernel_rfl
@[go_sem] theorem Try.cb60 : callable Try.prog 60 = true := by kernel_rfl
@[go_sem] theorem Try.cb61 : callable Try.prog 61 = true := by kernel_rfl
@[go_sem] theorem Try.cb62 : callable Try.prog 62 = true := by kernel_rfl
@[go_sem] theorem Try.cb63 : callable Try.prog 63 = true := by kernel_rfl
@[go_sem] theorem Try.cb64 : callable Try.prog 64 = true := by kernel_rfl
@[go_sem] theorem Try.cb65 : callable Try.prog 65 = true := by kernel_rfl
@[go_sem] theorem Try.cb66 : callable Try.prog 66 = true := by kernel_rfl
theorem Try.mixed : Try.prog.follows .mixedOrders = true := by kernel_rfl
end Go.Proofs
namespace Go.Proofs
open Go.PM
set_option maxHeartbeats 2000000
theorem span_Right {a : Sp} {most : Int} (ha : a.ok) (hm : 0 ≤ most ∧ most ≤ 4611686018427387904) {s : St} : ACalls Try.prog 41 [a.pv, .int .i64 most] s (fun r s' => r = .bool (spRight a most) ∧ s' = s) := by
  refine go Try.func41 (k := fun hwf H => ?_)
  refine rs (k := rg [1, 2] (k := rs (k := rg [4] (k := rR (k := rP (by simp only [Try.f41, go_sem]; rfl) hwf ⟨?_, rfl⟩)))))
  simp only [spRight]
  have hw : 0 ≤ a.pos → a.pos ≤ most → IntKind.i64.wrap (most - a.pos) = most - a.pos := fun h h' => wrap_i64 (by omega)
  by_cases h1 : 0 ≤ a.pos <;> by_cases h2 : 1 ≤ a.cnt <;> by_cases h3 : a.pos ≤ most <;> simp [h1, h2, h3, PV.weak]
  rw [hw h1 h3]
theorem span_right {a : Sp} (ha : a.ok) {s : St} : ACalls Try.prog 64 [a.pv] s (fun r s' => r = .bool (spRight a great) ∧ s' = s) := by
  refine go Try.func64 (k := fun hwf H => ?_)
  refine rs (k := rg [1] (k := rs (k := rr (k := ro (pre := [_]) (k := rC (h := span_Right (a := a) ha (by decide)) (k := rh [2] (k := rR (k := rP (by simp only [Try.f64, go_sem]; rfl) hwf ⟨?_, rfl⟩))))))))
  rfl
theorem span_end {a : Sp} {s : St} : ACalls Try.prog 65 [a.pv] s (fun r s' => r = .int .i64 (IntKind.i64.wrap (a.pos + a.cnt)) ∧ s' = s) := by
  refine go Try.func65 (k := fun hwf H => ?_)
  refine rs (k := rg [1] (k := rs (k := rg [2] (k := rR (k := rP (by simp only [Try.f65, go_sem]; rfl) hwf ⟨?_, rfl⟩)))))
  rfl
theorem span_Meet {a b : Sp} (ha : a.ok) (hb : b.ok) {s : St} : ACalls Try.prog 55 [a.pv, b.pv] s (fun r s' => r = .tuple [(spMeet a b).pv, .bool (spMeets a b)] ∧ s' = s) := by
  refine go Try.func55 (k := fun hwf H => ?_)
  refine rs (k := rg [2, 3, 4] (k := rs (k := rg [2, 3, 4, 6] (k := rs (k := rs (k := rr (k := ro (pre := [_]) (k := rC (h := span_right (a := a) ha) (k := ro (pre := [_, _]) (k := rQ 16 (ht := fun hg3 => ?_) (hf := fun hg3 => ?_)))))))))))
  · refine rg0 (k := rg0 (k := rg0 (k := rh [2, 3, 4, 6, 20] (k := rc (ht := fun hc0 => ?_) (hf := fun hc0 => ?_)))))
    · refine rs (k := rg [4, 5] (k := rR (k := rP (by simp only [Try.f55, go_sem]; rfl) hwf ⟨?_, rfl⟩)))
      first
        | (have h := spMeets_l (b := b) hg3
           rw [h.1, h.2]; rfl)
        | (have h := spMeets_r (a := a) hc0
           rw [h.1, h.2]; rfl)
        | (have h := spMeets_not hg3 hc0 hc1
           rw [h.1, h.2]; rfl)
        | (have h := spMeets_yes hg3 hc0 hc1
           rw [h.1, h.2]; rfl)
    · cases hc0
  · refine rg1 (k := rC (h := span_right (a := b) hb) (k := rg1 (k := rh [2, 3, 4, 6, 20] (k := rc (ht := fun hc0 => ?_) (hf := fun hc0 => ?_)))))
    · refine rs (k := rg [4, 5] (k := rR (k := rP (by simp only [Try.f55, go_sem]; rfl) hwf ⟨?_, rfl⟩)))
      first
        | (have h := spMeets_l (b := b) hg3
           rw [h.1, h.2]; rfl)
        | (have h := spMeets_r (a := a) hc0
           rw [h.1, h.2]; rfl)
        | (have h := spMeets_not hg3 hc0 hc1
           rw [h.1, h.2]; rfl)
        | (have h := spMeets_yes hg3 hc0 hc1
           rw [h.1, h.2]; rfl)
    · refine rk (k := rs (k := rs (k := ?_)))
      refine Run.drawC [] [4, 6, 7] Try.mixed (by kernel_rfl) ?_
      refine DetC.pre (pre := [_]) au ?_
      refine DetC.call au au au (by kernel_rfl) (span_end (a := a)) ?_
      refine DetC.pre (pre := [_]) au ?_
      refine DetC.call au au au (by kernel_rfl) (span_end (a := b)) ?_
      refine DetC.all au ?_
      refine re (k := rs (k := rg [4, 6, 7, 29] (k := rc (ht := fun hc1 => ?_) (hf := fun hc1 => ?_))))
      · refine rs (k := rg [4, 5] (k := rR (k := rP (by simp only [Try.f55, go_sem]; rfl) hwf ⟨?_, rfl⟩)))
        first
          | (have h := spMeets_l (b := b) hg3
             rw [h.1, h.2]; rfl)
          | (have h := spMeets_r (a := a) hc0
             rw [h.1, h.2]; rfl)
          | (have h := spMeets_not hg3 hc0 hc1
             rw [h.1, h.2]; rfl)
          | (have h := spMeets_yes hg3 hc0 hc1
             rw [h.1, h.2]; rfl)
      · refine rk (k := rs (k := rg [4, 5] (k := rR (k := rP (by simp only [Try.f55, go_sem]; rfl) hwf ⟨?_, rfl⟩))))
        first
          | (have h := spMeets_l (b := b) hg3
             rw [h.1, h.2]; rfl)
          | (have h := spMeets_r (a := a) hc0
             rw [h.1, h.2]; rfl)
          | (have h := spMeets_not hg3 hc0 hc1
             rw [h.1, h.2]; rfl)
          | (have h := spMeets_yes hg3 hc0 hc1
             rw [h.1, h.2]; rfl)
end Go.Proofs
namespace Go.Proofs
open Go.PM
set_option maxHeartbeats 2000000
theorem window_virtual {w : Win} {s : St} : ACalls Try.prog 53 [w.pv] s (fun r s' => r = w.v.pv ∧ s' = s) := by
  refine go Try.func53 (k := fun hwf H => ?_)
  refine rs (k := rg [1, 2] (k := rs (k := rg [2] (k := rR (k := rP (by simp only [Try.f53, go_sem]; rfl) hwf ⟨?_, rfl⟩)))))
  rfl
theorem window_physical {w : Win} {s : St} : ACalls Try.prog 54 [w.pv] s (fun r s' => r = w.p.pv ∧ s' = s) := by
  refine go Try.func54 (k := fun hwf H => ?_)
  refine rs (k := rg [1, 2] (k := rs (k := rg [2] (k := rR (k := rP (by simp only [Try.f54, go_sem]; rfl) hwf ⟨?_, rfl⟩)))))
  rfl
theorem Win.ok.v {w : Win} (h : w.ok) : w.v.ok := ⟨h.virt, h.cnt⟩
theorem Win.ok.p {w : Win} (h : w.ok) : w.p.ok := ⟨h.phys, h.cnt⟩
theorem window_Right {w : Win} (hw : w.ok) {s : St} : ACalls Try.prog 37 [w.pv] s (fun r s' => r = .bool (winRight w) ∧ s' = s) := by
  refine go Try.func37 (k := fun hwf H => ?_)
  refine rs (k := rg [1] (k := rs (k := rr (k := ro (pre := [_, _, _, _, _, _, _, _, _]) (k := rQ 11 (ht := fun hg8 => ?_) (hf := fun hg8 => ?_))))))
  · refine rg1 (k := rC (h := window_virtual (w := w)) (k := rC (h := span_Right (a := w.v) (most := 65536) hw.v (by decide)) (k := ro (pre := [_, _]) (k := rQ 16 (ht := fun hg13 => ?_) (hf := fun hg13 => ?_)))))
    · refine rg1 (k := rC (h := window_physical (w := w)) (k := rC (h := span_Right (a := w.p) (most := 512) hw.p (by decide)) (k := rh [2] (k := rR (k := rP (by simp only [Try.f37, go_sem]; rfl) hwf ⟨?_, rfl⟩)))))
      have e : winRight w = (decide (0 ≤ w.space) && decide (w.space ≤ 3) && spRight w.v 65536 && spRight w.p 512) := by simp [winRight]
      rw [e]
      first
        | (rw [show (decide (0 ≤ w.space) && decide (w.space ≤ 3)) = true from hg8, show spRight w.v 65536 = true from hg13]; simp [PV.weak])
        | (rw [show (decide (0 ≤ w.space) && decide (w.space ≤ 3)) = true from hg8, show spRight w.v 65536 = false from hg13]; rfl)
        | (rw [show (decide (0 ≤ w.space) && decide (w.space ≤ 3)) = false from hg8]; rfl)
    · refine rg0 (k := rg0 (k := rg0 (k := rh [2] (k := rR (k := rP (by simp only [Try.f37, go_sem]; rfl) hwf ⟨?_, rfl⟩)))))
      have e : winRight w = (decide (0 ≤ w.space) && decide (w.space ≤ 3) && spRight w.v 65536 && spRight w.p 512) := by simp [winRight]
      rw [e]
      first
        | (rw [show (decide (0 ≤ w.space) && decide (w.space ≤ 3)) = true from hg8, show spRight w.v 65536 = true from hg13]; simp [PV.weak])
        | (rw [show (decide (0 ≤ w.space) && decide (w.space ≤ 3)) = true from hg8, show spRight w.v 65536 = false from hg13]; rfl)
        | (rw [show (decide (0 ≤ w.space) && decide (w.space ≤ 3)) = false from hg8]; rfl)
  · refine rg0 (k := rg0 (k := rg0 (k := ro (pre := [_, _]) (k := rQ 16 (ht := fun hg13 => ?_) (hf := fun hg13 => ?_)))))
    · cases hg13
    · refine rg0 (k := rg0 (k := rg0 (k := rh [2] (k := rR (k := rP (by simp only [Try.f37, go_sem]; rfl) hwf ⟨?_, rfl⟩)))))
      have e : winRight w = (decide (0 ≤ w.space) && decide (w.space ≤ 3) && spRight w.v 65536 && spRight w.p 512) := by simp [winRight]
      rw [e]
      first
        | (rw [show (decide (0 ≤ w.space) && decide (w.space ≤ 3)) = true from hg8, show spRight w.v 65536 = true from hg13]; simp [PV.weak])
        | (rw [show (decide (0 ≤ w.space) && decide (w.space ≤ 3)) = true from hg8, show spRight w.v 65536 = false from hg13]; rfl)
        | (rw [show (decide (0 ≤ w.space) && decide (w.space ≤ 3)) = false from hg8]; rfl)
theorem window_meet {a b : Win} (ha : a.ok) (hb : b.ok) {s : St} : ACalls Try.prog 56 [a.pv, b.pv] s (fun r s' => r = .bool (winMeet a b) ∧ s' = s) := by
  refine go Try.func56 (k := fun hwf H => ?_)
  refine rs (k := rg [2, 3] (k := rs (k := ?_)))
  refine Run.drawNew 10 8 9 76 (.agg [.int .i64 0, .int .i64 0]) (.agg [.int .i64 (spMeet a.p b.p).pos, .int .i64 (spMeet a.p b.p).cnt]) Try.mixed (by kernel_rfl) (by kernel_rfl) ?_
  refine DetBC.pre (pre := [_]) (by decide) in1 au ?_
  refine DetBC.call (by decide) au au au (by kernel_rfl) in1 (fun s _ => window_physical (w := a)) ?_
  refine DetBC.pre (pre := [_]) (by decide) in1 au ?_
  refine DetBC.call (by decide) au au au (by kernel_rfl) in1 (fun s _ => window_physical (w := b)) ?_
  refine DetBC.call (by decide) au au au (by kernel_rfl) in1 (fun s _ => span_Meet (a := a.p) (b := b.p) ha.p hb.p) ?_
  refine DetBC.pre (pre := [_, _, _]) (by decide) in1 au ?_
  refine DetBC.eff (by decide) in1 au au ?_
  refine DetBC.eff (by decide) in2 au au ?_
  refine DetBC.nil in3 ?_
  refine rh [2, 3, 6] (k := rs (k := ?_))
  generalize hm : spMeets a.p b.p = m
  refine rr (k := ro (pre := [_, _, _, _, _, _, _, _, _]) (k := rQ 23 (ht := fun hg8 => ?_) (hf := fun hg8 => ?_)))
  · refine rg1 (k := rC (h := window_Right ha) (k := ro (pre := [_, _]) (k := rQ 27 (ht := fun hg12 => ?_) (hf := fun hg12 => ?_))))
    · refine rg1 (k := rC (h := window_Right hb) (k := rh [4] (k := rR (k := rP (by simp only [Try.f56, go_sem]; rfl) hwf ⟨?_, rfl⟩))))
      have e : winMeet a b = (m && decide (a.space = b.space) && winRight a && winRight b) := by rw [← hm]; rfl
      rw [e]
      first
        | (rw [show (m && decide (a.space = b.space)) = true from hg8, show winRight a = true from hg12]; simp [PV.weak])
        | (rw [show (m && decide (a.space = b.space)) = true from hg8, show winRight a = false from hg12]; rfl)
        | (rw [show (m && decide (a.space = b.space)) = false from hg8]; rfl)
    · refine rg0 (k := rg0 (k := rh [4] (k := rR (k := rP (by simp only [Try.f56, go_sem]; rfl) hwf ⟨?_, rfl⟩))))
      have e : winMeet a b = (m && decide (a.space = b.space) && winRight a && winRight b) := by rw [← hm]; rfl
      rw [e]
      first
        | (rw [show (m && decide (a.space = b.space)) = true from hg8, show winRight a = true from hg12]; simp [PV.weak])
        | (rw [show (m && decide (a.space = b.space)) = true from hg8, show winRight a = false from hg12]; rfl)
        | (rw [show (m && decide (a.space = b.space)) = false from hg8]; rfl)
  · refine rg0 (k := rg0 (k := ro (pre := [_, _]) (k := rQ 27 (ht := fun hg12 => ?_) (hf := fun hg12 => ?_))))
    · cases hg12
    · refine rg0 (k := rg0 (k := rh [4] (k := rR (k := rP (by simp only [Try.f56, go_sem]; rfl) hwf ⟨?_, rfl⟩))))
      have e : winMeet a b = (m && decide (a.space = b.space) && winRight a && winRight b) := by rw [← hm]; rfl
      rw [e]
      first
        | (rw [show (m && decide (a.space = b.space)) = true from hg8, show winRight a = true from hg12]; simp [PV.weak])
        | (rw [show (m && decide (a.space = b.space)) = true from hg8, show winRight a = false from hg12]; rfl)
        | (rw [show (m && decide (a.space = b.space)) = false from hg8]; rfl)
theorem index_Win {xs : List Win} {k : FuncId} {cap : List PV} {p : Win → Bool} {s : St} (hsz : xs.length < 140737488355328) (hcal : callable Try.prog k = true) (hcap : PV.weaks cap = cap) (hf : ∀ x ∈ xs, ACalls Try.prog k (x.pv :: cap) s (fun r s' => r = .bool (p x) ∧ s' = s)) :
    ACalls Try.prog 52 [.sl .unk (xs.map Win.pv), .fn (.func k) [] cap] s (fun r s' => r = .int .i64 (idxF p xs 0) ∧ s' = s) := by
  refine go Try.func52 (k := fun hwf H => ?_)
  have H := aj hcap H
  refine rs (k := rg [0, 1] (k := rs (k := rs (k := rg [0, 1, 7, 8] (k := rb (k := ?_))))))
  refine Run.loop (fun e s' => s' = s ∧ ∃ i : Nat, e = [(0, .sl .unk (xs.map Win.pv)), (1, .fn (.func k) [] cap), (7, .int .i64 xs.length), (8, .int .i64 i)] ∧ i ≤ xs.length ∧ idxF p xs 0 = idxF p (xs.drop i) i) (fun e s' => xs.length - ivar e 8) ?_ ?_
  · exact ⟨rfl, 0, rfl, by omega, rfl⟩
  rintro e s' ⟨hs, i, rfl, hi, hidx⟩
  subst s'
  refine rs (k := rg [0, 1, 7, 8, 9] (k := rs (k := rc (ht := fun hc0 => ?_) (hf := fun hc0 => ?_))))
  · refine rk (k := rs (k := rb (k := rs (k := ?_))))
    have hil : i < xs.length := by have := of_decide_eq_true hc0; omega
    obtain ⟨x, hxe⟩ : ∃ z_, xs[i]'hil = z_ := ⟨_, rfl⟩
    have hxx : (xs.map Win.pv)[i]? = some (.agg [.int .i64 (x).space, .int .i64 (x).virt, .int .i64 (x).phys, .int .i64 (x).cnt]) := by rw [map_get hil, hxe]; rfl
    have hw : IntKind.i64.wrap ((i : Int) + 1) = ((i + 1 : Nat) : Int) := by rw [wrap_i64 (by omega)]; omega
    have H := aj hxx (aj hw H)
    refine rg [0, 1, 5, 7, 8] (k := rs (k := rr (k := ro (pre := [_, _, _, _, _]) (k := ?_))))
    refine RunO.callw au au au hcal ((hf x (by rw [← hxe]; exact List.getElem_mem _)).mono ?_)
    rintro r1 s1 ⟨rfl, hs⟩
    subst s1
    refine rl [0, 1, 5, 7, 8, 16] (k := rc (ht := fun hc1 => ?_) (hf := fun hc1 => ?_))
    · refine rs (k := rg [4] (k := rR (k := rP (by simp only [Try.f52, go_sem]; rfl) hwf ⟨?_, rfl⟩)))
      first
        | (rw [idxF_step p hil, hxe, if_pos hc1] at hidx
           rw [hidx]; rfl)
        | (have : i = xs.length := by have := of_decide_eq_false hc0; omega
           rw [this, List.drop_length] at hidx
           rw [hidx]; rfl)
    · refine rk (k := rB (k := rg [0, 1, 7, 8] (k := ?_)))
      rw [idxF_step p hil, hxe, if_neg (by rw [hc1]; simp)] at hidx
      refine Run.lp ⟨⟨rfl, i + 1, rfl, by omega, hidx⟩, ?_⟩
      simp only [ivar, go_sem, ↓reduceIte, Nat.reduceEqDiff]
      omega
  · refine rX (k := rs (k := rg [4] (k := rR (k := rP (by simp only [Try.f52, go_sem]; rfl) hwf ⟨?_, rfl⟩))))
    first
      | (rw [idxF_step p hil, hxe, if_pos hc1] at hidx
         rw [hidx]; rfl)
      | (have : i = xs.length := by have := of_decide_eq_false hc0; omega
         rw [this, List.drop_length] at hidx
         rw [hidx]; rfl)
theorem contains_Win {xs : List Win} {k : FuncId} {cap : List PV} {p : Win → Bool} {s : St} (hsz : xs.length < 140737488355328) (hcal : callable Try.prog k = true) (hcap : PV.weaks cap = cap) (hf : ∀ x ∈ xs, ACalls Try.prog k (x.pv :: cap) s (fun r s' => r = .bool (p x) ∧ s' = s)) :
    ACalls Try.prog 35 [.sl .unk (xs.map Win.pv), .fn (.func k) [] cap] s (fun r s' => r = .bool (xs.any p) ∧ s' = s) := by
  refine go Try.func35 (k := fun hwf H => ?_)
  have H := aj hcap H
  refine rs (k := rg [0, 1] (k := rs (k := rr (k := ro (pre := [_, _]) (k := rC (h := index_Win hsz hcal hcap hf) (k := rh [4] (k := rR (k := rP (by simp only [Try.f35, go_sem]; rfl) hwf ⟨?_, rfl⟩))))))))
  rw [idxF_any]; rfl
theorem window_Meets1 {a b : Win} (ha : a.ok) (hb : b.ok) {s : St} {kb : Nat} (hk : s.blk kb = some (.row 45 [a.pv])) : ACalls Try.prog 59 [b.pv, .ptr kb 0 0] s (fun r s' => r = .bool (winMeet a b) ∧ s' = s) := by
  refine go Try.func59 (k := fun hwf H => ?_)
  have hlt : kb < s.nxt := by
    rcases Nat.lt_or_ge kb s.nxt with k | k
    · exact k
    · rw [hwf kb k] at hk; cases hk
  have hk0 : (kb = s.nxt) = False := eq_false (by omega)
  rw [Win.pv] at hk
  have H := aj hk (aj hk0 H)
  refine rs (k := rg [1, 2] (k := rs (k := rr (k := ro (pre := [_, _]) (k := rC (h := window_meet (a := a) (b := b) ha hb) (k := rh [3] (k := rR (k := rP (by simp only [Try.f59, go_sem]; rfl) hwf ⟨?_, rfl⟩))))))))
  rfl
theorem window_Meets {a b : List Win} (ha : ∀ w ∈ a, w.ok) (hb : ∀ w ∈ b, w.ok) (na : a.length < 140737488355328) (nb : b.length < 140737488355328) {s : St} : ACalls Try.prog 45 [.sl .unk (a.map Win.pv), .sl .unk (b.map Win.pv)] s (fun r s' => r = .bool (winsMeet a b) ∧ s' = s) := by
  refine go Try.func45 (k := fun hwf H => ?_)
  refine rs (k := rg [0, 1] (k := rs (k := rs (k := rg [1, 7, 8, 9] (k := rb (k := ?_))))))
  refine Run.loop (fun e s' => Fr s s' ∧ ∃ i : Nat, e = [(1, .sl .unk (b.map Win.pv)), (7, .sl .unk (a.map Win.pv)), (8, .int .i64 a.length), (9, .int .i64 i)] ∧ i ≤ a.length ∧ winsMeet a b = winsMeet (a.drop i) b) (fun e s' => a.length - ivar e 9) ?_ ?_
  · exact ⟨Fr.refl hwf, 0, rfl, by omega, rfl⟩
  rintro e s1 ⟨F1, i, rfl, hi, hidx⟩
  refine rs (k := rg [1, 7, 8, 9, 10] (k := rs (k := rc (ht := fun hc0 => ?_) (hf := fun hc0 => ?_))))
  · refine rk (k := rs (k := rb (k := rs (k := ?_))))
    have hil : i < a.length := by have := of_decide_eq_true hc0; omega
    obtain ⟨x, hxe⟩ : ∃ z_, a[i]'hil = z_ := ⟨_, rfl⟩
    have hxx : (a.map Win.pv)[i]? = some (.agg [.int .i64 (x).space, .int .i64 (x).virt, .int .i64 (x).phys, .int .i64 (x).cnt]) := by rw [map_get hil, hxe]; rfl
    have hw : IntKind.i64.wrap ((i : Int) + 1) = ((i + 1 : Nat) : Int) := by rw [wrap_i64 (by omega)]; omega
    have hxok : x.ok := by rw [← hxe]; exact ha _ (List.getElem_mem _)
    have H := aj hxx (aj hw H)
    refine rg [1, 6, 7, 8, 9] (k := rs (k := rr (k := ro (pre := [_, _]) (k := rC (h := contains_Win (p := fun y => winMeet x y) nb (by kernel_rfl) rfl (fun y hy => window_Meets1 hxok (hb y hy) (by rw [blk_new, if_pos rfl]; rfl))) (k := rl [1, 7, 8, 9, 15] (k := rc (ht := fun hc1 => ?_) (hf := fun hc1 => ?_)))))))
    · refine rs (k := rg [4] (k := rR (k := ?_)))
      refine Ret.pure (by simp only [Try.f45, go_sem] <;> rfl) rfl (by simp only [go_sem, reduceCtorEq, false_implies, implies_true]) hwf (by first | exact (F1).blk | exact (F1.new _).blk) ⟨?_, rfl⟩
      · first
          | (have : winsMeet (a.drop i) b = true := by
               rw [drop_get hil, hxe]
               show (b.any (fun y => winMeet x y) || winsMeet (a.drop (i + 1)) b) = _
               rw [show b.any (fun y => winMeet x y) = true from hc1, Bool.true_or]
             rw [hidx, this]; rfl)
          | (have : i = a.length := by have := of_decide_eq_false hc0; omega
             rw [hidx, this, List.drop_length]; rfl)
    · refine rk (k := rB (k := rg [1, 7, 8, 9] (k := ?_)))
      have hidx2 : winsMeet a b = winsMeet (a.drop (i + 1)) b := by
        rw [hidx, drop_get hil, hxe]
        show (b.any (fun y => winMeet x y) || winsMeet (a.drop (i + 1)) b) = _
        rw [show b.any (fun y => winMeet x y) = false from hc1, Bool.false_or]
      refine Run.lp ⟨⟨F1.new _, i + 1, rfl, by omega, hidx2⟩, ?_⟩
      simp only [ivar, go_sem, ↓reduceIte, Nat.reduceEqDiff]
      omega
  · refine rX (k := rs (k := rg [4] (k := rR (k := ?_))))
    refine Ret.pure (by simp only [Try.f45, go_sem] <;> rfl) rfl (by simp only [go_sem, reduceCtorEq, false_implies, implies_true]) hwf (by first | exact (F1).blk | exact (F1.new _).blk) ⟨?_, rfl⟩
    · first
        | (have : winsMeet (a.drop i) b = true := by
             rw [drop_get hil, hxe]
             show (b.any (fun y => winMeet x y) || winsMeet (a.drop (i + 1)) b) = _
             rw [show b.any (fun y => winMeet x y) = true from hc1, Bool.true_or]
           rw [hidx, this]; rfl)
        | (have : i = a.length := by have := of_decide_eq_false hc0; omega
           rw [hidx, this, List.drop_length]; rfl)
theorem window_Own {l : List Win} (ha : ∀ w ∈ l, w.ok) (na : l.length < 140737488355328) {s : St} : ACalls Try.prog 38 [.sl .unk (l.map Win.pv)] s (fun r s' => r = .bool (winsOwn l) ∧ s' = s) := by
  refine go Try.func38 (k := fun hwf H => ?_)
  refine rs (k := rg [0] (k := rs (k := rs (k := rg [0, 9, 10, 11] (k := rb (k := ?_))))))
  refine Run.loop (fun e s' => Fr s s' ∧ ∃ i : Nat, e = [(0, .sl .unk (l.map Win.pv)), (9, .sl .unk (l.map Win.pv)), (10, .int .i64 l.length), (11, .int .i64 i)] ∧ i ≤ l.length ∧ winsOwn l = winsOwnA (l.take i) (l.drop i)) (fun e s' => l.length - ivar e 11) ?_ ?_
  · exact ⟨Fr.refl hwf, 0, rfl, by omega, rfl⟩
  rintro e s1 ⟨F1, i, rfl, hi, hidx⟩
  refine rs (k := rg [0, 9, 10, 11, 12] (k := rs (k := rc (ht := fun hc0 => ?_) (hf := fun hc0 => ?_))))
  · refine rk (k := rs (k := rb (k := rs (k := ?_))))
    have hil : i < l.length := by have := of_decide_eq_true hc0; omega
    obtain ⟨a, hae⟩ : ∃ z_, l[i]'hil = z_ := ⟨_, rfl⟩
    have hxa : (l.map Win.pv)[i]? = some (.agg [.int .i64 (a).space, .int .i64 (a).virt, .int .i64 (a).phys, .int .i64 (a).cnt]) := by rw [map_get hil, hae]; rfl
    have hw : IntKind.i64.wrap ((i : Int) + 1) = ((i + 1 : Nat) : Int) := by rw [wrap_i64 (by omega)]; omega
    have haok : a.ok := by rw [← hae]; exact ha _ (List.getElem_mem _)
    have hsl : (l.map Win.pv).take i = (l.take i).map Win.pv := List.map_take.symm
    have hile : ((i : Int) ≤ (l.length : Int)) = True := eq_true (by omega)
    have htl : (l.take i).length = i := by simp; omega
    have H := aj hxa (aj hw (aj hsl (aj hile (aj htl H))))
    refine rg [0, 3, 4, 9, 10, 11] (k := rs (k := rg [0, 4, 9, 10, 11, 18, 19, 20] (k := rb (k := ?_))))
    refine Run.loop (fun e s' => Fr s s' ∧ ∃ j : Nat, e = [(0, .sl .unk (l.map Win.pv)), (4, .ptr s1.nxt 0 0), (9, .sl .unk (l.map Win.pv)), (10, .int .i64 l.length), (11, .int .i64 i), (18, .sl .unk ((l.take i).map Win.pv)), (19, .int .i64 i), (20, .int .i64 j)] ∧ j ≤ i ∧ ((l.take i).take j).all (fun y => !winBad a y) = true ∧ s1.nxt < s'.nxt ∧ s'.blk s1.nxt = some (.row 45 [.agg [.int .i64 (a).space, .int .i64 (a).virt, .int .i64 (a).phys, .int .i64 (a).cnt]])) (fun e s' => i - ivar e 20) ?_ ?_
    · exact ⟨F1.new _, 0, rfl, by omega, rfl, by simp only [go_sem]; omega, by rw [blk_new, if_pos rfl]⟩
    rintro e s2 ⟨F2, j, rfl, hj, hall, hXl, hX⟩
    refine rs (k := rg [0, 4, 9, 10, 11, 18, 19, 20, 21] (k := rs (k := rc (ht := fun hc1 => ?_) (hf := fun hc1 => ?_))))
    · refine rk (k := rs (k := rb (k := rs (k := ?_))))
      have hjl : j < (l.take i).length := by have := of_decide_eq_true hc1; omega
      obtain ⟨b, hbe⟩ : ∃ z_, (l.take i)[j]'hjl = z_ := ⟨_, rfl⟩
      have hxb : ((l.take i).map Win.pv)[j]? = some (.agg [.int .i64 (b).space, .int .i64 (b).virt, .int .i64 (b).phys, .int .i64 (b).cnt]) := by rw [map_get hjl, hbe]; rfl
      have hwj : IntKind.i64.wrap ((j : Int) + 1) = ((j + 1 : Nat) : Int) := by rw [wrap_i64 (by omega)]; omega
      have hbok : b.ok := by rw [← hbe]; exact ha _ (List.mem_of_mem_take (List.getElem_mem _))
      have hXn : (s1.nxt = s2.nxt) = False := eq_false (by omega)
      have hXn1 : (s1.nxt = s2.nxt + 1) = False := eq_false (by omega)
      have H := aj hxb (aj hwj (aj hX (aj hXn (aj hXn1 H))))
      refine rg [0, 4, 6, 9, 10, 11, 18, 19, 20] (k := rs (k := ?_))
      refine Run.drawNew 10 8 9 76 (.agg [.int .i64 0, .int .i64 0]) (.agg [.int .i64 (spMeet a.v b.v).pos, .int .i64 (spMeet a.v b.v).cnt]) Try.mixed (by kernel_rfl) (by kernel_rfl) ?_
      refine DetBC.pre (pre := [_]) (by decide) in1 au ?_
      refine DetBC.call (by decide) au au au (by kernel_rfl) in1 (fun s _ => window_virtual (w := a)) ?_
      refine DetBC.pre (pre := [_]) (by decide) in1 au ?_
      refine DetBC.call (by decide) au au au (by kernel_rfl) in1 (fun s _ => window_virtual (w := b)) ?_
      refine DetBC.call (by decide) au au au (by kernel_rfl) in1 (fun s _ => span_Meet (a := a.v) (b := b.v) haok.v hbok.v) ?_
      refine DetBC.pre (pre := [_, _, _]) (by decide) in1 au ?_
      refine DetBC.eff (by decide) in1 au au ?_
      refine DetBC.eff (by decide) in2 au au ?_
      refine DetBC.nil in3 ?_
      refine rh [0, 4, 6, 8, 9, 10, 11, 18, 19, 20] (k := rs (k := ?_))
      generalize hm : spMeets a.v b.v = m
      have F3 := (F2.new (.row 45 [.agg [.int .i64 (b).space, .int .i64 (b).virt, .int .i64 (b).phys, .int .i64 (b).cnt]])).newset (.row 76 [.agg [.int .i64 0, .int .i64 0]]) (some (.row 76 [.agg [.int .i64 (spMeet a.v b.v).pos, .int .i64 (spMeet a.v b.v).cnt]])) (id := s2.nxt + 1) rfl
      refine rr (k := ro (pre := [_, _]) (k := rC (h := window_meet (a := a) (b := b) haok hbok) (k := ro (pre := [_]) (k := rQ 35 (ht := fun hg3 => ?_) (hf := fun hg3 => ?_)))))
      · refine rg0 (k := rg0 (k := rgU (k := rgU (k := rgU (k := rgU (k := rgU (k := rg0 (k := rg0 (k := rgU (k := rgU (k := rg0 (k := rg0 (k := rgU (k := rgU (k := rg0 (k := rh [0, 4, 9, 10, 11, 18, 19, 20, 52] (k := rc (ht := fun hc2 => ?_) (hf := fun hc2 => ?_))))))))))))))))))
        · refine rs (k := rg [2] (k := rR (k := ?_)))
          refine Ret.pure (by simp only [Try.f38, go_sem] <;> rfl) rfl (by simp only [go_sem, reduceCtorEq, false_implies, implies_true]) hwf (by first | exact (F1).blk | exact (F3).blk) ⟨?_, rfl⟩
          · first
              | (have : i = l.length := by have := of_decide_eq_false hc0; omega
                 rw [this, List.drop_length] at hidx
                 rw [hidx]; rfl)
              | (have e : winBad a b = (winMeet a b || (m && decide (a.space = b.space) && winRight a && winRight b)) := by rw [winBad, winMeetV, hm]
                 have hbad : winBad a b = true := by
                   first
                     | (simp [e, hg3]; done)
                     | (simp [e, hg3, hg5, hg12, hg16, hc2]; done)
                     | (simp [e, hg3, hg5, hg16, hc2]; simpa using hg12)
                 have : winsOwn l = false := by
                   rw [hidx, winsOwnA_step hil, hae]
                   have hin : b ∈ l.take i := by rw [← hbe]; exact List.getElem_mem _
                   have : (l.take i).all (fun y => !winBad a y) = false := List.all_eq_false.2 ⟨b, hin, by simp [hbad]⟩
                   rw [this, Bool.false_and]
                 rw [this]; rfl)
        · cases hc2
      · refine rg1 (k := rg1 (k := rQ 37 (ht := fun hg5 => ?_) (hf := fun hg5 => ?_)))
        · refine rg1 (k := rg1 (k := rg1 (k := rg1 (k := rg1 (k := rg1 (k := rg1 (k := rQ 44 (ht := fun hg12 => ?_) (hf := fun hg12 => ?_))))))))
          · refine rg1 (k := rC (h := window_Right haok) (k := rg1 (k := rg1 (k := rQ 48 (ht := fun hg16 => ?_) (hf := fun hg16 => ?_)))))
            · refine rg1 (k := rC (h := window_Right hbok) (k := rg1 (k := rh [0, 4, 9, 10, 11, 18, 19, 20, 52] (k := rc (ht := fun hc2 => ?_) (hf := fun hc2 => ?_)))))
              · refine rs (k := rg [2] (k := rR (k := ?_)))
                refine Ret.pure (by simp only [Try.f38, go_sem] <;> rfl) rfl (by simp only [go_sem, reduceCtorEq, false_implies, implies_true]) hwf (by first | exact (F1).blk | exact (F3).blk) ⟨?_, rfl⟩
                · first
                    | (have : i = l.length := by have := of_decide_eq_false hc0; omega
                       rw [this, List.drop_length] at hidx
                       rw [hidx]; rfl)
                    | (have e : winBad a b = (winMeet a b || (m && decide (a.space = b.space) && winRight a && winRight b)) := by rw [winBad, winMeetV, hm]
                       have hbad : winBad a b = true := by
                         first
                           | (simp [e, hg3]; done)
                           | (simp [e, hg3, hg5, hg12, hg16, hc2]; done)
                           | (simp [e, hg3, hg5, hg16, hc2]; simpa using hg12)
                       have : winsOwn l = false := by
                         rw [hidx, winsOwnA_step hil, hae]
                         have hin : b ∈ l.take i := by rw [← hbe]; exact List.getElem_mem _
                         have : (l.take i).all (fun y => !winBad a y) = false := List.all_eq_false.2 ⟨b, hin, by simp [hbad]⟩
                         rw [this, Bool.false_and]
                       rw [this]; rfl)
              · refine rk (k := rB (k := rg [0, 4, 9, 10, 11, 18, 19, 20] (k := ?_)))
                have e : winBad a b = (winMeet a b || (m && decide (a.space = b.space) && winRight a && winRight b)) := by rw [winBad, winMeetV, hm]
                have hbad : winBad a b = false := by
                  first
                    | (simp [e, hg3, hg5, hg12, hg16, hc2]; done)
                    | (simp [e, hg3, hg5, hg12, hg16]; done)
                    | (simp [e, hg3, hg5, hg12]; done)
                    | (simp [e, hg3, hg5]; done)
                    | (simp [e, hg3, hg5]; simpa using hg12)
                refine Run.lp ⟨⟨F3, j + 1, rfl, by omega, ?_, by simp only [go_sem]; omega, by simp only [go_sem, hX, hXn, hXn1, ↓reduceIte]⟩, ?_⟩
                · rw [take_get hjl, List.all_append, hall, hbe]
                  simp [hbad]
                · simp only [ivar, go_sem, ↓reduceIte, Nat.reduceEqDiff]
                  omega
            · refine rg0 (k := rg0 (k := rg1 (k := rh [0, 4, 9, 10, 11, 18, 19, 20, 52] (k := rc (ht := fun hc2 => ?_) (hf := fun hc2 => ?_)))))
              · cases hc2
              · refine rk (k := rB (k := rg [0, 4, 9, 10, 11, 18, 19, 20] (k := ?_)))
                have e : winBad a b = (winMeet a b || (m && decide (a.space = b.space) && winRight a && winRight b)) := by rw [winBad, winMeetV, hm]
                have hbad : winBad a b = false := by
                  first
                    | (simp [e, hg3, hg5, hg12, hg16, hc2]; done)
                    | (simp [e, hg3, hg5, hg12, hg16]; done)
                    | (simp [e, hg3, hg5, hg12]; done)
                    | (simp [e, hg3, hg5]; done)
                    | (simp [e, hg3, hg5]; simpa using hg12)
                refine Run.lp ⟨⟨F3, j + 1, rfl, by omega, ?_, by simp only [go_sem]; omega, by simp only [go_sem, hX, hXn, hXn1, ↓reduceIte]⟩, ?_⟩
                · rw [take_get hjl, List.all_append, hall, hbe]
                  simp [hbad]
                · simp only [ivar, go_sem, ↓reduceIte, Nat.reduceEqDiff]
                  omega
          · refine rg0 (k := rg0 (k := rg1 (k := rg1 (k := rQ 48 (ht := fun hg16 => ?_) (hf := fun hg16 => ?_)))))
            · cases hg16
            · refine rg0 (k := rg0 (k := rg1 (k := rh [0, 4, 9, 10, 11, 18, 19, 20, 52] (k := rc (ht := fun hc2 => ?_) (hf := fun hc2 => ?_)))))
              · cases hc2
              · refine rk (k := rB (k := rg [0, 4, 9, 10, 11, 18, 19, 20] (k := ?_)))
                have e : winBad a b = (winMeet a b || (m && decide (a.space = b.space) && winRight a && winRight b)) := by rw [winBad, winMeetV, hm]
                have hbad : winBad a b = false := by
                  first
                    | (simp [e, hg3, hg5, hg12, hg16, hc2]; done)
                    | (simp [e, hg3, hg5, hg12, hg16]; done)
                    | (simp [e, hg3, hg5, hg12]; done)
                    | (simp [e, hg3, hg5]; done)
                    | (simp [e, hg3, hg5]; simpa using hg12)
                refine Run.lp ⟨⟨F3, j + 1, rfl, by omega, ?_, by simp only [go_sem]; omega, by simp only [go_sem, hX, hXn, hXn1, ↓reduceIte]⟩, ?_⟩
                · rw [take_get hjl, List.all_append, hall, hbe]
                  simp [hbad]
                · simp only [ivar, go_sem, ↓reduceIte, Nat.reduceEqDiff]
                  omega
        · refine rg0 (k := rg0 (k := rg0 (k := rg0 (k := rg0 (k := rg1 (k := rg1 (k := rQ 44 (ht := fun hg12 => ?_) (hf := fun hg12 => ?_))))))))
          · cases hg12
          · refine rg0 (k := rg0 (k := rg1 (k := rg1 (k := rQ 48 (ht := fun hg16 => ?_) (hf := fun hg16 => ?_)))))
            · cases hg16
            · refine rg0 (k := rg0 (k := rg1 (k := rh [0, 4, 9, 10, 11, 18, 19, 20, 52] (k := rc (ht := fun hc2 => ?_) (hf := fun hc2 => ?_)))))
              · cases hc2
              · refine rk (k := rB (k := rg [0, 4, 9, 10, 11, 18, 19, 20] (k := ?_)))
                have e : winBad a b = (winMeet a b || (m && decide (a.space = b.space) && winRight a && winRight b)) := by rw [winBad, winMeetV, hm]
                have hbad : winBad a b = false := by
                  first
                    | (simp [e, hg3, hg5, hg12, hg16, hc2]; done)
                    | (simp [e, hg3, hg5, hg12, hg16]; done)
                    | (simp [e, hg3, hg5, hg12]; done)
                    | (simp [e, hg3, hg5]; done)
                    | (simp [e, hg3, hg5]; simpa using hg12)
                refine Run.lp ⟨⟨F3, j + 1, rfl, by omega, ?_, by simp only [go_sem]; omega, by simp only [go_sem, hX, hXn, hXn1, ↓reduceIte]⟩, ?_⟩
                · rw [take_get hjl, List.all_append, hall, hbe]
                  simp [hbad]
                · simp only [ivar, go_sem, ↓reduceIte, Nat.reduceEqDiff]
                  omega
    · refine rX (k := rB (k := rg [0, 9, 10, 11] (k := ?_)))
      have hj : j = i := by have := of_decide_eq_false hc1; omega
      have hidx2 : winsOwn l = winsOwnA (l.take (i + 1)) (l.drop (i + 1)) := by
        rw [hidx, winsOwnA_step hil, hae]
        rw [hj, List.take_take, Nat.min_self] at hall
        rw [hall, Bool.true_and]
      refine Run.lp ⟨⟨F2, i + 1, rfl, by omega, hidx2⟩, ?_⟩
      simp only [ivar, go_sem, ↓reduceIte, Nat.reduceEqDiff]
      omega
  · refine rX (k := rs (k := rg [2] (k := rR (k := ?_))))
    refine Ret.pure (by simp only [Try.f38, go_sem] <;> rfl) rfl (by simp only [go_sem, reduceCtorEq, false_implies, implies_true]) hwf (by first | exact (F1).blk | exact (F3).blk) ⟨?_, rfl⟩
    · first
        | (have : i = l.length := by have := of_decide_eq_false hc0; omega
           rw [this, List.drop_length] at hidx
           rw [hidx]; rfl)
        | (have e : winBad a b = (winMeet a b || (m && decide (a.space = b.space) && winRight a && winRight b)) := by rw [winBad, winMeetV, hm]
           have hbad : winBad a b = true := by
             first
               | (simp [e, hg3]; done)
               | (simp [e, hg3, hg5, hg12, hg16, hc2]; done)
               | (simp [e, hg3, hg5, hg16, hc2]; simpa using hg12)
           have : winsOwn l = false := by
             rw [hidx, winsOwnA_step hil, hae]
             have hin : b ∈ l.take i := by rw [← hbe]; exact List.getElem_mem _
             have : (l.take i).all (fun y => !winBad a y) = false := List.all_eq_false.2 ⟨b, hin, by simp [hbad]⟩
             rw [this, Bool.false_and]
           rw [this]; rfl)
end Go.Proofs

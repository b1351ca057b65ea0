import Derived.Test.YtegdcamfhldcoaaPmD
set_option linter.unusedVariables false
set_option linter.unusedSimpArgs false
namespace Go.PM
open Go

/-! ## Types -/

inductive TD where
  | int (k : IntKind) | bool | str | ptr (e : Nat) | sl (e : Nat) | arr (n e : Nat) | map (k e : Nat)
  | struct (fs : List (Nat × Nat × Option Bool)) | fn | iface | other

def aggO (P : Program) (t : TypeId) : Option Bool := match P.underlying t with
  | some (.struct _) | some (.array _ _) => some true
  | some _ => some false
  | none => none

def td (P : Program) (t : TypeId) : TD := match P.underlying t with
  | some (.int k) => .int k
  | some .bool => .bool
  | some .string => .str
  | some (.pointer e) => .ptr e
  | some (.slice e) => .sl e
  | some (.array n e) => .arr n e
  | some (.map k e) => .map k e
  | some (.struct fs) => .struct (fs.toList.map fun f => (f.offset, P.cellsOf f.type, aggO P f.type))
  | some (.func ..) => .fn
  | some (.interface _) => .iface
  | _ => .other

def notTup : Value → Bool
  | .tuple _ => false
  | _ => true

/-- the zero value of a type, if it is one that we can tell -/
def zpv (P : Program) (t : TypeId) : Option PV := match (P.info? t).bind (·.zero) with
  | some v => if flatV v && v.cells.size == P.cellsOf t && 0 < P.cellsOf t && notTup v && (pvOf v).ok then some (pvOf v) else none
  | none => none

section runs
variable {P : Program} {w : World}

theorem underlying_run {t d} (h : P.underlying t = some d) : (underlying t).run P w = .ok d w := by
  unfold underlying
  rw [bind_run]
  show (match P.underlying t with | some d => (pure d : Sem TypeDesc) | none => stuck "no such type").run P w = _
  rw [h]; rfl

theorem cells_info {t} (h : 0 < P.cellsOf t) : ∃ i, P.info? t = some i ∧ i.size = P.cellsOf t := by
  unfold Program.cellsOf at h ⊢
  cases hi : P.info? t with
  | none => rw [hi] at h; simp at h
  | some i => exact ⟨i, rfl, rfl⟩

theorem typeInfo_run {t i} (h : P.info? t = some i) : (typeInfo t).run P w = .ok i w := by
  unfold typeInfo
  rw [bind_run]
  show (match P.info? t with | some i => (pure i : Sem TypeInfo) | none => stuck "no such type").run P w = _
  rw [h]; rfl

theorem sizeOf_run {t} (h : 0 < P.cellsOf t) : (sizeOf t).run P w = .ok (P.cellsOf t) w := by
  obtain ⟨i, hi, hs⟩ := cells_info h
  unfold sizeOf
  rw [bind_run, typeInfo_run hi]
  simp only [hs]; rfl

theorem isAgg_run {t b} (h : aggO P t = some b) : (isAgg t).run P w = .ok b w := by
  unfold aggO at h
  unfold isAgg
  rw [bind_run]
  cases hu : P.underlying t with
  | none => rw [hu] at h; simp at h
  | some d =>
    rw [underlying_run hu]
    rw [hu] at h
    cases d <;> simp at h <;> subst h <;> rfl

theorem zero_run {t v} (h : zpv P t = some v) : ∃ z, (zeroValue t).run P w = .ok z w ∧ v = pvOf z ∧ flatV z = true ∧ z.cells.size = P.cellsOf t ∧ 0 < P.cellsOf t ∧ (∀ vs, z ≠ .tuple vs) ∧ v.ok = true := by
  unfold zpv at h
  cases hi : P.info? t with
  | none => rw [hi] at h; simp at h
  | some i =>
    rw [hi] at h
    simp only [Option.bind_some] at h
    cases hz : i.zero with
    | none => rw [hz] at h; simp at h
    | some z =>
      rw [hz] at h
      simp only at h
      split at h
      · rename_i hc
        simp only [Bool.and_eq_true, beq_iff_eq, decide_eq_true_eq] at hc
        have h := (Option.some.inj h).symm
        subst h
        refine ⟨z, ?_, rfl, hc.1.1.1.1, hc.1.1.1.2, hc.1.1.2, ?_, hc.2⟩
        · unfold zeroValue
          rw [bind_run, typeInfo_run hi]
          simp only [hz]; rfl
        · intro vs e
          subst e
          simp [notTup] at hc
      · cases h

end runs

/-! ## Reading -/

/-- of whatever kind: nil, or an address -/
theorem slHead0_any {g w k n vs v} (h : slHead0 g w k n vs v) : v = .slice none 0 0 ∨ ∃ a cap, v = .slice (some a) n cap := by
  have main : (∃ b o cap sz, v = .slice (some ⟨b, o, none⟩) n cap ∧ n ≤ cap ∧ 0 < sz ∧ (k = .clip → cap = n) ∧ (0 < n → g.free b (o + n * sz)) ∧ cellsAt w b o (flat vs) ∧
      (∀ v ∈ vs, v.cells.size = sz) ∧
      ∀ t z, k = .tok t z → sz = z ∧ t < g.nxt ∧ ∀ b' L, g.toks t = some (b', L) → n ≤ L ∧ (n = L → b' = b ∧ g.lim b = some (o + L * sz) ∧ o + cap * sz ≤ csize w b)) → v = .slice none 0 0 ∨ ∃ a cap, v = .slice (some a) n cap :=
    fun ⟨b, o, cap, _, e, _⟩ => .inr ⟨_, cap, e⟩
  cases k with
  | nil => exact .inl h.1
  | clip => exact main h
  | any => exact main h
  | tok t z => exact main h
  | unk => exact main h
  | unc => exact main h

theorem slHead_any {g w k n vs v} (h : slHead g w k n vs v) : v = .slice none 0 0 ∨ ∃ a cap, v = .slice (some a) n cap := by
  cases k with
  | unk => rcases h with h | h
           · exact slHead0_any (g := g) (w := w) (vs := vs) (k := .nil) h
           · exact slHead0_any (g := g) (w := w) (vs := vs) (k := .any) h
  | unc => rcases h with h | h
           · exact slHead0_any (g := g) (w := w) (vs := vs) (k := .nil) h
           · exact slHead0_any (g := g) (w := w) (vs := vs) (k := .clip) h
  | nil => exact slHead0_any (g := g) (w := w) (vs := vs) (k := .nil) h
  | clip => exact slHead0_any (g := g) (w := w) (vs := vs) (k := .clip) h
  | any => exact slHead0_any (g := g) (w := w) (vs := vs) (k := .any) h
  | tok t z => exact slHead0_any (g := g) (w := w) (vs := vs) (k := .tok t z) h

theorem R_flat {g w} {p : PV} {v : Value} (h : R g w p v) (hok : p.ok = true) : (∃ cs, p = .agg cs) ∨ (p.cells = [p] ∧ v.flat = true) := by
  cases p with
  | agg cs => exact .inl ⟨cs, rfl⟩
  | tuple vs => simp [PV.ok] at hok
  | junk => simp [PV.ok] at hok
  | gd b p => simp [PV.ok] at hok
  | int k n => simp only [R] at h; exact .inr ⟨rfl, by rw [h]; rfl⟩
  | bool b => simp only [R] at h; exact .inr ⟨rfl, by rw [h]; rfl⟩
  | str s => simp only [R] at h; exact .inr ⟨rfl, by rw [h]; rfl⟩
  | nilp => simp only [R] at h; exact .inr ⟨rfl, by rw [h]; rfl⟩
  | nilf => simp only [R] at h; exact .inr ⟨rfl, by rw [h]; rfl⟩
  | nili => simp only [R] at h; exact .inr ⟨rfl, by rw [h]; rfl⟩
  | nilm => simp only [R] at h; exact .inr ⟨rfl, by rw [h]; rfl⟩
  | rptr cs => simp only [R] at h; obtain ⟨b, o, vs, rfl, _⟩ := h; exact .inr ⟨rfl, rfl⟩
  | sl k els =>
    simp only [R] at h
    obtain ⟨vs, _, hs⟩ := h
    refine .inr ⟨rfl, ?_⟩
    rcases slHead_any hs with rfl | ⟨a, cap, rfl⟩ <;> rfl
  | fn f a b => simp only [R] at h; obtain ⟨x, y, rfl, _⟩ := h; exact .inr ⟨rfl, rfl⟩
  | iface t p => simp only [R] at h; obtain ⟨x, rfl, _⟩ := h; exact .inr ⟨rfl, rfl⟩
  | ptr id i j => simp only [R] at h; obtain ⟨_, b, sz, _, rfl⟩ := h; exact .inr ⟨rfl, rfl⟩
  | own id off len => simp only [R] at h; obtain ⟨_, b, sz, cap, _, _, rfl, _⟩ := h; exact .inr ⟨rfl, rfl⟩
  | map id => simp only [R] at h; obtain ⟨_, b, sz, _, rfl⟩ := h; exact .inr ⟨rfl, rfl⟩

theorem flat_cells {v : Value} (h : v.flat = true) : v.cells = #[v] := by cases v <;> first | rfl | (simp [Value.flat] at h)

theorem RA_cells {g w} {p : PV} {v : Value} (h : R g w p v) (hok : p.ok = true) : RA g w p.cells v.cells.toList ∧ (∀ x ∈ v.cells.toList, x.flat = true) ∧ p.cells.length = v.cells.size := by
  rcases R_flat h hok with ⟨cs, rfl⟩ | ⟨hp, hv⟩
  · simp only [R] at h
    obtain ⟨a, rfl, hf, hr⟩ := h
    exact ⟨hr, hf, by have := RA_length hr; simpa [PV.cells, Value.cells] using this⟩
  · rw [hp, flat_cells hv]
    refine ⟨?_, ?_, rfl⟩
    · simp only [RA]; exact ⟨v, [], rfl, h, rfl⟩
    · intro x hx; simp at hx; subst hx; exact hv

end Go.PM

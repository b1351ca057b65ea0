import Derived.Test.YtegdcamfhldcoaaPmA
set_option linter.unusedVariables false
set_option linter.unusedSimpArgs false
namespace Go.PM
open Go

/-! ## Memory: the primitive steps -/

theorem bind_run {α β : Type} (P : Program) (x : Sem α) (f : α → Sem β) (w : World) :
    (x >>= f).run P w = match x.run P w with | .ok a w' => (f a).run P w' | .halt h w' => .halt h w' := by
  show (x.bind f).run P w = _
  induction x generalizing w with
  | pure a => rfl
  | load m a k ih =>
    simp only [Sem.bind, Sem.run]
    split
    · exact ih _ _
    · split
      · exact ih _ _
      · rfl
  | store m a v k ih =>
    simp only [Sem.bind]
    cases v <;> simp only [Sem.run] <;> (try rfl)
    all_goals
      split
      · split
        · rfl
        · exact ih _
      · split
        · exact ih _
        · rfl
  | new o k ih => simp only [Sem.bind, Sem.run]; exact ih _ _
  | shape r k ih => simp only [Sem.bind, Sem.run]; exact ih _ _
  | freeze a n k ih => simp only [Sem.bind, Sem.run]; exact ih _
  | frozen a k ih => simp only [Sem.bind, Sem.run]; exact ih _ _
  | getObj r k ih =>
    simp only [Sem.bind, Sem.run]
    split
    · rfl
    · exact ih _ _
    · rfl
  | setObj r o k ih =>
    simp only [Sem.bind, Sem.run]
    split
    · rfl
    · exact ih _
    · rfl
  | choose q k ih =>
    simp only [Sem.bind, Sem.run]
    split
    · exact ih _ _
    · exact ih _ _
  | sys c k ih => simp only [Sem.bind, Sem.run]; exact ih _ _
  | program k ih => simp only [Sem.bind, Sem.run]; exact ih _ _
  | mark m k ih => simp only [Sem.bind, Sem.run]; exact ih _
  | halt h => rfl

theorem pure_run {α : Type} (P : Program) (a : α) (w : World) : (pure a : Sem α).run P w = .ok a w := rfl

def putCells (w : World) (b o : Nat) : List Value → World
  | [] => w
  | v :: vs => putCells (w.setCell ⟨b, o, none⟩ v) b (o + 1) vs

def Writable (w : World) (b : Nat) : Prop := ∃ c ty lo hi, w.heap[b]? = some (.cells c ty (lo, hi)) ∧ ∀ o, o < c.size → ¬ (lo ≤ o ∧ o < hi)

theorem Writable.lt {w : World} {b} (h : Writable w b) : b < w.heap.size := by
  obtain ⟨c, ty, lo, hi, h, _⟩ := h
  exact (Array.getElem?_eq_some_iff.1 h).1

theorem setCell_heap (w : World) (b o : Nat) (v : Value) (k : Nat) :
    (w.setCell ⟨b, o, none⟩ v).heap[k]? = if k = b then (w.heap[b]?).map (fun x => match x with | .cells c e f => .cells (c.setIfInBounds o v) e f | y => y) else w.heap[k]? := by
  simp only [World.setCell, Array.getElem?_modify, Option.isSome_none, Bool.false_eq_true, if_false]
  by_cases h : k = b
  · subst h; simp only [if_true]; rfl
  · rw [if_neg (fun e => h e.symm), if_neg h]

theorem setCell_size (w : World) (b o : Nat) (v : Value) : (w.setCell ⟨b, o, none⟩ v).heap.size = w.heap.size := by simp [World.setCell]

theorem setCell_cell (w : World) (b o : Nat) (v : Value) (b' o' : Nat) :
    (w.setCell ⟨b, o, none⟩ v).cell? ⟨b', o', none⟩ = if b' = b ∧ o' = o then (w.cell? ⟨b, o, none⟩).map (fun _ => v) else w.cell? ⟨b', o', none⟩ := by
  unfold World.cell?
  simp only [setCell_heap, Option.isSome_none, Bool.false_eq_true, if_false]
  by_cases h : b' = b
  · subst h
    simp only [if_true, true_and]
    cases hw : w.heap[b']? with
    | none => simp
    | some x =>
      cases x <;> simp
      rename_i c e f
      rw [Array.getElem?_setIfInBounds]
      by_cases ho : o' = o
      · subst ho
        simp only [if_true]
        by_cases hlt : o' < c.size
        · simp [hlt]
        · simp [hlt]
      · rw [if_neg (fun e => ho e.symm), if_neg ho]
  · simp [h]

theorem setCell_csize (w : World) (b o : Nat) (v : Value) (b' : Nat) : csize (w.setCell ⟨b, o, none⟩ v) b' = csize w b' := by
  unfold csize World.shape?
  rw [setCell_heap]
  by_cases h : b' = b
  · subst h
    simp only [if_true]
    cases w.heap[b']? with
    | none => rfl
    | some x => cases x <;> simp
  · rw [if_neg h]

theorem setCell_writable {w : World} {b o : Nat} {v : Value} {b' : Nat} (h : Writable w b') : Writable (w.setCell ⟨b, o, none⟩ v) b' := by
  obtain ⟨c, ty, lo, hi, h, hf⟩ := h
  by_cases e : b' = b
  · subst e
    exact ⟨c.setIfInBounds o v, ty, lo, hi, by rw [setCell_heap, if_pos rfl, h]; rfl, by simpa using hf⟩
  · exact ⟨c, ty, lo, hi, by rw [setCell_heap, if_neg e]; exact h, hf⟩

theorem putCells_size : ∀ (vs : List Value) (w : World) (b o : Nat), (putCells w b o vs).heap.size = w.heap.size
  | [], w, b, o => rfl
  | v :: vs, w, b, o => by rw [putCells, putCells_size vs, setCell_size]

theorem putCells_other : ∀ (vs : List Value) (w : World) (b o k : Nat), k ≠ b → (putCells w b o vs).heap[k]? = w.heap[k]?
  | [], w, b, o, k, _ => rfl
  | v :: vs, w, b, o, k, h => by rw [putCells, putCells_other vs _ _ _ _ h, setCell_heap, if_neg h]

theorem putCells_csize : ∀ (vs : List Value) (w : World) (b o k : Nat), csize (putCells w b o vs) k = csize w k
  | [], w, b, o, k => rfl
  | v :: vs, w, b, o, k => by rw [putCells, putCells_csize vs, setCell_csize]

theorem putCells_writable : ∀ (vs : List Value) (w : World) (b o : Nat) {k : Nat}, Writable w k → Writable (putCells w b o vs) k
  | [], w, b, o, k, h => h
  | v :: vs, w, b, o, k, h => putCells_writable vs _ _ _ (setCell_writable h)

theorem putCells_rest : ∀ (vs : List Value) (w : World) (b o : Nat), (putCells w b o vs).os = w.os ∧ (putCells w b o vs).tape = w.tape ∧ (putCells w b o vs).output = w.output
  | [], w, b, o => ⟨rfl, rfl, rfl⟩
  | v :: vs, w, b, o => putCells_rest vs _ _ _

/-- a cell outside of what is written -/
theorem putCells_cell_out : ∀ (vs : List Value) (w : World) (b o b' o' : Nat), (b' ≠ b ∨ o' < o ∨ o + vs.length ≤ o') → (putCells w b o vs).cell? ⟨b', o', none⟩ = w.cell? ⟨b', o', none⟩
  | [], w, b, o, b', o', _ => rfl
  | v :: vs, w, b, o, b', o', h => by
    simp only [List.length_cons] at h
    rw [putCells, putCells_cell_out vs _ _ _ _ _ (by omega), setCell_cell, if_neg (by omega)]

theorem putCells_cell_in : ∀ (vs : List Value) (w : World) (b o : Nat), o + vs.length ≤ csize w b → cellsAt (putCells w b o vs) b o vs
  | [], w, b, o, _ => fun j h => absurd h (by simp)
  | v :: vs, w, b, o, h => by
    intro j hj
    simp only [List.length_cons] at h hj
    cases j with
    | zero =>
      rw [putCells, putCells_cell_out _ _ _ _ _ _ (by omega), setCell_cell, if_pos ⟨rfl, rfl⟩]
      have : ∃ u, w.cell? ⟨b, o, none⟩ = some u := by
        unfold csize World.shape? at h
        unfold World.cell?
        simp only
        split at h
        · rename_i c e f hh
          simp only [Option.map_some, Option.getD_some] at h
          simp only [Option.isSome_none, Bool.false_eq_true, if_false]
          exact ⟨c[o]'(by omega), by simp⟩
        · simp at h
      obtain ⟨u, hu⟩ := this
      rw [hu]; rfl
    | succ j =>
      have := putCells_cell_in vs (w.setCell ⟨b, o, none⟩ v) b (o + 1) (by rw [setCell_csize]; omega) j (by omega)
      rw [putCells]
      simpa [Nat.add_assoc, Nat.add_comm 1 j] using this

theorem addr_add (b o i : Nat) : (Addr.add ⟨b, o, none⟩ i) = ⟨b, o + i, none⟩ := by
  unfold Addr.add
  by_cases h : i = 0
  · subst h; rfl
  · rw [if_neg h]

theorem storeCells_run (P : Program) (b : Nat) : ∀ (vs : List Value) (w : World) (o i : Nat), (∀ v ∈ vs, v.flat = true) → Writable w b → o + i + vs.length ≤ csize w b →
    (storeCells ⟨b, o, none⟩ vs i).run P w = .ok () (putCells w b (o + i) vs)
  | [], w, o, i, _, _, _ => rfl
  | v :: vs, w, o, i, hf, hw, hc => by
    simp only [List.length_cons] at hc
    have hv := hf v (by simp)
    have h1 : (store ((⟨b, o, none⟩ : Addr).add i) v).run P w = .ok () (w.setCell ⟨b, o + i, none⟩ v) := by
      rw [addr_add]
      have hcell : ∃ u, w.cell? ⟨b, o + i, none⟩ = some u := by
        obtain ⟨c, ty, lo, hi, hh, _⟩ := hw
        unfold csize World.shape? at hc
        rw [hh] at hc
        simp at hc
        unfold World.cell?
        rw [hh]
        simp only [Option.isSome_none, Bool.false_eq_true, if_false]
        exact ⟨c[o + i]'(by omega), by simp⟩
      obtain ⟨u, hu⟩ := hcell
      have hfr : w.frozen? ⟨b, o + i, none⟩ = false := by
        obtain ⟨c, ty, lo, hi, hh, hno⟩ := hw
        unfold World.frozen?
        rw [hh]
        have := hno (o + i) (by unfold csize World.shape? at hc; rw [hh] at hc; simp at hc; omega)
        simp only [decide_eq_false_iff_not, Bool.and_eq_false_iff]
        by_cases hlo : lo ≤ o + i
        · right; simp; omega
        · left; simpa using hlo
      cases v <;> simp_all [store, Sem.run, Value.flat]
    rw [storeCells, bind_run, h1]
    simp only
    rw [storeCells_run P b vs _ o (i + 1) (fun x hx => hf x (by simp [hx])) (setCell_writable hw) (by rw [setCell_csize]; omega)]
    rw [putCells, Nat.add_assoc]

theorem loadCellsFrom_run (P : Program) (w : World) (b : Nat) : ∀ (vs : List Value) (o i : Nat) (acc : Array Value), cellsAt w b (o + i) vs →
    (loadCellsFrom ⟨b, o, none⟩ i vs.length acc).run P w = .ok (acc ++ vs.toArray) w
  | [], o, i, acc, _ => by simp [loadCellsFrom, pure_run]
  | v :: vs, o, i, acc, h => by
    have h0 := h 0 (by simp)
    have h1 : (load ((⟨b, o, none⟩ : Addr).add i)).run P w = .ok v w := by
      rw [addr_add]
      simp only [load, Sem.run]
      simp only [Nat.add_zero, List.getElem_cons_zero] at h0
      rw [h0]
    simp only [List.length_cons, loadCellsFrom]
    rw [bind_run, h1]
    simp only
    rw [loadCellsFrom_run P w b vs o (i + 1) (acc.push v)]
    · simp
    · intro j hj
      have := h (j + 1) (by simp; omega)
      simp only [List.getElem_cons_succ] at this
      rw [← this]
      congr 2
      omega

theorem loadCells_run (P : Program) (w : World) (b o : Nat) (vs : List Value) (n : Nat) (hn : n = vs.length) (h : cellsAt w b o vs) :
    (loadCells ⟨b, o, none⟩ n).run P w = .ok vs.toArray w := by
  subst hn
  rw [loadCells, loadCellsFrom_run P w b vs o 0 #[] (by simpa using h)]
  simp

/-! ## A new block -/

def World.newB (w : World) (o : Obj) : World := { w with heap := w.heap.push o }

theorem newB_old (w : World) (o : Obj) {k : Nat} (h : k < w.heap.size) : (World.newB w o).heap[k]? = w.heap[k]? := by
  show (w.heap.push o)[k]? = _
  rw [Array.getElem?_push, if_neg (by omega)]

theorem newB_new (w : World) (o : Obj) : (World.newB w o).heap[w.heap.size]? = some o := by
  show (w.heap.push o)[w.heap.size]? = _
  rw [Array.getElem?_push, if_pos rfl]

theorem newB_size (w : World) (o : Obj) : (World.newB w o).heap.size = w.heap.size + 1 := by simp [World.newB]

theorem cell_of_heap {w w' : World} {b : Nat} (h : w'.heap[b]? = w.heap[b]?) (o : Nat) : w'.cell? ⟨b, o, none⟩ = w.cell? ⟨b, o, none⟩ := by
  unfold World.cell?; simp only [h]

theorem csize_of_heap {w w' : World} {b : Nat} (h : w'.heap[b]? = w.heap[b]?) : csize w' b = csize w b := by
  unfold csize World.shape?; rw [h]

theorem writable_of_heap {w w' : World} {b : Nat} (h : w'.heap[b]? = w.heap[b]?) (k : Writable w b) : Writable w' b := by
  unfold Writable; rw [h]; exact k

theorem cellsAt_of_heap {w w' : World} {b : Nat} (h : w'.heap[b]? = w.heap[b]?) {o vs} (k : cellsAt w b o vs) : cellsAt w' b o vs :=
  fun j hj => by rw [cell_of_heap h]; exact k j hj

theorem newB_cells (w : World) (c : Array Value) (t : TypeId) (fr : Nat × Nat) (vs : List Value) (h : vs <+: c.toList) : cellsAt (World.newB w (.cells c t fr)) w.heap.size 0 vs := by
  intro j hj
  unfold World.cell?
  rw [newB_new]
  simp only [Option.isSome_none, Bool.false_eq_true, if_false, Nat.zero_add]
  obtain ⟨r, hr⟩ := h
  rw [← Array.getElem?_toList, ← hr, List.getElem?_append_left hj]
  simp

theorem newB_csize (w : World) (c : Array Value) (t : TypeId) (fr : Nat × Nat) : csize (World.newB w (.cells c t fr)) w.heap.size = c.size := by
  unfold csize World.shape?
  rw [newB_new]; rfl

theorem newB_writable (w : World) (c : Array Value) (t : TypeId) : Writable (World.newB w (.cells c t (0, 0))) w.heap.size :=
  ⟨c, t, 0, 0, newB_new _ _, fun o _ => by omega⟩

/-! ## The store -/

inductive Blk where
  | row (t : TypeId) (els : List PV)
  | tok (L : Nat)
  | map (es : List (PV × PV))

structure St where
  nxt : Nat
  blk : Nat → Option Blk

def St.set (s : St) (id : Nat) (b : Option Blk) : St := { nxt := s.nxt, blk := fun i => if i = id then b else s.blk i }
def St.new (s : St) (b : Blk) : St := { nxt := s.nxt + 1, blk := fun i => if i = s.nxt then some b else s.blk i }
def St.wf (s : St) : Prop := ∀ i, s.nxt ≤ i → s.blk i = none

def RowAt (g : G) (w : World) (b sz : Nat) (els : List PV) (vs : List Value) : Prop :=
  Writable w b ∧ cellsAt w b 0 (flat vs) ∧ (∀ v ∈ vs, v.cells.size = sz ∧ ∀ x ∈ v.cells.toList, x.flat = true) ∧ RA g w els vs

def MapAt (g : G) (w : World) (b : Nat) (es : List (PV × PV)) : Prop :=
  ∃ me : List MapEntry, ∃ clock, w.heap[b]? = some (.map me.toArray clock) ∧ RA g w (es.map (·.1)) (me.map (·.key)) ∧ RA g w (es.map (·.2)) (me.map (·.val))

/-- what holds of one name -/
def At (P : Program) (g : G) (w : World) (id : Nat) : Option Blk → Prop
  | none => g.live id = false ∧ g.toks id = none
  | some (.row t els) => g.toks id = none ∧ g.live id = true ∧ ∃ b vs, g.rows id = some (b, P.cellsOf t) ∧ 0 < P.cellsOf t ∧ RowAt g w b (P.cellsOf t) els vs
  | some (.tok L) => g.live id = false ∧ ∃ b e, g.toks id = some (b, L) ∧ g.lim b = some e ∧ ¬ g.isRow b ∧ Writable w b
  | some (.map es) => g.toks id = none ∧ g.live id = true ∧ ∃ b, g.rows id = some (b, 0) ∧ MapAt g w b es

structure Inv (P : Program) (g : G) (s : St) (w : World) : Prop where
  nxt : g.nxt = s.nxt
  wf : s.wf
  at' : ∀ id, At P g w id (s.blk id)
  inj : ∀ i j b m n, g.live i = true → g.live j = true → g.rows i = some (b, m) → g.rows j = some (b, n) → i = j
  tinj : ∀ i j b m n, g.toks i = some (b, m) → g.toks j = some (b, n) → i = j
  lim : ∀ b e, g.lim b = some e → b < w.heap.size
  rlim : ∀ id b n, g.live id = true → g.rows id = some (b, n) → g.lim b = none

theorem Inv.rowlt {P g s w} (h : Inv P g s w) {id b n} (hl : g.live id = true) (e : g.rows id = some (b, n)) : b < w.heap.size := by
  have := h.at' id
  cases hb : s.blk id with
  | none => rw [hb] at this; simp [At, hl] at this
  | some x =>
    rw [hb] at this
    cases x with
    | row t els =>
      obtain ⟨_, _, b', vs, e', _, hw, _⟩ := this
      rw [e] at e'; cases e'
      exact hw.lt
    | tok L => simp [At, hl] at this
    | map es =>
      obtain ⟨_, _, b', e', me, cl, hh, _⟩ := this
      rw [e] at e'; cases e'
      exact (Array.getElem?_eq_some_iff.1 hh).1

theorem Inv.toklt {P g s w} (h : Inv P g s w) {id b n} (e : g.toks id = some (b, n)) : b < w.heap.size ∧ ¬ g.isRow b ∧ Writable w b ∧ ∃ e, g.lim b = some e := by
  have := h.at' id
  cases hb : s.blk id with
  | none => rw [hb] at this; simp [At, e] at this
  | some x =>
    rw [hb] at this
    cases x with
    | row t els => simp [At, e] at this
    | tok L =>
      obtain ⟨_, b', x, e', hl, hr, hw⟩ := this
      rw [e] at e'; cases e'
      exact ⟨hw.lt, hr, hw, x, hl⟩
    | map es => simp [At, e] at this

theorem Inv.newfree {P g s w} (h : Inv P g s w) {b : Nat} (hb : w.heap.size ≤ b) : ¬ g.isRow b ∧ g.lim b = none := by
  constructor
  · rintro ⟨id, n, e, hl⟩
    have := h.rowlt hl e
    omega
  · cases hl : g.lim b with
    | none => rfl
    | some e => have := h.lim b e hl; omega

/-- One name changes, the others stay. -/
theorem Inv.step {P g s w g' s' w'} (x : Nat) (h : Inv P g s w) (e : Ext g w g' w')
    (hn : g'.nxt = s'.nxt) (hwf : s'.wf)
    (hs : ∀ id, id ≠ x → s'.blk id = s.blk id ∧ g'.rows id = g.rows id ∧ g'.live id = g.live id ∧ g'.toks id = g.toks id)
    (hw : ∀ id b n, id ≠ x → g.live id = true → g.rows id = some (b, n) → w'.heap[b]? = w.heap[b]?)
    (ht : ∀ id b n, id ≠ x → g.toks id = some (b, n) → g'.lim b = g.lim b ∧ ¬ g'.isRow b)
    (hwr : ∀ b, Writable w b → Writable w' b)
    (hx : At P g' w' x (s'.blk x))
    (hi : ∀ b m j n, g'.live x = true → g'.rows x = some (b, m) → j ≠ x → g.live j = true → g.rows j = some (b, n) → False)
    (hti : ∀ b m j n, g'.toks x = some (b, m) → j ≠ x → g.toks j = some (b, n) → False)
    (hl : ∀ b e, g'.lim b = some e → b < w'.heap.size) (hlm : ∀ id b n, id ≠ x → g.live id = true → g.rows id = some (b, n) → g'.lim b = g.lim b)
    (hxl : ∀ b m, g'.live x = true → g'.rows x = some (b, m) → g'.lim b = none) : Inv P g' s' w' where
  nxt := hn
  wf := hwf
  at' := fun id => by
    by_cases hid : id = x
    · subst hid; exact hx
    · obtain ⟨h1, h2, hlv, h3⟩ := hs id hid
      rw [h1]
      have := h.at' id
      cases hb : s.blk id with
      | none => rw [hb] at this; simp only [At] at this ⊢; rw [hlv, h3]; exact this
      | some y =>
        rw [hb] at this
        cases y with
        | row t els =>
          obtain ⟨a, al, b, vs, a1, a2, a3, a4, a5, a6⟩ := this
          have := hw id b _ hid al a1
          exact ⟨by rw [h3]; exact a, by rw [hlv]; exact al, b, vs, by rw [h2]; exact a1, a2, hwr b a3, cellsAt_of_heap this a4, a5, RA_ext e _ _ a6⟩
        | tok L =>
          obtain ⟨a, b, l, a1, a2, a3, a4⟩ := this
          obtain ⟨t1, t2⟩ := ht id b L hid a1
          exact ⟨by rw [hlv]; exact a, b, l, by rw [h3]; exact a1, by rw [t1]; exact a2, t2, hwr b a4⟩
        | map es =>
          obtain ⟨a, al, b, a1, me, cl, a2, a3, a4⟩ := this
          have := hw id b _ hid al a1
          exact ⟨by rw [h3]; exact a, by rw [hlv]; exact al, b, by rw [h2]; exact a1, me, cl, by rw [this]; exact a2, RA_ext e _ _ a3, RA_ext e _ _ a4⟩
  inj := fun i j b m n li lj hi' hj' => by
    by_cases ix : i = x
    · by_cases jx : j = x
      · rw [ix, jx]
      · subst ix
        rw [(hs j jx).2.1] at hj'
        rw [(hs j jx).2.2.1] at lj
        exact (hi b m j n li hi' jx lj hj').elim
    · rw [(hs i ix).2.1] at hi'
      rw [(hs i ix).2.2.1] at li
      by_cases jx : j = x
      · subst jx
        exact (hi b n i m lj hj' ix li hi').elim
      · rw [(hs j jx).2.1] at hj'
        rw [(hs j jx).2.2.1] at lj
        exact h.inj i j b m n li lj hi' hj'
  tinj := fun i j b m n hi' hj' => by
    by_cases ix : i = x
    · by_cases jx : j = x
      · rw [ix, jx]
      · subst ix
        rw [(hs j jx).2.2.2] at hj'
        exact (hti b m j n hi' jx hj').elim
    · rw [(hs i ix).2.2.2] at hi'
      by_cases jx : j = x
      · subst jx
        exact (hti b n i m hj' ix hi').elim
      · rw [(hs j jx).2.2.2] at hj'
        exact h.tinj i j b m n hi' hj'
  lim := hl
  rlim := fun i b n li hi' => by
    by_cases ix : i = x
    · subst ix; exact hxl b n li hi'
    · rw [(hs i ix).2.1] at hi'
      rw [(hs i ix).2.2.1] at li
      rw [hlm i b n ix li hi']
      exact h.rlim i b n li hi'

end Go.PM

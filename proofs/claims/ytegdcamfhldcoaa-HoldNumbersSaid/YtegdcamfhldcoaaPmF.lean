import Derived.Test.YtegdcamfhldcoaaPmE
set_option linter.unusedVariables false
set_option linter.unusedSimpArgs false
namespace Go.PM
open Go

/-! ## Loads, stores, addresses -/

theorem cellsAt_append {w : World} {b : Nat} {xs ys : List Value} : ∀ {o : Nat}, cellsAt w b o (xs ++ ys) ↔ cellsAt w b o xs ∧ cellsAt w b (o + xs.length) ys := by
  intro o
  constructor
  · intro h
    refine ⟨fun j hj => ?_, fun j hj => ?_⟩
    · have := h j (by simp; omega)
      rw [this, List.getElem_append_left hj]
    · have := h (xs.length + j) (by simp; omega)
      rw [Nat.add_assoc, this, List.getElem_append_right (by omega)]
      simp
  · rintro ⟨h1, h2⟩ j hj
    by_cases hx : j < xs.length
    · rw [List.getElem_append_left hx]; exact h1 j hx
    · rw [List.getElem_append_right (by omega)]
      have := h2 (j - xs.length) (by simp at hj; omega)
      rw [← this]
      congr 2
      omega

theorem cellsAt_flat {w : World} {b sz : Nat} : ∀ {vs : List Value} {o : Nat}, (∀ v ∈ vs, v.cells.size = sz) →
    (cellsAt w b o (flat vs) ↔ ∀ i v, vs[i]? = some v → cellsAt w b (o + i * sz) v.cells.toList)
  | [], o, _ => by
    constructor
    · intro _ i v h; simp at h
    · intro _ j hj; simp [flat] at hj
  | v :: vs, o, h => by
    have hv := h v (by simp)
    have ih := cellsAt_flat (w := w) (b := b) (sz := sz) (vs := vs) (o := o + sz) fun u hu => h u (by simp [hu])
    have : flat (v :: vs) = v.cells.toList ++ flat vs := rfl
    rw [this, cellsAt_append, Array.length_toList, hv, ih]
    constructor
    · rintro ⟨h1, h2⟩ i u hu
      cases i with
      | zero => simp at hu; subst hu; simpa using h1
      | succ i =>
        have := h2 i u (by simpa using hu)
        rw [Nat.add_mul]
        rw [Nat.add_assoc] at this
        rw [Nat.one_mul, Nat.add_comm (i * sz)]
        exact this
    · intro k
      refine ⟨by simpa using k 0 v (by simp), fun i u hu => ?_⟩
      have := k (i + 1) u (by simpa using hu)
      rw [Nat.add_mul, Nat.one_mul, Nat.add_comm (i * sz)] at this
      rw [Nat.add_assoc]
      exact this

theorem cellsAt_drop {w : World} {b o : Nat} {vs : List Value} (h : cellsAt w b o vs) (n : Nat) : cellsAt w b (o + n) (vs.drop n) := by
  intro j hj
  have := h (n + j) (by simp at hj; omega)
  rw [Nat.add_assoc, this]
  simp

theorem cellsAt_take {w : World} {b o : Nat} {vs : List Value} (h : cellsAt w b o vs) (n : Nat) : cellsAt w b o (vs.take n) := by
  intro j hj
  have := h j (by simp at hj; omega)
  rw [this]
  simp

def loadC (P : Program) (t : TypeId) (cs : List PV) : Option PV :=
  match aggO P t with
  | some true => if P.cellsOf t ≤ cs.length ∧ 0 < P.cellsOf t then some (.agg (cs.take (P.cellsOf t))) else none
  | some false => cs.head?
  | none => none

theorem loadC_run {P : Program} {g : G} {w : World} {b o : Nat} {vs : List Value} {cs : List PV} {t : TypeId} {v : PV} (hc : cellsAt w b o vs) (hr : RA g w cs vs)
    (hf : ∀ x ∈ vs, x.flat = true) (h : loadC P t cs = some v) : ∃ val, (loadVar t ⟨b, o, none⟩).run P w = .ok val w ∧ R g w v val := by
  unfold loadC at h
  unfold loadVar
  cases ha : aggO P t with
  | none => rw [ha] at h; cases h
  | some x =>
    rw [ha] at h
    cases x with
    | true =>
      simp only at h
      split at h
      · rename_i hc'
        cases h
        refine ⟨.agg (vs.take (P.cellsOf t)).toArray, ?_, ?_⟩
        · rw [bind_run, isAgg_run ha]
          simp only [if_true]
          rw [bind_run, sizeOf_run hc'.2]
          simp only
          rw [bind_run, loadCells_run P w b o (vs.take (P.cellsOf t)) (P.cellsOf t) (by have := RA_length hr; simp; omega) (cellsAt_take hc _)]
          rfl
        · simp only [R]
          exact ⟨_, rfl, fun x hx => hf x (List.mem_of_mem_take (by simpa using hx)), by simpa using RA_take _ hr⟩
      · cases h
    | false =>
      simp only at h
      cases cs with
      | nil => simp at h
      | cons c cs =>
        simp at h
        subst h
        simp only [RA] at hr
        obtain ⟨x, r, rfl, hx, _⟩ := hr
        refine ⟨x, ?_, hx⟩
        rw [bind_run, isAgg_run ha]
        have := hc 0 (by simp)
        simp only [Nat.add_zero, List.getElem_cons_zero] at this
        simp only [load, Sem.run, Bool.false_eq_true, if_false]
        rw [this]

def aLoad (P : Program) (t : TypeId) (p : PV) (s : St) : Option PV :=
  match p with
  | .ptr id i j => match s.blk id with
    | some (.row _ els) => match els[i]? with
      | some el => if el.ok then loadC P t (el.cells.drop j) else none
      | none => none
    | _ => none
  | .rptr cs => loadC P t cs
  | _ => none

/-- a row's element, as it lies -/
theorem row_elem {P g s w} (h : Inv P g s w) {id ty els i el} (hb : s.blk id = some (.row ty els)) (he : els[i]? = some el) :
    ∃ b vs v, g.rows id = some (b, P.cellsOf ty) ∧ 0 < P.cellsOf ty ∧ RowAt g w b (P.cellsOf ty) els vs ∧ vs[i]? = some v ∧ R g w el v ∧ cellsAt w b (i * P.cellsOf ty) v.cells.toList ∧ v.cells.size = P.cellsOf ty := by
  have := h.at' id
  rw [hb] at this
  obtain ⟨_, _, b, vs, h1, h2, h3⟩ := this
  obtain ⟨a1, a2, a3, a4⟩ := h3
  obtain ⟨v, hv, hr⟩ := RA_get a4 i el he
  have hsz : ∀ v ∈ vs, v.cells.size = P.cellsOf ty := fun v hv => (a3 v hv).1
  have := (cellsAt_flat hsz).1 a2 i v hv
  rw [Nat.zero_add] at this
  exact ⟨b, vs, v, h1, h2, ⟨a1, a2, a3, a4⟩, hv, hr, this, hsz v (List.mem_of_getElem? hv)⟩

theorem aLoad_run {P g s w t p v x} (h : Inv P g s w) (hp : R g w p x) (ha : aLoad P t p s = some v) : ∃ val, (Instr.loadAt t x).run P w = .ok val w ∧ R g w v val := by
  unfold aLoad at ha
  cases p with
  | ptr id i j =>
    simp only at ha
    cases hb : s.blk id with
    | none => rw [hb] at ha; cases ha
    | some bl =>
      rw [hb] at ha
      cases bl with
      | row ty els =>
        simp only at ha
        cases he : els[i]? with
        | none => rw [he] at ha; cases ha
        | some el =>
          rw [he] at ha
          simp only at ha
          split at ha
          · rename_i hok
            obtain ⟨b, vs, u, h1, h2, h3, h4, h5, h6, h7⟩ := row_elem h hb he
            obtain ⟨c1, c2, c3⟩ := RA_cells h5 hok
            simp only [R] at hp
            obtain ⟨_, b', sz', hb', rfl⟩ := hp
            rw [h1] at hb'; cases hb'
            obtain ⟨val, hv, hr⟩ := loadC_run (P := P) (cellsAt_drop h6 j) (RA_drop j c1) (fun y hy => c2 y (List.mem_of_mem_drop hy)) ha
            exact ⟨val, by rw [Instr.loadAt, bind_run]; exact hv, hr⟩
          · cases ha
      | tok L => cases ha
      | map es => cases ha
  | rptr cs =>
    simp only at ha
    simp only [R] at hp
    obtain ⟨b, o, vs, rfl, hf, hc, hfl, hr⟩ := hp
    obtain ⟨val, hv, hr⟩ := loadC_run (P := P) hc hr hfl ha
    exact ⟨val, by rw [Instr.loadAt, bind_run]; exact hv, hr⟩
  | _ => cases ha

/-- cells of cs from j on replaced -/
def spl (cs : List PV) (j : Nat) (xs : List PV) : List PV := match xs with
  | [x] => cs.set j x
  | xs => cs.take j ++ (xs ++ cs.drop (j + xs.length))

def splV {α : Type} (cs : List α) (j : Nat) (xs : List α) : List α := cs.take j ++ (xs ++ cs.drop (j + xs.length))

theorem spl_eq {cs : List PV} {j xs} (h : j + xs.length ≤ cs.length) : spl cs j xs = splV cs j xs := by
  unfold spl splV
  split
  · rename_i x
    simp only [List.length_singleton] at h ⊢
    rw [List.set_eq_take_append_cons_drop, if_pos (by omega)]
    rfl
  · rfl

theorem splV_length {α : Type} {cs : List α} {j xs} (h : j + xs.length ≤ cs.length) : (splV cs j xs).length = cs.length := by
  simp [splV]; omega

theorem RA_splV {g w cs vs j xs us} (h : RA g w cs vs) (k : RA g w xs us) : RA g w (splV cs j xs) (splV vs j us) := by
  unfold splV
  rw [RA_length k]
  exact RA_append (RA_take _ h) (RA_append k (RA_drop _ h))

theorem cellsAt_splV {w : World} {b o : Nat} {vs us : List Value} {j : Nat} (h : cellsAt w b o vs) (hj : j + us.length ≤ vs.length) (hc : o + vs.length ≤ csize w b) :
    cellsAt (putCells w b (o + j) us) b o (splV vs j us) := by
  unfold splV
  rw [cellsAt_append, cellsAt_append]
  refine ⟨?_, ?_, ?_⟩
  · intro i hi
    simp at hi
    rw [putCells_cell_out _ _ _ _ _ _ (by omega)]
    exact cellsAt_take h j i (by simp; omega)
  · rw [List.length_take, Nat.min_eq_left (by omega)]
    exact putCells_cell_in us w b (o + j) (by omega)
  · rw [List.length_take, Nat.min_eq_left (by omega)]
    intro i hi
    simp at hi
    rw [putCells_cell_out _ _ _ _ _ _ (by omega)]
    have := cellsAt_drop h (j + us.length) i (by simp; omega)
    rw [← this]
    congr 2
    omega

theorem cellsAt_csize {w : World} {b o : Nat} {vs : List Value} (h : cellsAt w b o vs) (hp : 0 < vs.length) : o + vs.length ≤ csize w b := by
  have := cell_csize (h (vs.length - 1) (by omega))
  omega

def setC (el : PV) (j : Nat) (v : PV) : PV := match el with
  | .agg cs => .agg (spl cs j v.cells)
  | _ => v

def aStore (P : Program) (t : TypeId) (p v : PV) (s : St) : Option St :=
  match p with
  | .ptr id i j => match s.blk id with
    | some (.row ty els) => match els[i]? with
      | some el => if el.ok ∧ v.ok ∧ v.cells.length = P.cellsOf t ∧ 0 < P.cellsOf t ∧ j + P.cellsOf t ≤ el.cells.length then some (s.set id (some (.row ty (els.set i (setC el j v))))) else none
      | none => none
    | _ => none
  | _ => none

/-- storing into a row -/
theorem store_step {P g s w} (h : Inv P g s w) {id ty els i j el b vs u v val xs} (hb : s.blk id = some (.row ty els)) (he : els[i]? = some el)
    (h1 : g.rows id = some (b, P.cellsOf ty)) (h3 : RowAt g w b (P.cellsOf ty) els vs) (h4 : vs[i]? = some u) (h5 : R g w el u) (hok : el.ok = true) (hv : R g w v val) (hvok : v.ok = true)
    (hlen : v.cells.length = xs) (hx : 0 < xs) (hj : j + xs ≤ el.cells.length) :
    Inv P g (s.set id (some (.row ty (els.set i (setC el j v))))) (putCells w b (i * P.cellsOf ty + j) val.cells.toList) ∧
    Ext g w g (putCells w b (i * P.cellsOf ty + j) val.cells.toList) ∧ Writable w b ∧ i * P.cellsOf ty + j + val.cells.toList.length ≤ csize w b := by
  obtain ⟨a1, a2, a3, a4⟩ := h3
  have hsz : ∀ v ∈ vs, v.cells.size = P.cellsOf ty := fun v hv => (a3 v hv).1
  obtain ⟨c1, c2, c3⟩ := RA_cells h5 hok
  obtain ⟨d1, d2, d3⟩ := RA_cells hv hvok
  have hu : u.cells.size = P.cellsOf ty := hsz u (List.mem_of_getElem? h4)
  have hcell := (cellsAt_flat hsz).1 a2 i u h4
  rw [Nat.zero_add] at hcell
  have hcs : i * P.cellsOf ty + u.cells.toList.length ≤ csize w b := cellsAt_csize hcell (by rw [Array.length_toList]; omega)
  have hi : i < vs.length := (List.getElem?_eq_some_iff.1 h4).1
  -- the new value of the element
  obtain ⟨u', hu', hr', hf', hcells'⟩ : ∃ u' : Value, u'.cells.toList = splV u.cells.toList j val.cells.toList ∧ R g w (setC el j v) u' ∧ (∀ x ∈ u'.cells.toList, x.flat = true) ∧ u'.cells.size = u.cells.size := by
    rcases R_flat h5 hok with ⟨cs, rfl⟩ | ⟨hp, hpv⟩
    · have hl : (splV u.cells.toList j val.cells.toList).length = u.cells.toList.length := splV_length (by rw [Array.length_toList, Array.length_toList]; omega)
      have hfl : ∀ x ∈ splV u.cells.toList j val.cells.toList, x.flat = true := by
        intro x hx
        simp only [splV, List.mem_append] at hx
        rcases hx with hx | hx | hx
        · exact c2 x (List.mem_of_mem_take hx)
        · exact d2 x hx
        · exact c2 x (List.mem_of_mem_drop hx)
      refine ⟨.agg (splV u.cells.toList j val.cells.toList).toArray, by simp [Value.cells], ?_, by simpa [Value.cells] using hfl, ?_⟩
      · simp only [setC, R]
        refine ⟨_, rfl, by simpa using hfl, ?_⟩
        rw [spl_eq (by simp only [PV.cells] at *; omega)]
        simpa [PV.cells] using RA_splV c1 d1
      · have : (splV u.cells.toList j val.cells.toList).length = u.cells.size := by rw [hl, Array.length_toList]
        simpa [Value.cells] using this
    · have hj0 : j = 0 := by rw [hp] at hj; simp at hj; omega
      have hx1 : xs = 1 := by rw [hp] at hj; simp at hj; omega
      subst hj0
      have huc := flat_cells hpv
      have hvc : val.cells.size = 1 := by omega
      have hset : setC el 0 v = v := by
        cases el with
        | agg cs => simp only [R] at h5; obtain ⟨a, rfl, _⟩ := h5; simp [Value.flat] at hpv
        | _ => rfl
      refine ⟨val, ?_, by rw [hset]; exact hv, d2, by rw [huc, hvc]; rfl⟩
      rw [huc]
      simp [splV, hvc]
  have hw' : cellsAt (putCells w b (i * P.cellsOf ty + j) val.cells.toList) b 0 (flat (vs.set i u')) := by
    have hsz' : ∀ v ∈ vs.set i u', v.cells.size = P.cellsOf ty := by
      intro x hx
      rcases List.mem_or_eq_of_mem_set hx with hx | rfl
      · exact hsz x hx
      · omega
    rw [cellsAt_flat hsz']
    intro i' v' hv'
    rw [Nat.zero_add]
    rw [List.getElem?_set] at hv'
    by_cases hii : i = i'
    · subst hii
      rw [if_pos rfl, if_pos hi] at hv'
      cases hv'
      rw [hu']
      exact cellsAt_splV hcell (by rw [Array.length_toList, Array.length_toList]; omega) hcs
    · rw [if_neg hii] at hv'
      have hc' := (cellsAt_flat hsz).1 a2 i' v' hv'
      rw [Nat.zero_add] at hc'
      have hs' := hsz v' (List.mem_of_getElem? hv')
      intro q hq
      rw [Array.length_toList, hs'] at hq
      rw [putCells_cell_out]
      · exact hc' q (by rw [Array.length_toList, hs']; exact hq)
      · right
        rw [Array.length_toList]
        have hmul : ∀ a c : Nat, a < c → a * P.cellsOf ty + P.cellsOf ty ≤ c * P.cellsOf ty := fun a c hac => by
          have := Nat.mul_le_mul_right (P.cellsOf ty) hac
          rw [Nat.succ_mul] at this
          exact this
        rcases Nat.lt_or_gt_of_ne hii with hlt | hlt
        · have := hmul i i' hlt; right; omega
        · have := hmul i' i hlt; left; omega
  obtain ⟨r1, r2⟩ := rowStore_step h (els' := els.set i (setC el j v)) (vs' := vs.set i u') (o := i * P.cellsOf ty + j) (xs := val.cells.toList) hb h1 hw' (by
    intro x hx
    rcases List.mem_or_eq_of_mem_set hx with hx | rfl
    · exact a3 x hx
    · exact ⟨by omega, hf'⟩) (RA_set i a4 hr')
  exact ⟨r1, r2, a1, by rw [Array.length_toList] at hcs ⊢; omega⟩

theorem aStore_run {P g s w t p v x val s'} (h : Inv P g s w) (hp : R g w p x) (hv : R g w v val) (ha : aStore P t p v s = some s') :
    ∃ w', (Instr.storeAt t x val).run P w = .ok () w' ∧ Inv P g s' w' ∧ Ext g w g w' := by
  unfold aStore at ha
  cases p with
  | ptr id i j =>
    simp only at ha
    cases hb : s.blk id with
    | none => rw [hb] at ha; cases ha
    | some bl =>
      rw [hb] at ha
      cases bl with
      | row ty els =>
        simp only at ha
        cases he : els[i]? with
        | none => rw [he] at ha; cases ha
        | some el =>
          rw [he] at ha
          simp only at ha
          split at ha
          · rename_i hc
            obtain ⟨hok, hvok, hlen, hpos, hj⟩ := hc
            cases ha
            obtain ⟨b, vs, u, h1, h2, h3, h4, h5, h6, h7⟩ := row_elem h hb he
            simp only [R] at hp
            obtain ⟨_, b', sz', hb', rfl⟩ := hp
            rw [h1] at hb'; cases hb'
            obtain ⟨r1, r2, r3, r4⟩ := store_step (xs := P.cellsOf t) h hb he h1 h3 h4 h5 hok hv hvok hlen hpos hj
            obtain ⟨d1, d2, d3⟩ := RA_cells hv hvok
            refine ⟨_, ?_, r1, r2⟩
            rw [Instr.storeAt, bind_run]
            show (storeVar t _ val).run P w = _
            unfold storeVar
            rw [bind_run, sizeOf_run hpos]
            simp only
            rw [if_neg (by omega)]
            rw [show (⟨b, i * P.cellsOf ty + j, none⟩ : Addr) = ⟨b, i * P.cellsOf ty + j, none⟩ from rfl]
            exact storeCells_run P b _ w _ 0 d2 r3 (by simpa using r4)
          · cases ha
      | tok L => cases ha
      | map es => cases ha
  | _ => cases ha

/-! ## fieldAddr, field, indexAddr, index -/

def aFieldAddr (P : Program) (t : TypeId) (p : PV) (f : Nat) : Option PV :=
  match td P t with
  | .struct fs => match fs[f]? with
    | some (off, size, _) => if 0 < size then match p with
      | .ptr id i j => some (.ptr id i (j + off))
      | .rptr cs => if off ≤ cs.length then some (.rptr (cs.drop off)) else none
      | _ => none else none
    | none => none
  | _ => none

theorem td_struct {P : Program} {t fs} (h : td P t = .struct fs) : ∃ fields : Array Field, P.underlying t = some (.struct fields) ∧ fs = fields.toList.map fun f => (f.offset, P.cellsOf f.type, aggO P f.type) := by
  unfold td at h
  split at h <;> try cases h
  rename_i fields hu
  exact ⟨fields, hu, rfl⟩

theorem aFieldAddr_run {P g w t p f x v} (hp : R g w p x) (ha : aFieldAddr P t p f = some v) : ∃ val, (Instr.fieldAt t x f).run P w = .ok val w ∧ R g w v val := by
  unfold aFieldAddr at ha
  split at ha
  case h_2 => cases ha
  rename_i fs htd
  obtain ⟨fields, hu, rfl⟩ := td_struct htd
  simp only [List.getElem?_map, Array.getElem?_toList] at ha
  cases hf : fields[f]? with
  | none => rw [hf] at ha; cases ha
  | some fd =>
    rw [hf] at ha
    simp only [Option.map_some] at ha
    split at ha
    · rename_i hpos
      have place : ∀ b o, (Instr.fieldAt t (.pointer (some ⟨b, o, none⟩)) f).run P w = .ok (.pointer (some ⟨b, o + fd.offset, none⟩)) w := by
        intro b o
        unfold Instr.fieldAt
        rw [bind_run, underlying_run hu]
        simp only [hf]
        simp only [Instr.sureAddr]
        rw [bind_run, pure_run]
        simp only
        rw [bind_run]
        unfold fieldPlace
        rw [bind_run, sizeOf_run hpos]
        simp only
        rw [if_neg (by omega), addr_add]
        rfl
      cases p with
      | ptr id i j =>
        cases ha
        simp only [R] at hp
        obtain ⟨h0, b, sz, hr, rfl⟩ := hp
        refine ⟨_, place b _, ?_⟩
        simp only [R]
        exact ⟨h0, b, sz, hr, by rw [Nat.add_assoc]⟩
      | rptr cs =>
        simp only at ha
        split at ha
        · rename_i hle
          cases ha
          simp only [R] at hp
          obtain ⟨b, o, vs, rfl, h1, h2, h3, h4⟩ := hp
          refine ⟨_, place b o, ?_⟩
          simp only [R]
          refine ⟨b, o + fd.offset, vs.drop fd.offset, rfl, fun hpos' => ?_, cellsAt_drop h2 _, fun v hv => h3 v (List.mem_of_mem_drop hv), RA_drop _ h4⟩
          simp only [List.length_drop] at hpos' ⊢
          refine free_mono (h1 (by omega)) (by omega)
        · cases ha
      | _ => cases ha
    · cases ha

end Go.PM

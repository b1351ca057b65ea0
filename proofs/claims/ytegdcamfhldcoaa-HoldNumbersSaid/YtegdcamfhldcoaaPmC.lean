import Derived.Test.YtegdcamfhldcoaaPmB
set_option linter.unusedVariables false
set_option linter.unusedSimpArgs false
namespace Go.PM
open Go

/-! ## The steps, with what they do to the store -/

def upd {α : Type} (f : Nat → Option α) (i : Nat) (v : Option α) : Nat → Option α := fun j => if j = i then v else f j
theorem upd_eq {α : Type} (f : Nat → Option α) (i : Nat) (v : Option α) : upd f i v i = v := if_pos rfl
theorem upd_ne {α : Type} (f : Nat → Option α) {i j : Nat} (v : Option α) (h : j ≠ i) : upd f i v j = f j := if_neg h

theorem ext_newB {P g s w} (h : Inv P g s w) (o : Obj) (g' : G) (hnx : g.nxt ≤ g'.nxt) (hrows : ∀ id, id < g.nxt → g'.rows id = g.rows id)
    (htoks : ∀ t, t < g.nxt → ∀ b' L', g'.toks t = some (b', L') → ∃ b L, g.toks t = some (b, L) ∧ (L < L' ∨ (L = L' ∧ b = b' ∧ g'.lim b = g.lim b)))
    (hr : ∀ b, b < w.heap.size → g'.isRow b → g.isRow b) (hl : ∀ b, b < w.heap.size → g'.lim b = g.lim b) : Ext g w g' (World.newB w o) where
  os := rfl
  tape := rfl
  output := rfl
  size := by rw [newB_size]; omega
  nxt := hnx
  rd := fun b o v _ hc => by rw [cell_of_heap (newB_old w _ (cell_lt hc))]; exact hc
  free := fun b n hb hf => ⟨fun k => hf.1 (hr b hb k), fun m hm => hf.2 m (by rw [← hl b hb]; exact hm)⟩
  same := fun b hb _ _ => newB_old w _ hb
  rows := hrows
  csz := fun b hb => csize_of_heap (newB_old w _ hb)
  toks := htoks

theorem toks_keep {g g' : G} {n : Nat} (ht : ∀ t, t < n → g'.toks t = g.toks t) (hl : ∀ t b L, g.toks t = some (b, L) → g'.lim b = g.lim b) :
    ∀ t, t < n → ∀ b' L', g'.toks t = some (b', L') → ∃ b L, g.toks t = some (b, L) ∧ (L < L' ∨ (L = L' ∧ b = b' ∧ g'.lim b = g.lim b)) :=
  fun t hlt b' L' e => by
    rw [ht t hlt] at e
    exact ⟨b', L', e, .inr ⟨rfl, rfl, hl t b' L' e⟩⟩

theorem Inv.id_lt {P g s w} (h : Inv P g s w) {id} (e : s.blk id ≠ none) : id < s.nxt := by
  by_cases k : id < s.nxt
  · exact k
  · exact absurd (h.wf id (by omega)) e

theorem Inv.rows_none {P g s w} (h : Inv P g s w) {id} (e : s.nxt ≤ id) : g.live id = false ∧ g.toks id = none := by
  have := h.at' id
  rw [h.wf id e] at this
  exact this

theorem Inv.toks_lt {P g s w} (h : Inv P g s w) {id x} (e : g.toks id = some x) : id < g.nxt := by
  by_cases k : id < g.nxt
  · exact k
  · rw [(h.rows_none (by rw [← h.nxt]; omega)).2] at e; cases e

theorem isRow_upd {g g' : G} {id b sz : Nat} {b' : Nat} (hf : g'.rows = upd g.rows id (some (b, sz))) (hl : ∀ i, i ≠ id → g'.live i = g.live i) (h : g'.isRow b') : b' = b ∨ g.isRow b' := by
  obtain ⟨i, n, e, l⟩ := h
  rw [hf] at e
  by_cases hi : i = id
  · subst hi
    rw [upd_eq] at e
    cases e
    exact .inl rfl
  · rw [upd_ne _ _ hi] at e
    rw [hl i hi] at l
    exact .inr ⟨i, n, e, l⟩

def updB (f : Nat → Bool) (i : Nat) (v : Bool) : Nat → Bool := fun j => if j = i then v else f j
theorem updB_eq (f : Nat → Bool) (i : Nat) (v : Bool) : updB f i v i = v := if_pos rfl
theorem updB_ne (f : Nat → Bool) {i j : Nat} (v : Bool) (h : j ≠ i) : updB f i v j = f j := if_neg h

/-- a new row -/
theorem newRow_step {P g s w} (h : Inv P g s w) {t ty : TypeId} {els vs} {c : Array Value} (hsz : 0 < P.cellsOf t) (hr : RA g w els vs) (hc : flat vs <+: c.toList)
    (hv : ∀ v ∈ vs, v.cells.size = P.cellsOf t ∧ ∀ x ∈ v.cells.toList, x.flat = true) :
    ∃ g', Inv P g' (s.new (.row t els)) (World.newB w (.cells c ty (0, 0))) ∧ Ext g w g' (World.newB w (.cells c ty (0, 0))) ∧
      g'.rows s.nxt = some (w.heap.size, P.cellsOf t) ∧ g'.nxt = s.nxt + 1 := by
  let g' : G := { nxt := g.nxt + 1, rows := upd g.rows s.nxt (some (w.heap.size, P.cellsOf t)), live := updB g.live s.nxt true, toks := g.toks, lim := g.lim }
  have e : Ext g w g' (World.newB w (.cells c ty (0, 0))) := by
    refine ext_newB h _ g' (Nat.le_succ _) (fun id hid => upd_ne _ _ ?_) (toks_keep (fun _ _ => rfl) (fun _ _ _ _ => rfl)) (fun b hb hk => ?_) (fun _ _ => rfl)
    · have := h.nxt; omega
    · rcases isRow_upd rfl (fun i hi => updB_ne _ _ hi) hk with r | r
      · omega
      · exact r
  have hn := h.rows_none (Nat.le_refl s.nxt)
  refine ⟨g', ?_, e, upd_eq _ _ _, by show g.nxt + 1 = _; rw [h.nxt]⟩
  refine Inv.step s.nxt h e (by show g.nxt + 1 = s.nxt + 1; rw [h.nxt]) ?_ ?_ ?_ ?_ ?_ ?_ ?_ ?_ ?_ (fun _ _ _ _ _ _ => rfl) (fun b m _ e => by rw [show g'.rows s.nxt = some (w.heap.size, P.cellsOf t) from upd_eq _ _ _] at e; cases e; exact (h.newfree (Nat.le_refl _)).2)
  · intro i hi
    simp only [St.new] at hi ⊢
    rw [if_neg (by omega)]
    exact h.wf i (by omega)
  · exact fun id hid => ⟨if_neg hid, upd_ne _ _ hid, updB_ne _ _ hid, rfl⟩
  · exact fun id b n hid l e => newB_old w _ (h.rowlt l e)
  · intro id b n hid et
    refine ⟨rfl, fun hk => ?_⟩
    have ⟨h1, h2, _⟩ := h.toklt et
    rcases isRow_upd rfl (fun i hi => updB_ne _ _ hi) hk with r | r
    · omega
    · exact h2 r
  · exact fun b hb => writable_of_heap (newB_old w _ hb.lt) hb
  · simp only [St.new, if_true, At]
    exact ⟨hn.2, updB_eq _ _ _, w.heap.size, vs, upd_eq _ _ _, hsz, newB_writable _ _ _, newB_cells _ _ _ _ _ hc, hv, RA_ext e _ _ hr⟩
  · intro b m j n _ hx hj lj hjr
    have : g'.rows s.nxt = some (w.heap.size, P.cellsOf t) := upd_eq _ _ _
    rw [this] at hx
    cases hx
    have := h.rowlt lj hjr
    omega
  · intro b m j n hx
    rw [show g'.toks s.nxt = none from hn.2] at hx
    cases hx
  · intro b e' hl
    have := h.lim b e' hl
    rw [newB_size]
    omega

/-- a new token, on a new block -/
theorem newTok_step {P g s w} (h : Inv P g s w) {ty : TypeId} {L E : Nat} {c : Array Value} :
    ∃ g', Inv P g' (s.new (.tok L)) (World.newB w (.cells c ty (0, 0))) ∧ Ext g w g' (World.newB w (.cells c ty (0, 0))) ∧
      g'.toks s.nxt = some (w.heap.size, L) ∧ g'.lim w.heap.size = some E ∧ g'.nxt = s.nxt + 1 ∧ ¬ g'.isRow w.heap.size := by
  let g' : G := { nxt := g.nxt + 1, rows := g.rows, live := g.live, toks := upd g.toks s.nxt (some (w.heap.size, L)), lim := upd g.lim w.heap.size (some E) }
  have hnew := h.newfree (Nat.le_refl w.heap.size)
  have e : Ext g w g' (World.newB w (.cells c ty (0, 0))) := by
    refine ext_newB h _ g' (Nat.le_succ _) (fun id hid => rfl) (toks_keep (fun t ht => upd_ne _ _ ?_) (fun t b L e => upd_ne _ _ ?_)) (fun b hb hk => hk) (fun b hb => upd_ne _ _ (by omega))
    · have := h.nxt; omega
    · have := (h.toklt e).1; omega
  have hn := h.rows_none (Nat.le_refl s.nxt)
  refine ⟨g', ?_, e, upd_eq _ _ _, upd_eq _ _ _, by show g.nxt + 1 = _; rw [h.nxt], hnew.1⟩
  refine Inv.step s.nxt h e (by show g.nxt + 1 = s.nxt + 1; rw [h.nxt]) ?_ ?_ ?_ ?_ ?_ ?_ ?_ ?_ ?_ (fun id b n _ l e => upd_ne _ _ (by have := h.rowlt l e; omega)) (fun b m l => by rw [show g'.live s.nxt = false from hn.1] at l; cases l)
  · intro i hi
    simp only [St.new] at hi ⊢
    rw [if_neg (by omega)]
    exact h.wf i (by omega)
  · exact fun id hid => ⟨if_neg hid, rfl, rfl, upd_ne _ _ hid⟩
  · exact fun id b n hid l e => newB_old w _ (h.rowlt l e)
  · intro id b n hid et
    have ⟨h1, h2, _⟩ := h.toklt et
    exact ⟨upd_ne _ _ (by omega), h2⟩
  · exact fun b hb => writable_of_heap (newB_old w _ hb.lt) hb
  · simp only [St.new, if_true, At]
    exact ⟨hn.1, w.heap.size, E, upd_eq _ _ _, upd_eq _ _ _, hnew.1, newB_writable _ _ _⟩
  · intro b m j n hx
    rw [show g'.live s.nxt = false from hn.1] at hx
    cases hx
  · intro b m j n hx hj hjr
    have : g'.toks s.nxt = some (w.heap.size, L) := upd_eq _ _ _
    rw [this] at hx
    cases hx
    have := (h.toklt hjr).1
    omega
  · intro b e' hl
    rw [newB_size]
    by_cases hb : b = w.heap.size
    · omega
    · have : g'.lim b = g.lim b := upd_ne _ _ hb
      rw [this] at hl
      have := h.lim b e' hl
      omega

/-- a new block that nobody writes -/
theorem newPlain_step {P g s w} (h : Inv P g s w) (o : Obj) : Inv P g s (World.newB w o) ∧ Ext g w g (World.newB w o) := by
  have e : Ext g w g (World.newB w o) := ext_newB h _ g (Nat.le_refl _) (fun _ _ => rfl) (toks_keep (fun _ _ => rfl) (fun _ _ _ _ => rfl)) (fun _ _ k => k) (fun _ _ => rfl)
  refine ⟨?_, e⟩
  refine Inv.step s.nxt h e h.nxt h.wf (fun _ _ => ⟨rfl, rfl, rfl, rfl⟩) (fun id b n _ l e => newB_old w _ (h.rowlt l e)) (fun id b n _ et => ⟨rfl, (h.toklt et).2.1⟩)
    (fun b hb => writable_of_heap (newB_old w _ hb.lt) hb) ?_ ?_ ?_ ?_ (fun _ _ _ _ _ _ => rfl) (fun b m l => by rw [(h.rows_none (Nat.le_refl s.nxt)).1] at l; cases l)
  · have := h.rows_none (Nat.le_refl s.nxt)
    rw [h.wf _ (Nat.le_refl _)]
    exact this
  · intro b m j n hx
    rw [(h.rows_none (Nat.le_refl s.nxt)).1] at hx; cases hx
  · intro b m j n hx
    rw [(h.rows_none (Nat.le_refl s.nxt)).2] at hx; cases hx
  · intro b e' hl
    have := h.lim b e' hl
    rw [newB_size]; omega

/-- cells of a row are written -/
theorem rowStore_step {P g s w} (h : Inv P g s w) {id b t els els' vs' o xs} (hb : s.blk id = some (.row t els)) (hr : g.rows id = some (b, P.cellsOf t))
    (hc : cellsAt (putCells w b o xs) b 0 (flat vs')) (hv : ∀ v ∈ vs', v.cells.size = P.cellsOf t ∧ ∀ x ∈ v.cells.toList, x.flat = true) (ha : RA g w els' vs') :
    Inv P g (s.set id (some (.row t els'))) (putCells w b o xs) ∧ Ext g w g (putCells w b o xs) := by
  have hat := h.at' id
  rw [hb] at hat
  obtain ⟨h1, hlv, b', vs, h2, hpos, hw, _⟩ := hat
  have hrow : g.isRow b := ⟨id, _, hr, hlv⟩
  rw [hr] at h2; cases h2
  have e : Ext g w g (putCells w b o xs) :=
    { os := (putCells_rest xs w b o).1, tape := (putCells_rest xs w b o).2.1, output := (putCells_rest xs w b o).2.2
      size := by rw [putCells_size]; exact Nat.le_refl _
      nxt := Nat.le_refl _
      rd := fun b' o' v hf hcell => by
        have : b' ≠ b := fun e => hf.1 (e ▸ hrow)
        rw [cell_of_heap (putCells_other xs w b o b' this)]; exact hcell
      free := fun _ _ _ hf => hf
      same := fun b' hb' hnr _ => putCells_other xs w b o b' (fun e => hnr (e ▸ hrow))
      rows := fun _ _ => rfl
      csz := fun b' _ => putCells_csize xs w b o b'
      toks := toks_keep (fun _ _ => rfl) (fun _ _ _ _ => rfl) }
  refine ⟨?_, e⟩
  refine Inv.step id h e h.nxt ?_ (fun j hj => ⟨if_neg hj, rfl, rfl, rfl⟩) ?_ ?_ (fun b' hb' => putCells_writable xs w b o hb') ?_ ?_ ?_ ?_ (fun _ _ _ _ _ _ => rfl) (fun b' m l e => h.rlim id b' m l e)
  · intro i hi
    have : i ≠ id := fun e => by
      subst e
      have := h.id_lt (id := i) (by rw [hb]; simp)
      simp only [St.set] at hi
      omega
    simp only [St.set]
    rw [if_neg this]
    exact h.wf i hi
  · intro j b' n hj lj hjr
    refine putCells_other xs w b o b' (fun e => hj ?_)
    subst e
    exact h.inj j id b' n _ lj hlv hjr hr
  · intro j b' n hj hjt
    exact ⟨rfl, (h.toklt hjt).2.1⟩
  · simp only [St.set, if_true, At]
    exact ⟨h1, hlv, b, vs', hr, hpos, putCells_writable xs w b o hw, hc, hv, RA_ext e _ _ ha⟩
  · intro b' m j n _ hx hj lj hjr
    rw [hr] at hx; cases hx
    exact hj (h.inj j id b n _ lj hlv hjr hr)
  · intro b' m j n hx
    rw [h1] at hx; cases hx
  · intro b' e' hl
    rw [putCells_size]; exact h.lim b' e' hl

/-- a token grows in place -/
theorem tokGrow_step {P g s w} (h : Inv P g s w) {t b L m E xs} (ht : s.blk t = some (.tok L)) (hg : g.toks t = some (b, L)) (hl : g.lim b = some E) (hm : 0 < m) :
    ∃ g', Inv P g' (s.set t (some (.tok (L + m)))) (putCells w b E xs) ∧ Ext g w g' (putCells w b E xs) ∧ g'.toks t = some (b, L + m) ∧ g'.lim b = some (E + xs.length) ∧ g'.nxt = g.nxt ∧ ¬ g'.isRow b := by
  obtain ⟨hbl, hnr, hwr, _⟩ := h.toklt hg
  have hat := h.at' t
  rw [ht] at hat
  have hrn : g.live t = false := hat.1
  let g' : G := { nxt := g.nxt, rows := g.rows, live := g.live, toks := upd g.toks t (some (b, L + m)), lim := upd g.lim b (some (E + xs.length)) }
  have e : Ext g w g' (putCells w b E xs) :=
    { os := (putCells_rest xs w b E).1, tape := (putCells_rest xs w b E).2.1, output := (putCells_rest xs w b E).2.2
      size := by rw [putCells_size]; exact Nat.le_refl _
      nxt := Nat.le_refl _
      rd := fun b' o' v hf hcell => by
        rw [putCells_cell_out]
        · exact hcell
        · by_cases hbb : b' = b
          · subst hbb
            have := hf.2 E hl
            omega
          · exact .inl hbb
      free := fun b' n hb' hf => ⟨hf.1, fun x hx => by
        by_cases hbb : b' = b
        · subst hbb
          have h1 : g'.lim b' = some (E + xs.length) := upd_eq _ _ _
          rw [h1] at hx; cases hx
          have := hf.2 E hl
          omega
        · have h1 : g'.lim b' = g.lim b' := upd_ne _ _ hbb
          rw [h1] at hx
          exact hf.2 x hx⟩
      same := fun b' hb' hnr' hlim => putCells_other xs w b E b' (fun e => by subst e; rw [hl] at hlim; cases hlim)
      rows := fun _ _ => rfl
      csz := fun b' _ => putCells_csize xs w b E b'
      toks := fun t' ht' b' L' e' => by
        by_cases htt : t' = t
        · subst htt
          have h1 : g'.toks t' = some (b, L + m) := upd_eq _ _ _
          rw [h1] at e'; cases e'
          exact ⟨b, L, hg, .inl (by omega)⟩
        · have h1 : g'.toks t' = g.toks t' := upd_ne _ _ htt
          rw [h1] at e'
          refine ⟨b', L', e', .inr ⟨rfl, rfl, upd_ne _ _ (fun e => htt ?_)⟩⟩
          subst e
          exact h.tinj t' t b' L' L e' hg }
  refine ⟨g', ?_, e, upd_eq _ _ _, upd_eq _ _ _, rfl, hnr⟩
  refine Inv.step t h e h.nxt ?_ (fun j hj => ⟨if_neg hj, rfl, rfl, upd_ne _ _ hj⟩) ?_ ?_ (fun b' hb' => putCells_writable xs w b E hb') ?_ ?_ ?_ ?_ (fun j b' n _ lj hjr => upd_ne _ _ (fun e => hnr (e ▸ ⟨j, n, hjr, lj⟩))) (fun b' m l => by rw [show g'.live t = false from hrn] at l; cases l)
  · intro i hi
    have : i ≠ t := fun e => by
      subst e
      have := h.id_lt (id := i) (by rw [ht]; simp)
      simp only [St.set] at hi
      omega
    simp only [St.set]
    rw [if_neg this]
    exact h.wf i hi
  · intro j b' n hj lj hjr
    exact putCells_other xs w b E b' (fun e => hnr (e ▸ ⟨j, n, hjr, lj⟩))
  · intro j b' n hj hjt
    refine ⟨upd_ne _ _ (fun e => hj ?_), (h.toklt hjt).2.1⟩
    subst e
    exact h.tinj j t b' n L hjt hg
  · simp only [St.set, if_true, At]
    exact ⟨hrn, b, E + xs.length, upd_eq _ _ _, upd_eq _ _ _, hnr, putCells_writable xs w b E hwr⟩
  · intro b' m' j n hx
    rw [show g'.live t = false from hrn] at hx; cases hx
  · intro b' m' j n hx hj hjt
    have h1 : g'.toks t = some (b, L + m) := upd_eq _ _ _
    rw [h1] at hx; cases hx
    exact hj (h.tinj j t b n L hjt hg)
  · intro b' e' hl'
    rw [putCells_size]
    by_cases hbb : b' = b
    · subst hbb; exact hbl
    · have h1 : g'.lim b' = g.lim b' := upd_ne _ _ hbb
      rw [h1] at hl'
      exact h.lim b' e' hl'

/-- a token moves to a new block -/
theorem tokMove_step {P g s w} (h : Inv P g s w) {t b L m E} {ty : TypeId} {c : Array Value} (ht : s.blk t = some (.tok L)) (hg : g.toks t = some (b, L)) (hm : 0 < m) :
    ∃ g', Inv P g' (s.set t (some (.tok (L + m)))) (World.newB w (.cells c ty (0, 0))) ∧ Ext g w g' (World.newB w (.cells c ty (0, 0))) ∧
      g'.toks t = some (w.heap.size, L + m) ∧ g'.lim w.heap.size = some E ∧ g'.nxt = g.nxt ∧ ¬ g'.isRow w.heap.size := by
  obtain ⟨hbl, hnr, hwr, _⟩ := h.toklt hg
  have hat := h.at' t
  rw [ht] at hat
  have hrn : g.live t = false := hat.1
  have hnew := h.newfree (Nat.le_refl w.heap.size)
  let g' : G := { nxt := g.nxt, rows := g.rows, live := g.live, toks := upd g.toks t (some (w.heap.size, L + m)), lim := upd g.lim w.heap.size (some E) }
  have e : Ext g w g' (World.newB w (.cells c ty (0, 0))) := by
    refine ext_newB h _ g' (Nat.le_refl _) (fun _ _ => rfl) (fun t' ht' b' L' e' => ?_) (fun b hb hk => hk) (fun b hb => upd_ne _ _ (by omega))
    by_cases htt : t' = t
    · subst htt
      have h1 : g'.toks t' = some (w.heap.size, L + m) := upd_eq _ _ _
      rw [h1] at e'; cases e'
      exact ⟨b, L, hg, .inl (by omega)⟩
    · have h1 : g'.toks t' = g.toks t' := upd_ne _ _ htt
      rw [h1] at e'
      exact ⟨b', L', e', .inr ⟨rfl, rfl, upd_ne _ _ (by have := (h.toklt e').1; omega)⟩⟩
  refine ⟨g', ?_, e, upd_eq _ _ _, upd_eq _ _ _, rfl, hnew.1⟩
  refine Inv.step t h e h.nxt ?_ (fun j hj => ⟨if_neg hj, rfl, rfl, upd_ne _ _ hj⟩) ?_ ?_ ?_ ?_ ?_ ?_ ?_ (fun j b' n _ lj hjr => upd_ne _ _ (by have := h.rowlt lj hjr; omega)) (fun b' m l => by rw [show g'.live t = false from hrn] at l; cases l)
  · intro i hi
    have : i ≠ t := fun e => by
      subst e
      have := h.id_lt (id := i) (by rw [ht]; simp)
      simp only [St.set] at hi
      omega
    simp only [St.set]
    rw [if_neg this]
    exact h.wf i hi
  · exact fun j b' n hj lj hjr => newB_old w _ (h.rowlt lj hjr)
  · intro j b' n hj hjt
    have ⟨h1, h2, _⟩ := h.toklt hjt
    exact ⟨upd_ne _ _ (by omega), h2⟩
  · exact fun b hb => writable_of_heap (newB_old w _ hb.lt) hb
  · simp only [St.set, if_true, At]
    exact ⟨hrn, w.heap.size, E, upd_eq _ _ _, upd_eq _ _ _, hnew.1, newB_writable _ _ _⟩
  · intro b' m' j n hx
    rw [show g'.live t = false from hrn] at hx; cases hx
  · intro b' m' j n hx hj hjt
    have h1 : g'.toks t = some (w.heap.size, L + m) := upd_eq _ _ _
    rw [h1] at hx; cases hx
    have := (h.toklt hjt).1
    omega
  · intro b' e' hl'
    rw [newB_size]
    by_cases hbb : b' = w.heap.size
    · omega
    · have h1 : g'.lim b' = g.lim b' := upd_ne _ _ hbb
      rw [h1] at hl'
      have := h.lim b' e' hl'
      omega

/-- names are forgotten; those from n on are free again -/
def St.keep (s : St) (n : Nat) (p : Nat → Bool) : St := { nxt := n, blk := fun i => if p i then s.blk i else none }
def G.keep (g : G) (n : Nat) (p : Nat → Bool) : G := { nxt := n, rows := g.rows, live := fun i => p i && g.live i, toks := fun i => if p i then g.toks i else none, lim := g.lim }

theorem keep_free {g : G} {n p b m} (h : g.free b m) : (g.keep n p).free b m := by
  refine ⟨?_, h.2⟩
  rintro ⟨i, k, e, l⟩
  simp only [G.keep, Bool.and_eq_true] at e l
  exact h.1 ⟨i, k, e, l.2⟩

theorem keep_ext {g : G} {w : World} {p : Nat → Bool} (n : Nat) (hn : g.nxt ≤ n) : Ext g w (g.keep n p) w :=
  { os := rfl, tape := rfl, output := rfl, size := Nat.le_refl _, nxt := hn, rd := fun _ _ _ _ h => h, free := fun _ _ _ h => keep_free h
    same := fun _ _ _ _ => rfl
    rows := fun id _ => rfl
    csz := fun _ _ => rfl
    toks := fun t _ b L e => by
      simp only [G.keep] at e
      split at e
      · exact ⟨b, L, e, .inr ⟨rfl, rfl, rfl⟩⟩
      · cases e }

/-- what of (g, w) holds of (g.keep n p) even though names from n on are free again: values that name none of them -/
structure Sub (g g' : G) (n : Nat) : Prop where
  nxt : n ≤ g'.nxt
  free : ∀ b m, g.free b m → g'.free b m
  rows : ∀ id, id < n → g'.rows id = g.rows id
  toks : ∀ id, id < n → g'.toks id = g.toks id ∨ g'.toks id = none
  lim : g'.lim = g.lim

mutual
def PV.blw (n : Nat) : PV → Prop
  | .ptr id _ _ | .own id _ _ | .map id => id < n
  | .rptr cs => PV.blws n cs
  | .sl k els => (∀ t z, k = .tok t z → t < n) ∧ PV.blws n els
  | .agg cs | .tuple cs => PV.blws n cs
  | .fn _ a b => PV.blws n a ∧ PV.blws n b
  | .iface _ p => PV.blw n p
  | .gd b p => b = true → PV.blw n p
  | _ => True
def PV.blws (n : Nat) : List PV → Prop
  | [] => True
  | p :: ps => PV.blw n p ∧ PV.blws n ps
end

theorem slHead0_sub {g g' : G} {w n k m vs v} (h : Sub g g' n) (hb : ∀ t z, k = .tok t z → t < n) (r : slHead0 g w k m vs v) : slHead0 g' w k m vs v := by
  have main : ∀ k : SK, (∀ t z, k = .tok t z → t < n) → (∃ b o cap sz, v = .slice (some ⟨b, o, none⟩) m cap ∧ m ≤ cap ∧ 0 < sz ∧ (k = .clip → cap = m) ∧ (0 < m → g.free b (o + m * sz)) ∧ cellsAt w b o (flat vs) ∧
      (∀ v ∈ vs, v.cells.size = sz) ∧
      ∀ t z, k = .tok t z → sz = z ∧ t < g.nxt ∧ ∀ b' L, g.toks t = some (b', L) → m ≤ L ∧ (m = L → b' = b ∧ g.lim b = some (o + L * sz) ∧ o + cap * sz ≤ csize w b)) →
      (∃ b o cap sz, v = .slice (some ⟨b, o, none⟩) m cap ∧ m ≤ cap ∧ 0 < sz ∧ (k = .clip → cap = m) ∧ (0 < m → g'.free b (o + m * sz)) ∧ cellsAt w b o (flat vs) ∧
      (∀ v ∈ vs, v.cells.size = sz) ∧
      ∀ t z, k = .tok t z → sz = z ∧ t < g'.nxt ∧ ∀ b' L, g'.toks t = some (b', L) → m ≤ L ∧ (m = L → b' = b ∧ g'.lim b = some (o + L * sz) ∧ o + cap * sz ≤ csize w b)) := by
    rintro k hb ⟨b, o, cap, sz, h1, h2, h3, h4, h5, h6, h7, h8⟩
    refine ⟨b, o, cap, sz, h1, h2, h3, h4, fun hp => h.free _ _ (h5 hp), h6, h7, fun t z e => ⟨(h8 t z e).1, Nat.lt_of_lt_of_le (hb t z e) h.nxt, fun b' L e' => ?_⟩⟩
    rcases h.toks t (hb t z e) with q | q
    · rw [q] at e'
      obtain ⟨a1, a2⟩ := (h8 t z e).2.2 b' L e'
      exact ⟨a1, fun x => by rw [h.lim]; exact a2 x⟩
    · rw [q] at e'; cases e'
  cases k with
  | nil => exact r
  | clip => exact main .clip hb r
  | any => exact main .any hb r
  | tok t z => exact main (.tok t z) hb r
  | unk => exact main .unk hb r
  | unc => exact main .unc hb r

theorem slHead_sub {g g' : G} {w n k m vs v} (h : Sub g g' n) (hb : ∀ t z, k = .tok t z → t < n) (r : slHead g w k m vs v) : slHead g' w k m vs v := by
  cases k with
  | unk => exact r.imp (slHead0_sub (k := .nil) h (fun t z e => by cases e)) (slHead0_sub (k := .any) h (fun t z e => by cases e))
  | unc => exact r.imp (slHead0_sub (k := .nil) h (fun t z e => by cases e)) (slHead0_sub (k := .clip) h (fun t z e => by cases e))
  | nil => exact slHead0_sub (w := w) (vs := vs) (k := .nil) h hb r
  | clip => exact slHead0_sub (w := w) (vs := vs) (k := .clip) h hb r
  | any => exact slHead0_sub (w := w) (vs := vs) (k := .any) h hb r
  | tok t z => exact slHead0_sub (w := w) (vs := vs) (k := .tok t z) h hb r

mutual
theorem R_sub {g g' w n} (h : Sub g g' n) : ∀ (p : PV) (v : Value), p.blw n → R g w p v → R g' w p v
  | .int k m, v, _, r => by simpa only [R] using r
  | .bool b, v, _, r => by simpa only [R] using r
  | .str s, v, _, r => by simpa only [R] using r
  | .nilp, v, _, r => by simpa only [R] using r
  | .ptr id i j, v, hb, r => by
    simp only [R, PV.blw] at r hb ⊢
    obtain ⟨_, r⟩ := r
    exact ⟨Nat.lt_of_lt_of_le hb h.nxt, by rw [h.rows id hb]; exact r⟩
  | .rptr cs, v, hb, r => by
    simp only [R, PV.blw] at r hb ⊢
    obtain ⟨b, o, vs, hv, hf, hc, hfl, hr⟩ := r
    exact ⟨b, o, vs, hv, fun hp => h.free _ _ (hf hp), hc, hfl, RA_sub h cs vs hb hr⟩
  | .sl k els, v, hb, r => by
    simp only [R, PV.blw] at r hb ⊢
    obtain ⟨vs, hr, hs⟩ := r
    exact ⟨vs, RA_sub h els vs hb.2 hr, slHead_sub h hb.1 hs⟩
  | .own id off len, v, hb, r => by
    simp only [R, PV.blw] at r hb ⊢
    obtain ⟨_, r⟩ := r
    exact ⟨Nat.lt_of_lt_of_le hb h.nxt, by rw [h.rows id hb]; exact r⟩
  | .agg cs, v, hb, r => by
    simp only [R, PV.blw] at r hb ⊢
    obtain ⟨a, h1, h2, h3⟩ := r
    exact ⟨a, h1, h2, RA_sub h cs _ hb h3⟩
  | .tuple cs, v, hb, r => by
    simp only [R, PV.blw] at r hb ⊢
    obtain ⟨a, h1, h3⟩ := r
    exact ⟨a, h1, RA_sub h cs _ hb h3⟩
  | .fn f first cap, v, hb, r => by
    simp only [R, PV.blw] at r hb ⊢
    obtain ⟨x, y, h1, h2, h3⟩ := r
    exact ⟨x, y, h1, RA_sub h first _ hb.1 h2, RA_sub h cap _ hb.2 h3⟩
  | .nilf, v, _, r => by simpa only [R] using r
  | .iface t p, v, hb, r => by
    simp only [R, PV.blw] at r hb ⊢
    obtain ⟨x, h1, h2⟩ := r
    exact ⟨x, h1, R_sub h p x hb h2⟩
  | .nili, v, _, r => by simpa only [R] using r
  | .map id, v, hb, r => by
    simp only [R, PV.blw] at r hb ⊢
    obtain ⟨_, r⟩ := r
    exact ⟨Nat.lt_of_lt_of_le hb h.nxt, by rw [h.rows id hb]; exact r⟩
  | .nilm, v, _, r => by simpa only [R] using r
  | .gd b p, v, hb, r => by
    simp only [R, PV.blw] at r hb ⊢
    exact fun hx => R_sub h p v (hb hx) (r hx)
  | .junk, v, _, r => by simp only [R]
theorem RA_sub {g g' w n} (h : Sub g g' n) : ∀ (ps : List PV) (vs : List Value), PV.blws n ps → RA g w ps vs → RA g' w ps vs
  | [], vs, _, r => by simpa only [RA] using r
  | p :: ps, vs, hb, r => by
    simp only [RA, PV.blws] at r hb ⊢
    obtain ⟨v, r', h1, h2, h3⟩ := r
    exact ⟨v, r', h1, R_sub h p v hb.1 h2, RA_sub h ps r' hb.2 h3⟩
end

theorem keep_sub (g : G) (n : Nat) (p : Nat → Bool) : Sub g (g.keep n p) n :=
  ⟨Nat.le_refl _, fun _ _ h => keep_free h, fun id _ => rfl, fun id _ => by simp only [G.keep]; split <;> simp, rfl⟩

/-- a draw -/
theorem drew_step {P g s w} (h : Inv P g s w) (k : Nat) : Inv P g s { w with drawn := k } ∧ Ext g w g { w with drawn := k } := by
  have e : Ext g w g { w with drawn := k } :=
    { os := rfl, tape := rfl, output := rfl, size := Nat.le_refl _, nxt := Nat.le_refl _, rd := fun _ _ _ _ h => h, free := fun _ _ _ h => h, same := fun _ _ _ _ => rfl
      rows := fun _ _ => rfl, csz := fun _ _ => rfl, toks := toks_keep (fun _ _ => rfl) (fun _ _ _ _ => rfl) }
  refine ⟨?_, e⟩
  have hn := h.rows_none (Nat.le_refl s.nxt)
  refine Inv.step s.nxt h e h.nxt h.wf (fun _ _ => ⟨rfl, rfl, rfl, rfl⟩) (fun id b n _ l e => rfl) (fun id b n _ et => ⟨rfl, (h.toklt et).2.1⟩) (fun b hb => hb) ?_ ?_ ?_ h.lim (fun _ _ _ _ _ _ => rfl) (fun b m l => by rw [hn.1] at l; cases l)
  · rw [h.wf _ (Nat.le_refl _)]; exact hn
  · intro b m j n hx
    rw [hn.1] at hx; cases hx
  · intro b m j n hx
    rw [hn.2] at hx; cases hx

end Go.PM

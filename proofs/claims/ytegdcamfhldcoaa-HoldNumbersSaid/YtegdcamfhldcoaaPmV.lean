import Derived.Test.YtegdcamfhldcoaaPmU
set_option linter.unusedVariables false
set_option linter.unusedSimpArgs false
namespace Go.PM
open Go

/-! ## Rows of one's own that grow -/

theorem set_new (s : St) (b b' : Blk) : (s.new b).set s.nxt (some b') = s.new b' := by
  simp only [St.new, St.set, St.mk.injEq, true_and]
  funext i
  split <;> rfl
theorem set_new_ne (s : St) (b : Blk) (id : Nat) (b' : Option Blk) (h : id ≠ s.nxt) : (s.new b).set id b' = (s.set id b').new b := by
  simp only [St.new, St.set, St.mk.injEq, true_and]
  funext i
  by_cases h1 : i = id
  · subst h1; simp [h]
  · simp [h1]
theorem set_set (s : St) (id : Nat) (b b' : Option Blk) : (s.set id b).set id b' = s.set id b' := by
  simp only [St.set, St.mk.injEq, true_and]
  funext i
  split <;> rfl


theorem rename_step {P g s w} (h : Inv P g s w) {id t els} (hb : s.blk id = some (.row t els)) :
    ∃ g', Inv P g' ((s.set id none).new (.row t els)) w ∧ Ext g w g' w ∧ g'.rows s.nxt = g.rows id ∧ g'.nxt = s.nxt + 1 := by
  have hlt : id < s.nxt := h.id_lt (by rw [hb]; simp)
  have hat := h.at' id
  rw [hb] at hat
  obtain ⟨ht0, hlv, b, vs, hr, hpos, hrow⟩ := hat
  have hnew := h.rows_none (Nat.le_refl s.nxt)
  let g' : G := { nxt := g.nxt + 1, rows := upd g.rows s.nxt (g.rows id), live := fun i => if i = s.nxt then true else if i = id then false else g.live i, toks := g.toks, lim := g.lim }
  have hisrow : ∀ b', g'.isRow b' → g.isRow b' := by
    rintro b' ⟨i, n, e, l⟩
    by_cases h1 : i = s.nxt
    · subst h1
      have : g'.rows s.nxt = g.rows id := upd_eq _ _ _
      rw [this] at e
      exact ⟨id, n, e, hlv⟩
    · have e' : g'.rows i = g.rows i := upd_ne _ _ h1
      rw [e'] at e
      simp only [g', if_neg h1] at l
      split at l
      · cases l
      · exact ⟨i, n, e, l⟩
  have x : Ext g w g' w :=
    { os := rfl, tape := rfl, output := rfl, size := Nat.le_refl _, nxt := Nat.le_succ _, rd := fun _ _ _ _ h => h
      free := fun b' n _ hf => ⟨fun hk => hf.1 (hisrow b' hk), hf.2⟩
      same := fun _ _ _ _ => rfl
      rows := fun i hi => upd_ne _ _ (by have := h.nxt; omega)
      csz := fun _ _ => rfl
      toks := toks_keep (fun _ _ => rfl) (fun _ _ _ _ => rfl) }
  have hrows : ∀ i, i ≠ s.nxt → g'.rows i = g.rows i := fun i hi => upd_ne _ _ hi
  have hlive : ∀ i, i ≠ s.nxt → i ≠ id → g'.live i = g.live i := fun i h1 h2 => by simp only [g', if_neg h1, if_neg h2]
  refine ⟨g', ?_, x, upd_eq _ _ _, by show g.nxt + 1 = _; rw [h.nxt]⟩
  exact {
    nxt := by show g.nxt + 1 = s.nxt + 1; rw [h.nxt]
    wf := fun i hi => by
      have hi : s.nxt + 1 ≤ i := hi
      show (if i = s.nxt then some (Blk.row t els) else if i = id then none else s.blk i) = none
      rw [if_neg (by omega), if_neg (by omega)]
      exact h.wf i (by omega)
    at' := fun i => by
      show At P g' w i (if i = s.nxt then some (.row t els) else if i = id then none else s.blk i)
      by_cases h1 : i = s.nxt
      · subst h1
        simp only [if_true, At]
        refine ⟨hnew.2, by simp [g'], b, vs, by rw [show g'.rows s.nxt = g.rows id from upd_eq _ _ _]; exact hr, hpos, hrow.1, hrow.2.1, hrow.2.2.1, RA_ext x _ _ hrow.2.2.2⟩
      · rw [if_neg h1]
        by_cases h2 : i = id
        · subst h2
          simp only [if_true, At]
          exact ⟨by simp only [g', if_neg h1, if_true], ht0⟩
        · rw [if_neg h2]
          have hi := h.at' i
          cases hbl : s.blk i with
          | none => rw [hbl] at hi; simp only [At] at hi ⊢; rw [hlive i h1 h2]; exact hi
          | some bl =>
            rw [hbl] at hi
            cases bl with
            | row ty el =>
              obtain ⟨a, al, b', vs', a1, a2, a3, a4, a5, a6⟩ := hi
              exact ⟨a, by rw [hlive i h1 h2]; exact al, b', vs', by rw [hrows i h1]; exact a1, a2, a3, a4, a5, RA_ext x _ _ a6⟩
            | tok L =>
              obtain ⟨a, b', l, a1, a2, a3, a4⟩ := hi
              exact ⟨by rw [hlive i h1 h2]; exact a, b', l, a1, a2, fun hk => a3 (hisrow b' hk), a4⟩
            | map es =>
              obtain ⟨a, al, b', a1, me, cl, a2, a3, a4⟩ := hi
              exact ⟨a, by rw [hlive i h1 h2]; exact al, b', by rw [hrows i h1]; exact a1, me, cl, a2, RA_ext x _ _ a3, RA_ext x _ _ a4⟩
    inj := fun i j b' m n li lj hi hj => by
      by_cases i1 : i = s.nxt
      · by_cases j1 : j = s.nxt
        · rw [i1, j1]
        · subst i1
          rw [show g'.rows s.nxt = g.rows id from upd_eq _ _ _] at hi
          rw [hrows j j1] at hj
          have j2 : j ≠ id := by rintro rfl; simp only [g', if_neg j1, if_true] at lj; cases lj
          rw [hlive j j1 j2] at lj
          exact absurd (h.inj j id b' n m lj hlv hj hi) j2
      · rw [hrows i i1] at hi
        have i2 : i ≠ id := by rintro rfl; simp only [g', if_neg i1, if_true] at li; cases li
        rw [hlive i i1 i2] at li
        by_cases j1 : j = s.nxt
        · subst j1
          rw [show g'.rows s.nxt = g.rows id from upd_eq _ _ _] at hj
          exact absurd (h.inj i id b' m n li hlv hi hj) i2
        · rw [hrows j j1] at hj
          have j2 : j ≠ id := by rintro rfl; simp only [g', if_neg j1, if_true] at lj; cases lj
          rw [hlive j j1 j2] at lj
          exact h.inj i j b' m n li lj hi hj
    tinj := h.tinj
    lim := h.lim
    rlim := fun i b' n li hi => by
      obtain ⟨j, m, e, l⟩ := hisrow b' ⟨i, n, hi, li⟩
      exact h.rlim j b' m l e }

/-- a name forgotten -/
theorem forget_step {P g s w} (h : Inv P g s w) (id : Nat) : ∃ g', Inv P g' (s.set id none) w ∧ Ext g w g' w ∧ g'.nxt = g.nxt ∧ g'.rows = g.rows := by
  refine ⟨g.keep s.nxt (fun i => i != id), ?_, keep_ext _ (by rw [h.nxt]; exact Nat.le_refl _), by show s.nxt = _; rw [h.nxt], rfl⟩
  have := keep_inv h s.nxt (fun i => i != id) (fun i _ hi => h.id_lt hi) (fun i b _ hb => h.blw hb)
  have e : s.keep s.nxt (fun i => i != id) = s.set id none := by
    simp only [St.keep, St.set, St.mk.injEq, true_and]
    funext i
    by_cases hi : i = id
    · subst hi; simp
    · simp [hi]
  rw [e] at this
  exact this

theorem set_none_new (s : St) (id : Nat) (b : Blk) (h : id ≠ s.nxt) : (s.new b).set id none = (s.set id none).new b := set_new_ne s b id none h

/-- what append does to a row of one's own, from its beginning -/
def aAppendOwn (P : Program) (e : TypeId) (id len : Nat) (ys : List PV) (s : St) : Option (PV × St) :=
  match s.blk id with
  | some (.row ty els) => if ys ≠ [] ∧ P.cellsOf e = P.cellsOf ty ∧ len ≤ els.length then some (.own s.nxt 0 (len + ys.length), (s.set id none).new (.row ty (els.take len ++ ys))) else none
  | _ => none

theorem aAppendOwn_run {P : Program} {g s w t ty e id len k2 ys v s' va vb} (h : Inv P g s w) (hx : R g w (.own id 0 len) va) (hy : R g w (.sl k2 ys) vb) (htd : td P t = .sl e) (hz : (zpv P e).isSome = true)
    (hey : isEls P e ys) (hb0 : 0 < P.bytesOf e) (hlen : (len + ys.length) * P.bytesOf e ≤ 140737488355328) (ha : aAppendOwn P e id len ys s = some (v, s')) :
    ∃ val w' g', (Builtin.append_ #[t, t] ty #[va, vb]).run P w = .ok val w' ∧ Inv P g' s' w' ∧ Ext g w g' w' ∧ R g' w' v val := by
  unfold aAppendOwn at ha
  split at ha
  case h_2 => cases ha
  rename_i tyr els hbl
  split at ha
  case isFalse => cases ha
  rename_i hc
  obtain ⟨hys, hce, hle⟩ := hc
  cases ha
  have hu := td_slice htd
  obtain ⟨z, hz⟩ := Option.isSome_iff_exists.1 hz
  obtain ⟨zv, hz1, hz2, hz3, hz4, hpos, hz6, hz7⟩ := zero_run (P := P) (w := w) hz
  obtain ⟨i, hi, hsz⟩ := cells_info hpos
  have hiz : i.zero = some zv := by
    unfold zeroValue at hz1
    rw [bind_run, typeInfo_run hi] at hz1
    simp only at hz1
    cases hq : i.zero with
    | none => rw [hq] at hz1; simp [unsupported, Sem.run] at hz1
    | some z' => rw [hq] at hz1; simp [pure_run] at hz1; subst hz1; rfl
  have hby : P.bytesOf e = i.bytes := by unfold Program.bytesOf; rw [hi]; rfl
  obtain ⟨us, hus, hru⟩ := sl_holds hy
  have hue := isEls_vals hey hru
  have hul := RA_length hru
  have hn := hus.len (P := P)
  have hfc := hus.cells (P := P) (size := P.cellsOf e) (fun v hv => (hue v hv).1)
  have hm : 0 < us.length := by rw [← hul]; exact List.length_pos_iff.2 hys
  have hid : id < s.nxt := h.id_lt (by rw [hbl]; simp)
  -- the row
  have hat := h.at' id
  rw [hbl] at hat
  obtain ⟨_, hlv, b, vs, hr, hrp, hrow⟩ := hat
  obtain ⟨a1, a2, a3, a4⟩ := hrow
  have hvl := RA_length a4
  simp only [R] at hx
  obtain ⟨_, b', sz', cap, hr', hcap, rfl, hcs⟩ := hx
  rw [hr] at hr'; cases hr'
  simp only [Nat.zero_mul, Nat.zero_add] at hcs ⊢
  have hsz' : ∀ v ∈ vs, v.cells.size = P.cellsOf tyr := fun v hv => (a3 v hv).1
  have hpre : RA g w (els.take len) (vs.take len) := RA_take _ a4
  have hprel : (vs.take len).length = len := by simp; omega
  have hflat : flat (vs.take len) = (flat vs).take (len * P.cellsOf tyr) := flat_take vs _ hsz' len
  have hpsz : ∀ v ∈ vs.take len, v.cells.size = P.cellsOf tyr ∧ ∀ x ∈ v.cells.toList, x.flat = true := fun v hv => a3 v (List.mem_of_mem_take hv)
  have hcat : ∀ v ∈ vs.take len ++ us, v.cells.size = P.cellsOf tyr ∧ ∀ x ∈ v.cells.toList, x.flat = true := by
    intro v hv
    rcases List.mem_append.1 hv with hv | hv
    · exact hpsz v hv
    · have := hue v hv; rw [hce] at this; exact this
  have hfu : (flat us).length = us.length * P.cellsOf tyr := by rw [← hce]; exact flat_length fun v hv => (hue v hv).1
  have hfp : (flat (vs.take len)).length = len * P.cellsOf tyr := by rw [flat_length (fun v hv => (hpsz v hv).1), hprel]
  by_cases hroom : len + us.length ≤ cap
  · have hfit : len * P.cellsOf tyr + (flat us).length ≤ csize w b := by
      rw [hfu]
      have := Nat.mul_le_mul_right (P.cellsOf tyr) hroom
      rw [Nat.add_mul] at this
      omega
    have hcells : cellsAt (putCells w b (len * P.cellsOf tyr) (flat us)) b 0 (flat (vs.take len ++ us)) := by
      rw [flat_append, cellsAt_append]
      refine ⟨fun j hj => ?_, ?_⟩
      · rw [putCells_cell_out _ _ _ _ _ _ (by omega)]
        have hq := cellsAt_take a2 (len * P.cellsOf tyr)
        rw [← hflat] at hq
        exact hq j hj
      · rw [hfp, Nat.zero_add]
        exact putCells_cell_in _ _ _ _ hfit
    obtain ⟨k1, k2⟩ := rowStore_step (els' := els.take len ++ ys) (vs' := vs.take len ++ us) (o := len * P.cellsOf tyr) (xs := flat us) h hbl hr hcells hcat (RA_append hpre hru)
    have hbl' : (s.set id (some (.row tyr (els.take len ++ ys)))).blk id = some (.row tyr (els.take len ++ ys)) := by simp [St.set]
    obtain ⟨g', m1, m2, m3, m4⟩ := rename_step k1 hbl'
    have hst := storeCells_run P b (flat us) w (len * P.cellsOf tyr) 0 (by
      intro v hv
      simp only [flat, List.mem_flatMap] at hv
      obtain ⟨u, hu1, hu2⟩ := hv
      exact (hue u hu1).2 v hu2) a1 (by simpa using hfit)
    have hrun : (Builtin.append_ #[t, t] ty #[.slice (some ⟨b, 0, none⟩) len cap, vb]).run P w = .ok (.slice (some ⟨b, 0, none⟩) (len + us.length) cap) (putCells w b (len * P.cellsOf tyr) (flat us)) :=
      append_stay hu hi hn (by rw [hsz]; exact hfc) hroom (by rw [hsz, hce, Nat.zero_add]; simpa using hst)
    refine ⟨_, _, g', hrun, ?_, k2.trans m2, ?_⟩
    · rw [set_set] at m1; exact m1
    · simp only [R]
      refine ⟨by rw [m4]; exact Nat.lt_succ_self _, b, P.cellsOf tyr, cap, by rw [show (s.set id (some (.row tyr (els.take len ++ ys)))).nxt = s.nxt from rfl] at m3; rw [m3]; exact hr, by omega, by rw [hul]; simp, ?_⟩
      rw [putCells_csize]
      simpa using hcs
  · have ho : Holds w (.slice (some ⟨b, 0, none⟩) len cap) (vs.take len) := .inr ⟨b, 0, cap, by rw [hprel], by rw [hflat]; exact cellsAt_take a2 _⟩
    have ho' := ho.drew.cells (P := P) (size := P.cellsOf e) (fun v hv => by rw [hce]; exact (hpsz v hv).1)
    have hn' := hus.drew.cells (P := P) (size := P.cellsOf e) (fun v hv => (hue v hv).1)
    rw [← hsz] at ho' hn'
    rw [hprel] at ho'
    have hfit := growslice_fits (need := len + us.length) (old := cap) (bytes := i.bytes) (by omega) (by rw [← hby, ← hul]; exact hlen)
    have hrun := append_new (P := P) (w := w) (t := t) (ty := ty) hu hi hiz hn ho' hn' (by omega) (by
      have := Nat.le_mul_of_pos_right (len + ys.length) hb0
      omega) hfit
    have hge := grownCap_ge w (len + us.length) cap e
    obtain ⟨hI1, hE1⟩ := drew_step h (w.drawn + 1)
    obtain ⟨g', m1, m2, m3, m4⟩ := newRow_step (t := tyr) (ty := e) (els := els.take len ++ ys) (vs := vs.take len ++ us) (c := (flat (vs.take len)).toArray ++ (flat us).toArray ++ Builtin.zeroCells zv.cells (grownCap w (len + us.length) cap e - (len + us.length))) hI1 hrp
      (RA_append (RA_ext hE1 _ _ hpre) (RA_ext hE1 _ _ hru)) (by rw [flat_append]; simp) hcat
    obtain ⟨g2, n1, n2, n3, n4⟩ := forget_step m1 id
    refine ⟨_, _, g2, hrun, ?_, (hE1.trans m2).trans n2, ?_⟩
    · rw [set_none_new _ _ _ (by omega)] at n1; exact n1
    · simp only [R]
      refine ⟨by rw [n3, m4]; exact Nat.lt_succ_self _, w.heap.size, P.cellsOf tyr, grownCap w (len + us.length) cap e, by rw [n4]; exact m3, by omega, by rw [hul]; simp, ?_⟩
      have hcz := newB_csize { w with drawn := w.drawn + 1 } ((flat (vs.take len)).toArray ++ (flat us).toArray ++ Builtin.zeroCells zv.cells (grownCap w (len + us.length) cap e - (len + us.length))) e (0, 0)
      show (0 + grownCap w (len + us.length) cap e) * P.cellsOf tyr ≤ csize (World.newB { w with drawn := w.drawn + 1 } _) ({ w with drawn := w.drawn + 1 } : World).heap.size
      rw [hcz]
      simp only [Array.size_append, List.size_toArray, size_zeroCells, hfp, hfu, hz4, hce]
      rw [← Nat.add_mul, ← Nat.add_mul]
      apply Nat.mul_le_mul_right
      omega

/-- the first append, to a list that is none yet: a row of one's own -/
def aAppendFirst (P : Program) (e : TypeId) (k : SK) (xs ys : List PV) (s : St) : Option (PV × St) :=
  match k with
  | .nil | .clip | .unc => if ys ≠ [] then some (.own s.nxt 0 (xs.length + ys.length), s.new (.row e (xs ++ ys))) else none
  | _ => none

theorem aAppendFirst_run {P : Program} {g s w t ty e k k2 xs ys v s' va vb} (h : Inv P g s w) (hx : R g w (.sl k xs) va) (hy : R g w (.sl k2 ys) vb) (htd : td P t = .sl e) (hz : (zpv P e).isSome = true)
    (hex : isEls P e xs) (hey : isEls P e ys) (hb0 : 0 < P.bytesOf e) (hlen : (xs.length + ys.length) * P.bytesOf e ≤ 140737488355328) (ha : aAppendFirst P e k xs ys s = some (v, s')) :
    ∃ val w' g', (Builtin.append_ #[t, t] ty #[va, vb]).run P w = .ok val w' ∧ Inv P g' s' w' ∧ Ext g w g' w' ∧ R g' w' v val := by
  have hkind : (k = .nil ∨ k = .clip ∨ k = .unc) ∧ ys ≠ [] ∧ v = .own s.nxt 0 (xs.length + ys.length) ∧ s' = s.new (.row e (xs ++ ys)) := by
    unfold aAppendFirst at ha
    split at ha
    all_goals first | (cases ha; done) | skip
    all_goals
      split at ha
      · rename_i hc; cases ha; exact ⟨by simp, hc, rfl, rfl⟩
      · cases ha
  obtain ⟨hk, hys, rfl, rfl⟩ := hkind
  have hu := td_slice htd
  obtain ⟨z, hz⟩ := Option.isSome_iff_exists.1 hz
  obtain ⟨zv, hz1, hz2, hz3, hz4, hpos, hz6, hz7⟩ := zero_run (P := P) (w := w) hz
  obtain ⟨i, hi, hsz⟩ := cells_info hpos
  have hiz : i.zero = some zv := by
    unfold zeroValue at hz1
    rw [bind_run, typeInfo_run hi] at hz1
    simp only at hz1
    cases hq : i.zero with
    | none => rw [hq] at hz1; simp [unsupported, Sem.run] at hz1
    | some z' => rw [hq] at hz1; simp [pure_run] at hz1; subst hz1; rfl
  have hby : P.bytesOf e = i.bytes := by unfold Program.bytesOf; rw [hi]; rfl
  obtain ⟨us, hus, hru⟩ := sl_holds hy
  have hue := isEls_vals hey hru
  have hul := RA_length hru
  have hn := hus.len (P := P)
  have hm : 0 < us.length := by rw [← hul]; exact List.length_pos_iff.2 hys
  -- what was there: full
  obtain ⟨base, cap, vs, rfl, hvs, hrv, hcap⟩ : ∃ base cap vs, va = .slice base vs.length cap ∧ Holds w va vs ∧ RA g w xs vs ∧ cap = vs.length := by
    have hnil : R g w (.sl .nil xs) va → ∃ base cap vs, va = .slice base vs.length cap ∧ Holds w va vs ∧ RA g w xs vs ∧ cap = vs.length := fun hx => by
      obtain ⟨e1, e2⟩ := R_nil.1 hx
      exact ⟨none, 0, [], by simpa using e1, .inl ⟨0, e1, rfl⟩, by rw [e2]; simp [RA], rfl⟩
    have hclip : R g w (.sl .clip xs) va → ∃ base cap vs, va = .slice base vs.length cap ∧ Holds w va vs ∧ RA g w xs vs ∧ cap = vs.length := fun hx => by
      obtain ⟨b, o, cap, sz, vs, e1, h1, h2, h3, h4, h5, h6, h7, h8⟩ := sl_head hx (by simp) rfl
      have hl := RA_length h8
      exact ⟨_, cap, vs, by rw [← hl]; exact e1, .inr ⟨b, o, cap, by rw [← hl]; exact e1, h5⟩, h8, by rw [← hl]; exact h3 rfl⟩
    rcases hk with rfl | rfl | rfl
    · exact hnil hx
    · exact hclip hx
    · rcases R_unc.1 hx with hx | hx
      · exact hnil hx
      · exact hclip hx
  have hve := isEls_vals hex hrv
  have hvl := RA_length hrv
  have ho := hvs.drew.cells (P := P) (size := P.cellsOf e) (fun v hv => (hve v hv).1)
  have hn' := hus.drew.cells (P := P) (size := P.cellsOf e) (fun v hv => (hue v hv).1)
  rw [← hsz] at ho hn'
  have hfit := growslice_fits (need := vs.length + us.length) (old := cap) (bytes := i.bytes) (by omega) (by rw [← hby, ← hul, ← hvl]; exact hlen)
  have hrun := append_new (P := P) (w := w) (t := t) (ty := ty) hu hi hiz hn ho hn' (by omega) (by
    have := Nat.le_mul_of_pos_right (xs.length + ys.length) hb0
    omega) hfit
  have hge := grownCap_ge w (vs.length + us.length) cap e
  obtain ⟨hI1, hE1⟩ := drew_step h (w.drawn + 1)
  have hcat : ∀ v ∈ vs ++ us, v.cells.size = P.cellsOf e ∧ ∀ x ∈ v.cells.toList, x.flat = true := by
    intro v hv
    rcases List.mem_append.1 hv with hv | hv
    · exact hve v hv
    · exact hue v hv
  obtain ⟨g', m1, m2, m3, m4⟩ := newRow_step (t := e) (ty := e) (els := xs ++ ys) (vs := vs ++ us) (c := (flat vs).toArray ++ (flat us).toArray ++ Builtin.zeroCells zv.cells (grownCap w (vs.length + us.length) cap e - (vs.length + us.length))) hI1 hpos
    (RA_append (RA_ext hE1 _ _ hrv) (RA_ext hE1 _ _ hru)) (by rw [flat_append]; simp) hcat
  refine ⟨_, _, g', hrun, m1, hE1.trans m2, ?_⟩
  simp only [R]
  refine ⟨by rw [m4]; exact Nat.lt_succ_self _, w.heap.size, P.cellsOf e, grownCap w (vs.length + us.length) cap e, m3, by omega, by rw [hul, hvl]; simp, ?_⟩
  have hcz := newB_csize { w with drawn := w.drawn + 1 } ((flat vs).toArray ++ (flat us).toArray ++ Builtin.zeroCells zv.cells (grownCap w (vs.length + us.length) cap e - (vs.length + us.length))) e (0, 0)
  show (0 + grownCap w (vs.length + us.length) cap e) * P.cellsOf e ≤ csize (World.newB { w with drawn := w.drawn + 1 } _) ({ w with drawn := w.drawn + 1 } : World).heap.size
  rw [hcz]
  simp only [Array.size_append, List.size_toArray, size_zeroCells, hz4, flat_length (fun v hv => (hve v hv).1), flat_length (fun v hv => (hue v hv).1)]
  rw [← Nat.add_mul, ← Nat.add_mul]
  apply Nat.mul_le_mul_right
  omega

section
variable {P : Program} {N : Nat} {k : List KI} {e : Env} {s : St} {rt : Env → St → Prop}

theorem append_exec {P : Program} {w w' : World} {a : Act} {o : Oper} {x y : Operand} {t : TypeId} {val : Value} (hop : o.op = .call ⟨.builtin .append, #[x, y], #[t, t]⟩)
    (h : (Builtin.append_ #[t, t] o.type #[a.eval x, a.eval y]).run P w = .ok val w') : (execOp a.eval o).run P w = .ok (.value val) w' := by
  unfold execOp
  rw [hop]
  simp only [resolve, bind_run, pure_run, invoke, builtin]
  have : Array.map a.eval #[x, y] = #[a.eval x, a.eval y] := by simp
  rw [this, h]

theorem RunO.appendOwn {ops : Array Oper} {d : Option Nat} {x y : Operand} {t ty : TypeId} {pos : String} {af : Array Edge} {gd : Option (Nat × Bool)} {l : List Oper} {el : TypeId} {id len : Nat} {ky : SK} {ys : List PV} {v : PV} {s' : St}
    (hg : guard? ops ⟨d, .call ⟨.builtin .append, #[x, y], #[t, t]⟩, ty, pos, af, gd⟩ e = some true) (hx : ev e x = .own id 0 len) (hy : ev e y = .sl ky ys) (htd : td P t = .sl el) (hz : (zpv P el).isSome = true)
    (hey : isEls P el ys) (hb0 : 0 < P.bytesOf el) (hlen : (len + ys.length) * P.bytesOf el ≤ 140737488355328) (ha : aAppendOwn P el id len ys s = some (v, s'))
    (h : RunO P N ops l k (e.put d v) s' rt) : RunO P N ops (⟨d, .call ⟨.builtin .append, #[x, y], #[t, t]⟩, ty, pos, af, gd⟩ :: l) k e s rt := by
  refine RunO.eff hg (fun g w a hI hE => ?_) h
  have h1 := ev_R hE x
  have h2 := ev_R hE y
  rw [hx] at h1
  rw [hy] at h2
  obtain ⟨val, w', g', r1, r2, r3, r4⟩ := aAppendOwn_run (ty := ty) hI h1 h2 htd hz hey hb0 hlen ha
  exact ⟨val, w', g', .inl (append_exec rfl r1), r2, r3, r4⟩

theorem RunO.appendFirst {ops : Array Oper} {d : Option Nat} {x y : Operand} {t ty : TypeId} {pos : String} {af : Array Edge} {gd : Option (Nat × Bool)} {l : List Oper} {el : TypeId} {kx ky : SK} {xs ys : List PV} {v : PV} {s' : St}
    (hg : guard? ops ⟨d, .call ⟨.builtin .append, #[x, y], #[t, t]⟩, ty, pos, af, gd⟩ e = some true) (hx : ev e x = .sl kx xs) (hy : ev e y = .sl ky ys) (htd : td P t = .sl el) (hz : (zpv P el).isSome = true)
    (hex : isEls P el xs) (hey : isEls P el ys) (hb0 : 0 < P.bytesOf el) (hlen : (xs.length + ys.length) * P.bytesOf el ≤ 140737488355328) (ha : aAppendFirst P el kx xs ys s = some (v, s'))
    (h : RunO P N ops l k (e.put d v) s' rt) : RunO P N ops (⟨d, .call ⟨.builtin .append, #[x, y], #[t, t]⟩, ty, pos, af, gd⟩ :: l) k e s rt := by
  refine RunO.eff hg (fun g w a hI hE => ?_) h
  have h1 := ev_R hE x
  have h2 := ev_R hE y
  rw [hx] at h1
  rw [hy] at h2
  obtain ⟨val, w', g', r1, r2, r3, r4⟩ := aAppendFirst_run (ty := ty) hI h1 h2 htd hz hex hey hb0 hlen ha
  exact ⟨val, w', g', .inl (append_exec rfl r1), r2, r3, r4⟩

end

end Go.PM

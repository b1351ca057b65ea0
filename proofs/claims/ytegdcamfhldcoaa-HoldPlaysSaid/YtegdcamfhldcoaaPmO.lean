import Derived.Test.YtegdcamfhldcoaaPmN
import Derived.Laws.Append
import Derived.Laws.AppendOwn
import Derived.Laws.MakeOwn
set_option linter.unusedVariables false
set_option linter.unusedSimpArgs false
namespace Go.PM
open Go

/-! ## append: the run -/

section
variable {P : Program} {w : World}

theorem append_stay {t ty e : TypeId} {i : TypeInfo} (ht : P.underlying t = some (.slice e)) (hi : P.info? e = some i) {b o sLen sCap n : Nat} {x : Value} {news : Array Value} {w' : World}
    (hl : (Builtin.lenOf x).run P w = .ok n w) (hf : (Builtin.firstCells i.size n x).run P w = .ok news w) (hroom : sLen + n ≤ sCap)
    (hst : (storeCells ⟨b, o + sLen * i.size, none⟩ news.toList).run P w = .ok () w') :
    (Builtin.append_ #[t, t] ty #[.slice (some ⟨b, o, none⟩) sLen sCap, x]).run P w = .ok (.slice (some ⟨b, o, none⟩) (sLen + n) sCap) w' := by
  simp [Builtin.append_, run_underlying ht, sizeOf, typeInfo, hi, hl, hroom, hf, addr_add, hst]

theorem append_none {t ty e : TypeId} {i : TypeInfo} (ht : P.underlying t = some (.slice e)) (hi : P.info? e = some i) {x : Value}
    (hl : (Builtin.lenOf x).run P w = .ok 0 w) (hf : (Builtin.firstCells i.size 0 x).run P w = .ok #[] w) :
    (Builtin.append_ #[t, t] ty #[.slice none 0 0, x]).run P w = .ok (.slice none 0 0) w := by
  simp [Builtin.append_, run_underlying ht, sizeOf, typeInfo, hi, hl, hf]

theorem append_new {t ty e : TypeId} {i : TypeInfo} {z : Value} (ht : P.underlying t = some (.slice e)) (hi : P.info? e = some i) (hz : i.zero = some z) {base : Option Addr} {sLen sCap n : Nat} {x : Value} {olds news : Array Value}
    (hl : (Builtin.lenOf x).run P w = .ok n w) (hfo : (Builtin.firstCells i.size sLen (.slice base sLen sCap)).run P w.drew = .ok olds w.drew) (hf : (Builtin.firstCells i.size n x).run P w.drew = .ok news w.drew)
    (hg : sCap < sLen + n) (h63 : ((sLen + n : Nat) : Int) ≤ 9223372036854775807) (hfit : Builtin.nextslicecap (sLen + n) sCap * i.bytes ≤ 281474976710656) :
    (Builtin.append_ #[t, t] ty #[.slice base sLen sCap, x]).run P w =
      .ok (.slice (some ⟨w.heap.size, 0, none⟩) (sLen + n) (grownCap w (sLen + n) sCap e))
        (w.drew.alloc (.cells (olds ++ news ++ Builtin.zeroCells z.cells (grownCap w (sLen + n) sCap e - (sLen + n))) e)) := by
  have hn : ¬ (sLen + n ≤ sCap) := by omega
  have h63' : ¬ (9223372036854775807 < ((sLen : Int) + (n : Int))) := by omega
  have h48' : ¬ (281474976710656 < Builtin.nextslicecap (sLen + n) sCap * i.bytes) := by omega
  simp [Builtin.append_, run_underlying ht, sizeOf, typeInfo, zeroValue, hi, hz, hl, hn, h63', h48', Question.forced, hf, hfo, newRow, grownCap]

end

/-- the elements of what is appended -/
def Holds (w : World) (x : Value) (vs : List Value) : Prop :=
  (∃ cap, x = .slice none 0 cap ∧ vs = []) ∨ (∃ b o cap, x = .slice (some ⟨b, o, none⟩) vs.length cap ∧ cellsAt w b o (flat vs))

theorem Holds.len {P : Program} {w x vs} (h : Holds w x vs) : (Builtin.lenOf x).run P w = .ok vs.length w := by
  rcases h with ⟨cap, rfl, rfl⟩ | ⟨b, o, cap, rfl, h⟩ <;> rfl

theorem Holds.cells {P : Program} {w x vs size} (h : Holds w x vs) (hs : ∀ v ∈ vs, v.cells.size = size) : (Builtin.firstCells size vs.length x).run P w = .ok (flat vs).toArray w := by
  rcases h with ⟨cap, rfl, rfl⟩ | ⟨b, o, cap, rfl, h⟩
  · rfl
  · exact loadCells_run P w b o _ _ (by rw [flat_length hs]) h

theorem Holds.drew {w x vs} (h : Holds w x vs) : Holds w.drew x vs := by
  rcases h with h | ⟨b, o, cap, h1, h2⟩
  · exact .inl h
  · exact .inr ⟨b, o, cap, h1, h2⟩

theorem sl_holds {g w k els v} (h : R g w (.sl k els) v) : ∃ vs, Holds w v vs ∧ RA g w els vs := by
  obtain ⟨k', hb, h, _⟩ := sl_base h
  by_cases hk : k' = .nil
  · subst hk
    obtain ⟨rfl, rfl⟩ := R_nil.1 h
    exact ⟨[], .inl ⟨0, rfl, rfl⟩, by simp [RA]⟩
  · obtain ⟨b, o, cap, sz, vs, rfl, h1, h2, h3, h4, h5, h6, h7, h8⟩ := sl_head h hk hb
    exact ⟨vs, .inr ⟨b, o, cap, by rw [RA_length h8], h5⟩, h8⟩

/-- elements of a type -/
def isEls (P : Program) (e : TypeId) (els : List PV) : Prop := ∀ el ∈ els, el.ok = true ∧ el.cells.length = P.cellsOf e

theorem isEls_vals {P : Program} {e g w} : ∀ {els : List PV} {vs : List Value}, isEls P e els → RA g w els vs → ∀ v ∈ vs, v.cells.size = P.cellsOf e ∧ ∀ x ∈ v.cells.toList, x.flat = true
  | [], vs, _, h, v, hv => by simp [RA] at h; subst h; simp at hv
  | p :: ps, vs, he, h, v, hv => by
    simp only [RA] at h
    obtain ⟨u, r, rfl, hu, hr⟩ := h
    obtain ⟨k1, k2⟩ := he p (by simp)
    obtain ⟨c1, c2, c3⟩ := RA_cells hu k1
    simp at hv
    rcases hv with rfl | hv
    · exact ⟨by omega, c2⟩
    · exact isEls_vals (fun q hq => he q (by simp [hq])) hr v hv

theorem flat_append (xs ys : List Value) : flat (xs ++ ys) = flat xs ++ flat ys := by simp [flat]

/-- what append does to a list whose room, if any, is its own: the list, the store -/
def aAppend (P : Program) (e : TypeId) (k : SK) (xs ys : List PV) (s : St) : Option (PV × St) :=
  if ys = [] then some (.sl k xs, s)
  else match k with
    | .nil | .clip | .unc => some (.sl (.tok s.nxt (P.cellsOf e)) (xs ++ ys), s.new (.tok (xs.length + ys.length)))
    | .tok t z => match s.blk t with
      | some (.tok L) => if L = xs.length ∧ z = P.cellsOf e then some (.sl (.tok t z) (xs ++ ys), s.set t (some (.tok (xs.length + ys.length)))) else none
      | _ => none
    | .any | .unk => none

theorem newTok_R {P : Program} {g s w els vs} {sz N : Nat} {ty : TypeId} {c : Array Value} (h : Inv P g s w) (hr : RA g w els vs) (hv : ∀ v ∈ vs, v.cells.size = sz) (hsz : 0 < sz) (hc : flat vs <+: c.toList) (hN : vs.length ≤ N) (hcs : N * sz ≤ c.size) :
    ∃ g', Inv P g' (s.new (.tok vs.length)) (World.newB w (.cells c ty (0, 0))) ∧ Ext g w g' (World.newB w (.cells c ty (0, 0))) ∧
      R g' (World.newB w (.cells c ty (0, 0))) (.sl (.tok s.nxt sz) els) (.slice (some ⟨w.heap.size, 0, none⟩) vs.length N) := by
  obtain ⟨g', h1, h2, h3, h4, h5, h6⟩ := newTok_step (ty := ty) (L := vs.length) (E := vs.length * sz) (c := c) h
  refine ⟨g', h1, h2, ?_⟩
  have hl := RA_length hr
  simp only [R]
  refine ⟨vs, RA_ext h2 _ _ hr, ?_⟩
  rw [slHead_base rfl]
  simp only [slHead0]
  refine ⟨w.heap.size, 0, N, sz, by rw [hl], by omega, hsz, by simp, fun hp => ⟨h6, fun m hm => ?_⟩, newB_cells w c ty (0, 0) _ hc, hv, ?_⟩
  · rw [h4] at hm; cases hm; rw [hl]; omega
  · intro t z e
    cases e
    refine ⟨rfl, by omega, fun b' L e' => ?_⟩
    rw [h3] at e'; cases e'
    refine ⟨by omega, fun _ => ⟨rfl, by rw [h4]; congr 1; omega, ?_⟩⟩
    rw [newB_csize]; omega

theorem aAppend_run {P : Program} {g s w t ty e k k2 xs ys v s' va vb} (h : Inv P g s w) (hx : R g w (.sl k xs) va) (hy : R g w (.sl k2 ys) vb) (htd : td P t = .sl e) (hz : (zpv P e).isSome = true)
    (hex : isEls P e xs) (hey : isEls P e ys) (hb0 : 0 < P.bytesOf e) (hlen : (xs.length + ys.length) * P.bytesOf e ≤ 140737488355328) (ha : aAppend P e k xs ys s = some (v, s')) :
    ∃ val w' g', (Builtin.append_ #[t, t] ty #[va, vb]).run P w = .ok val w' ∧ Inv P g' s' w' ∧ Ext g w g' w' ∧ R g' w' v val := by
  have hu := td_slice htd
  obtain ⟨z, hz⟩ := Option.isSome_iff_exists.1 hz
  obtain ⟨zv, hz1, hz2, hz3, hz4, hpos, hz6, hz7⟩ := zero_run (P := P) (w := w) hz
  obtain ⟨i, hi, hsz⟩ := cells_info hpos
  have hiz : i.zero = some zv := by
    unfold zeroValue at hz1
    rw [bind_run, typeInfo_run hi] at hz1
    simp only at hz1
    cases hq : i.zero with
    | none => rw [hq] at hz1; simp [unsupported, Sem.run] at hz1
    | some z' => rw [hq] at hz1; simp [pure_run] at hz1; subst hz1; rfl
  have hby : P.bytesOf e = i.bytes := by unfold Program.bytesOf; rw [hi]; rfl
  obtain ⟨us, hus, hru⟩ := sl_holds hy
  have hue := isEls_vals hey hru
  have hul := RA_length hru
  have hn := hus.len (P := P)
  have hfc := hus.cells (P := P) (size := P.cellsOf e) (fun v hv => (hue v hv).1)
  -- nothing is appended
  by_cases hys : ys = []
  · subst hys
    unfold aAppend at ha
    rw [if_pos rfl] at ha
    cases ha
    simp only [RA] at hru
    subst hru
    obtain ⟨k', hkb, hxb, _⟩ := sl_base hx
    cases hk : decide (k' = .nil) with
    | true =>
      have := of_decide_eq_true hk
      subst this
      have e0 := (R_nil.1 hxb).1
      rw [e0] at hx ⊢
      exact ⟨_, w, g, append_none hu hi hn (by rw [hsz]; exact hfc), h, Ext.refl _ _, hx⟩
    | false =>
      obtain ⟨b, o, cap, sz, vs, rfl, h1, _⟩ := sl_head hxb (of_decide_eq_false hk) hkb
      exact ⟨_, w, g, append_stay hu hi hn (by rw [hsz]; exact hfc) (by simpa using h1) rfl, h, Ext.refl _ _, hx⟩
  have hm : 0 < us.length := by rw [← hul]; exact List.length_pos_iff.2 hys
  -- a new block
  have grow : ∀ (base : Option Addr) (cap : Nat) (vs : List Value), va = .slice base vs.length cap → Holds w va vs → RA g w xs vs → cap < vs.length + us.length →
      ∃ N extra, (vs.length + us.length) ≤ N ∧ (Builtin.append_ #[t, t] ty #[va, vb]).run P w = .ok (.slice (some ⟨w.heap.size, 0, none⟩) (vs.length + us.length) N) (World.newB { w with drawn := w.drawn + 1 } (.cells ((flat (vs ++ us)).toArray ++ extra) e (0, 0))) ∧
        N * P.cellsOf e ≤ ((flat (vs ++ us)).toArray ++ extra).size := by
    intro base cap vs hva hvs hrv hcap
    have hve := isEls_vals hex hrv
    have hvl := RA_length hrv
    have ho := hvs.drew.cells (P := P) (size := P.cellsOf e) (fun v hv => (hve v hv).1)
    have hn' := hus.drew.cells (P := P) (size := P.cellsOf e) (fun v hv => (hue v hv).1)
    rw [hva] at ho ⊢
    rw [← hsz] at ho hn'
    have hfit := growslice_fits (bytes := i.bytes) hcap (by rw [← hby, ← hvl, ← hul]; exact hlen)
    have := append_new (P := P) (w := w) (t := t) (ty := ty) hu hi hiz hn ho hn' hcap (by
      have := Nat.le_mul_of_pos_right (xs.length + ys.length) hb0
      omega) hfit
    have hge := grownCap_ge w (vs.length + us.length) cap e
    refine ⟨grownCap w (vs.length + us.length) cap e, Builtin.zeroCells zv.cells (grownCap w (vs.length + us.length) cap e - (vs.length + us.length)), hge, ?_, ?_⟩
    · rw [this]
      congr 2
      rw [flat_append]
      simp
    · rw [Array.size_append, size_zeroCells, hz4, List.size_toArray, flat_length (sz := P.cellsOf e), List.length_append, ← Nat.add_mul]
      · apply Nat.mul_le_mul_right; omega
      · intro v hv
        rcases List.mem_append.1 hv with hv | hv
        · exact (hve v hv).1
        · exact (hue v hv).1
  have fresh : ∀ (base : Option Addr) (cap : Nat) (vs : List Value), va = .slice base vs.length cap → Holds w va vs → RA g w xs vs → cap < vs.length + us.length →
      ∃ val w' g', (Builtin.append_ #[t, t] ty #[va, vb]).run P w = .ok val w' ∧ Inv P g' (s.new (.tok (xs.length + ys.length))) w' ∧ Ext g w g' w' ∧ R g' w' (.sl (.tok s.nxt (P.cellsOf e)) (xs ++ ys)) val := by
    intro base cap vs hva hvs hrv hcap
    have hve := isEls_vals hex hrv
    have hvl := RA_length hrv
    obtain ⟨N, extra, hN, hrun, hcs⟩ := grow base cap vs hva hvs hrv hcap
    obtain ⟨hI1, hE1⟩ := drew_step h (w.drawn + 1)
    obtain ⟨g', k1, k2, k3⟩ := newTok_R (ty := e) (c := (flat (vs ++ us)).toArray ++ extra) (N := N) (sz := P.cellsOf e) hI1 (RA_append (RA_ext hE1 _ _ hrv) (RA_ext hE1 _ _ hru)) (by
      intro v hv
      rcases List.mem_append.1 hv with hv | hv
      · exact (hve v hv).1
      · exact (hue v hv).1) hpos (by simp) (by rw [List.length_append]; exact hN) hcs
    rw [List.length_append] at k1 k3
    refine ⟨_, _, g', hrun, ?_, hE1.trans k2, ?_⟩
    · rw [hvl, hul]; exact k1
    · exact k3
  have freshNil : R g w (.sl .nil xs) va → ∃ val w' g', (Builtin.append_ #[t, t] ty #[va, vb]).run P w = .ok val w' ∧ Inv P g' (s.new (.tok (xs.length + ys.length))) w' ∧ Ext g w g' w' ∧ R g' w' (.sl (.tok s.nxt (P.cellsOf e)) (xs ++ ys)) val := by
    intro hx
    obtain ⟨e1, e2⟩ := R_nil.1 hx
    exact fresh none 0 [] (by simpa using e1) (.inl ⟨0, e1, rfl⟩) (by rw [e2]; simp [RA]) (by simpa using hm)
  have freshClip : R g w (.sl .clip xs) va → ∃ val w' g', (Builtin.append_ #[t, t] ty #[va, vb]).run P w = .ok val w' ∧ Inv P g' (s.new (.tok (xs.length + ys.length))) w' ∧ Ext g w g' w' ∧ R g' w' (.sl (.tok s.nxt (P.cellsOf e)) (xs ++ ys)) val := by
    intro hx
    obtain ⟨b, o, cap, sz, vs, e1, h1, h2, h3, h4, h5, h6, h7, h8⟩ := sl_head hx (by simp) rfl
    have hl := RA_length h8
    exact fresh _ cap vs (by rw [← hl]; exact e1) (.inr ⟨b, o, cap, by rw [← hl]; exact e1, h5⟩) h8 (by have := h3 rfl; omega)
  unfold aAppend at ha
  rw [if_neg hys] at ha
  cases k with
  | any => cases ha
  | unk => cases ha
  | nil => cases ha; exact freshNil hx
  | clip => cases ha; exact freshClip hx
  | unc =>
    cases ha
    rcases R_unc.1 hx with hx | hx
    · exact freshNil hx
    · exact freshClip hx
  | tok tk zk =>
    simp only at ha
    split at ha
    case h_2 => cases ha
    rename_i L hL
    split at ha
    case isFalse => cases ha
    rename_i hLz
    obtain ⟨rfl, rfl⟩ := hLz
    cases ha
    obtain ⟨b, o, cap, sz, vs, e1, h1, h2, h3, h4, h5, h6, h7, h8⟩ := sl_head hx (by simp) rfl
    have hl := RA_length h8
    obtain ⟨rfl, hlt, hlive⟩ := h7 tk _ rfl
    have hat := h.at' tk
    rw [hL] at hat
    obtain ⟨_, b', E, ht1, ht2, ht3, ht4⟩ := hat
    obtain ⟨_, hlv⟩ := hlive b' _ ht1
    obtain ⟨rfl, hlim, hcs⟩ := hlv rfl
    have hve := isEls_vals hex h8
    by_cases hroom : xs.length + us.length ≤ cap
    · -- in place
      have hfl : (flat us).length = us.length * P.cellsOf e := flat_length fun v hv => (hue v hv).1
      have hfit : o + xs.length * P.cellsOf e + (flat us).length ≤ csize w b' := by
        rw [hfl]
        have := Nat.mul_le_mul_right (P.cellsOf e) hroom
        rw [Nat.add_mul] at this
        omega
      obtain ⟨g', k1, k2, k3, k4, k5, k6⟩ := tokGrow_step (m := us.length) (xs := flat us) h hL ht1 hlim hm
      have hst := storeCells_run P b' (flat us) w (o + xs.length * P.cellsOf e) 0 (by
        intro v hv
        simp only [flat, List.mem_flatMap] at hv
        obtain ⟨u, hu1, hu2⟩ := hv
        exact (hue u hu1).2 v hu2) ht4 (by simpa using hfit)
      have hrun : (Builtin.append_ #[t, t] ty #[va, vb]).run P w = .ok (.slice (some ⟨b', o, none⟩) (xs.length + us.length) cap) (putCells w b' (o + xs.length * P.cellsOf e) (flat us)) := by
        rw [e1]
        exact append_stay hu hi hn (by rw [hsz]; exact hfc) hroom (by rw [hsz]; simpa using hst)
      refine ⟨_, _, g', hrun, by rw [hul]; exact k1, k2, ?_⟩
      simp only [R]
      refine ⟨vs ++ us, RA_append (RA_ext k2 _ _ h8) (RA_ext k2 _ _ hru), ?_⟩
      rw [slHead_base rfl]
      simp only [slHead0, List.length_append]
      refine ⟨b', o, cap, P.cellsOf e, by rw [hul], by omega, hpos, by simp, fun hp => ⟨k6, fun m hm' => ?_⟩, ?_, ?_, ?_⟩
      · rw [k4] at hm'; cases hm'
        rw [hfl, hul, Nat.add_mul]; omega
      · rw [flat_append, cellsAt_append]
        have hvf : (flat vs).length = xs.length * P.cellsOf e := by rw [flat_length h6, hl]
        refine ⟨fun j hj => ?_, ?_⟩
        · rw [putCells_cell_out _ _ _ _ _ _ (by omega)]
          exact h5 j hj
        · rw [hvf]
          exact putCells_cell_in _ _ _ _ hfit
      · intro v hv
        rcases List.mem_append.1 hv with hv | hv
        · exact h6 v hv
        · exact (hue v hv).1
      · intro t' z' e'
        cases e'
        refine ⟨rfl, by rw [k5]; exact hlt, fun b2 L2 e2 => ?_⟩
        rw [k3] at e2; cases e2
        refine ⟨by omega, fun _ => ⟨rfl, ?_, ?_⟩⟩
        · rw [k4, hfl, Nat.add_mul]; congr 1; omega
        · rw [putCells_csize]; exact hcs
    · -- a new block
      have hva : va = .slice (some ⟨b', o, none⟩) vs.length cap := by rw [← hl]; exact e1
      have hcap : cap < vs.length + us.length := by omega
      obtain ⟨N, extra, hN, hrun, hcs'⟩ := grow _ cap vs hva (.inr ⟨b', o, cap, hva, h5⟩) h8 hcap
      obtain ⟨hI1, hE1⟩ := drew_step h (w.drawn + 1)
      obtain ⟨g', k1, k2, k3, k4, k5, k6⟩ := tokMove_step (ty := e) (E := (vs.length + us.length) * P.cellsOf e) (c := (flat (vs ++ us)).toArray ++ extra) hI1 hL ht1 hm
      have hE := hE1.trans k2
      refine ⟨_, _, g', hrun, by rw [hul]; exact k1, hE, ?_⟩
      simp only [R]
      refine ⟨vs ++ us, RA_append (RA_ext hE _ _ h8) (RA_ext hE _ _ hru), ?_⟩
      rw [slHead_base rfl]
      simp only [slHead0, List.length_append]
      have hszs : ∀ v ∈ vs ++ us, v.cells.size = P.cellsOf e := by
        intro v hv
        rcases List.mem_append.1 hv with hv | hv
        · exact h6 v hv
        · exact (hue v hv).1
      refine ⟨w.heap.size, 0, N, P.cellsOf e, by rw [hl, hul], by omega, hpos, by simp, fun hp => ⟨k6, fun m hm' => ?_⟩, ?_, hszs, ?_⟩
      · have k4' : g'.lim w.heap.size = some ((vs.length + us.length) * P.cellsOf e) := k4
        rw [k4'] at hm'; cases hm'
        rw [hl, hul]; omega
      · exact newB_cells { w with drawn := w.drawn + 1 } _ e (0, 0) _ (by simp)
      · intro t' z' e'
        cases e'
        refine ⟨rfl, by rw [k5]; exact hlt, fun b2 L2 e2 => ?_⟩
        have k3' : g'.toks tk = some (w.heap.size, xs.length + us.length) := k3
        rw [k3'] at e2; cases e2
        refine ⟨by omega, fun _ => ⟨rfl, ?_, ?_⟩⟩
        · have k4' : g'.lim w.heap.size = some ((vs.length + us.length) * P.cellsOf e) := k4
          rw [k4', hl]; congr 1; omega
        · have := newB_csize { w with drawn := w.drawn + 1 } ((flat (vs ++ us)).toArray ++ extra) e (0, 0)
          show 0 + N * P.cellsOf e ≤ csize _ w.heap.size
          rw [show w.heap.size = ({ w with drawn := w.drawn + 1 } : World).heap.size from rfl, this]
          omega

/-! ## append as an operation -/

section
variable {P : Program} {N : Nat} {k : List KI} {e : Env} {s : St} {rt : Env → St → Prop}

theorem RunO.append {ops : Array Oper} {d : Option Nat} {x y : Operand} {t ty : TypeId} {pos : String} {af : Array Edge} {gd : Option (Nat × Bool)} {l : List Oper} {el : TypeId} {kx ky : SK} {xs ys : List PV} {v : PV} {s' : St}
    (hg : guard? ops ⟨d, .call ⟨.builtin .append, #[x, y], #[t, t]⟩, ty, pos, af, gd⟩ e = some true) (hx : ev e x = .sl kx xs) (hy : ev e y = .sl ky ys) (htd : td P t = .sl el) (hz : (zpv P el).isSome = true)
    (hex : isEls P el xs) (hey : isEls P el ys) (hb0 : 0 < P.bytesOf el) (hlen : (xs.length + ys.length) * P.bytesOf el ≤ 140737488355328) (ha : aAppend P el kx xs ys s = some (v, s'))
    (h : RunO P N ops l k (e.put d v) s' rt) : RunO P N ops (⟨d, .call ⟨.builtin .append, #[x, y], #[t, t]⟩, ty, pos, af, gd⟩ :: l) k e s rt := by
  refine RunO.eff hg (fun g w a hI hE => ?_) h
  have h1 := ev_R hE x
  have h2 := ev_R hE y
  rw [hx] at h1
  rw [hy] at h2
  obtain ⟨val, w', g', r1, r2, r3, r4⟩ := aAppend_run (ty := ty) hI h1 h2 htd hz hex hey hb0 hlen ha
  refine ⟨val, w', g', .inl ?_, r2, r3, r4⟩
  unfold execOp
  simp only [resolve, bind_run, pure_run, invoke, builtin]
  have : Array.map a.eval #[x, y] = #[a.eval x, a.eval y] := by simp
  rw [this, r1]
end

end Go.PM

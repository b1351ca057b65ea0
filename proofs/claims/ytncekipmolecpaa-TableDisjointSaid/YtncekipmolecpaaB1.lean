import Derived.Test.YtncekipmolecpaaB0
import Derived.Laws.Append
import Derived.Laws.AppendOwn
import Derived.Laws.MakeOwn
import Derived.Orders
import Derived.Attr
set_option linter.unusedVariables false
set_option linter.unusedSimpArgs false
namespace Go.PM
open Go
section
variable {P : Program} {w : World}
theorem append_stay {t ty e : TypeId} {i : TypeInfo} (ht : P.underlying t = some (.slice e)) (hi : P.info? e = some i) {b o sLen sCap n : Nat} {x : Value} {news : Array Value} {w' : World}
    (hl : (Builtin.lenOf x).run P w = .ok n w) (hf : (Builtin.firstCells i.size n x).run P w = .ok news w) (hroom : sLen + n ≤ sCap)
    (hst : (storeCells ⟨b, o + sLen * i.size, none⟩ news.toList).run P w = .ok () w') :
    (Builtin.append_ #[t, t] ty #[.slice (some ⟨b, o, none⟩) sLen sCap, x]).run P w = .ok (.slice (some ⟨b, o, none⟩) (sLen + n) sCap) w' := by
  simp [Builtin.append_, run_underlying ht, sizeOf, typeInfo, hi, hl, hroom, hf, addr_add, hst]
theorem append_odd {t ty e : TypeId} {i : TypeInfo} (ht : P.underlying t = some (.slice e)) (hi : P.info? e = some i) {a : Addr} {x : Value}
    (hl : (Builtin.lenOf x).run P w = .ok 0 w) (hf : (Builtin.firstCells i.size 0 x).run P w = .ok #[] w) :
    (Builtin.append_ #[t, t] ty #[.slice (some a) 0 0, x]).run P w = .ok (.slice (some a) 0 0) w := by
  have hs : ∀ b : Addr, (storeCells b [] : Sem Unit).run P w = .ok () w := fun b => rfl
  simp [Builtin.append_, run_underlying ht, sizeOf, typeInfo, hi, hl, hf, hs]
theorem append_none {t ty e : TypeId} {i : TypeInfo} (ht : P.underlying t = some (.slice e)) (hi : P.info? e = some i) {x : Value}
    (hl : (Builtin.lenOf x).run P w = .ok 0 w) (hf : (Builtin.firstCells i.size 0 x).run P w = .ok #[] w) :
    (Builtin.append_ #[t, t] ty #[.slice none 0 0, x]).run P w = .ok (.slice none 0 0) w := by
  simp [Builtin.append_, run_underlying ht, sizeOf, typeInfo, hi, hl, hf]
theorem append_new {t ty e : TypeId} {i : TypeInfo} {z : Value} (ht : P.underlying t = some (.slice e)) (hi : P.info? e = some i) (hz : i.zero = some z) {base : Option Addr} {sLen sCap n : Nat} {x : Value} {olds news : Array Value}
    (hl : (Builtin.lenOf x).run P w = .ok n w) (hfo : (Builtin.firstCells i.size sLen (.slice base sLen sCap)).run P w.drew = .ok olds w.drew) (hf : (Builtin.firstCells i.size n x).run P w.drew = .ok news w.drew)
    (hg : sCap < sLen + n) (h63 : ((sLen + n : Nat) : Int) ≤ 9223372036854775807) (hfit : Builtin.nextslicecap (sLen + n) sCap * i.bytes ≤ 281474976710656) :
    (Builtin.append_ #[t, t] ty #[.slice base sLen sCap, x]).run P w =
      .ok (.slice (some ⟨w.heap.size, 0, none⟩) (sLen + n) (grownCap w (sLen + n) sCap e))
        (w.drew.alloc (.cells (olds ++ news ++ Builtin.zeroCells z.cells (grownCap w (sLen + n) sCap e - (sLen + n))) e)) := by
  have hn : ¬ (sLen + n ≤ sCap) := by omega
  have h63' : ¬ (9223372036854775807 < ((sLen : Int) + (n : Int))) := by omega
  have h48' : ¬ (281474976710656 < Builtin.nextslicecap (sLen + n) sCap * i.bytes) := by omega
  simp [Builtin.append_, run_underlying ht, sizeOf, typeInfo, zeroValue, hi, hz, hl, hn, h63', h48', Question.forced, hf, hfo, newRow, grownCap]
end
def Holds (w : World) (x : Value) (vs : List Value) : Prop :=
  (∃ a cap, x = .slice a 0 cap ∧ vs = []) ∨ (∃ b o cap, x = .slice (some ⟨b, o, none⟩) vs.length cap ∧ cellsAt w b o (flat vs))
theorem Holds.len {P : Program} {w x vs} (h : Holds w x vs) : (Builtin.lenOf x).run P w = .ok vs.length w := by
  rcases h with ⟨a, cap, rfl, rfl⟩ | ⟨b, o, cap, rfl, h⟩ <;> rfl
theorem Holds.cells {P : Program} {w x vs size} (h : Holds w x vs) (hs : ∀ v ∈ vs, v.cells.size = size) : (Builtin.firstCells size vs.length x).run P w = .ok (flat vs).toArray w := by
  rcases h with ⟨a, cap, rfl, rfl⟩ | ⟨b, o, cap, rfl, h⟩
  · cases a with
    | none => rfl
    | some a => simp [Builtin.firstCells, loadCells, loadCellsFrom, flat, pure_run]
  · exact loadCells_run P w b o _ _ (by rw [flat_length hs]) h
theorem Holds.drew {w x vs} (h : Holds w x vs) : Holds w.drew x vs := by
  rcases h with h | ⟨b, o, cap, h1, h2⟩
  · exact .inl h
  · exact .inr ⟨b, o, cap, h1, h2⟩
theorem sl_holds {g w k els v} (h : R g w (.sl k els) v) : ∃ vs, Holds w v vs ∧ RA g w els vs := by
  obtain ⟨k', hb, h, _⟩ := sl_base h
  by_cases hk : k' = .nil
  · subst hk
    obtain ⟨rfl, rfl⟩ := R_nil.1 h
    exact ⟨[], .inl ⟨none, 0, rfl, rfl⟩, by simp [RA]⟩
  · rcases sl_head h hk hb with ⟨b, o, cap, sz, vs, rfl, h1, h2, h3, h4, h5, h6, h7, h8⟩ | ⟨_, rfl, x, rfl⟩
    · exact ⟨vs, .inr ⟨b, o, cap, by rw [RA_length h8], h5⟩, h8⟩
    · exact ⟨[], .inl ⟨_, 0, rfl, rfl⟩, by simp [RA]⟩
def isEls (P : Program) (e : TypeId) (els : List PV) : Prop := ∀ el ∈ els, el.ok = true ∧ el.cells.length = P.cellsOf e
theorem isEls_vals {P : Program} {e g w} : ∀ {els : List PV} {vs : List Value}, isEls P e els → RA g w els vs → ∀ v ∈ vs, v.cells.size = P.cellsOf e ∧ ∀ x ∈ v.cells.toList, x.flat = true
  | [], vs, _, h, v, hv => by simp [RA] at h; subst h; simp at hv
  | p :: ps, vs, he, h, v, hv => by
    simp only [RA] at h
    obtain ⟨u, r, rfl, hu, hr⟩ := h
    obtain ⟨k1, k2⟩ := he p (by simp)
    obtain ⟨c1, c2, c3⟩ := RA_cells hu k1
    simp at hv
    rcases hv with rfl | hv
    · exact ⟨by omega, c2⟩
    · exact isEls_vals (fun q hq => he q (by simp [hq])) hr v hv
theorem flat_append (xs ys : List Value) : flat (xs ++ ys) = flat xs ++ flat ys := by simp [flat]
def aAppend (P : Program) (e : TypeId) (k : SK) (xs ys : List PV) (s : St) : Option (PV × St) :=
  if ys = [] then some (.sl k xs, s)
  else match k with
    | .nil | .clip | .unc => some (.sl (.tok s.nxt (P.cellsOf e)) (xs ++ ys), s.new (.tok (xs.length + ys.length)))
    | .tok t z => match s.blk t with
      | some (.tok L) => if L = xs.length ∧ z = P.cellsOf e then some (.sl (.tok t z) (xs ++ ys), s.set t (some (.tok (xs.length + ys.length)))) else none
      | _ => none
    | .any | .unk => none
theorem newTok_R {P : Program} {g s w els vs} {sz N : Nat} {ty : TypeId} {c : Array Value} (h : Inv P g s w) (hr : RA g w els vs) (hv : ∀ v ∈ vs, v.cells.size = sz) (hsz : 0 < sz) (hc : flat vs <+: c.toList) (hN : vs.length ≤ N) (hcs : N * sz ≤ c.size) :
    ∃ g', Inv P g' (s.new (.tok vs.length)) (World.newB w (.cells c ty (0, 0))) ∧ Ext g w g' (World.newB w (.cells c ty (0, 0))) ∧
      R g' (World.newB w (.cells c ty (0, 0))) (.sl (.tok s.nxt sz) els) (.slice (some ⟨w.heap.size, 0, none⟩) vs.length N) := by
  obtain ⟨g', h1, h2, h3, h4, h5, h6⟩ := newTok_step (ty := ty) (L := vs.length) (E := vs.length * sz) (c := c) h
  refine ⟨g', h1, h2, ?_⟩
  have hl := RA_length hr
  simp only [R]
  refine ⟨vs, RA_ext h2 _ _ hr, ?_⟩
  rw [slHead_base rfl]
  simp only [slHead0]
  refine .inl ⟨w.heap.size, 0, N, sz, by rw [hl], by omega, hsz, by simp, fun hp => ⟨h6, fun m hm => ?_⟩, newB_cells w c ty (0, 0) _ hc, hv, ?_⟩
  · rw [h4] at hm; cases hm; rw [hl]; omega
  · intro t z e
    cases e
    refine ⟨rfl, by omega, fun b' L e' => ?_⟩
    rw [h3] at e'; cases e'
    refine ⟨by omega, fun _ => ⟨rfl, by rw [h4]; congr 1; omega, ?_⟩⟩
    rw [newB_csize]; omega
theorem aAppend_run {P : Program} {g s w t ty e k k2 xs ys v s' va vb} (h : Inv P g s w) (hx : R g w (.sl k xs) va) (hy : R g w (.sl k2 ys) vb) (htd : td P t = .sl e) (hz : (zpv P e).isSome = true)
    (hex : isEls P e xs) (hey : isEls P e ys) (hb0 : 0 < P.bytesOf e) (hlen : (xs.length + ys.length) * P.bytesOf e ≤ 140737488355328) (ha : aAppend P e k xs ys s = some (v, s')) :
    ∃ val w' g', (Builtin.append_ #[t, t] ty #[va, vb]).run P w = .ok val w' ∧ Inv P g' s' w' ∧ Ext g w g' w' ∧ R g' w' v val := by
  have hu := td_slice htd
  obtain ⟨z, hz⟩ := Option.isSome_iff_exists.1 hz
  obtain ⟨zv, hz1, hz2, hz3, hz4, hpos, hz6, hz7⟩ := zero_run (P := P) (w := w) hz
  obtain ⟨i, hi, hsz⟩ := cells_info hpos
  have hiz : i.zero = some zv := by
    unfold zeroValue at hz1
    rw [bind_run, typeInfo_run hi] at hz1
    simp only at hz1
    cases hq : i.zero with
    | none => rw [hq] at hz1; simp [unsupported, Sem.run] at hz1
    | some z' => rw [hq] at hz1; simp [pure_run] at hz1; subst hz1; rfl
  have hby : P.bytesOf e = i.bytes := by unfold Program.bytesOf; rw [hi]; rfl
  obtain ⟨us, hus, hru⟩ := sl_holds hy
  have hue := isEls_vals hey hru
  have hul := RA_length hru
  have hn := hus.len (P := P)
  have hfc := hus.cells (P := P) (size := P.cellsOf e) (fun v hv => (hue v hv).1)
  by_cases hys : ys = []
  · subst hys
    unfold aAppend at ha
    rw [if_pos rfl] at ha
    cases ha
    simp only [RA] at hru
    subst hru
    obtain ⟨k', hkb, hxb, _⟩ := sl_base hx
    cases hk : decide (k' = .nil) with
    | true =>
      have := of_decide_eq_true hk
      subst this
      have e0 := (R_nil.1 hxb).1
      rw [e0] at hx ⊢
      exact ⟨_, w, g, append_none hu hi hn (by rw [hsz]; exact hfc), h, Ext.refl _ _, hx⟩
    | false =>
      rcases sl_head hxb (of_decide_eq_false hk) hkb with ⟨b, o, cap, sz, vs, rfl, h1, _⟩ | ⟨_, rfl, x, rfl⟩
      · exact ⟨_, w, g, append_stay hu hi hn (by rw [hsz]; exact hfc) (by simpa using h1) rfl, h, Ext.refl _ _, hx⟩
      · exact ⟨_, w, g, append_odd hu hi hn (by rw [hsz]; exact hfc), h, Ext.refl _ _, hx⟩
  have hm : 0 < us.length := by rw [← hul]; exact List.length_pos_iff.2 hys
  have grow : ∀ (base : Option Addr) (cap : Nat) (vs : List Value), va = .slice base vs.length cap → Holds w va vs → RA g w xs vs → cap < vs.length + us.length →
      ∃ N extra, (vs.length + us.length) ≤ N ∧ (Builtin.append_ #[t, t] ty #[va, vb]).run P w = .ok (.slice (some ⟨w.heap.size, 0, none⟩) (vs.length + us.length) N) (World.newB { w with drawn := w.drawn + 1 } (.cells ((flat (vs ++ us)).toArray ++ extra) e (0, 0))) ∧
        N * P.cellsOf e ≤ ((flat (vs ++ us)).toArray ++ extra).size := by
    intro base cap vs hva hvs hrv hcap
    have hve := isEls_vals hex hrv
    have hvl := RA_length hrv
    have ho := hvs.drew.cells (P := P) (size := P.cellsOf e) (fun v hv => (hve v hv).1)
    have hn' := hus.drew.cells (P := P) (size := P.cellsOf e) (fun v hv => (hue v hv).1)
    rw [hva] at ho ⊢
    rw [← hsz] at ho hn'
    have hfit := growslice_fits (bytes := i.bytes) hcap (by rw [← hby, ← hvl, ← hul]; exact hlen)
    have := append_new (P := P) (w := w) (t := t) (ty := ty) hu hi hiz hn ho hn' hcap (by
      have := Nat.le_mul_of_pos_right (xs.length + ys.length) hb0
      omega) hfit
    have hge := grownCap_ge w (vs.length + us.length) cap e
    refine ⟨grownCap w (vs.length + us.length) cap e, Builtin.zeroCells zv.cells (grownCap w (vs.length + us.length) cap e - (vs.length + us.length)), hge, ?_, ?_⟩
    · rw [this]
      congr 2
      rw [flat_append]
      simp
    · rw [Array.size_append, size_zeroCells, hz4, List.size_toArray, flat_length (sz := P.cellsOf e), List.length_append, ← Nat.add_mul]
      · apply Nat.mul_le_mul_right; omega
      · intro v hv
        rcases List.mem_append.1 hv with hv | hv
        · exact (hve v hv).1
        · exact (hue v hv).1
  have fresh : ∀ (base : Option Addr) (cap : Nat) (vs : List Value), va = .slice base vs.length cap → Holds w va vs → RA g w xs vs → cap < vs.length + us.length →
      ∃ val w' g', (Builtin.append_ #[t, t] ty #[va, vb]).run P w = .ok val w' ∧ Inv P g' (s.new (.tok (xs.length + ys.length))) w' ∧ Ext g w g' w' ∧ R g' w' (.sl (.tok s.nxt (P.cellsOf e)) (xs ++ ys)) val := by
    intro base cap vs hva hvs hrv hcap
    have hve := isEls_vals hex hrv
    have hvl := RA_length hrv
    obtain ⟨N, extra, hN, hrun, hcs⟩ := grow base cap vs hva hvs hrv hcap
    obtain ⟨hI1, hE1⟩ := drew_step h (w.drawn + 1)
    obtain ⟨g', k1, k2, k3⟩ := newTok_R (ty := e) (c := (flat (vs ++ us)).toArray ++ extra) (N := N) (sz := P.cellsOf e) hI1 (RA_append (RA_ext hE1 _ _ hrv) (RA_ext hE1 _ _ hru)) (by
      intro v hv
      rcases List.mem_append.1 hv with hv | hv
      · exact (hve v hv).1
      · exact (hue v hv).1) hpos (by simp) (by rw [List.length_append]; exact hN) hcs
    rw [List.length_append] at k1 k3
    refine ⟨_, _, g', hrun, ?_, hE1.trans k2, ?_⟩
    · rw [hvl, hul]; exact k1
    · exact k3
  have freshNil : R g w (.sl .nil xs) va → ∃ val w' g', (Builtin.append_ #[t, t] ty #[va, vb]).run P w = .ok val w' ∧ Inv P g' (s.new (.tok (xs.length + ys.length))) w' ∧ Ext g w g' w' ∧ R g' w' (.sl (.tok s.nxt (P.cellsOf e)) (xs ++ ys)) val := by
    intro hx
    obtain ⟨e1, e2⟩ := R_nil.1 hx
    exact fresh none 0 [] (by simpa using e1) (.inl ⟨none, 0, e1, rfl⟩) (by rw [e2]; simp [RA]) (by simpa using hm)
  have freshClip : R g w (.sl .clip xs) va → ∃ val w' g', (Builtin.append_ #[t, t] ty #[va, vb]).run P w = .ok val w' ∧ Inv P g' (s.new (.tok (xs.length + ys.length))) w' ∧ Ext g w g' w' ∧ R g' w' (.sl (.tok s.nxt (P.cellsOf e)) (xs ++ ys)) val := by
    intro hx
    rcases sl_head hx (by simp) rfl with ⟨b, o, cap, sz, vs, e1, h1, h2, h3, h4, h5, h6, h7, h8⟩ | ⟨_, rfl, x, e1⟩
    case inr => exact fresh _ 0 [] (by simpa using e1) (.inl ⟨_, 0, e1, rfl⟩) (by simp [RA]) (by simpa using hm)
    have hl := RA_length h8
    exact fresh _ cap vs (by rw [← hl]; exact e1) (.inr ⟨b, o, cap, by rw [← hl]; exact e1, h5⟩) h8 (by have := h3 rfl; omega)
  unfold aAppend at ha
  rw [if_neg hys] at ha
  cases k with
  | any => cases ha
  | unk => cases ha
  | nil => cases ha; exact freshNil hx
  | clip => cases ha; exact freshClip hx
  | unc =>
    cases ha
    rcases R_unc.1 hx with hx | hx
    · exact freshNil hx
    · exact freshClip hx
  | tok tk zk =>
    simp only at ha
    split at ha
    case h_2 => cases ha
    rename_i L hL
    split at ha
    case isFalse => cases ha
    rename_i hLz
    obtain ⟨rfl, rfl⟩ := hLz
    cases ha
    rcases sl_head hx (by simp) rfl with ⟨b, o, cap, sz, vs, e1, h1, h2, h3, h4, h5, h6, h7, h8⟩ | ⟨h, _⟩
    case inr => rcases h with h | h <;> cases h
    have hl := RA_length h8
    obtain ⟨rfl, hlt, hlive⟩ := h7 tk _ rfl
    have hat := h.at' tk
    rw [hL] at hat
    obtain ⟨_, b', E, ht1, ht2, ht3, ht4⟩ := hat
    obtain ⟨_, hlv⟩ := hlive b' _ ht1
    obtain ⟨rfl, hlim, hcs⟩ := hlv rfl
    have hve := isEls_vals hex h8
    by_cases hroom : xs.length + us.length ≤ cap
    · -- in place
      have hfl : (flat us).length = us.length * P.cellsOf e := flat_length fun v hv => (hue v hv).1
      have hfit : o + xs.length * P.cellsOf e + (flat us).length ≤ csize w b' := by
        rw [hfl]
        have := Nat.mul_le_mul_right (P.cellsOf e) hroom
        rw [Nat.add_mul] at this
        omega
      obtain ⟨g', k1, k2, k3, k4, k5, k6⟩ := tokGrow_step (m := us.length) (xs := flat us) h hL ht1 hlim hm
      have hst := storeCells_run P b' (flat us) w (o + xs.length * P.cellsOf e) 0 (by
        intro v hv
        simp only [flat, List.mem_flatMap] at hv
        obtain ⟨u, hu1, hu2⟩ := hv
        exact (hue u hu1).2 v hu2) ht4 (by simpa using hfit)
      have hrun : (Builtin.append_ #[t, t] ty #[va, vb]).run P w = .ok (.slice (some ⟨b', o, none⟩) (xs.length + us.length) cap) (putCells w b' (o + xs.length * P.cellsOf e) (flat us)) := by
        rw [e1]
        exact append_stay hu hi hn (by rw [hsz]; exact hfc) hroom (by rw [hsz]; simpa using hst)
      refine ⟨_, _, g', hrun, by rw [hul]; exact k1, k2, ?_⟩
      simp only [R]
      refine ⟨vs ++ us, RA_append (RA_ext k2 _ _ h8) (RA_ext k2 _ _ hru), ?_⟩
      rw [slHead_base rfl]
      simp only [slHead0, List.length_append]
      refine .inl ⟨b', o, cap, P.cellsOf e, by rw [hul], by omega, hpos, by simp, fun hp => ⟨k6, fun m hm' => ?_⟩, ?_, ?_, ?_⟩
      · rw [k4] at hm'; cases hm'
        rw [hfl, hul, Nat.add_mul]; omega
      · rw [flat_append, cellsAt_append]
        have hvf : (flat vs).length = xs.length * P.cellsOf e := by rw [flat_length h6, hl]
        refine ⟨fun j hj => ?_, ?_⟩
        · rw [putCells_cell_out _ _ _ _ _ _ (by omega)]
          exact h5 j hj
        · rw [hvf]
          exact putCells_cell_in _ _ _ _ hfit
      · intro v hv
        rcases List.mem_append.1 hv with hv | hv
        · exact h6 v hv
        · exact (hue v hv).1
      · intro t' z' e'
        cases e'
        refine ⟨rfl, by rw [k5]; exact hlt, fun b2 L2 e2 => ?_⟩
        rw [k3] at e2; cases e2
        refine ⟨by omega, fun _ => ⟨rfl, ?_, ?_⟩⟩
        · rw [k4, hfl, Nat.add_mul]; congr 1; omega
        · rw [putCells_csize]; exact hcs
    · -- a new block
      have hva : va = .slice (some ⟨b', o, none⟩) vs.length cap := by rw [← hl]; exact e1
      have hcap : cap < vs.length + us.length := by omega
      obtain ⟨N, extra, hN, hrun, hcs'⟩ := grow _ cap vs hva (.inr ⟨b', o, cap, hva, h5⟩) h8 hcap
      obtain ⟨hI1, hE1⟩ := drew_step h (w.drawn + 1)
      obtain ⟨g', k1, k2, k3, k4, k5, k6⟩ := tokMove_step (ty := e) (E := (vs.length + us.length) * P.cellsOf e) (c := (flat (vs ++ us)).toArray ++ extra) hI1 hL ht1 hm
      have hE := hE1.trans k2
      refine ⟨_, _, g', hrun, by rw [hul]; exact k1, hE, ?_⟩
      simp only [R]
      refine ⟨vs ++ us, RA_append (RA_ext hE _ _ h8) (RA_ext hE _ _ hru), ?_⟩
      rw [slHead_base rfl]
      simp only [slHead0, List.length_append]
      have hszs : ∀ v ∈ vs ++ us, v.cells.size = P.cellsOf e := by
        intro v hv
        rcases List.mem_append.1 hv with hv | hv
        · exact h6 v hv
        · exact (hue v hv).1
      refine .inl ⟨w.heap.size, 0, N, P.cellsOf e, by rw [hl, hul], by omega, hpos, by simp, fun hp => ⟨k6, fun m hm' => ?_⟩, ?_, hszs, ?_⟩
      · have k4' : g'.lim w.heap.size = some ((vs.length + us.length) * P.cellsOf e) := k4
        rw [k4'] at hm'; cases hm'
        rw [hl, hul]; omega
      · exact newB_cells { w with drawn := w.drawn + 1 } _ e (0, 0) _ (by simp)
      · intro t' z' e'
        cases e'
        refine ⟨rfl, by rw [k5]; exact hlt, fun b2 L2 e2 => ?_⟩
        have k3' : g'.toks tk = some (w.heap.size, xs.length + us.length) := k3
        rw [k3'] at e2; cases e2
        refine ⟨by omega, fun _ => ⟨rfl, ?_, ?_⟩⟩
        · have k4' : g'.lim w.heap.size = some ((vs.length + us.length) * P.cellsOf e) := k4
          rw [k4', hl]; congr 1; omega
        · have := newB_csize { w with drawn := w.drawn + 1 } ((flat (vs ++ us)).toArray ++ extra) e (0, 0)
          show 0 + N * P.cellsOf e ≤ csize _ w.heap.size
          rw [show w.heap.size = ({ w with drawn := w.drawn + 1 } : World).heap.size from rfl, this]
          omega
section
variable {P : Program} {N : Nat} {k : List KI} {e : Env} {s : St} {rt : Env → St → Prop}
theorem RunO.append {ops : Array Oper} {d : Option Nat} {x y : Operand} {t ty : TypeId} {pos : String} {af : Array Edge} {gd : Option (Nat × Bool)} {l : List Oper} {el : TypeId} {kx ky : SK} {xs ys : List PV} {v : PV} {s' : St}
    (hg : guard? ops ⟨d, .call ⟨.builtin .append, #[x, y], #[t, t]⟩, ty, pos, af, gd⟩ e = some true) (hx : ev e x = .sl kx xs) (hy : ev e y = .sl ky ys) (htd : td P t = .sl el) (hz : (zpv P el).isSome = true)
    (hex : isEls P el xs) (hey : isEls P el ys) (hb0 : 0 < P.bytesOf el) (hlen : (xs.length + ys.length) * P.bytesOf el ≤ 140737488355328) (ha : aAppend P el kx xs ys s = some (v, s'))
    (h : RunO P N ops l k (e.put d v) s' rt) : RunO P N ops (⟨d, .call ⟨.builtin .append, #[x, y], #[t, t]⟩, ty, pos, af, gd⟩ :: l) k e s rt := by
  refine RunO.eff hg (fun g w a hI hE => ?_) h
  have h1 := ev_R hE x
  have h2 := ev_R hE y
  rw [hx] at h1
  rw [hy] at h2
  obtain ⟨val, w', g', r1, r2, r3, r4⟩ := aAppend_run (ty := ty) hI h1 h2 htd hz hex hey hb0 hlen ha
  refine ⟨val, w', g', .inl ?_, r2, r3, r4⟩
  unfold execOp
  simp only [resolve, bind_run, pure_run, invoke, builtin]
  have : Array.map a.eval #[x, y] = #[a.eval x, a.eval y] := by simp
  rw [this, r1]
end
end Go.PM
namespace Go.PM
open Go
theorem fill_seq {size : Nat} (hs : 0 < size) : ∀ (vals : List Value) (k : Nat) (cells : Array Value), (∀ v ∈ vals, v.cells.size = size) → (k + vals.length) * size = cells.size →
    ∃ a : Array Value, Instr.fill (fun i => some (i * size, size)) cells ((vals.zipIdx k).map fun p => (p.2, p.1)) = some a ∧ a.toList = cells.toList.take (k * size) ++ flat vals
  | [], k, cells, _, hc => by
    refine ⟨cells, rfl, ?_⟩
    simp only [List.length_nil, Nat.add_zero] at hc
    rw [hc, List.take_of_length_le (by simp)]
    simp [flat]
  | v :: vals, k, cells, hv, hc => by
    have h0 := hv v (by simp)
    simp only [List.length_cons] at hc
    have hmul : k * size + size ≤ cells.size := by
      rw [← hc, show k + (vals.length + 1) = (k + 1) + vals.length by omega, Nat.add_mul (k + 1), Nat.succ_mul]; omega
    simp only [List.zipIdx_cons, List.map_cons, Instr.fill]
    have hcond : ¬ ((v.cells.size ≠ size || decide (k * size + v.cells.size > cells.size)) = true) := by
      simp; omega
    rw [if_neg hcond]
    have hfold := foldl_eq (k * size) v.cells cells (by omega)
    have hsz : (v.cells.zipIdx.foldl (fun cs (c, j) => cs.setIfInBounds (k * size + j) c) cs0) = (v.cells.zipIdx.foldl (fun cs (c, j) => cs.setIfInBounds (k * size + j) c) cs0) := rfl
    have hlen : (v.cells.zipIdx.foldl (fun cs (c, j) => cs.setIfInBounds (k * size + j) c) cells).size = cells.size := by
      rw [← Array.length_toList, hfold, splV_length (by rw [Array.length_toList, Array.length_toList]; omega), Array.length_toList]
    obtain ⟨a, h1, h2⟩ := fill_seq hs vals (k + 1) _ (fun u hu => hv u (by simp [hu])) (by rw [hlen, ← hc]; congr 1; omega)
    refine ⟨a, h1, ?_⟩
    rw [h2, hfold]
    have : flat (v :: vals) = v.cells.toList ++ flat vals := rfl
    rw [this, Nat.succ_mul, splV, ← List.append_assoc, ← List.append_assoc]
    congr 1
    rw [List.take_append_of_le_length (by simp; omega), List.take_of_length_le (by simp; omega)]
where
  cs0 : Array Value := #[]
def seqParts (k : Nat) : List (Nat × Operand) → Bool
  | [] => true
  | (i, _) :: r => i == k && seqParts (k + 1) r
theorem seqParts_eq : ∀ (k : Nat) (parts : List (Nat × Operand)) (f : Operand → Value), seqParts k parts = true → parts.map (fun p => (p.1, f p.2)) = ((parts.map fun p => f p.2).zipIdx k).map fun p => (p.2, p.1)
  | k, [], f, _ => rfl
  | k, (i, x) :: r, f, h => by
    simp only [seqParts, Bool.and_eq_true, beq_iff_eq] at h
    simp only [List.map_cons, List.zipIdx_cons, List.cons.injEq, Prod.mk.injEq, and_true]
    exact ⟨h.1, seqParts_eq (k + 1) r f h.2⟩
theorem buildSlice_run {P : Program} {w : World} {t e : TypeId} {len : Nat} {parts : Array (Nat × Operand)} {f : Operand → Value} (htd : td P t = .sl e) (hz : (zpv P e).isSome = true) (hseq : seqParts 0 parts.toList = true) (hlen : parts.toList.length = len)
    (hmax : len * P.cellsOf e ≤ 16777216) (hv : ∀ p ∈ parts.toList, (f p.2).cells.size = P.cellsOf e) :
    (Instr.buildSlice t len (parts.map fun (i, x) => (i, f x))).run P w = .ok (.slice (some ⟨w.heap.size, 0, none⟩) len len) (World.newB w (.cells (flat (parts.toList.map fun p => f p.2)).toArray e (0, 0))) := by
  obtain ⟨z, hz⟩ := Option.isSome_iff_exists.1 hz
  obtain ⟨zv, hz1, hz2, hz3, hz4, hpos, hz6, hz7⟩ := zero_run (P := P) (w := w) hz
  unfold Instr.buildSlice
  rw [bind_run, underlying_run (td_slice htd)]
  simp only
  rw [bind_run, sizeOf_run hpos]
  simp only
  rw [if_neg (by omega)]
  have hsz : ∀ v ∈ parts.toList.map (fun p => f p.2), v.cells.size = P.cellsOf e := by
    intro v hv'
    obtain ⟨p, hp, rfl⟩ := List.mem_map.1 hv'
    exact hv p hp
  by_cases hl : len * P.cellsOf e = 0
  · have hl0 : len = 0 := by
      rcases Nat.mul_eq_zero.1 hl with h | h <;> omega
    have : parts = #[] := by
      apply Array.ext'
      simp only
      exact List.length_eq_zero_iff.1 (by omega)
    subst this
    subst hl0
    simp [hl, Instr.fill, bind_run, pure_run, newRow, flat, newObj, Sem.run, Sem.bind, World.newB]
    rw [show (Array.range 0) = #[] from rfl, Array.map_empty]
  · simp only [hl, if_false]
    obtain ⟨a, h1, h2⟩ := fill_seq hpos (parts.toList.map fun p => f p.2) 0 ((Array.range (len * P.cellsOf e)).map (zv.cells[· % zv.cells.size]!)) hsz (by simp [hlen])
    have hp : (parts.map fun (i, x) => (i, f x)).toList = (((parts.toList.map fun p => f p.2).zipIdx 0).map fun p => (p.2, p.1)) := by
      rw [Array.toList_map]
      exact seqParts_eq 0 parts.toList f hseq
    simp only [bind_run, hz1, pure_run, hp, h1]
    have ha : a = (flat (parts.toList.map fun p => f p.2)).toArray := by
      apply Array.ext'
      rw [h2]; simp
    rw [ha]
    rfl
def aBuildSlice (P : Program) (t : TypeId) (len : Nat) (parts : List (Nat × Operand)) (rv : Operand → PV) : Option (List PV) :=
  match td P t with
  | .sl e => if (zpv P e).isSome = true ∧ seqParts 0 parts = true ∧ parts.length = len ∧ len * P.cellsOf e ≤ 16777216 ∧ (∀ p ∈ parts, (rv p.2).ok = true ∧ (rv p.2).cells.length = P.cellsOf e) then some (parts.map fun p => rv p.2) else none
  | _ => none
theorem newClip_R {P : Program} {g s w els vs} {sz : Nat} {ty : TypeId} (h : Inv P g s w) (hr : RA g w els vs) (hv : ∀ v ∈ vs, v.cells.size = sz) (hsz : 0 < sz) :
    Inv P g s (World.newB w (.cells (flat vs).toArray ty (0, 0))) ∧ Ext g w g (World.newB w (.cells (flat vs).toArray ty (0, 0))) ∧
      R g (World.newB w (.cells (flat vs).toArray ty (0, 0))) (.sl .clip els) (.slice (some ⟨w.heap.size, 0, none⟩) els.length els.length) := by
  obtain ⟨h1, h2⟩ := newPlain_step h (.cells (flat vs).toArray ty (0, 0))
  refine ⟨h1, h2, ?_⟩
  have hl := RA_length hr
  have hnew := h.newfree (Nat.le_refl w.heap.size)
  simp only [R]
  refine ⟨vs, RA_ext h2 _ _ hr, ?_⟩
  rw [slHead_base rfl]
  refine .inl ⟨w.heap.size, 0, els.length, sz, rfl, Nat.le_refl _, hsz, fun _ => rfl, fun hp => ⟨hnew.1, fun m hm => by rw [hnew.2] at hm; cases hm⟩, newB_cells w _ ty (0, 0) _ (by simp), hv, fun t z e => by cases e⟩
theorem aBuildSlice_run {P : Program} {g s w rv t len els} {parts : Array (Nat × Operand)} {a : Act} (h : Inv P g s w) (hrv : ∀ x, R g w (rv x) (a.eval x)) (hb : aBuildSlice P t len parts.toList rv = some els) :
    ∃ val w', (Instr.buildSlice t len (parts.map fun (i, x) => (i, a.eval x))).run P w = .ok val w' ∧ Inv P g s w' ∧ Ext g w g w' ∧ R g w' (.sl .clip els) val := by
  unfold aBuildSlice at hb
  split at hb
  case h_2 => cases hb
  rename_i e htd
  split at hb
  case isFalse => cases hb
  rename_i hc
  obtain ⟨hz, hseq, hlen, hmax, hall⟩ := hc
  cases hb
  obtain ⟨z, hz'⟩ := Option.isSome_iff_exists.1 hz
  obtain ⟨_, _, _, _, _, hpos, _⟩ := zero_run (P := P) (w := w) hz'
  have hvs : ∀ p ∈ parts.toList, (a.eval p.2).cells.size = P.cellsOf e := fun p hp => by
    obtain ⟨k1, k2⟩ := hall p hp
    obtain ⟨_, _, c3⟩ := RA_cells (hrv p.2) k1
    omega
  have hra : RA g w (parts.toList.map fun p => rv p.2) (parts.toList.map fun p => a.eval p.2) := by
    simpa [Function.comp_def] using RA_map hrv (parts.toList.map (·.2))
  obtain ⟨k1, k2, k3⟩ := newClip_R (ty := e) h hra (by
    intro v hv
    obtain ⟨p, hp, rfl⟩ := List.mem_map.1 hv
    exact hvs p hp) hpos
  refine ⟨_, _, buildSlice_run htd hz hseq hlen hmax hvs, k1, k2, ?_⟩
  simp only [List.length_map, hlen] at k3
  exact k3
section
variable {P : Program} {N : Nat} {k : List KI} {e : Env} {s : St} {rt : Env → St → Prop}
theorem RunO.lit {ops : Array Oper} {d : Option Nat} {t ty : TypeId} {len : Nat} {parts : Array (Nat × Operand)} {pos : String} {af : Array Edge} {gd : Option (Nat × Bool)} {l : List Oper} {els : List PV}
    (hg : guard? ops ⟨d, .buildSlice t len parts, ty, pos, af, gd⟩ e = some true) (hb : aBuildSlice P t len parts.toList (ev e) = some els) (h : RunO P N ops l k (e.put d (.sl .clip els)) s rt) :
    RunO P N ops (⟨d, .buildSlice t len parts, ty, pos, af, gd⟩ :: l) k e s rt := by
  refine RunO.eff hg (fun g w a hI hE => ?_) h
  obtain ⟨val, w', r1, r2, r3, r4⟩ := aBuildSlice_run hI (fun x => ev_R hE x) hb
  refine ⟨val, w', g, .inl ?_, r2, r3, r4⟩
  unfold execOp
  simp only [bind_run, pure_run, r1]
theorem EnvOK.cons {g w e tmps i p} (h : EnvOK g w e tmps) (hp : R g w p (tmps.getD i undef)) : EnvOK g w ((i, p) :: e) tmps := by
  intro j
  simp only [Env.get]
  split
  · rename_i hj; subst hj; exact hp
  · exact h j
theorem Run.unk {c : Code} (i : Nat) {els : List PV} (hi : e.get i = .sl .unk els) (h1 : els = [] → Run P N (.code c :: k) ((i, .sl .nil []) :: e) s rt) (h2 : Run P N (.code c :: k) ((i, .sl .any els) :: e) s rt) :
    Run P N (.code c :: k) e s rt := by
  intro ok okc g w a hI hE hd hN
  have hv := hE i
  rw [hi] at hv
  rcases R_unk.1 hv with hv | hv
  · have := (R_nil.1 hv).2
    subst this
    exact h1 rfl ok okc g w a hI (hE.cons hv) hd hN
  · exact h2 ok okc g w a hI (hE.cons hv) hd hN
theorem RunO.unk {ops : Array Oper} {l : List Oper} (i : Nat) {els : List PV} (hi : e.get i = .sl .unk els) (h1 : els = [] → RunO P N ops l k ((i, .sl .nil []) :: e) s rt) (h2 : RunO P N ops l k ((i, .sl .any els) :: e) s rt) :
    RunO P N ops l k e s rt := by
  intro ok okk idx hidx g w a hI hE hd hN
  have hv := hE i
  rw [hi] at hv
  rcases R_unk.1 hv with hv | hv
  · have := (R_nil.1 hv).2
    subst this
    exact h1 rfl ok okk idx hidx g w a hI (hE.cons hv) hd hN
  · exact h2 ok okk idx hidx g w a hI (hE.cons hv) hd hN
theorem RunO.less {ops : Array Oper} {l : List Oper} (i : Nat) (p : PV) (hp : p = (e.get i).weak) (h : RunO P N ops l k ((i, p) :: e) s rt) : RunO P N ops l k e s rt := by
  subst hp
  intro ok okk idx hidx g w a hI hE hd hN
  exact h ok okk idx hidx g w a hI (hE.cons (R_weak _ _ (hE i))) hd hN
theorem RunO.callw {ops : Array Oper} {d : Option Nat} {c : Call} {t : TypeId} {pos : String} {af : Array Edge} {gd : Option (Nat × Bool)} {l : List Oper} {f : FuncId} {args args' : List PV}
    (hg : guard? ops ⟨d, .call c, t, pos, af, gd⟩ e = some true) (ha : acall c e = some (f, args)) (hw : PV.weaks args = args') (hc : callable P f = true)
    (h : ACalls P f args' s fun r s' => RunO P N ops l k (e.put d r) s' rt) : RunO P N ops (⟨d, .call c, t, pos, af, gd⟩ :: l) k e s rt := by
  subst hw
  refine RunO.call_ hg (fun g w a hI hE => ?_) h
  obtain ⟨vs, h1, h2⟩ := acall_run (P := P) (o := ⟨d, .call c, t, pos, af, gd⟩) rfl hE ha hc
  exact ⟨vs, h1, RA_weak _ _ h2⟩
end
end Go.PM
namespace Go.PM
open Go
def slotsOf (ops : Array Oper) (o : Oper) : List Nat :=
  (o.op.operands.toList.filterMap fun | .tmp t => some t | _ => none) ++ (match o.guard with | some (j, _) => (gslot ops j).toList | none => [])
def DOp (P : Program) (ops : Array Oper) (o : Oper) (e : Env) (s : St) (v : PV) (s1 : St) : Prop :=
  ∀ g w (a : Act), Inv P g s w → (∀ j ∈ slotsOf ops o, R g w (e.get j) (a.tmps.getD j undef)) → ∀ (K : Act → World → Prop) (Q : Exit → Act → World → Prop),
    (∀ val w' g', Inv P g' s1 w' → Ext g w g' w' → R g' w' v val → K (a.put o.dst val) w') →
    (if Region.wanted o (yielded ops a.tmps) then o.wp P a w K Q ∨ (o.asks P a w ∧ LetsOut Q) else K (a.put o.dst undef) w)
def touch : Op → Bool
  | .move _ | .assign _ | .pick .. | .build .. | .nilCheck _ | .binOp .. | .unOp .. | .convert .. | .makeInterface .. | .makeFunc .. | .fieldAddr .. | .field .. | .index .. | .extract .. | .typeAssert .. | .buildSlice .. => false
  | _ => true
inductive Det (P : Program) (ops : Array Oper) (ws : List Nat) : Nat → List Oper → Env → St → Env → St → Prop
  | nil {i e s} : Det P ops ws i [] e s e s
  | cons {i o l e s v s1 e' s'} : DOp P ops o e s v s1 → (i ∉ ws → s1 = s) → (touch o.op = false → i ∉ ws → ∀ s, DOp P ops o e s v s) →
      Det P ops ws (i + 1) l (e.put o.dst v) s1 e' s' → Det P ops ws i (o :: l) e s e' s'
def bits (acc : List Nat) (o : Oper) : Nat := o.after.toList.foldl (fun m e => if Region.binds .any e then m ||| 2 ^ e.on ||| acc.getD e.on 0 else m) 0
def masks : List Oper → List Nat → List Nat
  | [], acc => acc
  | o :: l, acc => masks l (acc ++ [bits acc o])
def writesSlot (o : Oper) (j : Nat) : Bool := o.dst == some j
def conf (ops : Array Oper) (ws : List Nat) (i j : Nat) (oi oj : Oper) : Bool :=
  (match oi.dst with | some d => oj.dst == some d || (slotsOf ops oj).contains d | none => false) ||
  (match oj.dst with | some d => (slotsOf ops oi).contains d | none => false) ||
  (ws.contains i && (touch oj.op || ws.contains j)) || (ws.contains j && (touch oi.op || ws.contains i))
def drawOK (ops : Array Oper) (ws : List Nat) : Bool :=
  let ms := masks ops.toList []
  (List.range ops.size).all fun j => match ops[j]? with
    | none => false
    | some oj => (oj.after.toList.all fun e => !Region.binds .any e || decide (e.on < j)) &&
      (List.range j).all fun i => match ops[i]? with
        | none => false
        | some oi => !conf ops ws i j oi oj || (ms.getD j 0).testBit i
def DC (ops : Array Oper) (L : Nat → Prop) : Prop := ∀ (k : Nat) (o : Oper), ops[k]? = some o → L k → ∀ e ∈ o.after, Region.binds .any e = true → L e.on
theorem bits_spec {acc : List Nat} {o : Oper} {L : Nat → Prop} (hacc : ∀ k, L k → ∀ b, (acc.getD k 0).testBit b = true → L b) (he : ∀ e ∈ o.after, Region.binds .any e = true → L e.on) :
    ∀ b, (bits acc o).testBit b = true → L b := by
  have key : ∀ (es : List Edge) (m : Nat), (∀ e ∈ es, Region.binds .any e = true → L e.on) → (∀ b, m.testBit b = true → L b) →
      ∀ b, (es.foldl (fun m e => if Region.binds .any e then m ||| 2 ^ e.on ||| acc.getD e.on 0 else m) m).testBit b = true → L b := by
    intro es
    induction es with
    | nil => exact fun m _ h => h
    | cons e es ih =>
      intro m h1 h2
      rw [List.foldl_cons]
      refine ih _ (fun x hx => h1 x (by simp [hx])) ?_
      intro b hb
      split at hb
      · rename_i hbind
        have hL := h1 e (by simp) hbind
        rw [Nat.testBit_or, Nat.testBit_or, Bool.or_eq_true, Bool.or_eq_true] at hb
        rcases hb with (hb | hb) | hb
        · exact h2 b hb
        · rw [Nat.testBit_two_pow] at hb
          have : e.on = b := by simpa using hb
          exact this ▸ hL
        · exact hacc e.on hL b hb
      · exact h2 b hb
  exact key o.after.toList 0 (fun e h => he e (by simpa using h)) (fun b h => by simp at h)
theorem masks_spec {ops : Array Oper} {L : Nat → Prop} (hdc : DC ops L) : ∀ (l : List Oper) (acc : List Nat), ((acc ++ l.map fun _ => 0).length = ops.size) → (∀ (j : Nat) (o : Oper), l[j]? = some o → ops[acc.length + j]? = some o) →
    (∀ (k : Nat) (o : Oper), k < acc.length → ops[k]? = some o → (∀ e ∈ o.after, Region.binds .any e = true → L e.on) → ∀ b, (acc.getD k 0).testBit b = true → L b) →
    ∀ (k : Nat) (o : Oper), ops[k]? = some o → (∀ e ∈ o.after, Region.binds .any e = true → L e.on) → ∀ b, ((masks l acc).getD k 0).testBit b = true → L b
  | [], acc, hlen, _, h, k, o, hk, he, b, hb => by
    refine h k o ?_ hk he b hb
    have := (Array.getElem?_eq_some_iff.1 hk).1
    have := hlen
    simp at this
    omega
  | o :: l, acc, hlen, hl, h, k, o', hk, he, b, hb => by
    refine masks_spec hdc l (acc ++ [bits acc o]) (by have := hlen; simp at this ⊢; omega) ?_ ?_ k o' hk he b hb
    · intro j x hx
      have := hl (j + 1) x (by simpa using hx)
      rw [← this]; congr 1; simp; omega
    · intro k x hk' hx hex b hb
      simp only [List.length_append, List.length_singleton] at hk'
      by_cases hlt : k < acc.length
      · rw [List.getD_eq_getElem?_getD, List.getElem?_append_left hlt, ← List.getD_eq_getElem?_getD] at hb
        exact h k x hlt hx hex b hb
      · have : k = acc.length := by omega
        subst this
        have h0 := hl 0 o (by simp)
        rw [Nat.add_zero, hx] at h0
        cases h0
        rw [List.getD_eq_getElem?_getD, List.getElem?_append_right (Nat.le_refl _)] at hb
        simp at hb
        refine bits_spec (L := L) ?_ hex b hb
        intro m hm b' hb'
        by_cases hm' : m < acc.length
        · cases hom : ops[m]? with
          | none =>
            have := hlen
            simp at this
            have := Array.getElem?_eq_none_iff.1 hom
            omega
          | some om => exact h m om hm' hom (hdc m om hom hm) b' hb'
        · rw [List.getD_eq_getElem?_getD, List.getElem?_eq_none (by omega)] at hb'
          simp at hb'
def lastW (p l : Nat → Bool) : Nat → Option Nat
  | 0 => none
  | m + 1 => if p m && l m then some m else lastW p l m
theorem lastW_congr {p l l' : Nat → Bool} : ∀ {n : Nat}, (∀ k, k < n → p k = true → l k = l' k) → lastW p l n = lastW p l' n
  | 0, _ => rfl
  | n + 1, h => by
    unfold lastW
    have ih := lastW_congr (n := n) (p := p) (l := l) (l' := l') fun k hk => h k (by omega)
    cases hp : p n with
    | false => simp [ih]
    | true => rw [h n (by omega) hp, ih]
theorem lastW_cut {p l : Nat → Bool} {i : Nat} : ∀ {n : Nat}, i ≤ n → (∀ k, i ≤ k → k < n → (p k && l k) = false) → lastW p l n = lastW p l i
  | 0, h, _ => by have : i = 0 := by omega
                  subst this; rfl
  | n + 1, h, hk => by
    by_cases hi : i = n + 1
    · subst hi; rfl
    · rw [lastW, hk n (by omega) (by omega)]
      simp only [Bool.false_eq_true, if_false]
      exact lastW_cut (by omega) fun k h1 h2 => hk k h1 (by omega)
theorem lastW_at {p l : Nat → Bool} {i n : Nat} (hi : i < n) (hp : p i = true) (hl : l i = true) (h : ∀ k, i < k → k < n → (p k && l k) = false) : lastW p l n = some i := by
  rw [lastW_cut (i := i + 1) (by omega) (fun k h1 h2 => h k (by omega) h2)]
  simp [lastW, hp, hl]
def wslot (ops : Array Oper) (j k : Nat) : Bool := ((ops[k]?).map (writesSlot · j)).getD false
theorem wslot_eq {ops : Array Oper} {j k : Nat} {o : Oper} (h : ops[k]? = some o) : wslot ops j k = writesSlot o j := by simp [wslot, h]
theorem any_order {P : Program} {ops : Array Oper} {ws : List Nat} {N : Nat} {e0 : Env} {Q : Exit → Act → World → Prop} {V : Nat → PV} {S : Nat → St} {E : Nat → Env} {g0 : G} {w0 : World}
    (hok : drawOK ops ws = true) (hN : ∀ (i : Nat) (o : Oper), ops[i]? = some o → okOp N o = true)
    (hE0 : E 0 = e0) (hE : ∀ (i : Nat) (o : Oper), ops[i]? = some o → E (i + 1) = (E i).put o.dst (V i))
    (hS : ∀ (i : Nat) (o : Oper), ops[i]? = some o → i ∉ ws → S (i + 1) = S i)
    (hD : ∀ (i : Nat) (o : Oper), ops[i]? = some o → DOp P ops o (E i) (S i) (V i) (S (i + 1)))
    (hF : ∀ (i : Nat) (o : Oper), ops[i]? = some o → touch o.op = false → i ∉ ws → ∀ s, DOp P ops o (E i) s (V i) s)
    (hQ : ∀ g w (a : Act), Inv P g (S ops.size) w → EnvOK g w (E ops.size) a.tmps → Ext g0 w0 g w → a.defers = [] → a.tmps.size = N → Q .normal a w) :
    ∀ (fuel : Nat) (listed : Array Bool) (g : G) (s : St) (w : World) (a : Act), listed.size = ops.size →
      ((List.range ops.size).filter fun k => !listed.getD k true).length ≤ fuel → DC ops (fun k => listed.getD k false = true) →
      Inv P g s w → Ext g0 w0 g w → a.defers = [] → a.tmps.size = N →
      (∀ j, R g w (match lastW (wslot ops j) (fun k => listed.getD k false) ops.size with | none => e0.get j | some k => V k) (a.tmps.getD j undef)) →
      s = (match lastW (fun k => ws.contains k) (fun k => listed.getD k false) ops.size with | none => S 0 | some k => S (k + 1)) →
      wpAny P .any ops Q fuel listed a w := by
  have hpair : ∀ (i j : Nat) (oi oj : Oper), i < j → ops[i]? = some oi → ops[j]? = some oj → conf ops ws i j oi oj = true → ((masks ops.toList []).getD j 0).testBit i = true := by
    intro i j oi oj hij h1 h2 hc
    unfold drawOK at hok
    have := List.all_eq_true.1 hok j (List.mem_range.2 (Array.getElem?_eq_some_iff.1 h2).1)
    rw [h2] at this
    simp only [Bool.and_eq_true] at this
    have := List.all_eq_true.1 this.2 i (List.mem_range.2 hij)
    rw [h1] at this
    simp only [hc, Bool.not_true, Bool.false_or] at this
    exact this
  have hedge : ∀ (j : Nat) (oj : Oper), ops[j]? = some oj → ∀ e ∈ oj.after, Region.binds .any e = true → e.on < j := by
    intro j oj h2 e he hb
    unfold drawOK at hok
    have := List.all_eq_true.1 hok j (List.mem_range.2 (Array.getElem?_eq_some_iff.1 h2).1)
    rw [h2] at this
    simp only [Bool.and_eq_true] at this
    have := List.all_eq_true.1 this.1 e (by simpa using he)
    simpa [hb] using this
  have hmask : ∀ (L : Nat → Prop), DC ops L → ∀ (k : Nat) (o : Oper), ops[k]? = some o → (∀ e ∈ o.after, Region.binds .any e = true → L e.on) → ∀ b, ((masks ops.toList []).getD k 0).testBit b = true → L b :=
    fun L hdc => masks_spec hdc ops.toList [] (by simp) (fun j o h => by simpa using h) (fun k o h => by simp at h)
  have hEget : ∀ i, i ≤ ops.size → ∀ j, (E i).get j = (match lastW (wslot ops j) (fun _ => true) i with | none => e0.get j | some k => V k) := by
    intro i
    induction i with
    | zero => intro _ j; rw [hE0]; rfl
    | succ i ih =>
      intro hi j
      obtain ⟨o, ho⟩ : ∃ o, ops[i]? = some o := ⟨ops[i]'(by omega), by simp⟩
      rw [hE i o ho]
      unfold lastW
      rw [wslot_eq ho, Bool.and_true]
      unfold writesSlot
      cases hd : o.dst with
      | none => simp only [Env.put]; rw [ih (by omega) j]; simp
      | some d =>
        simp only [Env.put, Env.get]
        by_cases hjd : j = d
        · subst hjd; simp
        · rw [if_neg hjd, ih (by omega) j]
          have : (some d == some j) = false := by simp; exact fun e => hjd e.symm
          rw [this]; simp
  have hSget : ∀ i, i ≤ ops.size → S i = (match lastW (fun k => ws.contains k) (fun _ => true) i with | none => S 0 | some k => S (k + 1)) := by
    intro i
    induction i with
    | zero => intro _; rfl
    | succ i ih =>
      intro hi
      obtain ⟨o, ho⟩ : ∃ o, ops[i]? = some o := ⟨ops[i]'(by omega), by simp⟩
      unfold lastW
      by_cases hw : i ∈ ws
      · have : ws.contains i = true := by simpa using hw
        rw [this]; simp
      · have : ws.contains i = false := by simpa using hw
        rw [this, hS i o ho hw, ih (by omega)]; simp
  intro fuel
  induction fuel with
  | zero =>
    intro listed g s w a hsz hcnt hdc hI hX hd hn hslots hstore
    have hall : ∀ k, k < ops.size → listed.getD k true = true := by
      intro k hk
      have : (List.range ops.size).filter (fun k => !listed.getD k true) = [] := List.length_eq_zero_iff.1 (by omega)
      have := List.filter_eq_nil_iff.1 this k (List.mem_range.2 hk)
      simpa using this
    have hall' : ∀ k, k < ops.size → listed.getD k false = true := by
      intro k hk
      have := hall k hk
      rw [Array.getD_eq_getD_getElem?, Array.getElem?_eq_getElem (by omega)] at this ⊢
      exact this
    refine ⟨?_, ?_⟩
    · cases hr : Region.ready .any ops listed with
      | nil => rfl
      | cons x xs =>
        have hx : x ∈ Region.ready .any ops listed := by rw [hr]; simp
        obtain ⟨h0, o, ho, _⟩ := mem_ready.1 hx
        rw [hall x (Array.getElem?_eq_some_iff.1 ho).1] at h0
        cases h0
    · refine hQ g w a ?_ ?_ hX hd hn
      · rw [hSget _ (Nat.le_refl _), ← lastW_congr (l := fun k => listed.getD k false) (fun k hk _ => hall' k hk), ← hstore]; exact hI
      · intro j
        rw [hEget _ (Nat.le_refl _) j, ← lastW_congr (l := fun k => listed.getD k false) (fun k hk _ => hall' k hk)]; exact hslots j
  | succ fuel ih =>
    intro listed g s w a hsz hcnt hdc hI hX hd hn hslots hstore
    refine ⟨?_, ?_⟩
    · intro hr
      have hall : ∀ m k, k ≤ m → k < ops.size → listed.getD k false = true := by
        intro m
        induction m with
        | zero =>
          intro k hk hlt
          have : k = 0 := by omega
          subst this
          exact ready_all hr hedge hsz (fun i hi => by omega) hlt
        | succ m ihm =>
          intro k hk hlt
          exact ready_all hr hedge hsz (fun i hi => ihm i (by omega) (by omega)) hlt
      have hall' : ∀ k, k < ops.size → listed.getD k false = true := fun k hk => hall k k (Nat.le_refl _) hk
      refine hQ g w a ?_ ?_ hX hd hn
      · rw [hSget _ (Nat.le_refl _), ← lastW_congr (l := fun k => listed.getD k false) (fun k hk _ => hall' k hk), ← hstore]; exact hI
      · intro j
        rw [hEget _ (Nat.le_refl _) j, ← lastW_congr (l := fun k => listed.getD k false) (fun k hk _ => hall' k hk)]; exact hslots j
    · intro i hi
      obtain ⟨h0, o, ho, hedges⟩ := mem_ready.1 hi
      have hlt := (Array.getElem?_eq_some_iff.1 ho).1
      have hnl : listed.getD i false = false := by
        rw [Array.getD_eq_getD_getElem?, Array.getElem?_eq_getElem (by omega)] at h0 ⊢
        exact h0
      have hanc := hmask _ hdc i o ho hedges
      have before : ∀ (k : Nat) (ok : Oper), ops[k]? = some ok → k < i → conf ops ws k i ok o = true → listed.getD k false = true :=
        fun k ok hk hki hc => hanc k (hpair k i ok o hki hk ho hc)
      have behind : ∀ (k : Nat) (ok : Oper), ops[k]? = some ok → i < k → conf ops ws i k o ok = true → listed.getD k false = false := by
        intro k ok hk hki hc
        cases hlk : listed.getD k false with
        | false => rfl
        | true =>
          have this : listed.getD i false = true := hmask _ hdc k ok hk (hdc k ok hk hlk) i (hpair i k o ok hki ho hk hc)
          rw [hnl] at this; cases this
      have cell : ∀ p : Nat → Bool, (∀ (k : Nat) (ok : Oper), ops[k]? = some ok → k < i → p k = true → conf ops ws k i ok o = true) → (∀ (k : Nat) (ok : Oper), ops[k]? = some ok → i < k → p k = true → conf ops ws i k o ok = true) →
          lastW p (fun k => listed.getD k false) ops.size = lastW p (fun _ => true) i ∧ ∀ k, i < k → k < ops.size → (p k && listed.getD k false) = false := by
        intro p h1 h2
        have hb : ∀ k, i < k → k < ops.size → (p k && listed.getD k false) = false := by
          intro k hk hkn
          cases hp : p k with
          | false => rfl
          | true =>
            obtain ⟨ok, hok'⟩ : ∃ o, ops[k]? = some o := ⟨ops[k]'(by omega), by simp⟩
            rw [behind k ok hok' hk (h2 k ok hok' hk hp)]; rfl
        refine ⟨?_, hb⟩
        rw [lastW_cut (i := i) (by omega) (fun k hk hkn => by
          by_cases e : k = i
          · subst e; rw [hnl]; simp
          · exact hb k (by omega) hkn)]
        refine lastW_congr fun k hk hp => ?_
        obtain ⟨ok, hok'⟩ : ∃ o, ops[k]? = some o := ⟨ops[k]'(by omega), by simp⟩
        exact before k ok hok' hk (h1 k ok hok' hk hp)
      have hsl : ∀ j ∈ slotsOf ops o, R g w ((E i).get j) (a.tmps.getD j undef) := by
        intro j hj
        have := (cell (wslot ops j) (by
          intro k ok hk hki hp
          rw [wslot_eq hk] at hp
          simp only [writesSlot, beq_iff_eq] at hp
          unfold conf
          rw [hp]
          simp [hj]
        ) (by
          intro k ok hk hki hp
          rw [wslot_eq hk] at hp
          simp only [writesSlot, beq_iff_eq] at hp
          unfold conf
          rw [hp]
          simp [hj]
        )).1
        have h3 := hslots j
        rw [this] at h3
        rw [hEget i (by omega) j]
        exact h3
      have rest : ∀ (s' : St) val w' g', s' = (match lastW (fun k => ws.contains k) (fun k => (listed.setIfInBounds i true).getD k false) ops.size with | none => S 0 | some k => S (k + 1)) →
          Inv P g' s' w' → Ext g w g' w' → R g' w' (V i) val → wpAny P .any ops Q fuel (listed.setIfInBounds i true) (a.put o.dst val) w' := by
        intro s' val w' g' hs' hI' hX' hR'
        have hgd : ∀ k, (listed.setIfInBounds i true).getD k false = if k = i then true else listed.getD k false := by
          intro k
          by_cases e : k = i
          · subst e; rw [if_pos rfl]; simp [hsz, hlt]
          · rw [if_neg e]; exact getD_set_ne false (fun x => e x.symm)
        refine ih _ g' s' w' _ (by simpa using hsz) ?_ ?_ hI' (hX.trans hX') (by rw [put_defers]; exact hd) (by rw [put_size]; exact hn) ?_ hs'
        · -- one less
          have hgt : ∀ k, (listed.setIfInBounds i true).getD k true = if k = i then true else listed.getD k true := by
            intro k
            by_cases e : k = i
            · subst e; rw [if_pos rfl]; simp [hsz, hlt]
            · rw [if_neg e]; exact getD_set_ne true (fun x => e x.symm)
          have hfil : (List.range ops.size).filter (fun k => !(listed.setIfInBounds i true).getD k true) = ((List.range ops.size).filter fun k => !listed.getD k true).filter (· != i) := by
            rw [List.filter_filter]
            apply List.filter_congr
            intro k _
            rw [hgt]
            by_cases e : k = i
            · subst e; simp
            · simp [e]
          rw [hfil, ← List.Nodup.erase_eq_filter (List.Pairwise.filter _ List.nodup_range)]
          have hmem : i ∈ (List.range ops.size).filter (fun k => !listed.getD k true) := by
            rw [List.mem_filter]
            exact ⟨List.mem_range.2 hlt, by rw [h0]; rfl⟩
          rw [List.length_erase_of_mem hmem]
          omega
        · intro k ok hk hlk e he hb
          show (listed.setIfInBounds i true).getD e.on false = true
          have hlk : (listed.setIfInBounds i true).getD k false = true := hlk
          rw [hgd] at hlk ⊢
          by_cases e1 : k = i
          · subst e1
            rw [ho] at hk; cases hk
            split
            · rfl
            · exact hedges e he hb
          · rw [if_neg e1] at hlk
            split
            · rfl
            · exact hdc k ok hk hlk e he hb
        · intro j
          have hokd := okOp_lt (hN i o ho)
          by_cases hw : writesSlot o j = true
          · have hdst : o.dst = some j := by simpa [writesSlot] using hw
            have := (cell (wslot ops j) (by
              intro k ok hk hki hp
              rw [wslot_eq hk] at hp
              simp only [writesSlot, beq_iff_eq] at hp
              unfold conf; rw [hp]; simp [hdst]) (by
              intro k ok hk hki hp
              rw [wslot_eq hk] at hp
              simp only [writesSlot, beq_iff_eq] at hp
              unfold conf; rw [hdst]; simp [hp])).2
            rw [lastW_at (i := i) hlt (by rw [wslot_eq ho]; exact hw) (by rw [hgd]; simp) (fun k h1 h2 => by rw [hgd, if_neg (by omega)]; exact this k h1 h2)]
            simp only [Act.put, hdst]
            have hjN : j < a.tmps.size := by rw [hn]; exact hokd j hdst
            rw [Array.getD_eq_getD_getElem?, Array.getElem?_setIfInBounds]
            simp [hjN, hR']
          · have : lastW (wslot ops j) (fun k => (listed.setIfInBounds i true).getD k false) ops.size = lastW (wslot ops j) (fun k => listed.getD k false) ops.size := by
              refine lastW_congr fun k hk hp => ?_
              rw [hgd, if_neg]
              rintro rfl
              rw [wslot_eq ho] at hp
              exact hw hp
            rw [this]
            have h3 := R_ext hX' _ _ (hslots j)
            cases hdst : o.dst with
            | none => exact h3
            | some d =>
              have hjd : d ≠ j := by
                rintro rfl
                exact hw (by simp [writesSlot, hdst])
              simp only [Act.put]
              rw [Array.getD_eq_getD_getElem?, Array.getElem?_setIfInBounds, if_neg hjd, ← Array.getD_eq_getD_getElem?]
              exact h3
      have hgd' : ∀ k, (listed.setIfInBounds i true).getD k false = if k = i then true else listed.getD k false := by
        intro k
        by_cases e : k = i
        · subst e; rw [if_pos rfl]; simp [hsz, hlt]
        · rw [if_neg e]; exact getD_set_ne false (fun x => e x.symm)
      unfold wpOp
      rw [ho]
      simp only
      by_cases hfree : touch o.op = false ∧ i ∉ ws
      · -- whatever the store
        refine hF i o ho hfree.1 hfree.2 s g w a hI hsl _ _ fun val w' g' k1 k2 k3 => rest s val w' g' ?_ k1 k2 k3
        rw [hstore]
        have : lastW (fun k => ws.contains k) (fun k => (listed.setIfInBounds i true).getD k false) ops.size = lastW (fun k => ws.contains k) (fun k => listed.getD k false) ops.size := by
          refine lastW_congr fun k hk hp => ?_
          rw [hgd', if_neg]
          rintro rfl
          exact hfree.2 (by simpa using hp)
        rw [this]
      · -- the store is as in the order of the text
        have htw : touch o.op = true ∨ ws.contains i = true := by
          by_cases h1 : touch o.op = false
          · right
            have : ¬ (i ∉ ws) := fun h2 => hfree ⟨h1, h2⟩
            simpa using this
          · left; simpa using h1
        have hcs := cell (fun k => ws.contains k) (by
          intro k ok hk hki hp
          unfold conf
          rcases htw with h | h <;> simp only [hp, h, Bool.true_or, Bool.or_true, Bool.and_self]) (by
          intro k ok hk hki hp
          unfold conf
          rcases htw with h | h <;> simp only [hp, h, Bool.true_or, Bool.or_true, Bool.and_self])
        have hs : s = S i := by rw [hstore, hcs.1]; exact (hSget i (by omega)).symm
        subst hs
        refine hD i o ho g w a hI hsl _ _ fun val w' g' k1 k2 k3 => rest _ val w' g' ?_ k1 k2 k3
        by_cases hw : ws.contains i = true
        · rw [lastW_at (i := i) hlt hw (by rw [hgd']; simp) (fun k h1 h2 => by rw [hgd', if_neg (by omega)]; exact hcs.2 k h1 h2)]
        · have hni : i ∉ ws := by simpa using hw
          have : lastW (fun k => ws.contains k) (fun k => (listed.setIfInBounds i true).getD k false) ops.size = lastW (fun k => ws.contains k) (fun k => listed.getD k false) ops.size := by
            refine lastW_congr fun k hk hp => ?_
            rw [hgd', if_neg]
            rintro rfl
            exact hni (by simpa using hp)
          rw [this, ← hstore]
          exact hS i o ho hni
where
  ready_all {ops : Array Oper} {listed : Array Bool} (hr : Region.ready .any ops listed = []) (hedge : ∀ (j : Nat) (oj : Oper), ops[j]? = some oj → ∀ e ∈ oj.after, Region.binds .any e = true → e.on < j) (hsz : listed.size = ops.size) {k : Nat}
      (hb : ∀ i, i < k → listed.getD i false = true) (hk : k < ops.size) : listed.getD k false = true := by
    obtain ⟨o, ho⟩ : ∃ o, ops[k]? = some o := ⟨ops[k]'(by omega), by simp⟩
    cases h : listed.getD k false with
    | true => rfl
    | false =>
      have h' : listed.getD k true = false := by
        rw [Array.getD_eq_getD_getElem?, Array.getElem?_eq_getElem (by omega)] at h ⊢
        exact h
      have : k ∈ Region.ready .any ops listed := mem_ready.2 ⟨h', o, ho, fun e he hbd => hb e.on (hedge k o ho e he hbd)⟩
      rw [hr] at this
      simp at this
end Go.PM
namespace Go.PM
open Go
theorem keep_mem (e : Env) : ∀ (l : List Nat) (i : Nat), (i ∈ l ∧ (Env.keep l e).get i = e.get i) ∨ (Env.keep l e).get i = .junk
  | [], i => .inr rfl
  | x :: l, i => by
    simp only [Env.keep, List.map_cons, Env.get]
    split
    · rename_i h; subst h; exact .inl ⟨by simp, rfl⟩
    · rcases keep_mem e l i with ⟨h1, h2⟩ | h
      · exact .inl ⟨by simp [h1], h2⟩
      · exact .inr h
theorem keep_ok {g w e l} {tmps : Array Value} (h : ∀ j ∈ l, R g w (Env.get e j) (tmps.getD j undef)) : EnvOK g w (Env.keep l e) tmps := by
  intro i
  rcases keep_mem e l i with ⟨h1, h2⟩ | h2
  · rw [h2]; exact h i h1
  · rw [h2]; simp [R]
def dcore (P : Program) (op : Op) (rv : Operand → PV) (s : St) : Option PV :=
  match op with
  | .buildSlice t len parts => match aBuildSlice P t len parts.toList rv with
    | some els => some (.sl .clip els)
    | none => none
  | _ => apure P op rv s
theorem apure_touch {P : Program} {op : Op} {rv : Operand → PV} {s s' : St} (h : touch op = false) : apure P op rv s = apure P op rv s' := by
  cases op <;> first | rfl | (simp [touch] at h)
theorem dcore_touch {P : Program} {op : Op} {rv : Operand → PV} {s s' : St} (h : touch op = false) : dcore P op rv s = dcore P op rv s' := by
  unfold dcore
  cases op <;> first | rfl | exact apure_touch h
theorem dcore_run {P : Program} {g s w v rv} {a : Act} {o : Oper} (h : Inv P g s w) (hrv : ∀ x, R g w (rv x) (a.eval x)) (ha : dcore P o.op rv s = some v) : Effect P o g w a v s := by
  have pureCase : apure P o.op rv s = some v → Effect P o g w a v s := fun hp => by
    obtain ⟨val, h1, h2⟩ := apure_run h hrv hp
    exact ⟨val, w, g, .inl h1, h, Ext.refl _ _, h2⟩
  unfold dcore at ha
  cases hop : o.op with
  | buildSlice t len parts =>
    rw [hop] at ha
    simp only at ha
    cases hb : aBuildSlice P t len parts.toList rv with
    | none => rw [hb] at ha; cases ha
    | some els =>
      rw [hb] at ha
      cases ha
      obtain ⟨val, w', r1, r2, r3, r4⟩ := aBuildSlice_run h hrv hb
      refine ⟨val, w', g, .inl ?_, r2, r3, r4⟩
      unfold execOp
      rw [hop]
      simp only [bind_run, pure_run, r1]
  | _ => rw [hop] at ha; exact pureCase (by rw [hop]; exact ha)
def dop1 (P : Program) (ops : Array Oper) (o : Oper) (e : Env) (s : St) : Option PV :=
  match o.guard with
  | none => dcore P o.op (ev e) s
  | some (j, want) => match gslot ops j with
    | none => none
    | some d => match Env.get e d with
      | .bool b => match dcore P o.op (fun x => ung (b == want) (ev e x)) s with
        | some v => some (.gd (b == want) v)
        | none => none
      | _ => none
theorem DOp.of_effect {P : Program} {ops : Array Oper} {o : Oper} {e : Env} {s s1 : St} {v : PV} (hg : guard? ops o (Env.keep (slotsOf ops o) e) = some true)
    (h : ∀ g w (a : Act), Inv P g s w → EnvOK g w (Env.keep (slotsOf ops o) e) a.tmps → Effect P o g w a v s1) : DOp P ops o e s v s1 := by
  intro g w a hI hsl K Q hk
  have hE := keep_ok hsl
  rw [guard_wanted hg hE]
  simp only [if_true]
  obtain ⟨val, w', g', hr, k1, k2, k3⟩ := h g w a hI hE
  left
  unfold Oper.wp
  rcases hr with hr | ⟨hr, rfl⟩
  · rw [hr, Oper.upon_value]; exact hk val w' g' k1 k2 k3
  · rw [hr, Oper.upon_skip]; exact hk _ w' g' k1 k2 k3
theorem dop1_op {P : Program} {ops : Array Oper} {o : Oper} {e : Env} {s : St} {v : PV} (h : dop1 P ops o (Env.keep (slotsOf ops o) e) s = some v) : DOp P ops o e s v s := by
  unfold dop1 at h
  cases hg : o.guard with
  | none =>
    rw [hg] at h
    exact DOp.of_effect (by unfold guard?; rw [hg]) fun g w a hI hE => dcore_run hI (fun x => ev_R hE x) h
  | some jw =>
    obtain ⟨j, want⟩ := jw
    rw [hg] at h
    simp only at h
    cases hd : gslot ops j with
    | none => rw [hd] at h; cases h
    | some d =>
      rw [hd] at h
      simp only at h
      cases hb : Env.get (Env.keep (slotsOf ops o) e) d with
      | bool b =>
        rw [hb] at h
        simp only at h
        split at h
        · rename_i u hu
          cases h
          have hgd : guard? ops o (Env.keep (slotsOf ops o) e) = some (b == want) := by
            unfold guard?; rw [hg]; simp only
            unfold gslot at hd; rw [hd]; simp only; rw [hb]
          cases hbw : b == want with
          | true =>
            rw [hbw] at hu hgd
            refine DOp.of_effect hgd fun g w a hI hE => ?_
            obtain ⟨val, w', g', k1, k2, k3, k4⟩ := dcore_run (o := o) (a := a) hI (fun x => ung_R true rfl (ev_R hE x)) hu
            exact ⟨val, w', g', k1, k2, k3, by simp only [R]; exact fun _ => k4⟩
          | false =>
            rw [hbw] at hgd
            intro g w a hI hsl K Q hk
            rw [guard_wanted hgd (keep_ok hsl)]
            simp only [Bool.false_eq_true, if_false]
            exact hk undef w g hI (Ext.refl _ _) (by simp only [R]; exact fun x => by cases x)
        · cases h
      | _ => rw [hb] at h; cases h
theorem dop1_touch {P : Program} {ops : Array Oper} {o : Oper} {e : Env} {s s' : St} (ht : touch o.op = false) : dop1 P ops o e s = dop1 P ops o e s' := by
  unfold dop1
  cases o.guard with
  | none => exact dcore_touch ht
  | some jw =>
    obtain ⟨j, want⟩ := jw
    simp only
    cases gslot ops j with
    | none => rfl
    | some d =>
      simp only
      cases Env.get e d with
      | bool b => simp only; rw [dcore_touch (s := s) (s' := s') ht]
      | _ => rfl
def dops (P : Program) (ops : Array Oper) : List Oper → Env → St → Option Env
  | [], e, _ => some e
  | o :: l, e, s => match dop1 P ops o (Env.keep (slotsOf ops o) e) s with
    | some v => dops P ops l (Env.put e o.dst v) s
    | none => none
def dnext (P : Program) (ops : Array Oper) (l : List Oper) (d : Option Nat) (e : Env) (s : St) (r : Option PV) : Option Env :=
  match r with
  | some v => dops P ops l (Env.put e d v) s
  | none => none
theorem dops_nil (P : Program) (ops : Array Oper) (e : Env) (s : St) : dops P ops [] e s = some e := rfl
theorem dops_cons (P : Program) (ops : Array Oper) (o : Oper) (l : List Oper) (e : Env) (s : St) : dops P ops (o :: l) e s = dnext P ops l o.dst e s (dop1 P ops o (Env.keep (slotsOf ops o) e) s) := rfl
theorem dnext_some (P : Program) (ops : Array Oper) (l : List Oper) (d : Option Nat) (e : Env) (s : St) (v : PV) : dnext P ops l d e s (some v) = dops P ops l (Env.put e d v) s := rfl
section
variable {P : Program} {ops : Array Oper} {ws : List Nat} {e e' : Env} {s s' : St}
theorem Det.pre : ∀ {pre : List Oper} {l : List Oper} {i : Nat} {e e1 : Env}, dops P ops pre e s = some e1 → Det P ops ws (i + pre.length) l e1 s e' s' → Det P ops ws i (pre ++ l) e s e' s'
  | [], l, i, e, e1, h, hd => by cases h; exact hd
  | o :: pre, l, i, e, e1, h, hd => by
    rw [dops_cons] at h
    cases hv : dop1 P ops o (Env.keep (slotsOf ops o) e) s with
    | none => rw [hv] at h; cases h
    | some v =>
      rw [hv, dnext_some] at h
      refine Det.cons (dop1_op hv) (fun _ => rfl) (fun ht _ s2 => dop1_op (by rw [dop1_touch (s' := s) ht]; exact hv)) ?_
      refine Det.pre h ?_
      simp only [List.length_cons] at hd
      rw [show i + 1 + pre.length = i + (pre.length + 1) by omega]
      exact hd
theorem Det.all {l : List Oper} {i : Nat} {e1 : Env} (h : dops P ops l e s = some e1) : Det P ops ws i l e s e1 s := by
  have := Det.pre (ws := ws) (l := []) (i := i) (e' := e1) (s' := s) h Det.nil
  simpa using this
theorem Det.call {d : Option Nat} {c : Call} {t : TypeId} {pos : String} {af : Array Edge} {gd : Option (Nat × Bool)} {l : List Oper} {i : Nat} {f : FuncId} {args args' : List PV} {v : PV}
    (hg : guard? ops ⟨d, .call c, t, pos, af, gd⟩ (Env.keep (slotsOf ops ⟨d, .call c, t, pos, af, gd⟩) e) = some true)
    (ha : acall c (Env.keep (slotsOf ops ⟨d, .call c, t, pos, af, gd⟩) e) = some (f, args)) (hw : PV.weaks args = args') (hc : callable P f = true)
    (h : ACalls P f args' s fun r s1 => r = v ∧ s1 = s) (hd : Det P ops ws (i + 1) l (e.put d v) s e' s') : Det P ops ws i (⟨d, .call c, t, pos, af, gd⟩ :: l) e s e' s' := by
  subst hw
  refine Det.cons (v := v) (s1 := s) ?_ (fun _ => rfl) (fun ht => by simp [touch] at ht) hd
  intro g w a hI hsl K Q hk
  have hE := keep_ok hsl
  rw [guard_wanted hg hE]
  simp only [if_true]
  obtain ⟨vs, hrun, hra⟩ := acall_run (P := P) (o := ⟨d, .call c, t, pos, af, gd⟩) (a := a) rfl hE ha hc
  left
  unfold Oper.wp
  rw [hrun, Oper.upon_enter]
  refine (h g w vs hI (RA_weak _ _ hra)).mono ?_
  rintro e' w' ⟨v', g', r', s', rfl, hI', hR', hX', rfl, rfl⟩
  exact hk _ _ _ hI' hX' hR'
theorem Det.eff {o : Oper} {l : List Oper} {i : Nat} {v : PV} {s1 : St} (hi : ws.contains i = true) (hg : guard? ops o (Env.keep (slotsOf ops o) e) = some true)
    (ha : acore P o.op (ev (Env.keep (slotsOf ops o) e)) s = some (v, s1)) (hd : Det P ops ws (i + 1) l (e.put o.dst v) s1 e' s') : Det P ops ws i (o :: l) e s e' s' := by
  have hi' : i ∈ ws := by simpa using hi
  exact Det.cons (DOp.of_effect hg fun g w a hI hE => acore_run hI (fun x => ev_R hE x) ha) (fun h => absurd hi' h) (fun _ h => absurd hi' h) hd
theorem Det.append {d : Option Nat} {x y : Operand} {t ty : TypeId} {pos : String} {af : Array Edge} {gd : Option (Nat × Bool)} {l : List Oper} {i : Nat} {el : TypeId} {kx ky : SK} {xs ys : List PV} {v : PV} {s1 : St} (hi : ws.contains i = true)
    (hg : guard? ops ⟨d, .call ⟨.builtin .append, #[x, y], #[t, t]⟩, ty, pos, af, gd⟩ (Env.keep (slotsOf ops ⟨d, .call ⟨.builtin .append, #[x, y], #[t, t]⟩, ty, pos, af, gd⟩) e) = some true)
    (hx : ev e x = .sl kx xs) (hy : ev e y = .sl ky ys) (htd : td P t = .sl el) (hz : (zpv P el).isSome = true)
    (hex : isEls P el xs) (hey : isEls P el ys) (hb0 : 0 < P.bytesOf el) (hlen : (xs.length + ys.length) * P.bytesOf el ≤ 140737488355328) (ha : aAppend P el kx xs ys s = some (v, s1))
    (hd : Det P ops ws (i + 1) l (e.put d v) s1 e' s') : Det P ops ws i (⟨d, .call ⟨.builtin .append, #[x, y], #[t, t]⟩, ty, pos, af, gd⟩ :: l) e s e' s' := by
  have hi' : i ∈ ws := by simpa using hi
  refine Det.cons (DOp.of_effect hg fun g w a hI hE => ?_) (fun h => absurd hi' h) (fun _ h => absurd hi' h) hd
  have hkeep : ∀ z : Operand, z = x ∨ z = y → ev (Env.keep (slotsOf ops ⟨d, .call ⟨.builtin .append, #[x, y], #[t, t]⟩, ty, pos, af, gd⟩) e) z = ev e z := by
    intro z hz
    cases z with
    | tmp j =>
      simp only [ev]
      have hmem : j ∈ slotsOf ops ⟨d, .call ⟨.builtin .append, #[x, y], #[t, t]⟩, ty, pos, af, gd⟩ := by
        unfold slotsOf
        simp only [Op.operands, Call.operands]
        rcases hz with rfl | rfl <;> simp
      have : ∀ (l : List Nat), j ∈ l → (Env.keep l e).get j = e.get j := by
        intro l
        induction l with
        | nil => intro h; simp at h
        | cons q l ih =>
          intro h
          simp only [Env.keep, List.map_cons, Env.get]
          split
          · rename_i hq; subst hq; rfl
          · rename_i hq
            simp at h
            rcases h with h | h
            · exact absurd h hq
            · exact ih h
      exact this _ hmem
    | const v => rfl
    | func f => rfl
    | global g => rfl
  have h1 := ev_R hE x
  have h2 := ev_R hE y
  rw [hkeep x (.inl rfl), hx] at h1
  rw [hkeep y (.inr rfl), hy] at h2
  obtain ⟨val, w', g', r1, r2, r3, r4⟩ := aAppend_run (ty := ty) hI h1 h2 htd hz hex hey hb0 hlen ha
  refine ⟨val, w', g', .inl ?_, r2, r3, r4⟩
  unfold execOp
  simp only [resolve, bind_run, pure_run, invoke, builtin]
  have : Array.map a.eval #[x, y] = #[a.eval x, a.eval y] := by simp
  rw [this, r1]
theorem Det.lists : ∀ {i l e s e' s'}, Det P ops ws i l e s e' s' → (∀ j (o : Oper), l[j]? = some o ↔ ops[i + j]? = some o) →
    ∃ (V : Nat → PV) (S : Nat → St) (E : Nat → Env), E i = e ∧ S i = s ∧ E (i + l.length) = e' ∧ S (i + l.length) = s' ∧ ∀ k (o : Oper), i ≤ k → ops[k]? = some o →
      E (k + 1) = (E k).put o.dst (V k) ∧ (k ∉ ws → S (k + 1) = S k) ∧ DOp P ops o (E k) (S k) (V k) (S (k + 1)) ∧ (touch o.op = false → k ∉ ws → ∀ s, DOp P ops o (E k) s (V k) s) := by
  intro i l e s e' s' h
  induction h with
  | nil =>
    rename_i i e s
    intro hl
    refine ⟨fun _ => .junk, fun _ => s, fun _ => e, rfl, rfl, rfl, rfl, fun k o hk ho => ?_⟩
    have := (hl (k - i) o).2 (by rw [show i + (k - i) = k by omega]; exact ho)
    simp at this
  | cons h1 h2 h3 hd ih =>
    rename_i i o l e s v s1 e' s'
    intro hl
    obtain ⟨V, S, E, a1, a2, a3, a4, a5⟩ := ih (fun j o' => by
      have := hl (j + 1) o'
      rw [show i + 1 + j = i + (j + 1) by omega]
      simpa using this)
    have h0 : ops[i]? = some o := by have := (hl 0 o).1 (by simp); simpa using this
    refine ⟨fun k => if k = i then v else V k, fun k => if k = i then s else S k, fun k => if k = i then e else E k, if_pos rfl, if_pos rfl, ?_, ?_, ?_⟩
    · show (if i + (o :: l).length = i then e else E (i + (o :: l).length)) = e'
      rw [List.length_cons, if_neg (by omega), show i + (l.length + 1) = i + 1 + l.length by omega]; exact a3
    · show (if i + (o :: l).length = i then s else S (i + (o :: l).length)) = s'
      rw [List.length_cons, if_neg (by omega), show i + (l.length + 1) = i + 1 + l.length by omega]; exact a4
    · intro k o' hk ho'
      by_cases e1 : k = i
      · subst e1
        rw [h0] at ho'; cases ho'
        simp only [if_true, show ¬ (k + 1 = k) by omega, if_false]
        rw [a1, a2]
        exact ⟨rfl, h2, h1, h3⟩
      · simp only [e1, show ¬ (k + 1 = i) by omega, if_false]
        exact a5 k o' (by omega) ho'
variable {N : Nat} {k : List KI} {rt : Env → St → Prop}
theorem Run.draw {id : Nat} (ws : List Nat) (hm : P.follows .mixedOrders = true) (hs : drawOK ops ws = true) (hd : Det P ops ws 0 ops.toList e s e' s') (l : List Nat) (h : Run P N k (Env.keep l e') s' rt) :
    Run P N (.code (.region id ops true) :: k) e s rt := by
  intro ok
  simp only [okK, okC, Bool.and_eq_true] at ok
  intro _ g w a hI hE hdf hN
  obtain ⟨V, S, E, a1, a2, a3, a4, a5⟩ := hd.lists (fun j o => by simp)
  simp only [Nat.zero_add, Array.length_toList] at a3 a4
  refine wp_region_any hm ?_
  obtain ⟨hI1, hX1⟩ := drew_step hI (w.drawn + 1)
  have hnone : ∀ (p : Nat → Bool) (n : Nat), lastW p (fun k => (Array.replicate ops.size false).getD k false) n = none := by
    intro p n
    induction n with
    | zero => rfl
    | succ n ih =>
      unfold lastW
      have : (Array.replicate ops.size false).getD n false = false := by
        rw [Array.getD_eq_getD_getElem?]
        cases hx : (Array.replicate ops.size false)[n]? with
        | none => rfl
        | some b => have := Array.mem_of_getElem? hx; simp at this; rw [this.2]; rfl
      rw [this, ih]; simp
  refine any_order (ws := ws) (N := N) (e0 := e) (V := V) (S := S) (E := E) (g0 := g) (w0 := w) hs ?_ a1 (fun i o ho => (a5 i o (Nat.zero_le _) ho).1) (fun i o ho => (a5 i o (Nat.zero_le _) ho).2.1)
    (fun i o ho => (a5 i o (Nat.zero_le _) ho).2.2.1) (fun i o ho => (a5 i o (Nat.zero_le _) ho).2.2.2) ?_ ops.size _ g s _ a (by simp) ?_ ?_ hI1 hX1 hdf hN ?_ ?_
  · intro i o ho
    exact List.all_eq_true.1 ok.1 o (by simpa using Array.mem_of_getElem? ho)
  · intro g' w' a' k1 k2 k3 k4 k5
    rw [a4] at k1
    rw [a3] at k2
    exact ⟨g', Env.keep l e', s', k1, k2.env (keep_get e' l), k3, k4, k5, h ok.2⟩
  · refine Nat.le_trans (List.length_filter_le _ _) (by simp)
  · intro k o ho hk
    have hk : (Array.replicate ops.size false).getD k false = true := hk
    rw [Array.getD_eq_getD_getElem?] at hk
    cases hx : (Array.replicate ops.size false)[k]? with
    | none => rw [hx] at hk; cases hk
    | some b => have := Array.mem_of_getElem? hx; simp at this; rw [hx, this.2] at hk; cases hk
  · intro j
    rw [hnone]
    exact R_ext hX1 _ _ (hE j)
  · rw [hnone]; exact a2.symm
end
end Go.PM
namespace Go.PM
open Go
def methPtr (P : Program) (t : TypeId) (name : String) : Option (FuncId × Bool × TypeId) :=
  match P.info? t with
  | none => none
  | some i => match i.methods.find? (·.name == name), P.underlying t with
    | some m, some (.pointer e) => match m.path.toList, m.func with
      | [], some (f, pr) => some (f, pr, e)
      | _, _ => none
    | _, _ => none
theorem arr_head (x : Value) (ys : Array Value) : (#[x] ++ ys)[0]? = some x := by
  rw [← Array.getElem?_toList]
  simp
theorem arr_tail (x : Value) (ys : Array Value) : (#[x] ++ ys).extract 1 (#[x] ++ ys).size = ys := by
  rcases ys with ⟨l⟩
  apply Array.ext'
  simp
theorem ssaWrap {P : Program} {w : World} (ts : Array TypeId) (ty : TypeId) (p : Addr) (x y : ByteArray) : (Builtin.ssaWrapNilChk_ ts ty #[.pointer (some p), .string x, .string y]).run P w = .ok (.pointer (some p)) w := rfl
theorem method_ptr {P : Program} {t : TypeId} {name : String} {f : FuncId} {pr : Bool} {e : TypeId} (h : methPtr P t name = some (f, pr, e)) (fuel : Nat) (w : World) (p : Addr) {val : Value} (hv : (loadVar e p).run P w = .ok val w ∨ pr = true) :
    (method (fuel + 1) t (.pointer (some p)) name).run P w = .ok (f, if pr then .pointer (some p) else val) w := by
  unfold methPtr at h
  cases hi : P.info? t with
  | none => rw [hi] at h; cases h
  | some i =>
    rw [hi] at h
    simp only at h
    split at h
    · rename_i m e' hm hu
      split at h
      · rename_i f' pr' hp hf
        cases h
        have hpe : m.path = #[] := by apply Array.ext'; simpa using hp
        unfold method
        simp only [bind_run, typeInfo_run hi, hm, hp, follow, pure_run, hf]
        unfold receiverAt
        simp only [bind_run, underlying_run hu]
        cases pr with
        | true => simp only [Place.get, pure_run, if_true]
        | false =>
          have hv' : (loadVar e p).run P w = .ok val w := by rcases hv with hv | hv; exact hv; cases hv
          simp only [Place.get, pure_run, bind_run, hpe, Array.isEmpty, List.size_toArray, List.length_nil, decide_true, if_true, ssaWrap, strVal, asAddr, hv', Bool.false_eq_true, if_false]
      · cases h
    · cases h
def ainvoke (P : Program) (c : Call) (e : Env) (s : St) : Option (FuncId × List PV) :=
  match c.callee with
  | .invoke recv name => match ev e recv with
    | .iface t (.ptr id i j) => match methPtr P t name with
      | some (f, true, _) => some (f, .ptr id i j :: c.args.toList.map (ev e))
      | some (f, false, el) => match aLoad P el (.ptr id i j) s with
        | some v => some (f, v :: c.args.toList.map (ev e))
        | none => none
      | none => none
    | _ => none
  | _ => none
theorem ainvoke_run {P : Program} {c : Call} {o : Oper} {g s w e f args} {a : Act} (hop : o.op = .call c) (hI : Inv P g s w) (hE : EnvOK g w e a.tmps) (h : ainvoke P c e s = some (f, args)) (hc : callable P f = true) :
    ∃ vs : Array Value, (execOp a.eval o).run P w = .ok (.enter f vs) w ∧ RA g w args vs.toList := by
  unfold ainvoke at h
  obtain ⟨callee, cargs, ats⟩ := c
  simp only at h
  cases callee with
  | invoke recv name =>
    simp only at h
    split at h
    case h_2 => cases h
    rename_i t id i j hev
    have hx := ev_R hE recv
    rw [hev] at hx
    simp only [R] at hx
    obtain ⟨x, hx, hlt, b, sz, hrow, rfl⟩ := hx
    have hptr : R g w (.ptr id i j) (.pointer (some ⟨b, i * sz + j, none⟩)) := by simp only [R]; exact ⟨hlt, b, sz, hrow, rfl⟩
    have fuel : ∃ n, P.types.size + Made.depth = n + 1 := ⟨P.types.size + Made.depth - 1, by unfold Made.depth; omega⟩
    obtain ⟨n, hn⟩ := fuel
    have go : ∀ rv : Value, (method (n + 1) t (.pointer (some ⟨b, i * sz + j, none⟩)) name).run P w = .ok (f, rv) w → (execOp a.eval o).run P w = .ok (.enter f (#[rv] ++ cargs.map a.eval)) w := by
      intro rv hm
      unfold execOp
      rw [hop]
      simp only [resolve, hx, bind_run, pure_run, invoke]
      simp only [arr_head, arr_tail]
      unfold callMethod
      simp only [bind_run]
      rw [show (program.run P w) = .ok P w from rfl]
      simp only [hn, hm]
      exact callFunc_run hc
    split at h
    · rename_i f' e' hm
      cases h
      have := method_ptr (w := w) (val := undef) hm n ⟨b, i * sz + j, none⟩ (.inr rfl)
      refine ⟨_, go _ this, ?_⟩
      simp only [if_true, Array.toList_append, List.toList_toArray, List.cons_append, List.nil_append, Array.toList_map, RA]
      exact ⟨_, _, rfl, hptr, ev_RA hE _⟩
    · rename_i f' el hm
      split at h
      · rename_i v hl
        cases h
        obtain ⟨val, hv, hr⟩ := aLoad_run hI hptr hl
        have hv' : (loadVar el ⟨b, i * sz + j, none⟩).run P w = .ok val w := by
          unfold Instr.loadAt at hv
          simpa only [Instr.sureAddr, bind_run, pure_run] using hv
        have := method_ptr (w := w) (val := val) hm n ⟨b, i * sz + j, none⟩ (.inl hv')
        refine ⟨_, go _ this, ?_⟩
        simp only [Bool.false_eq_true, if_false, Array.toList_append, List.toList_toArray, List.cons_append, List.nil_append, Array.toList_map, RA]
        exact ⟨_, _, rfl, hr, ev_RA hE _⟩
      · cases h
    · cases h
  | _ => cases h
section
variable {P : Program} {N : Nat} {k : List KI} {e : Env} {s : St} {rt : Env → St → Prop}
theorem RunO.invoke {ops : Array Oper} {d : Option Nat} {c : Call} {t : TypeId} {pos : String} {af : Array Edge} {gd : Option (Nat × Bool)} {l : List Oper} {f : FuncId} {args : List PV}
    (hg : guard? ops ⟨d, .call c, t, pos, af, gd⟩ e = some true) (ha : ainvoke P c e s = some (f, args)) (hc : callable P f = true)
    (h : ACalls P f args s fun r s' => RunO P N ops l k (e.put d r) s' rt) : RunO P N ops (⟨d, .call c, t, pos, af, gd⟩ :: l) k e s rt :=
  RunO.call_ hg (fun g w a hI hE => ainvoke_run rfl hI hE ha hc) h
end
end Go.PM
namespace Go.PM
open Go
theorem set_new (s : St) (b b' : Blk) : (s.new b).set s.nxt (some b') = s.new b' := by
  simp only [St.new, St.set, St.mk.injEq, true_and]
  funext i
  split <;> rfl
theorem set_new_ne (s : St) (b : Blk) (id : Nat) (b' : Option Blk) (h : id ≠ s.nxt) : (s.new b).set id b' = (s.set id b').new b := by
  simp only [St.new, St.set, St.mk.injEq, true_and]
  funext i
  by_cases h1 : i = id
  · subst h1; simp [h]
  · simp [h1]
theorem set_set (s : St) (id : Nat) (b b' : Option Blk) : (s.set id b).set id b' = s.set id b' := by
  simp only [St.set, St.mk.injEq, true_and]
  funext i
  split <;> rfl
theorem rename_step {P g s w} (h : Inv P g s w) {id t els} (hb : s.blk id = some (.row t els)) :
    ∃ g', Inv P g' ((s.set id none).new (.row t els)) w ∧ Ext g w g' w ∧ g'.rows s.nxt = g.rows id ∧ g'.nxt = s.nxt + 1 := by
  have hlt : id < s.nxt := h.id_lt (by rw [hb]; simp)
  have hat := h.at' id
  rw [hb] at hat
  obtain ⟨ht0, hlv, b, vs, hr, hpos, hrow⟩ := hat
  have hnew := h.rows_none (Nat.le_refl s.nxt)
  let g' : G := { nxt := g.nxt + 1, rows := upd g.rows s.nxt (g.rows id), live := fun i => if i = s.nxt then true else if i = id then false else g.live i, toks := g.toks, lim := g.lim }
  have hisrow : ∀ b', g'.isRow b' → g.isRow b' := by
    rintro b' ⟨i, n, e, l⟩
    by_cases h1 : i = s.nxt
    · subst h1
      have : g'.rows s.nxt = g.rows id := upd_eq _ _ _
      rw [this] at e
      exact ⟨id, n, e, hlv⟩
    · have e' : g'.rows i = g.rows i := upd_ne _ _ h1
      rw [e'] at e
      simp only [g', if_neg h1] at l
      split at l
      · cases l
      · exact ⟨i, n, e, l⟩
  have x : Ext g w g' w :=
    { os := rfl, tape := rfl, output := rfl, size := Nat.le_refl _, nxt := Nat.le_succ _, rd := fun _ _ _ _ h => h
      free := fun b' n _ hf => ⟨fun hk => hf.1 (hisrow b' hk), hf.2⟩
      same := fun _ _ _ _ => rfl
      rows := fun i hi x e => (upd_ne _ _ (by have := h.nxt; omega) : g'.rows i = g.rows i).trans e
      csz := fun _ _ => rfl
      toks := toks_keep (fun _ _ => rfl) (fun _ _ _ _ => rfl) }
  have hrows : ∀ i, i ≠ s.nxt → g'.rows i = g.rows i := fun i hi => upd_ne _ _ hi
  have hlive : ∀ i, i ≠ s.nxt → i ≠ id → g'.live i = g.live i := fun i h1 h2 => by simp only [g', if_neg h1, if_neg h2]
  refine ⟨g', ?_, x, upd_eq _ _ _, by show g.nxt + 1 = _; rw [h.nxt]⟩
  exact {
    nxt := by show g.nxt + 1 = s.nxt + 1; rw [h.nxt]
    wf := fun i hi => by
      have hi : s.nxt + 1 ≤ i := hi
      show (if i = s.nxt then some (Blk.row t els) else if i = id then none else s.blk i) = none
      rw [if_neg (by omega), if_neg (by omega)]
      exact h.wf i (by omega)
    at' := fun i => by
      show At P g' w i (if i = s.nxt then some (.row t els) else if i = id then none else s.blk i)
      by_cases h1 : i = s.nxt
      · subst h1
        simp only [if_true, At]
        refine ⟨hnew.2, by simp [g'], b, vs, by rw [show g'.rows s.nxt = g.rows id from upd_eq _ _ _]; exact hr, hpos, hrow.1, hrow.2.1, hrow.2.2.1, RA_ext x _ _ hrow.2.2.2⟩
      · rw [if_neg h1]
        by_cases h2 : i = id
        · subst h2
          simp only [if_true, At]
          exact ⟨by simp only [g', if_neg h1, if_true], ht0⟩
        · rw [if_neg h2]
          have hi := h.at' i
          cases hbl : s.blk i with
          | none => rw [hbl] at hi; simp only [At] at hi ⊢; rw [hlive i h1 h2]; exact hi
          | some bl =>
            rw [hbl] at hi
            cases bl with
            | row ty el =>
              obtain ⟨a, al, b', vs', a1, a2, a3, a4, a5, a6⟩ := hi
              exact ⟨a, by rw [hlive i h1 h2]; exact al, b', vs', by rw [hrows i h1]; exact a1, a2, a3, a4, a5, RA_ext x _ _ a6⟩
            | tok L =>
              obtain ⟨a, b', l, a1, a2, a3, a4⟩ := hi
              exact ⟨by rw [hlive i h1 h2]; exact a, b', l, a1, a2, fun hk => a3 (hisrow b' hk), a4⟩
            | map es =>
              obtain ⟨a, al, b', a1, me, cl, a2, a3, a4⟩ := hi
              exact ⟨a, by rw [hlive i h1 h2]; exact al, b', by rw [hrows i h1]; exact a1, me, cl, a2, RA_ext x _ _ a3, RA_ext x _ _ a4⟩
            | res => exact ⟨by rw [hlive i h1 h2]; exact hi.1, hi.2.1, by rw [hrows i h1]; exact hi.2.2⟩
    inj := fun i j b' m n li lj hi hj => by
      by_cases i1 : i = s.nxt
      · by_cases j1 : j = s.nxt
        · rw [i1, j1]
        · subst i1
          rw [show g'.rows s.nxt = g.rows id from upd_eq _ _ _] at hi
          rw [hrows j j1] at hj
          have j2 : j ≠ id := by rintro rfl; simp only [g', if_neg j1, if_true] at lj; cases lj
          rw [hlive j j1 j2] at lj
          exact absurd (h.inj j id b' n m lj hlv hj hi) j2
      · rw [hrows i i1] at hi
        have i2 : i ≠ id := by rintro rfl; simp only [g', if_neg i1, if_true] at li; cases li
        rw [hlive i i1 i2] at li
        by_cases j1 : j = s.nxt
        · subst j1
          rw [show g'.rows s.nxt = g.rows id from upd_eq _ _ _] at hj
          exact absurd (h.inj i id b' m n li hlv hi hj) i2
        · rw [hrows j j1] at hj
          have j2 : j ≠ id := by rintro rfl; simp only [g', if_neg j1, if_true] at lj; cases lj
          rw [hlive j j1 j2] at lj
          exact h.inj i j b' m n li lj hi hj
    tinj := h.tinj
    lim := h.lim
    rlim := fun i b' n li hi => by
      obtain ⟨j, m, e, l⟩ := hisrow b' ⟨i, n, hi, li⟩
      exact h.rlim j b' m l e }
theorem forget_step {P g s w} (h : Inv P g s w) (id : Nat) : ∃ g', Inv P g' (s.set id none) w ∧ Ext g w g' w ∧ g'.nxt = g.nxt ∧ g'.rows = g.rows := by
  refine ⟨g.keep s.nxt (fun i => i != id), ?_, keep_ext _ (by rw [h.nxt]; exact Nat.le_refl _), by show s.nxt = _; rw [h.nxt], rfl⟩
  have := keep_inv h s.nxt (fun i => i != id) (fun i _ hi => h.id_lt hi) (fun i b _ hb => h.blw hb)
  have e : s.keep s.nxt (fun i => i != id) = s.set id none := by
    simp only [St.keep, St.set, St.mk.injEq, true_and]
    funext i
    by_cases hi : i = id
    · subst hi; simp
    · simp [hi]
  rw [e] at this
  exact this
theorem set_none_new (s : St) (id : Nat) (b : Blk) (h : id ≠ s.nxt) : (s.new b).set id none = (s.set id none).new b := set_new_ne s b id none h
def aAppendOwn (P : Program) (e : TypeId) (id len : Nat) (ys : List PV) (s : St) : Option (PV × St) :=
  match s.blk id with
  | some (.row ty els) => if ys ≠ [] ∧ P.cellsOf e = P.cellsOf ty ∧ len ≤ els.length then some (.own s.nxt 0 (len + ys.length), (s.set id none).new (.row ty (els.take len ++ ys))) else none
  | _ => none
theorem aAppendOwn_run {P : Program} {g s w t ty e id len k2 ys v s' va vb} (h : Inv P g s w) (hx : R g w (.own id 0 len) va) (hy : R g w (.sl k2 ys) vb) (htd : td P t = .sl e) (hz : (zpv P e).isSome = true)
    (hey : isEls P e ys) (hb0 : 0 < P.bytesOf e) (hlen : (len + ys.length) * P.bytesOf e ≤ 140737488355328) (ha : aAppendOwn P e id len ys s = some (v, s')) :
    ∃ val w' g', (Builtin.append_ #[t, t] ty #[va, vb]).run P w = .ok val w' ∧ Inv P g' s' w' ∧ Ext g w g' w' ∧ R g' w' v val := by
  unfold aAppendOwn at ha
  split at ha
  case h_2 => cases ha
  rename_i tyr els hbl
  split at ha
  case isFalse => cases ha
  rename_i hc
  obtain ⟨hys, hce, hle⟩ := hc
  cases ha
  have hu := td_slice htd
  obtain ⟨z, hz⟩ := Option.isSome_iff_exists.1 hz
  obtain ⟨zv, hz1, hz2, hz3, hz4, hpos, hz6, hz7⟩ := zero_run (P := P) (w := w) hz
  obtain ⟨i, hi, hsz⟩ := cells_info hpos
  have hiz : i.zero = some zv := by
    unfold zeroValue at hz1
    rw [bind_run, typeInfo_run hi] at hz1
    simp only at hz1
    cases hq : i.zero with
    | none => rw [hq] at hz1; simp [unsupported, Sem.run] at hz1
    | some z' => rw [hq] at hz1; simp [pure_run] at hz1; subst hz1; rfl
  have hby : P.bytesOf e = i.bytes := by unfold Program.bytesOf; rw [hi]; rfl
  obtain ⟨us, hus, hru⟩ := sl_holds hy
  have hue := isEls_vals hey hru
  have hul := RA_length hru
  have hn := hus.len (P := P)
  have hfc := hus.cells (P := P) (size := P.cellsOf e) (fun v hv => (hue v hv).1)
  have hm : 0 < us.length := by rw [← hul]; exact List.length_pos_iff.2 hys
  have hid : id < s.nxt := h.id_lt (by rw [hbl]; simp)
  have hat := h.at' id
  rw [hbl] at hat
  obtain ⟨_, hlv, b, vs, hr, hrp, hrow⟩ := hat
  obtain ⟨a1, a2, a3, a4⟩ := hrow
  have hvl := RA_length a4
  simp only [R] at hx
  obtain ⟨_, b', sz', cap, hr', hcap, rfl, hcs⟩ := hx
  rw [hr] at hr'; cases hr'
  simp only [Nat.zero_mul, Nat.zero_add] at hcs ⊢
  have hsz' : ∀ v ∈ vs, v.cells.size = P.cellsOf tyr := fun v hv => (a3 v hv).1
  have hpre : RA g w (els.take len) (vs.take len) := RA_take _ a4
  have hprel : (vs.take len).length = len := by simp; omega
  have hflat : flat (vs.take len) = (flat vs).take (len * P.cellsOf tyr) := flat_take vs _ hsz' len
  have hpsz : ∀ v ∈ vs.take len, v.cells.size = P.cellsOf tyr ∧ ∀ x ∈ v.cells.toList, x.flat = true := fun v hv => a3 v (List.mem_of_mem_take hv)
  have hcat : ∀ v ∈ vs.take len ++ us, v.cells.size = P.cellsOf tyr ∧ ∀ x ∈ v.cells.toList, x.flat = true := by
    intro v hv
    rcases List.mem_append.1 hv with hv | hv
    · exact hpsz v hv
    · have := hue v hv; rw [hce] at this; exact this
  have hfu : (flat us).length = us.length * P.cellsOf tyr := by rw [← hce]; exact flat_length fun v hv => (hue v hv).1
  have hfp : (flat (vs.take len)).length = len * P.cellsOf tyr := by rw [flat_length (fun v hv => (hpsz v hv).1), hprel]
  by_cases hroom : len + us.length ≤ cap
  · have hfit : len * P.cellsOf tyr + (flat us).length ≤ csize w b := by
      rw [hfu]
      have := Nat.mul_le_mul_right (P.cellsOf tyr) hroom
      rw [Nat.add_mul] at this
      omega
    have hcells : cellsAt (putCells w b (len * P.cellsOf tyr) (flat us)) b 0 (flat (vs.take len ++ us)) := by
      rw [flat_append, cellsAt_append]
      refine ⟨fun j hj => ?_, ?_⟩
      · rw [putCells_cell_out _ _ _ _ _ _ (by omega)]
        have hq := cellsAt_take a2 (len * P.cellsOf tyr)
        rw [← hflat] at hq
        exact hq j hj
      · rw [hfp, Nat.zero_add]
        exact putCells_cell_in _ _ _ _ hfit
    obtain ⟨k1, k2⟩ := rowStore_step (els' := els.take len ++ ys) (vs' := vs.take len ++ us) (o := len * P.cellsOf tyr) (xs := flat us) h hbl hr hcells hcat (RA_append hpre hru)
    have hbl' : (s.set id (some (.row tyr (els.take len ++ ys)))).blk id = some (.row tyr (els.take len ++ ys)) := by simp [St.set]
    obtain ⟨g', m1, m2, m3, m4⟩ := rename_step k1 hbl'
    have hst := storeCells_run P b (flat us) w (len * P.cellsOf tyr) 0 (by
      intro v hv
      simp only [flat, List.mem_flatMap] at hv
      obtain ⟨u, hu1, hu2⟩ := hv
      exact (hue u hu1).2 v hu2) a1 (by simpa using hfit)
    have hrun : (Builtin.append_ #[t, t] ty #[.slice (some ⟨b, 0, none⟩) len cap, vb]).run P w = .ok (.slice (some ⟨b, 0, none⟩) (len + us.length) cap) (putCells w b (len * P.cellsOf tyr) (flat us)) :=
      append_stay hu hi hn (by rw [hsz]; exact hfc) hroom (by rw [hsz, hce, Nat.zero_add]; simpa using hst)
    refine ⟨_, _, g', hrun, ?_, k2.trans m2, ?_⟩
    · rw [set_set] at m1; exact m1
    · simp only [R]
      refine ⟨by rw [m4]; exact Nat.lt_succ_self _, b, P.cellsOf tyr, cap, by rw [show (s.set id (some (.row tyr (els.take len ++ ys)))).nxt = s.nxt from rfl] at m3; rw [m3]; exact hr, by omega, by rw [hul]; simp, ?_⟩
      rw [putCells_csize]
      simpa using hcs
  · have ho : Holds w (.slice (some ⟨b, 0, none⟩) len cap) (vs.take len) := .inr ⟨b, 0, cap, by rw [hprel], by rw [hflat]; exact cellsAt_take a2 _⟩
    have ho' := ho.drew.cells (P := P) (size := P.cellsOf e) (fun v hv => by rw [hce]; exact (hpsz v hv).1)
    have hn' := hus.drew.cells (P := P) (size := P.cellsOf e) (fun v hv => (hue v hv).1)
    rw [← hsz] at ho' hn'
    rw [hprel] at ho'
    have hfit := growslice_fits (need := len + us.length) (old := cap) (bytes := i.bytes) (by omega) (by rw [← hby, ← hul]; exact hlen)
    have hrun := append_new (P := P) (w := w) (t := t) (ty := ty) hu hi hiz hn ho' hn' (by omega) (by
      have := Nat.le_mul_of_pos_right (len + ys.length) hb0
      omega) hfit
    have hge := grownCap_ge w (len + us.length) cap e
    obtain ⟨hI1, hE1⟩ := drew_step h (w.drawn + 1)
    obtain ⟨g', m1, m2, m3, m4⟩ := newRow_step (t := tyr) (ty := e) (els := els.take len ++ ys) (vs := vs.take len ++ us) (c := (flat (vs.take len)).toArray ++ (flat us).toArray ++ Builtin.zeroCells zv.cells (grownCap w (len + us.length) cap e - (len + us.length))) hI1 hrp
      (RA_append (RA_ext hE1 _ _ hpre) (RA_ext hE1 _ _ hru)) (by rw [flat_append]; simp) hcat
    obtain ⟨g2, n1, n2, n3, n4⟩ := forget_step m1 id
    refine ⟨_, _, g2, hrun, ?_, (hE1.trans m2).trans n2, ?_⟩
    · rw [set_none_new _ _ _ (by omega)] at n1; exact n1
    · simp only [R]
      refine ⟨by rw [n3, m4]; exact Nat.lt_succ_self _, w.heap.size, P.cellsOf tyr, grownCap w (len + us.length) cap e, by rw [n4]; exact m3, by omega, by rw [hul]; simp, ?_⟩
      have hcz := newB_csize { w with drawn := w.drawn + 1 } ((flat (vs.take len)).toArray ++ (flat us).toArray ++ Builtin.zeroCells zv.cells (grownCap w (len + us.length) cap e - (len + us.length))) e (0, 0)
      show (0 + grownCap w (len + us.length) cap e) * P.cellsOf tyr ≤ csize (World.newB { w with drawn := w.drawn + 1 } _) ({ w with drawn := w.drawn + 1 } : World).heap.size
      rw [hcz]
      simp only [Array.size_append, List.size_toArray, size_zeroCells, hfp, hfu, hz4, hce]
      rw [← Nat.add_mul, ← Nat.add_mul]
      apply Nat.mul_le_mul_right
      omega
def aAppendFirst (P : Program) (e : TypeId) (k : SK) (xs ys : List PV) (s : St) : Option (PV × St) :=
  match k with
  | .nil | .clip | .unc => if ys ≠ [] then some (.own s.nxt 0 (xs.length + ys.length), s.new (.row e (xs ++ ys))) else none
  | _ => none
theorem aAppendFirst_run {P : Program} {g s w t ty e k k2 xs ys v s' va vb} (h : Inv P g s w) (hx : R g w (.sl k xs) va) (hy : R g w (.sl k2 ys) vb) (htd : td P t = .sl e) (hz : (zpv P e).isSome = true)
    (hex : isEls P e xs) (hey : isEls P e ys) (hb0 : 0 < P.bytesOf e) (hlen : (xs.length + ys.length) * P.bytesOf e ≤ 140737488355328) (ha : aAppendFirst P e k xs ys s = some (v, s')) :
    ∃ val w' g', (Builtin.append_ #[t, t] ty #[va, vb]).run P w = .ok val w' ∧ Inv P g' s' w' ∧ Ext g w g' w' ∧ R g' w' v val := by
  have hkind : (k = .nil ∨ k = .clip ∨ k = .unc) ∧ ys ≠ [] ∧ v = .own s.nxt 0 (xs.length + ys.length) ∧ s' = s.new (.row e (xs ++ ys)) := by
    unfold aAppendFirst at ha
    split at ha
    all_goals first | (cases ha; done) | skip
    all_goals
      split at ha
      · rename_i hc; cases ha; exact ⟨by simp, hc, rfl, rfl⟩
      · cases ha
  obtain ⟨hk, hys, rfl, rfl⟩ := hkind
  have hu := td_slice htd
  obtain ⟨z, hz⟩ := Option.isSome_iff_exists.1 hz
  obtain ⟨zv, hz1, hz2, hz3, hz4, hpos, hz6, hz7⟩ := zero_run (P := P) (w := w) hz
  obtain ⟨i, hi, hsz⟩ := cells_info hpos
  have hiz : i.zero = some zv := by
    unfold zeroValue at hz1
    rw [bind_run, typeInfo_run hi] at hz1
    simp only at hz1
    cases hq : i.zero with
    | none => rw [hq] at hz1; simp [unsupported, Sem.run] at hz1
    | some z' => rw [hq] at hz1; simp [pure_run] at hz1; subst hz1; rfl
  have hby : P.bytesOf e = i.bytes := by unfold Program.bytesOf; rw [hi]; rfl
  obtain ⟨us, hus, hru⟩ := sl_holds hy
  have hue := isEls_vals hey hru
  have hul := RA_length hru
  have hn := hus.len (P := P)
  have hm : 0 < us.length := by rw [← hul]; exact List.length_pos_iff.2 hys
  obtain ⟨base, cap, vs, rfl, hvs, hrv, hcap⟩ : ∃ base cap vs, va = .slice base vs.length cap ∧ Holds w va vs ∧ RA g w xs vs ∧ cap = vs.length := by
    have hnil : R g w (.sl .nil xs) va → ∃ base cap vs, va = .slice base vs.length cap ∧ Holds w va vs ∧ RA g w xs vs ∧ cap = vs.length := fun hx => by
      obtain ⟨e1, e2⟩ := R_nil.1 hx
      exact ⟨none, 0, [], by simpa using e1, .inl ⟨none, 0, e1, rfl⟩, by rw [e2]; simp [RA], rfl⟩
    have hclip : R g w (.sl .clip xs) va → ∃ base cap vs, va = .slice base vs.length cap ∧ Holds w va vs ∧ RA g w xs vs ∧ cap = vs.length := fun hx => by
      rcases sl_head hx (by simp) rfl with ⟨b, o, cap, sz, vs, e1, h1, h2, h3, h4, h5, h6, h7, h8⟩ | ⟨_, rfl, x, e1⟩
      case inr => exact ⟨_, 0, [], by simpa using e1, .inl ⟨_, 0, e1, rfl⟩, by simp [RA], rfl⟩
      have hl := RA_length h8
      exact ⟨_, cap, vs, by rw [← hl]; exact e1, .inr ⟨b, o, cap, by rw [← hl]; exact e1, h5⟩, h8, by rw [← hl]; exact h3 rfl⟩
    rcases hk with rfl | rfl | rfl
    · exact hnil hx
    · exact hclip hx
    · rcases R_unc.1 hx with hx | hx
      · exact hnil hx
      · exact hclip hx
  have hve := isEls_vals hex hrv
  have hvl := RA_length hrv
  have ho := hvs.drew.cells (P := P) (size := P.cellsOf e) (fun v hv => (hve v hv).1)
  have hn' := hus.drew.cells (P := P) (size := P.cellsOf e) (fun v hv => (hue v hv).1)
  rw [← hsz] at ho hn'
  have hfit := growslice_fits (need := vs.length + us.length) (old := cap) (bytes := i.bytes) (by omega) (by rw [← hby, ← hul, ← hvl]; exact hlen)
  have hrun := append_new (P := P) (w := w) (t := t) (ty := ty) hu hi hiz hn ho hn' (by omega) (by
    have := Nat.le_mul_of_pos_right (xs.length + ys.length) hb0
    omega) hfit
  have hge := grownCap_ge w (vs.length + us.length) cap e
  obtain ⟨hI1, hE1⟩ := drew_step h (w.drawn + 1)
  have hcat : ∀ v ∈ vs ++ us, v.cells.size = P.cellsOf e ∧ ∀ x ∈ v.cells.toList, x.flat = true := by
    intro v hv
    rcases List.mem_append.1 hv with hv | hv
    · exact hve v hv
    · exact hue v hv
  obtain ⟨g', m1, m2, m3, m4⟩ := newRow_step (t := e) (ty := e) (els := xs ++ ys) (vs := vs ++ us) (c := (flat vs).toArray ++ (flat us).toArray ++ Builtin.zeroCells zv.cells (grownCap w (vs.length + us.length) cap e - (vs.length + us.length))) hI1 hpos
    (RA_append (RA_ext hE1 _ _ hrv) (RA_ext hE1 _ _ hru)) (by rw [flat_append]; simp) hcat
  refine ⟨_, _, g', hrun, m1, hE1.trans m2, ?_⟩
  simp only [R]
  refine ⟨by rw [m4]; exact Nat.lt_succ_self _, w.heap.size, P.cellsOf e, grownCap w (vs.length + us.length) cap e, m3, by omega, by rw [hul, hvl]; simp, ?_⟩
  have hcz := newB_csize { w with drawn := w.drawn + 1 } ((flat vs).toArray ++ (flat us).toArray ++ Builtin.zeroCells zv.cells (grownCap w (vs.length + us.length) cap e - (vs.length + us.length))) e (0, 0)
  show (0 + grownCap w (vs.length + us.length) cap e) * P.cellsOf e ≤ csize (World.newB { w with drawn := w.drawn + 1 } _) ({ w with drawn := w.drawn + 1 } : World).heap.size
  rw [hcz]
  simp only [Array.size_append, List.size_toArray, size_zeroCells, hz4, flat_length (fun v hv => (hve v hv).1), flat_length (fun v hv => (hue v hv).1)]
  rw [← Nat.add_mul, ← Nat.add_mul]
  apply Nat.mul_le_mul_right
  omega
section
variable {P : Program} {N : Nat} {k : List KI} {e : Env} {s : St} {rt : Env → St → Prop}
theorem append_exec {P : Program} {w w' : World} {a : Act} {o : Oper} {x y : Operand} {t : TypeId} {val : Value} (hop : o.op = .call ⟨.builtin .append, #[x, y], #[t, t]⟩)
    (h : (Builtin.append_ #[t, t] o.type #[a.eval x, a.eval y]).run P w = .ok val w') : (execOp a.eval o).run P w = .ok (.value val) w' := by
  unfold execOp
  rw [hop]
  simp only [resolve, bind_run, pure_run, invoke, builtin]
  have : Array.map a.eval #[x, y] = #[a.eval x, a.eval y] := by simp
  rw [this, h]
theorem RunO.appendOwn {ops : Array Oper} {d : Option Nat} {x y : Operand} {t ty : TypeId} {pos : String} {af : Array Edge} {gd : Option (Nat × Bool)} {l : List Oper} {el : TypeId} {id len : Nat} {ky : SK} {ys : List PV} {v : PV} {s' : St}
    (hg : guard? ops ⟨d, .call ⟨.builtin .append, #[x, y], #[t, t]⟩, ty, pos, af, gd⟩ e = some true) (hx : ev e x = .own id 0 len) (hy : ev e y = .sl ky ys) (htd : td P t = .sl el) (hz : (zpv P el).isSome = true)
    (hey : isEls P el ys) (hb0 : 0 < P.bytesOf el) (hlen : (len + ys.length) * P.bytesOf el ≤ 140737488355328) (ha : aAppendOwn P el id len ys s = some (v, s'))
    (h : RunO P N ops l k (e.put d v) s' rt) : RunO P N ops (⟨d, .call ⟨.builtin .append, #[x, y], #[t, t]⟩, ty, pos, af, gd⟩ :: l) k e s rt := by
  refine RunO.eff hg (fun g w a hI hE => ?_) h
  have h1 := ev_R hE x
  have h2 := ev_R hE y
  rw [hx] at h1
  rw [hy] at h2
  obtain ⟨val, w', g', r1, r2, r3, r4⟩ := aAppendOwn_run (ty := ty) hI h1 h2 htd hz hey hb0 hlen ha
  exact ⟨val, w', g', .inl (append_exec rfl r1), r2, r3, r4⟩
theorem RunO.appendFirst {ops : Array Oper} {d : Option Nat} {x y : Operand} {t ty : TypeId} {pos : String} {af : Array Edge} {gd : Option (Nat × Bool)} {l : List Oper} {el : TypeId} {kx ky : SK} {xs ys : List PV} {v : PV} {s' : St}
    (hg : guard? ops ⟨d, .call ⟨.builtin .append, #[x, y], #[t, t]⟩, ty, pos, af, gd⟩ e = some true) (hx : ev e x = .sl kx xs) (hy : ev e y = .sl ky ys) (htd : td P t = .sl el) (hz : (zpv P el).isSome = true)
    (hex : isEls P el xs) (hey : isEls P el ys) (hb0 : 0 < P.bytesOf el) (hlen : (xs.length + ys.length) * P.bytesOf el ≤ 140737488355328) (ha : aAppendFirst P el kx xs ys s = some (v, s'))
    (h : RunO P N ops l k (e.put d v) s' rt) : RunO P N ops (⟨d, .call ⟨.builtin .append, #[x, y], #[t, t]⟩, ty, pos, af, gd⟩ :: l) k e s rt := by
  refine RunO.eff hg (fun g w a hI hE => ?_) h
  have h1 := ev_R hE x
  have h2 := ev_R hE y
  rw [hx] at h1
  rw [hy] at h2
  obtain ⟨val, w', g', r1, r2, r3, r4⟩ := aAppendFirst_run (ty := ty) hI h1 h2 htd hz hex hey hb0 hlen ha
  exact ⟨val, w', g', .inl (append_exec rfl r1), r2, r3, r4⟩
end
end Go.PM
namespace Go.PM
open Go
theorem get_nil (i : Nat) : Env.get [] i = .junk := rfl
theorem get_cons (k : Nat) (v : PV) (e : Env) (i : Nat) : Env.get ((k, v) :: e) i = if i = k then v else Env.get e i := rfl
theorem put_some (e : Env) (d : Nat) (v : PV) : Env.put e (some d) v = (d, v) :: e := rfl
theorem put_none (e : Env) (v : PV) : Env.put e none v = e := rfl
theorem ev_tmp (e : Env) (t : Nat) : ev e (.tmp t) = e.get t := rfl
theorem ev_func (e : Env) (f : FuncId) : ev e (.func f) = .fn (.func f) [] [] := rfl
theorem ev_int (e : Env) (k : IntKind) (n : Int) : ev e (.const (.int k n)) = .int k n := rfl
theorem ev_bool (e : Env) (b : Bool) : ev e (.const (.bool b)) = .bool b := rfl
theorem ev_str (e : Env) (s : ByteArray) : ev e (.const (.string s)) = .str s := rfl
theorem ev_nilp (e : Env) : ev e (.const (.pointer none)) = .nilp := rfl
theorem ev_nils (e : Env) : ev e (.const (.slice none 0 0)) = .sl .nil [] := rfl
theorem ev_nilm (e : Env) : ev e (.const (.map none)) = .nilm := rfl
theorem ev_nilf (e : Env) : ev e (.const .nilFunc) = .nilf := rfl
theorem ev_nili (e : Env) : ev e (.const .nilIface) = .nili := rfl
theorem keep_nil (e : Env) : Env.keep [] e = [] := rfl
theorem keep_cons (i : Nat) (l : List Nat) (e : Env) : Env.keep (i :: l) e = (i, e.get i) :: Env.keep l e := rfl
theorem blk_new (s : St) (b : Blk) (i : Nat) : (s.new b).blk i = if i = s.nxt then some b else s.blk i := rfl
theorem nxt_new (s : St) (b : Blk) : (s.new b).nxt = s.nxt + 1 := rfl
theorem blk_set (s : St) (id : Nat) (b : Option Blk) (i : Nat) : (s.set id b).blk i = if i = id then b else s.blk i := rfl
theorem blk_set_self (s : St) (id : Nat) (b : Option Blk) : (s.set id b).blk id = b := if_pos rfl
theorem nxt_set (s : St) (id : Nat) (b : Option Blk) : (s.set id b).nxt = s.nxt := rfl
attribute [go_sem] get_nil get_cons put_some put_none ev_tmp ev_func ev_int ev_bool ev_str ev_nilp ev_nils ev_nilm ev_nilf ev_nili keep_nil keep_cons blk_new nxt_new blk_set nxt_set set_new
attribute [go_sem] aops_nil aops_cons anext_some aop1 acore apure aeff aLoad loadC aStore setC spl aFieldAddr aIndexAddr aPart aField aIndex aExtract optInt aSlice
  aBin iBin aEql aUn aConv fillP aBuild pickv aLen aMin aMax aMakeIface aTypeAssert ung gslot guard? PV.cells PV.ok acall retv ret1 rets okOp dops_nil dops_cons dnext_some dop1 dcore slotsOf aBuildSlice ainvoke aAppendOwn aAppendFirst seqParts Op.operands Call.operands aLookup aMapUpdate aLookupI aMapUpdateI aLookupP aMapUpdateP pairD
theorem argEnv_nil (i : Nat) : argEnv i [] = [] := rfl
theorem argEnv_cons (i : Nat) (p : PV) (ps : List PV) : argEnv i (p :: ps) = (i, p) :: argEnv (i + 1) ps := rfl
attribute [go_sem] argEnv_nil argEnv_cons List.getElem?_cons_zero List.getElem?_cons_succ List.getElem?_toArray Option.bind_some Option.map_some Option.map_none List.length_cons List.length_nil List.drop_succ_cons List.drop_zero List.take_succ_cons List.take_zero
  List.set_cons_zero List.set_cons_succ List.head?_cons and_true true_and and_self Bool.or_false Bool.false_or Bool.and_false Bool.false_and Bool.true_and Bool.and_true Bool.not_true Bool.not_false Bool.true_or Bool.or_true
  beq_true beq_false beq_self_eq_true cond_true cond_false List.map_cons List.map_nil List.all_cons List.all_nil if_true if_false Bool.false_eq_true List.cons_append List.nil_append List.append_nil List.filterMap_cons List.filterMap_nil Option.toList_some Option.toList_none List.map_cons List.map_nil List.isEmpty_nil Nat.zero_add Nat.add_zero ne_eq not_true_eq_false not_false_eq_true
  Bool.cond_false_right Bool.cond_false_left Bool.cond_true_left Bool.cond_true_right Bool.not_or_self Bool.or_not_self Bool.not_not Bool.not_and_self Option.some.injEq Option.getD_some Option.getD_none Int.toNat_natCast
theorem nx1 (n : Nat) : (n = n + 1) = False := by simp
theorem ny1 (n : Nat) : (n + 1 = n) = False := by simp
theorem nx2 (n : Nat) : (n = n + 2) = False := by simp
theorem ny2 (n : Nat) : (n + 2 = n) = False := by simp
theorem nx3 (n : Nat) : (n = n + 3) = False := by simp
theorem ny3 (n : Nat) : (n + 3 = n) = False := by simp
theorem nx4 (n : Nat) : (n = n + 4) = False := by simp
theorem ny4 (n : Nat) : (n + 4 = n) = False := by simp
theorem nx5 (n : Nat) : (n = n + 5) = False := by simp
theorem ny5 (n : Nat) : (n + 5 = n) = False := by simp
theorem nx6 (n : Nat) : (n = n + 6) = False := by simp
theorem ny6 (n : Nat) : (n + 6 = n) = False := by simp
theorem nx7 (n : Nat) : (n = n + 7) = False := by simp
theorem ny7 (n : Nat) : (n + 7 = n) = False := by simp
theorem nx8 (n : Nat) : (n = n + 8) = False := by simp
theorem ny8 (n : Nat) : (n + 8 = n) = False := by simp
theorem nx9 (n : Nat) : (n = n + 9) = False := by simp
theorem ny9 (n : Nat) : (n + 9 = n) = False := by simp
theorem nx10 (n : Nat) : (n = n + 10) = False := by simp
theorem ny10 (n : Nat) : (n + 10 = n) = False := by simp
theorem nx11 (n : Nat) : (n = n + 11) = False := by simp
theorem ny11 (n : Nat) : (n + 11 = n) = False := by simp
theorem nx12 (n : Nat) : (n = n + 12) = False := by simp
theorem ny12 (n : Nat) : (n + 12 = n) = False := by simp
theorem nx13 (n : Nat) : (n = n + 13) = False := by simp
theorem ny13 (n : Nat) : (n + 13 = n) = False := by simp
theorem nx14 (n : Nat) : (n = n + 14) = False := by simp
theorem ny14 (n : Nat) : (n + 14 = n) = False := by simp
theorem nx15 (n : Nat) : (n = n + 15) = False := by simp
theorem ny15 (n : Nat) : (n + 15 = n) = False := by simp
theorem nx16 (n : Nat) : (n = n + 16) = False := by simp
theorem ny16 (n : Nat) : (n + 16 = n) = False := by simp
theorem nx17 (n : Nat) : (n = n + 17) = False := by simp
theorem ny17 (n : Nat) : (n + 17 = n) = False := by simp
theorem nx18 (n : Nat) : (n = n + 18) = False := by simp
theorem ny18 (n : Nat) : (n + 18 = n) = False := by simp
theorem nx19 (n : Nat) : (n = n + 19) = False := by simp
theorem ny19 (n : Nat) : (n + 19 = n) = False := by simp
theorem nx20 (n : Nat) : (n = n + 20) = False := by simp
theorem ny20 (n : Nat) : (n + 20 = n) = False := by simp
theorem nx21 (n : Nat) : (n = n + 21) = False := by simp
theorem ny21 (n : Nat) : (n + 21 = n) = False := by simp
theorem nx22 (n : Nat) : (n = n + 22) = False := by simp
theorem ny22 (n : Nat) : (n + 22 = n) = False := by simp
theorem nx23 (n : Nat) : (n = n + 23) = False := by simp
theorem ny23 (n : Nat) : (n + 23 = n) = False := by simp
theorem nx24 (n : Nat) : (n = n + 24) = False := by simp
theorem ny24 (n : Nat) : (n + 24 = n) = False := by simp
attribute [go_sem] nx1 ny1 nx2 ny2 nx3 ny3 nx4 ny4 nx5 ny5 nx6 ny6 nx7 ny7 nx8 ny8 nx9 ny9 nx10 ny10 nx11 ny11 nx12 ny12 nx13 ny13 nx14 ny14 nx15 ny15 nx16 ny16 nx17 ny17 nx18 ny18 nx19 ny19 nx20 ny20 nx21 ny21 nx22 ny22 nx23 ny23 nx24 ny24
attribute [go_sem] PV.weak PV.weaks PV.blw PV.blws SK.base
theorem weaks_map_id {α : Type} (f : α → PV) (h : ∀ x, (f x).weak = f x) (l : List α) : PV.weaks (l.map f) = l.map f := by
  rw [weaks_map, List.map_map]
  exact List.map_congr_left fun x _ => h x
theorem blws_map {α : Type} (f : α → PV) (n : Nat) (h : ∀ x, (f x).blw n) : ∀ (l : List α), PV.blws n (l.map f)
  | [] => by simp only [List.map_nil, PV.blws]
  | x :: l => by simp only [List.map_cons, PV.blws]; exact ⟨h x, blws_map f n h l⟩
end Go.PM
namespace Go.PM
open Go
section
variable {P : Program} {N : Nat} {k : List KI} {e e' : Env} {s : St} {rt : Env → St → Prop}
theorem RunO.live' {ops : Array Oper} (l : List Nat) (he : Env.keep l e = e') (h : Run P N k e' s rt) : RunO P N ops [] k e s rt := by
  subst he; exact RunO.live l h
theorem Run.draw' {ops : Array Oper} {id : Nat} {e2 : Env} {s' : St} (ws : List Nat) (l : List Nat) (hm : P.follows .mixedOrders = true) (hs : drawOK ops ws = true) (hd : Det P ops ws 0 ops.toList e s e2 s') (he : Env.keep l e2 = e')
    (h : Run P N k e' s' rt) : Run P N (.code (.region id ops true) :: k) e s rt := by
  subst he; exact Run.draw ws hm hs hd l h
def DetC (P : Program) (ops : Array Oper) (ws : List Nat) (i : Nat) (l : List Oper) (e : Env) (s : St) (K : Env → St → Prop) : Prop := ∃ e' s', Det P ops ws i l e s e' s' ∧ K e' s'
theorem Run.drawC {ops : Array Oper} {id : Nat} (ws : List Nat) (l : List Nat) (hm : P.follows .mixedOrders = true) (hs : drawOK ops ws = true)
    (hd : DetC P ops ws 0 ops.toList e s (fun e2 s2 => Run P N k (Env.keep l e2) s2 rt)) : Run P N (.code (.region id ops true) :: k) e s rt := by
  obtain ⟨e2, s2, h1, h2⟩ := hd
  exact Run.draw ws hm hs h1 l h2
theorem DetC.nil {ops : Array Oper} {ws : List Nat} {i : Nat} {K : Env → St → Prop} (h : K e s) : DetC P ops ws i [] e s K := ⟨e, s, Det.nil, h⟩
theorem DetC.pre {ops : Array Oper} {ws : List Nat} {i : Nat} {K : Env → St → Prop} {pre l : List Oper} {e1 : Env} (h : dops P ops pre e s = some e1) (hd : DetC P ops ws (i + pre.length) l e1 s K) : DetC P ops ws i (pre ++ l) e s K := by
  obtain ⟨e2, s2, h1, h2⟩ := hd
  exact ⟨e2, s2, Det.pre h h1, h2⟩
theorem DetC.all {ops : Array Oper} {ws : List Nat} {i : Nat} {K : Env → St → Prop} {l : List Oper} {e1 : Env} (h : dops P ops l e s = some e1) (hk : K e1 s) : DetC P ops ws i l e s K := ⟨e1, s, Det.all h, hk⟩
theorem DetC.call {ops : Array Oper} {ws : List Nat} {i : Nat} {K : Env → St → Prop} {d : Option Nat} {c : Call} {t : TypeId} {pos : String} {af : Array Edge} {gd : Option (Nat × Bool)} {l : List Oper} {f : FuncId} {args args' : List PV} {v : PV}
    (hg : guard? ops ⟨d, .call c, t, pos, af, gd⟩ (Env.keep (slotsOf ops ⟨d, .call c, t, pos, af, gd⟩) e) = some true)
    (ha : acall c (Env.keep (slotsOf ops ⟨d, .call c, t, pos, af, gd⟩) e) = some (f, args)) (hw : PV.weaks args = args') (hc : callable P f = true)
    (h : ACalls P f args' s fun r s1 => r = v ∧ s1 = s) (hd : DetC P ops ws (i + 1) l (e.put d v) s K) : DetC P ops ws i (⟨d, .call c, t, pos, af, gd⟩ :: l) e s K := by
  obtain ⟨e2, s2, h1, h2⟩ := hd
  exact ⟨e2, s2, Det.call hg ha hw hc h h1, h2⟩
theorem DetC.eff {ops : Array Oper} {ws : List Nat} {i : Nat} {K : Env → St → Prop} {o : Oper} {l : List Oper} {v : PV} {s1 : St} (hi : ws.contains i = true) (hg : guard? ops o (Env.keep (slotsOf ops o) e) = some true)
    (ha : acore P o.op (ev (Env.keep (slotsOf ops o) e)) s = some (v, s1)) (hd : DetC P ops ws (i + 1) l (e.put o.dst v) s1 K) : DetC P ops ws i (o :: l) e s K := by
  obtain ⟨e2, s2, h1, h2⟩ := hd
  exact ⟨e2, s2, Det.eff hi hg ha h1, h2⟩
theorem DetC.effect {ops : Array Oper} {ws : List Nat} {i : Nat} {K : Env → St → Prop} {o : Oper} {l : List Oper} {v : PV} {s1 : St} (hi : ws.contains i = true) (hg : guard? ops o (Env.keep (slotsOf ops o) e) = some true)
    (he : ∀ g w (a : Act), Inv P g s w → EnvOK g w (Env.keep (slotsOf ops o) e) a.tmps → Effect P o g w a v s1) (hd : DetC P ops ws (i + 1) l (e.put o.dst v) s1 K) : DetC P ops ws i (o :: l) e s K := by
  obtain ⟨e2, s2, h1, h2⟩ := hd
  have hi' : i ∈ ws := by simpa using hi
  exact ⟨e2, s2, Det.cons (DOp.of_effect hg he) (fun h => absurd hi' h) (fun _ h => absurd hi' h) h1, h2⟩
theorem DetC.appendOwn {ops : Array Oper} {ws : List Nat} {i : Nat} {K : Env → St → Prop} {d : Option Nat} {x y : Operand} {t ty : TypeId} {pos : String} {af : Array Edge} {gd : Option (Nat × Bool)} {l : List Oper} {el : TypeId} {id len : Nat} {ky : SK} {ys : List PV} {v : PV} {s1 : St}
    (hi : ws.contains i = true) (hg : guard? ops ⟨d, .call ⟨.builtin .append, #[x, y], #[t, t]⟩, ty, pos, af, gd⟩ (Env.keep (slotsOf ops ⟨d, .call ⟨.builtin .append, #[x, y], #[t, t]⟩, ty, pos, af, gd⟩) e) = some true)
    (hx : ev (Env.keep (slotsOf ops ⟨d, .call ⟨.builtin .append, #[x, y], #[t, t]⟩, ty, pos, af, gd⟩) e) x = .own id 0 len) (hy : ev (Env.keep (slotsOf ops ⟨d, .call ⟨.builtin .append, #[x, y], #[t, t]⟩, ty, pos, af, gd⟩) e) y = .sl ky ys)
    (htd : td P t = .sl el) (hz : (zpv P el).isSome = true) (hey : isEls P el ys) (hb0 : 0 < P.bytesOf el) (hlen : (len + ys.length) * P.bytesOf el ≤ 140737488355328) (ha : aAppendOwn P el id len ys s = some (v, s1))
    (hd : DetC P ops ws (i + 1) l (e.put d v) s1 K) : DetC P ops ws i (⟨d, .call ⟨.builtin .append, #[x, y], #[t, t]⟩, ty, pos, af, gd⟩ :: l) e s K := by
  refine DetC.effect hi hg (fun g w a hI hE => ?_) hd
  have h1 := ev_R hE x
  have h2 := ev_R hE y
  rw [hx] at h1
  rw [hy] at h2
  obtain ⟨val, w', g', r1, r2, r3, r4⟩ := aAppendOwn_run (ty := ty) hI h1 h2 htd hz hey hb0 hlen ha
  exact ⟨val, w', g', .inl (append_exec rfl r1), r2, r3, r4⟩
theorem DetC.appendFirst {ops : Array Oper} {ws : List Nat} {i : Nat} {K : Env → St → Prop} {d : Option Nat} {x y : Operand} {t ty : TypeId} {pos : String} {af : Array Edge} {gd : Option (Nat × Bool)} {l : List Oper} {el : TypeId} {kx ky : SK} {xs ys : List PV} {v : PV} {s1 : St}
    (hi : ws.contains i = true) (hg : guard? ops ⟨d, .call ⟨.builtin .append, #[x, y], #[t, t]⟩, ty, pos, af, gd⟩ (Env.keep (slotsOf ops ⟨d, .call ⟨.builtin .append, #[x, y], #[t, t]⟩, ty, pos, af, gd⟩) e) = some true)
    (hx : ev (Env.keep (slotsOf ops ⟨d, .call ⟨.builtin .append, #[x, y], #[t, t]⟩, ty, pos, af, gd⟩) e) x = .sl kx xs) (hy : ev (Env.keep (slotsOf ops ⟨d, .call ⟨.builtin .append, #[x, y], #[t, t]⟩, ty, pos, af, gd⟩) e) y = .sl ky ys)
    (htd : td P t = .sl el) (hz : (zpv P el).isSome = true) (hex : isEls P el xs) (hey : isEls P el ys) (hb0 : 0 < P.bytesOf el) (hlen : (xs.length + ys.length) * P.bytesOf el ≤ 140737488355328) (ha : aAppendFirst P el kx xs ys s = some (v, s1))
    (hd : DetC P ops ws (i + 1) l (e.put d v) s1 K) : DetC P ops ws i (⟨d, .call ⟨.builtin .append, #[x, y], #[t, t]⟩, ty, pos, af, gd⟩ :: l) e s K := by
  refine DetC.effect hi hg (fun g w a hI hE => ?_) hd
  have h1 := ev_R hE x
  have h2 := ev_R hE y
  rw [hx] at h1
  rw [hy] at h2
  obtain ⟨val, w', g', r1, r2, r3, r4⟩ := aAppendFirst_run (ty := ty) hI h1 h2 htd hz hex hey hb0 hlen ha
  exact ⟨val, w', g', .inl (append_exec rfl r1), r2, r3, r4⟩
theorem RunO.invokew {ops : Array Oper} {d : Option Nat} {c : Call} {t : TypeId} {pos : String} {af : Array Edge} {gd : Option (Nat × Bool)} {l : List Oper} {f : FuncId} {args args' : List PV}
    (hg : guard? ops ⟨d, .call c, t, pos, af, gd⟩ e = some true) (ha : ainvoke P c e s = some (f, args)) (hw : PV.weaks args = args') (hc : callable P f = true)
    (h : ACalls P f args' s fun r s' => RunO P N ops l k (e.put d r) s' rt) : RunO P N ops (⟨d, .call c, t, pos, af, gd⟩ :: l) k e s rt := by
  subst hw
  refine RunO.call_ hg (fun g w a hI hE => ?_) h
  obtain ⟨vs, h1, h2⟩ := ainvoke_run (o := ⟨d, .call c, t, pos, af, gd⟩) rfl hI hE ha hc
  exact ⟨vs, h1, RA_weak _ _ h2⟩
theorem RunO.bcase {ops : Array Oper} {l : List Oper} {b : Bool} (i : Nat) (hi : e.get i = .bool b) (ht : b = true → RunO P N ops l k ((i, .bool true) :: e) s rt) (hf : b = false → RunO P N ops l k ((i, .bool false) :: e) s rt) : RunO P N ops l k e s rt := by
  intro ok okk idx hidx g w a hI hE hd hN
  have hv := hE i
  rw [hi] at hv
  cases b with
  | true => exact ht rfl ok okk idx hidx g w a hI (hE.cons hv) hd hN
  | false => exact hf rfl ok okk idx hidx g w a hI (hE.cons hv) hd hN
def ivar (e : Env) (i : Nat) : Nat := match e.get i with
  | .int _ n => n.toNat
  | _ => 0
theorem wrap_i64 {n : Int} (h : -9223372036854775808 ≤ n ∧ n ≤ 9223372036854775807) : IntKind.i64.wrap n = n := by
  simp [IntKind.wrap, IntKind.signed, IntKind.bits]
  omega
theorem Run.envEq' (he : e = e') (h : Run P N k e' s rt) : Run P N k e s rt := by
  subst he; exact h
theorem Run.envEq {c : Code} (he : e = e') (h : Run P N (.code c :: k) e' s rt) : Run P N (.code c :: k) e s rt := by
  subst he; exact h
end
end Go.PM
namespace Go.PM
open Go
def Grows (s : St) (k : SK) (n z : Nat) : Prop := k = .nil ∧ n = 0 ∨ (k = .clip ∨ k = .unc) ∨ ∃ t, k = .tok t z ∧ s.blk t = some (.tok n)
theorem new_wf {s : St} (h : s.wf) (b : Blk) : (s.new b).wf := fun i hi => by
  have hi : s.nxt + 1 ≤ i := hi
  show (if i = s.nxt then some b else s.blk i) = none
  rw [if_neg (by omega)]
  exact h i (by omega)
structure TMoves (s s' : St) (k k' : SK) : Prop where
  wf : s.wf → s'.wf
  nxt : s.nxt ≤ s'.nxt
  rest : ∀ i, i < s.nxt → (∀ z, k ≠ .tok i z) → s'.blk i = s.blk i
  fresh : ∀ i z, k' = .tok i z → (∃ z', k = .tok i z') ∨ s.nxt ≤ i ∧ i < s'.nxt
theorem Grows.mono {s s' : St} {k : SK} {n z : Nat} (h : Grows s k n z) (hf : ∀ t, k = .tok t z → s'.blk t = s.blk t) : Grows s' k n z := by
  rcases h with h | h | ⟨t, h1, h2⟩
  · exact .inl h
  · exact .inr (.inl h)
  · exact .inr (.inr ⟨t, h1, by rw [hf t h1]; exact h2⟩)
theorem Grows.ne {s : St} {k : SK} {n z t z' : Nat} {b : Blk} (h : Grows s k n z) (hk : k = .tok t z') (i : Nat) (hb : s.blk i = some b) (hr : ∀ n, b ≠ .tok n) : t ≠ i := by
  rintro rfl
  rcases h with ⟨h, _⟩ | h | ⟨t', h1, h2⟩
  · rw [hk] at h; cases h
  · rw [hk] at h; rcases h with h | h <;> cases h
  · rw [hk] at h1; cases h1; rw [hb] at h2; exact hr _ (Option.some.inj h2)
theorem Grows.append {P : Program} {s : St} {e : TypeId} {k : SK} {xs ys : List PV} (h : Grows s k xs.length (P.cellsOf e)) (hy : ys ≠ []) :
    ∃ k' s', aAppend P e k xs ys s = some (.sl k' (xs ++ ys), s') ∧ Grows s' k' (xs.length + ys.length) (P.cellsOf e) ∧ TMoves s s' k k' := by
  have new : (k = .nil ∨ k = .clip ∨ k = .unc) → aAppend P e k xs ys s = some (.sl (.tok s.nxt (P.cellsOf e)) (xs ++ ys), s.new (.tok (xs.length + ys.length))) ∧ Grows (s.new (.tok (xs.length + ys.length))) (.tok s.nxt (P.cellsOf e)) (xs.length + ys.length) (P.cellsOf e) ∧ TMoves s (s.new (.tok (xs.length + ys.length))) k (.tok s.nxt (P.cellsOf e)) := by
    intro hk
    refine ⟨?_, .inr (.inr ⟨s.nxt, rfl, by simp [St.new]⟩), ⟨fun hwf => new_wf hwf _, Nat.le_succ _, fun i hi _ => ?_, fun i z e => .inr (by cases e; exact ⟨Nat.le_refl _, Nat.lt_succ_self _⟩)⟩⟩
    · unfold aAppend
      rw [if_neg hy]
      rcases hk with rfl | rfl | rfl <;> rfl
    · show (if i = s.nxt then _ else s.blk i) = s.blk i
      rw [if_neg (by omega)]
  rcases h with ⟨rfl, _⟩ | h | ⟨t, rfl, ht⟩
  · exact ⟨_, _, new (.inl rfl)⟩
  · exact ⟨_, _, new (.inr h)⟩
  · refine ⟨.tok t (P.cellsOf e), s.set t (some (.tok (xs.length + ys.length))), ?_, .inr (.inr ⟨t, rfl, blk_set_self _ _ _⟩), ⟨fun hwf i hi => by
      rw [blk_set]
      split
      · rename_i e
        subst e
        rw [hwf i hi] at ht
        cases ht
      · exact hwf i hi, Nat.le_refl _, fun i hi hk => ?_, fun i z e => .inl ⟨_, by cases e; rfl⟩⟩⟩
    · unfold aAppend
      rw [if_neg hy]
      simp only [ht]
      simp only [and_self, if_true]
    · rw [blk_set, if_neg]
      rintro rfl
      exact hk _ rfl
section
variable {P : Program} {N : Nat} {k : List KI} {e e' : Env} {s : St} {rt : Env → St → Prop}
theorem RunO.grow {ops : Array Oper} {d : Option Nat} {x y : Operand} {t ty : TypeId} {pos : String} {af : Array Edge} {gd : Option (Nat × Bool)} {l : List Oper} {el : TypeId} {kx ky : SK} {xs ys : List PV}
    (hg : guard? ops ⟨d, .call ⟨.builtin .append, #[x, y], #[t, t]⟩, ty, pos, af, gd⟩ e = some true) (hx : ev e x = .sl kx xs) (hy : ev e y = .sl ky ys) (htd : td P t = .sl el) (hz : (zpv P el).isSome = true)
    (hex : isEls P el xs) (hey : isEls P el ys) (hb0 : 0 < P.bytesOf el) (hlen : (xs.length + ys.length) * P.bytesOf el ≤ 140737488355328) (hgr : Grows s kx xs.length (P.cellsOf el)) (hys : ys ≠ [])
    (h : ∀ k' s', Grows s' k' (xs.length + ys.length) (P.cellsOf el) → TMoves s s' kx k' → RunO P N ops l k (e.put d (.sl k' (xs ++ ys))) s' rt) :
    RunO P N ops (⟨d, .call ⟨.builtin .append, #[x, y], #[t, t]⟩, ty, pos, af, gd⟩ :: l) k e s rt := by
  obtain ⟨k', s', h1, h2, h3⟩ := hgr.append (P := P) hys
  exact RunO.append hg hx hy htd hz hex hey hb0 hlen h1 (h k' s' h2 h3)
theorem Grows.append' {P : Program} {s : St} {e : TypeId} {k : SK} {xs ys : List PV} (h : Grows s k xs.length (P.cellsOf e)) :
    ∃ k' s', aAppend P e k xs ys s = some (.sl k' (xs ++ ys), s') ∧ Grows s' k' (xs.length + ys.length) (P.cellsOf e) ∧ TMoves s s' k k' := by
  by_cases hy : ys = []
  · subst hy
    exact ⟨k, s, by unfold aAppend; rw [if_pos rfl, List.append_nil], by simpa using h, ⟨fun h => h, Nat.le_refl _, fun _ _ _ => rfl, fun i z e => .inl ⟨z, e⟩⟩⟩
  · exact h.append hy
theorem RunO.grow' {ops : Array Oper} {d : Option Nat} {x y : Operand} {t ty : TypeId} {pos : String} {af : Array Edge} {gd : Option (Nat × Bool)} {l : List Oper} {el : TypeId} {kx ky : SK} {xs ys : List PV}
    (hg : guard? ops ⟨d, .call ⟨.builtin .append, #[x, y], #[t, t]⟩, ty, pos, af, gd⟩ e = some true) (hx : ev e x = .sl kx xs) (hy : ev e y = .sl ky ys) (htd : td P t = .sl el) (hz : (zpv P el).isSome = true)
    (hex : isEls P el xs) (hey : isEls P el ys) (hb0 : 0 < P.bytesOf el) (hlen : (xs.length + ys.length) * P.bytesOf el ≤ 140737488355328) (hgr : Grows s kx xs.length (P.cellsOf el))
    (h : ∀ k' s', Grows s' k' (xs.length + ys.length) (P.cellsOf el) → TMoves s s' kx k' → RunO P N ops l k (e.put d (.sl k' (xs ++ ys))) s' rt) :
    RunO P N ops (⟨d, .call ⟨.builtin .append, #[x, y], #[t, t]⟩, ty, pos, af, gd⟩ :: l) k e s rt := by
  obtain ⟨k', s', h1, h2, h3⟩ := hgr.append' (P := P) (ys := ys)
  exact RunO.append hg hx hy htd hz hex hey hb0 hlen h1 (h k' s' h2 h3)
theorem DetC.grow {ops : Array Oper} {ws : List Nat} {i : Nat} {K : Env → St → Prop} {d : Option Nat} {x y : Operand} {t ty : TypeId} {pos : String} {af : Array Edge} {gd : Option (Nat × Bool)} {l : List Oper} {el : TypeId} {kx ky : SK} {xs ys : List PV}
    (hi : ws.contains i = true) (hg : guard? ops ⟨d, .call ⟨.builtin .append, #[x, y], #[t, t]⟩, ty, pos, af, gd⟩ (Env.keep (slotsOf ops ⟨d, .call ⟨.builtin .append, #[x, y], #[t, t]⟩, ty, pos, af, gd⟩) e) = some true)
    (hx : ev e x = .sl kx xs) (hy : ev e y = .sl ky ys) (htd : td P t = .sl el) (hz : (zpv P el).isSome = true)
    (hex : isEls P el xs) (hey : isEls P el ys) (hb0 : 0 < P.bytesOf el) (hlen : (xs.length + ys.length) * P.bytesOf el ≤ 140737488355328) (hgr : Grows s kx xs.length (P.cellsOf el)) (hys : ys ≠ [])
    (h : ∀ k' s', Grows s' k' (xs.length + ys.length) (P.cellsOf el) → TMoves s s' kx k' → DetC P ops ws (i + 1) l (e.put d (.sl k' (xs ++ ys))) s' K) :
    DetC P ops ws i (⟨d, .call ⟨.builtin .append, #[x, y], #[t, t]⟩, ty, pos, af, gd⟩ :: l) e s K := by
  obtain ⟨k', s', h1, h2, h3⟩ := hgr.append (P := P) hys
  obtain ⟨e2, s2, d1, d2⟩ := h k' s' h2 h3
  exact ⟨e2, s2, Det.append hi hg hx hy htd hz hex hey hb0 hlen h1 d1, d2⟩
end
def gundef (ops : Array Oper) (o : Oper) (e : Env) : Bool :=
  match o.guard with
  | none => false
  | some (j, _) => match (ops[j]?).bind (fun o => o.dst) with
    | none => false
    | some d => match Env.get e d with
      | .tuple [] => true
      | _ => false
theorem gundef_wanted {g w ops o e} {a : Act} (h : gundef ops o e = true) (hE : EnvOK g w e a.tmps) : Region.wanted o (yielded ops a.tmps) = false := by
  unfold gundef at h
  unfold Region.wanted
  cases hg : o.guard with
  | none => rw [hg] at h; cases h
  | some x =>
    obtain ⟨j, want⟩ := x
    rw [hg] at h
    simp only at h ⊢
    cases hd : (ops[j]?).bind (fun o => o.dst) with
    | none => rw [hd] at h; cases h
    | some d =>
      rw [hd] at h
      simp only at h
      split at h
      case h_2 => cases h
      rename_i hb
      have hv := hE d
      rw [hb] at hv
      simp only [R, RA] at hv
      obtain ⟨x, hx, hx2⟩ := hv
      unfold yielded
      rw [hd]
      simp only [Option.bind_some]
      rw [Array.getD_eq_getD_getElem?] at hx
      cases hq : a.tmps[d]? with
      | none => rfl
      | some v =>
        rw [hq] at hx
        simp only [Option.getD_some] at hx
        subst hx
        rfl
section
variable {P : Program} {N : Nat} {k : List KI} {e : Env} {s : St} {rt : Env → St → Prop}
theorem RunO.gskip' {ops : Array Oper} {o : Oper} {l : List Oper} (hg : guard? ops o e = some false) (h : RunO P N ops l k (e.put o.dst (.tuple [])) s rt) : RunO P N ops (o :: l) k e s rt := by
  intro ok okk idx hidx g w a hI hE hd hN
  obtain ⟨i, r, rfl, ho, hr⟩ := idx_cons hidx
  simp only [List.all_cons, Bool.and_eq_true] at ok
  have hw := guard_wanted hg hE
  simp only [wpOps, ho, hw, if_false, Bool.false_eq_true]
  exact h ok.2 okk r hr g w (a.put o.dst undef) hI (hE.put hN (okOp_lt ok.1) (by simp only [R, RA]; exact ⟨#[], rfl, rfl⟩)) (by rw [put_defers]; exact hd) (by rw [put_size]; exact hN)
theorem RunO.gskipU {ops : Array Oper} {o : Oper} {l : List Oper} (hg : gundef ops o e = true) (h : RunO P N ops l k (e.put o.dst (.tuple [])) s rt) : RunO P N ops (o :: l) k e s rt := by
  intro ok okk idx hidx g w a hI hE hd hN
  obtain ⟨i, r, rfl, ho, hr⟩ := idx_cons hidx
  simp only [List.all_cons, Bool.and_eq_true] at ok
  have hw := gundef_wanted hg hE
  simp only [wpOps, ho, hw, if_false, Bool.false_eq_true]
  exact h ok.2 okk r hr g w (a.put o.dst undef) hI (hE.put hN (okOp_lt ok.1) (by simp only [R, RA]; exact ⟨#[], rfl, rfl⟩)) (by rw [put_defers]; exact hd) (by rw [put_size]; exact hN)
end
attribute [go_sem] gundef aEqStruct eqScalars
theorem ibits_and_le (a : Int) (m : Nat) (hm : m < 2 ^ 63) : 0 ≤ ibits .and .i64 a m ∧ ibits .and .i64 a m ≤ m := by
  have h1 : ((BitVec.ofInt 64 a) &&& (BitVec.ofInt 64 (m : Int))).toNat ≤ m := by
    rw [BitVec.toNat_and]
    refine Nat.le_trans Nat.and_le_right ?_
    rw [BitVec.toNat_ofInt]
    omega
  have e : ibits .and .i64 a m = IntKind.i64.wrap (((BitVec.ofInt 64 a) &&& (BitVec.ofInt 64 (m : Int))).toNat : Int) := rfl
  rw [e, wrap_i64 (by omega)]
  omega
theorem ACalls.wf {P : Program} {f : FuncId} {args : List PV} {s : St} {Q : PV → St → Prop} (h : ACalls P f args s Q) : ACalls P f args s (fun r s' => s'.wf ∧ Q r s') :=
  fun g w vs hI hR => (h g w vs hI hR).mono fun e w' ⟨v, g', r, s', h1, h2, h3, h4, h5⟩ => ⟨v, g', r, s', h1, h2, h3, h4, h2.wf, h5⟩
theorem isEls_map {α : Type} {P : Program} {e : TypeId} {f : α → PV} (h : ∀ a, (f a).ok = true ∧ (f a).cells.length = P.cellsOf e) (l : List α) : isEls P e (l.map f) := by
  intro x hx
  obtain ⟨a, _, rfl⟩ := List.mem_map.1 hx
  exact h a
end Go.PM
namespace Go.PM
open Go
theorem flat_replicate_get (v : Value) : ∀ (n i : Nat), i < n * v.cells.size → (flat (List.replicate n v))[i]? = v.cells.toList[i % v.cells.size]?
  | 0, i, h => by simp at h
  | n + 1, i, h => by
    rw [List.replicate_succ]
    show (v.cells.toList ++ flat (List.replicate n v))[i]? = _
    by_cases h1 : i < v.cells.size
    · rw [List.getElem?_append_left (by simpa using h1), Nat.mod_eq_of_lt h1]
    · rw [List.getElem?_append_right (by simpa using h1), Array.length_toList, flat_replicate_get v n (i - v.cells.size) (by rw [Nat.succ_mul] at h; omega), ← Nat.mod_eq_sub_mod (by omega)]
theorem zeroCells_flat (v : Value) (n : Nat) : (Builtin.zeroCells v.cells n).toList = flat (List.replicate n v) := by
  apply List.ext_getElem?
  intro i
  have hl : (flat (List.replicate n v)).length = n * v.cells.size := by
    rw [flat_length (sz := v.cells.size) (fun u hu => by rw [(List.mem_replicate.1 hu).2]), List.length_replicate]
  by_cases hi : i < n * v.cells.size
  · rw [flat_replicate_get v n i hi]
    have hs : 0 < v.cells.size := Nat.pos_of_ne_zero (by intro e; rw [e] at hi; simp at hi)
    have hm : i % v.cells.size < v.cells.size := Nat.mod_lt _ hs
    unfold Builtin.zeroCells
    rw [Array.getElem?_toList, Array.getElem?_eq_getElem (by simpa using hi), Array.getElem_map, Array.getElem_range, List.getElem?_eq_getElem (by simpa using hm)]
    rw [getElem!_pos v.cells _ hm]
    simp
  · rw [List.getElem?_eq_none (l := (Builtin.zeroCells v.cells n).toList) (by rw [Array.length_toList, size_zeroCells]; omega), List.getElem?_eq_none (by rw [hl]; omega)]
def aClear (P : Program) (e : TypeId) (id off len : Nat) (s : St) : Option St :=
  match s.blk id, zpv P e with
  | some (.row ty els), some z => if 0 < len ∧ P.cellsOf e = P.cellsOf ty ∧ off + len ≤ els.length then some (s.set id (some (.row ty (els.take off ++ List.replicate len z ++ els.drop (off + len))))) else none
  | _, _ => none
theorem RA_replicate {g w p v} (h : R g w p v) : ∀ n, RA g w (List.replicate n p) (List.replicate n v)
  | 0 => rfl
  | n + 1 => by
    rw [List.replicate_succ, List.replicate_succ]
    simp only [RA]
    exact ⟨v, _, rfl, h, RA_replicate h n⟩
theorem aClear_run {P : Program} {g s w t ty e id off len va s'} (h : Inv P g s w) (hx : R g w (.own id off len) va) (htd : td P t = .sl e) (ha : aClear P e id off len s = some s') :
    ∃ w', (Builtin.clear_ #[t] ty #[va]).run P w = .ok (.tuple #[]) w' ∧ Inv P g s' w' ∧ Ext g w g w' := by
  unfold aClear at ha
  split at ha
  case h_2 => cases ha
  rename_i tyr els z hbl hz
  split at ha
  case isFalse => cases ha
  rename_i hc
  obtain ⟨hl0, hce, hle⟩ := hc
  cases ha
  have hu := td_slice htd
  obtain ⟨zv, hz1, hz2, hz3, hz4, hpos, hz6, hz7⟩ := zero_run (P := P) (w := w) hz
  have hat := h.at' id
  rw [hbl] at hat
  obtain ⟨_, hlv, b, vs, hr, hrp, hrow⟩ := hat
  obtain ⟨a1, a2, a3, a4⟩ := hrow
  have hvl := RA_length a4
  simp only [R] at hx
  obtain ⟨_, b', sz', cap, hr', hcap, rfl, hcs⟩ := hx
  rw [hr] at hr'; cases hr'
  have hsz' : ∀ v ∈ vs, v.cells.size = P.cellsOf tyr := fun v hv => (a3 v hv).1
  have hflt : ∀ x ∈ zv.cells.toList, x.flat = true := by
    cases hzv : zv with
    | agg cs => rw [hzv] at hz3; simp only [flatV] at hz3; exact fun x hx => List.all_eq_true.1 hz3 x hx
    | tuple vs => exact absurd hzv (hz6 vs)
    | _ => intro x hx; simp [Value.cells] at hx; subst hx; rfl
  have hzr : R g w z zv := by rw [hz2]; exact pvOf_R g w zv (fun cs e x hx => hflt x (by rw [e]; simpa [Value.cells] using hx))
  have hfz : (flat (List.replicate len zv)).length = len * P.cellsOf tyr := by
    rw [flat_length (sz := P.cellsOf tyr) (fun u hu => by rw [(List.mem_replicate.1 hu).2, hz4, hce]), List.length_replicate]
  have hfit : off * P.cellsOf tyr + (flat (List.replicate len zv)).length ≤ csize w b := by
    rw [hfz, ← Nat.add_mul]
    exact Nat.le_trans (Nat.mul_le_mul_right _ (by omega)) hcs
  have hft : flat (vs.take off) = (flat vs).take (off * P.cellsOf tyr) := flat_take vs _ hsz' off
  have hfd : flat (vs.drop (off + len)) = (flat vs).drop ((off + len) * P.cellsOf tyr) := flat_drop vs _ hsz' (off + len)
  have hlt : (flat (vs.take off)).length = off * P.cellsOf tyr := by
    rw [flat_length (sz := P.cellsOf tyr) (fun v hv => hsz' v (List.mem_of_mem_take hv)), List.length_take, Nat.min_eq_left (by omega)]
  have hcells : cellsAt (putCells w b (off * P.cellsOf tyr) (flat (List.replicate len zv))) b 0 (flat (vs.take off ++ List.replicate len zv ++ vs.drop (off + len))) := by
    rw [flat_append, flat_append, cellsAt_append, cellsAt_append]
    refine ⟨⟨fun j hj => ?_, ?_⟩, fun j hj => ?_⟩
    · rw [putCells_cell_out _ _ _ _ _ _ (by omega)]
      have hq := cellsAt_take a2 (off * P.cellsOf tyr)
      rw [← hft] at hq
      exact hq j hj
    · rw [hlt, Nat.zero_add]
      exact putCells_cell_in _ _ _ _ hfit
    · rw [List.length_append, hlt, hfz, Nat.zero_add]
      rw [putCells_cell_out _ _ _ _ _ _ (by rw [hfz]; omega)]
      have hq := cellsAt_drop a2 ((off + len) * P.cellsOf tyr)
      rw [← hfd] at hq
      have := hq j hj
      rw [Nat.zero_add, Nat.add_mul] at this
      exact this
  have hcat : ∀ v ∈ vs.take off ++ List.replicate len zv ++ vs.drop (off + len), v.cells.size = P.cellsOf tyr ∧ ∀ x ∈ v.cells.toList, x.flat = true := by
    intro v hv
    rcases List.mem_append.1 hv with hv | hv
    · rcases List.mem_append.1 hv with hv | hv
      · exact a3 v (List.mem_of_mem_take hv)
      · rw [(List.mem_replicate.1 hv).2]; exact ⟨by rw [hz4, hce], hflt⟩
    · exact a3 v (List.mem_of_mem_drop hv)
  obtain ⟨k1, k2⟩ := rowStore_step (els' := els.take off ++ List.replicate len z ++ els.drop (off + len)) (vs' := vs.take off ++ List.replicate len zv ++ vs.drop (off + len)) (o := off * P.cellsOf tyr) (xs := flat (List.replicate len zv)) h hbl hr hcells hcat
    (RA_append (RA_append (RA_take _ a4) (RA_replicate hzr len)) (RA_drop _ a4))
  refine ⟨_, ?_, k1, k2⟩
  have hst := storeCells_run P b (flat (List.replicate len zv)) w (off * P.cellsOf tyr) 0 (by
    intro v hv
    simp only [flat, List.mem_flatMap] at hv
    obtain ⟨u, hu1, hu2⟩ := hv
    rw [(List.mem_replicate.1 hu1).2] at hu2
    exact hflt v hu2) a1 (by simpa using hfit)
  unfold Builtin.clear_
  obtain ⟨len', rfl⟩ : ∃ k, len = k + 1 := ⟨len - 1, by omega⟩
  simp only [List.getElem?_toArray, List.getElem?_cons_zero, bind_run, underlying_run hu, hz1, zeroCells_flat, hst, pure_run, Nat.add_zero]
section
variable {P : Program} {N : Nat} {k : List KI} {e e' : Env} {s : St} {rt : Env → St → Prop}
theorem RunO.clear {ops : Array Oper} {d : Option Nat} {x : Operand} {t ty : TypeId} {pos : String} {af : Array Edge} {gd : Option (Nat × Bool)} {l : List Oper} {el : TypeId} {id off len : Nat} {s' : St}
    (hg : guard? ops ⟨d, .call ⟨.builtin .clear, #[x], #[t]⟩, ty, pos, af, gd⟩ e = some true) (hx : ev e x = .own id off len) (htd : td P t = .sl el) (ha : aClear P el id off len s = some s')
    (h : RunO P N ops l k (e.put d (.tuple [])) s' rt) : RunO P N ops (⟨d, .call ⟨.builtin .clear, #[x], #[t]⟩, ty, pos, af, gd⟩ :: l) k e s rt := by
  refine RunO.eff hg (fun g w a hI hE => ?_) h
  have h1 := ev_R hE x
  rw [hx] at h1
  obtain ⟨w', r1, r2, r3⟩ := aClear_run (ty := ty) hI h1 htd ha
  refine ⟨.tuple #[], w', g, .inl ?_, r2, r3, by simp only [R]; exact ⟨#[], rfl, rfl⟩⟩
  unfold execOp
  simp only [resolve, bind_run, pure_run, invoke, builtin]
  have : Array.map a.eval #[x] = #[a.eval x] := by simp
  rw [this]
  unfold Go.invoke
  simp only [builtin, bind_run, r1, pure_run]
end
end Go.PM
namespace Go.PM
open Go
theorem tail_order {P : Program} {ops : Array Oper} {Q : Exit → Act → World → Prop} {n : Nat} (hcut : ∀ i j, n ≤ j → j < ops.size → i < j → ((masks ops.toList []).getD j 0).testBit i = true)
    (hedge : ∀ (j : Nat) (oj : Oper), ops[j]? = some oj → ∀ e ∈ oj.after, Region.binds .any e = true → e.on < j)
    (hmask : ∀ (L : Nat → Prop), DC ops L → ∀ (k : Nat) (o : Oper), ops[k]? = some o → (∀ e ∈ o.after, Region.binds .any e = true → L e.on) → ∀ b, ((masks ops.toList []).getD k 0).testBit b = true → L b) :
    ∀ (d fuel m : Nat) (listed : Array Bool) (a : Act) (w : World), m + d = ops.size → d ≤ fuel → n ≤ m → (∀ k, listed.getD k false = decide (k < m)) → listed.size = ops.size → DC ops (fun k => listed.getD k false = true) →
      wpOps P ops Q (List.range' m d) a w → wpAny P .any ops Q fuel listed a w := by
  intro d
  induction d with
  | zero =>
    intro fuel m listed a w hmd hf hnm hl hsz hdc h
    have hr : Region.ready .any ops listed = [] := by
      cases hr : Region.ready .any ops listed with
      | nil => rfl
      | cons x xs =>
        have hx : x ∈ Region.ready .any ops listed := by rw [hr]; simp
        obtain ⟨h0, o, ho, _⟩ := mem_ready.1 hx
        have hx' := (Array.getElem?_eq_some_iff.1 ho).1
        have := hl x
        rw [Array.getD_eq_getD_getElem?, Array.getElem?_eq_getElem (by omega)] at this h0
        simp only [Option.getD_some] at this h0
        rw [h0] at this
        simp at this; omega
    cases fuel with
    | zero => exact ⟨hr, h⟩
    | succ f =>
      refine ⟨fun _ => h, fun i hi => ?_⟩
      rw [hr] at hi; simp at hi
  | succ d ih =>
    intro fuel m listed a w hmd hf hnm hl hsz hdc h
    obtain ⟨f, rfl⟩ : ∃ f, fuel = f + 1 := ⟨fuel - 1, by omega⟩
    have hm : m < ops.size := by omega
    obtain ⟨om, hom⟩ : ∃ o, ops[m]? = some o := ⟨ops[m], by simp⟩
    have hgt : ∀ k, k < ops.size → listed.getD k true = listed.getD k false := fun k hk => by
      rw [Array.getD_eq_getD_getElem?, Array.getD_eq_getD_getElem?, Array.getElem?_eq_getElem (by omega)]; rfl
    have hmr : m ∈ Region.ready .any ops listed := mem_ready.2 ⟨by rw [hgt m hm, hl m]; simp, om, hom, fun e he hb => by rw [hl]; simpa using hedge m om hom e he hb⟩
    refine ⟨fun hr => ?_, fun i hi => ?_⟩
    · rw [hr] at hmr; simp at hmr
    obtain ⟨h0, o, ho, hedges⟩ := mem_ready.1 hi
    have hlt := (Array.getElem?_eq_some_iff.1 ho).1
    have hge : m ≤ i := by
      rw [hgt i hlt, hl i] at h0
      simpa using h0
    have him : i = m := by
      by_cases he : i = m
      · exact he
      · have : listed.getD m false = true := hmask _ hdc i o ho hedges m (hcut m i (by omega) hlt (by omega))
        rw [hl m] at this
        simp at this
    subst him
    rw [List.range'_succ, wpOps_cons] at h
    refine wpOp_mono (fun a' w' h' => ?_) h
    have hgd : ∀ k, (listed.setIfInBounds i true).getD k false = if k = i then true else listed.getD k false := by
      intro k
      by_cases e : k = i
      · subst e; rw [if_pos rfl]; simp [hsz, hlt]
      · rw [if_neg e]; exact getD_set_ne false (fun x => e x.symm)
    refine ih f (i + 1) _ a' w' (by omega) (by omega) (by omega) (fun k => ?_) (by simpa using hsz) ?_ h'
    · rw [hgd, hl k]
      by_cases e : k = i
      · subst e; simp
      · rw [if_neg e]
        congr 1
        exact propext ⟨fun x => by omega, fun x => by omega⟩
    · intro k ok hk hlk e he hb
      have hlk : (listed.setIfInBounds i true).getD k false = true := hlk
      show (listed.setIfInBounds i true).getD e.on false = true
      rw [hgd] at hlk ⊢
      split
      · rfl
      · by_cases e1 : k = i
        · subst e1
          rw [ho] at hk; cases hk
          exact hedges e he hb
        · rw [if_neg e1] at hlk
          exact hdc k ok hk hlk e he hb
theorem any_order_cut {P : Program} {ops : Array Oper} {ws : List Nat} {N : Nat} {e0 : Env} {Q : Exit → Act → World → Prop} {V : Nat → PV} {S : Nat → St} {E : Nat → Env} {g0 : G} {w0 : World} {n : Nat}
    (hnsz : n ≤ ops.size) (hcut : ∀ i j, n ≤ j → j < ops.size → i < j → ((masks ops.toList []).getD j 0).testBit i = true) (hok : drawOK ops ws = true) (hN : ∀ (i : Nat) (o : Oper), ops[i]? = some o → okOp N o = true)
    (hE0 : E 0 = e0) (hE : ∀ (i : Nat) (o : Oper), i < n → ops[i]? = some o → E (i + 1) = (E i).put o.dst (V i))
    (hS : ∀ (i : Nat) (o : Oper), i < n → ops[i]? = some o → i ∉ ws → S (i + 1) = S i)
    (hD : ∀ (i : Nat) (o : Oper), i < n → ops[i]? = some o → DOp P ops o (E i) (S i) (V i) (S (i + 1)))
    (hF : ∀ (i : Nat) (o : Oper), i < n → ops[i]? = some o → touch o.op = false → i ∉ ws → ∀ s, DOp P ops o (E i) s (V i) s)
    (hQ : ∀ g w (a : Act), Inv P g (S n) w → EnvOK g w (E n) a.tmps → Ext g0 w0 g w → a.defers = [] → a.tmps.size = N → wpOps P ops Q (List.range' n (ops.size - n)) a w) :
    ∀ (fuel : Nat) (listed : Array Bool) (g : G) (s : St) (w : World) (a : Act), listed.size = ops.size →
      ((List.range ops.size).filter fun k => !listed.getD k true).length ≤ fuel → DC ops (fun k => listed.getD k false = true) → (∀ k, n ≤ k → listed.getD k false = false) →
      Inv P g s w → Ext g0 w0 g w → a.defers = [] → a.tmps.size = N →
      (∀ j, R g w (match lastW (wslot ops j) (fun k => listed.getD k false) n with | none => e0.get j | some k => V k) (a.tmps.getD j undef)) →
      s = (match lastW (fun k => ws.contains k) (fun k => listed.getD k false) n with | none => S 0 | some k => S (k + 1)) →
      wpAny P .any ops Q fuel listed a w := by
  have hpair : ∀ (i j : Nat) (oi oj : Oper), i < j → ops[i]? = some oi → ops[j]? = some oj → conf ops ws i j oi oj = true → ((masks ops.toList []).getD j 0).testBit i = true := by
    intro i j oi oj hij h1 h2 hc
    unfold drawOK at hok
    have := List.all_eq_true.1 hok j (List.mem_range.2 (Array.getElem?_eq_some_iff.1 h2).1)
    rw [h2] at this
    simp only [Bool.and_eq_true] at this
    have := List.all_eq_true.1 this.2 i (List.mem_range.2 hij)
    rw [h1] at this
    simp only [hc, Bool.not_true, Bool.false_or] at this
    exact this
  have hedge : ∀ (j : Nat) (oj : Oper), ops[j]? = some oj → ∀ e ∈ oj.after, Region.binds .any e = true → e.on < j := by
    intro j oj h2 e he hb
    unfold drawOK at hok
    have := List.all_eq_true.1 hok j (List.mem_range.2 (Array.getElem?_eq_some_iff.1 h2).1)
    rw [h2] at this
    simp only [Bool.and_eq_true] at this
    have := List.all_eq_true.1 this.1 e (by simpa using he)
    simpa [hb] using this
  have hmask : ∀ (L : Nat → Prop), DC ops L → ∀ (k : Nat) (o : Oper), ops[k]? = some o → (∀ e ∈ o.after, Region.binds .any e = true → L e.on) → ∀ b, ((masks ops.toList []).getD k 0).testBit b = true → L b :=
    fun L hdc => masks_spec hdc ops.toList [] (by simp) (fun j o h => by simpa using h) (fun k o h => by simp at h)
  have hEget : ∀ i, i ≤ n → ∀ j, (E i).get j = (match lastW (wslot ops j) (fun _ => true) i with | none => e0.get j | some k => V k) := by
    intro i
    induction i with
    | zero => intro _ j; rw [hE0]; rfl
    | succ i ih =>
      intro hi j
      obtain ⟨o, ho⟩ : ∃ o, ops[i]? = some o := ⟨ops[i]'(by omega), by simp⟩
      rw [hE i o (by omega) ho]
      unfold lastW
      rw [wslot_eq ho, Bool.and_true]
      unfold writesSlot
      cases hd : o.dst with
      | none => simp only [Env.put]; rw [ih (by omega) j]; simp
      | some d =>
        simp only [Env.put, Env.get]
        by_cases hjd : j = d
        · subst hjd; simp
        · rw [if_neg hjd, ih (by omega) j]
          have : (some d == some j) = false := by simp; exact fun e => hjd e.symm
          rw [this]; simp
  have hSget : ∀ i, i ≤ n → S i = (match lastW (fun k => ws.contains k) (fun _ => true) i with | none => S 0 | some k => S (k + 1)) := by
    intro i
    induction i with
    | zero => intro _; rfl
    | succ i ih =>
      intro hi
      obtain ⟨o, ho⟩ : ∃ o, ops[i]? = some o := ⟨ops[i]'(by omega), by simp⟩
      unfold lastW
      by_cases hw : i ∈ ws
      · have : ws.contains i = true := by simpa using hw
        rw [this]; simp
      · have : ws.contains i = false := by simpa using hw
        rw [this, hS i o (by omega) ho hw, ih (by omega)]; simp
  intro fuel
  have fin : ∀ (fuel : Nat) (listed : Array Bool) (g : G) (s : St) (w : World) (a : Act), listed.size = ops.size →
      ((List.range ops.size).filter fun k => !listed.getD k true).length ≤ fuel → DC ops (fun k => listed.getD k false = true) → (∀ k, n ≤ k → listed.getD k false = false) →
      Inv P g s w → Ext g0 w0 g w → a.defers = [] → a.tmps.size = N →
      (∀ j, R g w (match lastW (wslot ops j) (fun k => listed.getD k false) n with | none => e0.get j | some k => V k) (a.tmps.getD j undef)) →
      s = (match lastW (fun k => ws.contains k) (fun k => listed.getD k false) n with | none => S 0 | some k => S (k + 1)) → (∀ k, k < n → listed.getD k false = true) →
      wpAny P .any ops Q fuel listed a w := by
    intro fuel listed g s w a hsz hcnt hdc hhi hI hX hd hn hslots hstore hall'
    refine tail_order (n := n) hcut hedge hmask (ops.size - n) fuel n listed a w (by omega) ?_ (Nat.le_refl _) ?_ hsz hdc ?_
    · refine Nat.le_trans ?_ hcnt
      have e1 : ((List.range ops.size).filter fun k => !listed.getD k true) = ((List.range ops.size).filter fun k => decide (n ≤ k)) := by
        apply List.filter_congr
        intro k hk
        have hk := List.mem_range.1 hk
        have h3 : listed.getD k true = listed.getD k false := by
          rw [Array.getD_eq_getD_getElem?, Array.getD_eq_getD_getElem?, Array.getElem?_eq_getElem (by omega)]; rfl
        rw [h3]
        by_cases hkn : k < n
        · rw [hall' k hkn]; simp; omega
        · rw [hhi k (by omega)]; simp; omega
      rw [e1]
      have e2 : ∀ m, ((List.range m).filter fun k => decide (n ≤ k)).length = m - n := by
        intro m
        induction m with
        | zero => simp
        | succ m ih =>
          rw [List.range_succ, List.filter_append, List.length_append, ih]
          by_cases h : n ≤ m
          · simp [h]; omega
          · simp [h]; omega
      rw [e2]; exact Nat.le_refl _
    · intro k
      by_cases hkn : k < n
      · rw [hall' k hkn]; simp [hkn]
      · rw [hhi k (by omega)]; simp [hkn]
    · refine hQ g w a ?_ ?_ hX hd hn
      · rw [hSget _ (Nat.le_refl _), ← lastW_congr (l := fun k => listed.getD k false) (fun k hk _ => hall' k hk), ← hstore]; exact hI
      · intro j
        rw [hEget _ (Nat.le_refl _) j, ← lastW_congr (l := fun k => listed.getD k false) (fun k hk _ => hall' k hk)]; exact hslots j
  induction fuel with
  | zero =>
    intro listed g s w a hsz hcnt hdc hhi hI hX hd hn hslots hstore
    refine fin 0 listed g s w a hsz hcnt hdc hhi hI hX hd hn hslots hstore ?_
    have hall : ∀ k, k < ops.size → listed.getD k true = true := by
      intro k hk
      have : (List.range ops.size).filter (fun k => !listed.getD k true) = [] := List.length_eq_zero_iff.1 (by omega)
      have := List.filter_eq_nil_iff.1 this k (List.mem_range.2 hk)
      simpa using this
    intro k hk
    have := hall k (by omega)
    rw [Array.getD_eq_getD_getElem?, Array.getElem?_eq_getElem (by omega)] at this ⊢
    exact this
  | succ fuel ih =>
    intro listed g s w a hsz hcnt hdc hhi hI hX hd hn hslots hstore
    by_cases hfull : ∀ k, k < n → listed.getD k false = true
    · exact fin _ listed g s w a hsz hcnt hdc hhi hI hX hd hn hslots hstore hfull
    refine ⟨?_, ?_⟩
    · intro hr
      exfalso
      apply hfull
      have hall : ∀ m k, k ≤ m → k < ops.size → listed.getD k false = true := by
        intro m
        induction m with
        | zero =>
          intro k hk hlt
          have : k = 0 := by omega
          subst this
          exact any_order.ready_all hr hedge hsz (fun i hi => by omega) hlt
        | succ m ihm =>
          intro k hk hlt
          exact any_order.ready_all hr hedge hsz (fun i hi => ihm i (by omega) (by omega)) hlt
      exact fun k hk => hall k k (Nat.le_refl _) (by omega)
    · intro i hi
      obtain ⟨h0, o, ho, hedges⟩ := mem_ready.1 hi
      have hlt := (Array.getElem?_eq_some_iff.1 ho).1
      have hnl : listed.getD i false = false := by
        rw [Array.getD_eq_getD_getElem?, Array.getElem?_eq_getElem (by omega)] at h0 ⊢
        exact h0
      have hanc := hmask _ hdc i o ho hedges
      have hin : i < n := by
        by_cases h : i < n
        · exact h
        · exfalso
          exact hfull fun k hk => hanc k (hcut k i (by omega) hlt (by omega))
      have before : ∀ (k : Nat) (ok : Oper), ops[k]? = some ok → k < i → conf ops ws k i ok o = true → listed.getD k false = true :=
        fun k ok hk hki hc => hanc k (hpair k i ok o hki hk ho hc)
      have behind : ∀ (k : Nat) (ok : Oper), ops[k]? = some ok → i < k → conf ops ws i k o ok = true → listed.getD k false = false := by
        intro k ok hk hki hc
        cases hlk : listed.getD k false with
        | false => rfl
        | true =>
          have this : listed.getD i false = true := hmask _ hdc k ok hk (hdc k ok hk hlk) i (hpair i k o ok hki ho hk hc)
          rw [hnl] at this; cases this
      have cell : ∀ p : Nat → Bool, (∀ (k : Nat) (ok : Oper), ops[k]? = some ok → k < i → p k = true → conf ops ws k i ok o = true) → (∀ (k : Nat) (ok : Oper), ops[k]? = some ok → i < k → p k = true → conf ops ws i k o ok = true) →
          lastW p (fun k => listed.getD k false) n = lastW p (fun _ => true) i ∧ ∀ k, i < k → k < n → (p k && listed.getD k false) = false := by
        intro p h1 h2
        have hb : ∀ k, i < k → k < n → (p k && listed.getD k false) = false := by
          intro k hk hkn
          cases hp : p k with
          | false => rfl
          | true =>
            obtain ⟨ok, hok'⟩ : ∃ o, ops[k]? = some o := ⟨ops[k]'(by omega), by simp⟩
            rw [behind k ok hok' hk (h2 k ok hok' hk hp)]; rfl
        refine ⟨?_, hb⟩
        rw [lastW_cut (i := i) (by omega) (fun k hk hkn => by
          by_cases e : k = i
          · subst e; rw [hnl]; simp
          · exact hb k (by omega) hkn)]
        refine lastW_congr fun k hk hp => ?_
        obtain ⟨ok, hok'⟩ : ∃ o, ops[k]? = some o := ⟨ops[k]'(by omega), by simp⟩
        exact before k ok hok' hk (h1 k ok hok' hk hp)
      have hsl : ∀ j ∈ slotsOf ops o, R g w ((E i).get j) (a.tmps.getD j undef) := by
        intro j hj
        have := (cell (wslot ops j) (by
          intro k ok hk hki hp
          rw [wslot_eq hk] at hp
          simp only [writesSlot, beq_iff_eq] at hp
          unfold conf
          rw [hp]
          simp [hj]
        ) (by
          intro k ok hk hki hp
          rw [wslot_eq hk] at hp
          simp only [writesSlot, beq_iff_eq] at hp
          unfold conf
          rw [hp]
          simp [hj]
        )).1
        have h3 := hslots j
        rw [this] at h3
        rw [hEget i (by omega) j]
        exact h3
      have rest : ∀ (s' : St) val w' g', s' = (match lastW (fun k => ws.contains k) (fun k => (listed.setIfInBounds i true).getD k false) n with | none => S 0 | some k => S (k + 1)) →
          Inv P g' s' w' → Ext g w g' w' → R g' w' (V i) val → wpAny P .any ops Q fuel (listed.setIfInBounds i true) (a.put o.dst val) w' := by
        intro s' val w' g' hs' hI' hX' hR'
        have hgd : ∀ k, (listed.setIfInBounds i true).getD k false = if k = i then true else listed.getD k false := by
          intro k
          by_cases e : k = i
          · subst e; rw [if_pos rfl]; simp [hsz, hlt]
          · rw [if_neg e]; exact getD_set_ne false (fun x => e x.symm)
        refine ih _ g' s' w' _ (by simpa using hsz) ?_ ?_ (fun k hk => by rw [hgd, if_neg (by omega)]; exact hhi k hk) hI' (hX.trans hX') (by rw [put_defers]; exact hd) (by rw [put_size]; exact hn) ?_ hs'
        · -- one less
          have hgt : ∀ k, (listed.setIfInBounds i true).getD k true = if k = i then true else listed.getD k true := by
            intro k
            by_cases e : k = i
            · subst e; rw [if_pos rfl]; simp [hsz, hlt]
            · rw [if_neg e]; exact getD_set_ne true (fun x => e x.symm)
          have hfil : (List.range ops.size).filter (fun k => !(listed.setIfInBounds i true).getD k true) = ((List.range ops.size).filter fun k => !listed.getD k true).filter (· != i) := by
            rw [List.filter_filter]
            apply List.filter_congr
            intro k _
            rw [hgt]
            by_cases e : k = i
            · subst e; simp
            · simp [e]
          rw [hfil, ← List.Nodup.erase_eq_filter (List.Pairwise.filter _ List.nodup_range)]
          have hmem : i ∈ (List.range ops.size).filter (fun k => !listed.getD k true) := by
            rw [List.mem_filter]
            exact ⟨List.mem_range.2 hlt, by rw [h0]; rfl⟩
          rw [List.length_erase_of_mem hmem]
          omega
        · intro k ok hk hlk e he hb
          show (listed.setIfInBounds i true).getD e.on false = true
          have hlk : (listed.setIfInBounds i true).getD k false = true := hlk
          rw [hgd] at hlk ⊢
          by_cases e1 : k = i
          · subst e1
            rw [ho] at hk; cases hk
            split
            · rfl
            · exact hedges e he hb
          · rw [if_neg e1] at hlk
            split
            · rfl
            · exact hdc k ok hk hlk e he hb
        · intro j
          have hokd := okOp_lt (hN i o ho)
          by_cases hw : writesSlot o j = true
          · have hdst : o.dst = some j := by simpa [writesSlot] using hw
            have := (cell (wslot ops j) (by
              intro k ok hk hki hp
              rw [wslot_eq hk] at hp
              simp only [writesSlot, beq_iff_eq] at hp
              unfold conf; rw [hp]; simp [hdst]) (by
              intro k ok hk hki hp
              rw [wslot_eq hk] at hp
              simp only [writesSlot, beq_iff_eq] at hp
              unfold conf; rw [hdst]; simp [hp])).2
            rw [lastW_at (i := i) hin (by rw [wslot_eq ho]; exact hw) (by rw [hgd]; simp) (fun k h1 h2 => by rw [hgd, if_neg (by omega)]; exact this k h1 h2)]
            simp only [Act.put, hdst]
            have hjN : j < a.tmps.size := by rw [hn]; exact hokd j hdst
            rw [Array.getD_eq_getD_getElem?, Array.getElem?_setIfInBounds]
            simp [hjN, hR']
          · have : lastW (wslot ops j) (fun k => (listed.setIfInBounds i true).getD k false) n = lastW (wslot ops j) (fun k => listed.getD k false) n := by
              refine lastW_congr fun k hk hp => ?_
              rw [hgd, if_neg]
              rintro rfl
              rw [wslot_eq ho] at hp
              exact hw hp
            rw [this]
            have h3 := R_ext hX' _ _ (hslots j)
            cases hdst : o.dst with
            | none => exact h3
            | some d =>
              have hjd : d ≠ j := by
                rintro rfl
                exact hw (by simp [writesSlot, hdst])
              simp only [Act.put]
              rw [Array.getD_eq_getD_getElem?, Array.getElem?_setIfInBounds, if_neg hjd, ← Array.getD_eq_getD_getElem?]
              exact h3
      have hgd' : ∀ k, (listed.setIfInBounds i true).getD k false = if k = i then true else listed.getD k false := by
        intro k
        by_cases e : k = i
        · subst e; rw [if_pos rfl]; simp [hsz, hlt]
        · rw [if_neg e]; exact getD_set_ne false (fun x => e x.symm)
      unfold wpOp
      rw [ho]
      simp only
      by_cases hfree : touch o.op = false ∧ i ∉ ws
      · -- whatever the store
        refine hF i o hin ho hfree.1 hfree.2 s g w a hI hsl _ _ fun val w' g' k1 k2 k3 => rest s val w' g' ?_ k1 k2 k3
        rw [hstore]
        have : lastW (fun k => ws.contains k) (fun k => (listed.setIfInBounds i true).getD k false) n = lastW (fun k => ws.contains k) (fun k => listed.getD k false) n := by
          refine lastW_congr fun k hk hp => ?_
          rw [hgd', if_neg]
          rintro rfl
          exact hfree.2 (by simpa using hp)
        rw [this]
      · -- the store is as in the order of the text
        have htw : touch o.op = true ∨ ws.contains i = true := by
          by_cases h1 : touch o.op = false
          · right
            have : ¬ (i ∉ ws) := fun h2 => hfree ⟨h1, h2⟩
            simpa using this
          · left; simpa using h1
        have hcs := cell (fun k => ws.contains k) (by
          intro k ok hk hki hp
          unfold conf
          rcases htw with h | h <;> simp only [hp, h, Bool.true_or, Bool.or_true, Bool.and_self]) (by
          intro k ok hk hki hp
          unfold conf
          rcases htw with h | h <;> simp only [hp, h, Bool.true_or, Bool.or_true, Bool.and_self])
        have hs : s = S i := by rw [hstore, hcs.1]; exact (hSget i (by omega)).symm
        subst hs
        refine hD i o hin ho g w a hI hsl _ _ fun val w' g' k1 k2 k3 => rest _ val w' g' ?_ k1 k2 k3
        by_cases hw : ws.contains i = true
        · rw [lastW_at (i := i) hin hw (by rw [hgd']; simp) (fun k h1 h2 => by rw [hgd', if_neg (by omega)]; exact hcs.2 k h1 h2)]
        · have hni : i ∉ ws := by simpa using hw
          have : lastW (fun k => ws.contains k) (fun k => (listed.setIfInBounds i true).getD k false) n = lastW (fun k => ws.contains k) (fun k => listed.getD k false) n := by
            refine lastW_congr fun k hk hp => ?_
            rw [hgd', if_neg]
            rintro rfl
            exact hni (by simpa using hp)
          rw [this, ← hstore]
          exact hS i o hin ho hni
def cutOK (ops : Array Oper) (n : Nat) : Bool :=
  let ms := masks ops.toList []
  (List.range ops.size).all fun j => decide (j < n) || (List.range j).all fun i => (ms.getD j 0).testBit i
theorem cutOK_spec {ops : Array Oper} {n : Nat} (h : cutOK ops n = true) : ∀ i j, n ≤ j → j < ops.size → i < j → ((masks ops.toList []).getD j 0).testBit i = true := by
  intro i j h1 h2 h3
  unfold cutOK at h
  have := List.all_eq_true.1 h j (List.mem_range.2 h2)
  simp only [Bool.or_eq_true, decide_eq_true_eq] at this
  rcases this with h' | h'
  · omega
  · exact List.all_eq_true.1 h' i (List.mem_range.2 h3)
section
variable {P : Program} {ops : Array Oper} {ws : List Nat} {e e' : Env} {s s' : St} {N : Nat} {k : List KI} {rt : Env → St → Prop}
theorem Det.lists' : ∀ {i l e s e' s'}, Det P ops ws i l e s e' s' → (∀ j (o : Oper), l[j]? = some o → ops[i + j]? = some o) →
    ∃ (V : Nat → PV) (S : Nat → St) (E : Nat → Env), E i = e ∧ S i = s ∧ E (i + l.length) = e' ∧ S (i + l.length) = s' ∧ ∀ k (o : Oper), i ≤ k → k < i + l.length → ops[k]? = some o →
      E (k + 1) = (E k).put o.dst (V k) ∧ (k ∉ ws → S (k + 1) = S k) ∧ DOp P ops o (E k) (S k) (V k) (S (k + 1)) ∧ (touch o.op = false → k ∉ ws → ∀ s, DOp P ops o (E k) s (V k) s) := by
  intro i l e s e' s' h
  induction h with
  | nil =>
    rename_i i e s
    intro hl
    refine ⟨fun _ => .junk, fun _ => s, fun _ => e, rfl, rfl, rfl, rfl, fun k o hk hk2 ho => ?_⟩
    simp at hk2; omega
  | cons h1 h2 h3 hd ih =>
    rename_i i o l e s v s1 e' s'
    intro hl
    obtain ⟨V, S, E, a1, a2, a3, a4, a5⟩ := ih (fun j o' => by
      have := hl (j + 1) o'
      rw [show i + 1 + j = i + (j + 1) by omega]
      simpa using this)
    have h0 : ops[i]? = some o := by have := (hl 0 o) (by simp); simpa using this
    refine ⟨fun k => if k = i then v else V k, fun k => if k = i then s else S k, fun k => if k = i then e else E k, if_pos rfl, if_pos rfl, ?_, ?_, ?_⟩
    · show (if i + (o :: l).length = i then e else E (i + (o :: l).length)) = e'
      rw [List.length_cons, if_neg (by omega), show i + (l.length + 1) = i + 1 + l.length by omega]; exact a3
    · show (if i + (o :: l).length = i then s else S (i + (o :: l).length)) = s'
      rw [List.length_cons, if_neg (by omega), show i + (l.length + 1) = i + 1 + l.length by omega]; exact a4
    · intro k o' hk hk2 ho'
      by_cases e1 : k = i
      · subst e1
        rw [h0] at ho'; cases ho'
        simp only [if_true, show ¬ (k + 1 = k) by omega, if_false]
        rw [a1, a2]
        exact ⟨rfl, h2, h1, h3⟩
      · simp only [e1, show ¬ (k + 1 = i) by omega, if_false]
        exact a5 k o' (by omega) (by simp only [List.length_cons] at hk2; omega) ho'
theorem Run.drawCut {id : Nat} (n : Nat) (ws : List Nat) (hm : P.follows .mixedOrders = true) (hs : drawOK ops ws = true) (hc : cutOK ops n = true) (hd : DetC P ops ws 0 (ops.toList.take n) e s (fun e' s' => RunO P N ops (ops.toList.drop n) k e' s' rt)) :
    Run P N (.code (.region id ops true) :: k) e s rt := by
  obtain ⟨e', s', hd, h⟩ := hd
  intro ok
  simp only [okK, okC, Bool.and_eq_true] at ok
  intro _ g w a hI hE hdf hN
  obtain ⟨V, S, E, a1, a2, a3, a4, a5⟩ := hd.lists' (fun j o ho => by
    rw [List.getElem?_take] at ho
    split at ho
    · simpa using ho
    · cases ho)
  have hlen : (ops.toList.take n).length = min n ops.size := by simp
  simp only [Nat.zero_add, hlen] at a3 a4 a5
  have hmin : min n ops.size ≤ ops.size := Nat.min_le_right _ _
  refine wp_region_any hm ?_
  obtain ⟨hI1, hX1⟩ := drew_step hI (w.drawn + 1)
  have hnone : ∀ (p : Nat → Bool) (n : Nat), lastW p (fun k => (Array.replicate ops.size false).getD k false) n = none := by
    intro p n
    induction n with
    | zero => rfl
    | succ n ih =>
      unfold lastW
      have : (Array.replicate ops.size false).getD n false = false := by
        rw [Array.getD_eq_getD_getElem?]
        cases hx : (Array.replicate ops.size false)[n]? with
        | none => rfl
        | some b => have := Array.mem_of_getElem? hx; simp at this; rw [this.2]; rfl
      rw [this, ih]; simp
  have hrepl : ∀ k, (Array.replicate ops.size false).getD k false = false := by
    intro k
    rw [Array.getD_eq_getD_getElem?]
    cases hx : (Array.replicate ops.size false)[k]? with
    | none => rfl
    | some b => have := Array.mem_of_getElem? hx; simp at this; rw [this.2]; rfl
  have hcut : ∀ i j, min n ops.size ≤ j → j < ops.size → i < j → ((masks ops.toList []).getD j 0).testBit i = true :=
    fun i j h1 h2 h3 => cutOK_spec hc i j (by omega) h2 h3
  refine any_order_cut (ws := ws) (N := N) (e0 := e) (V := V) (S := S) (E := E) (g0 := g) (w0 := w) (n := min n ops.size) hmin hcut hs ?_ a1 (fun i o hi ho => (a5 i o (Nat.zero_le _) hi ho).1) (fun i o hi ho => (a5 i o (Nat.zero_le _) hi ho).2.1)
    (fun i o hi ho => (a5 i o (Nat.zero_le _) hi ho).2.2.1) (fun i o hi ho => (a5 i o (Nat.zero_le _) hi ho).2.2.2) ?_ ops.size _ g s _ a (by simp) ?_ ?_ (fun k _ => hrepl k) hI1 hX1 hdf hN ?_ ?_
  · intro i o ho
    exact List.all_eq_true.1 ok.1 o (by simpa using Array.mem_of_getElem? ho)
  · intro g' w' a' k1 k2 k3 k4 k5
    rw [a4] at k1
    rw [a3] at k2
    refine RunO.eff.wpOps_mono' (fun _ _ _ => Lift.trans k3) (h ?_ ok.2 _ ?_ g' w' a' k1 k2 k4 k5)
    · refine List.all_eq_true.2 fun o ho => List.all_eq_true.1 ok.1 o (List.mem_of_mem_drop ho)
    · apply List.ext_getElem?
      intro i
      simp only [List.getElem?_map, List.getElem?_drop, List.getElem?_range', Array.getElem?_toList]
      by_cases hi : i < ops.size - min n ops.size
      · rw [List.getElem?_range' hi]
        have : min n ops.size + 1 * i = n + i := by omega
        simp only [Option.map_some, this, Nat.add_comm]
        rw [Array.getElem?_eq_getElem (by omega)]
        rfl
      · rw [List.getElem?_eq_none (by simp; omega), Array.getElem?_eq_none (by omega)]
        rfl
  · refine Nat.le_trans (List.length_filter_le _ _) (by simp)
  · intro k o ho hk
    have hk : (Array.replicate ops.size false).getD k false = true := hk
    rw [hrepl] at hk; cases hk
  · intro j
    rw [hnone]
    exact R_ext hX1 _ _ (hE j)
  · rw [hnone]; exact a2.symm
theorem DetC.skip_ {o : Oper} {l : List Oper} {i : Nat} {K : Env → St → Prop} (hw : ∀ g w (a : Act), EnvOK g w (Env.keep (slotsOf ops o) e) a.tmps → Region.wanted o (yielded ops a.tmps) = false) (hd : DetC P ops ws (i + 1) l (e.put o.dst (.tuple [])) s K) : DetC P ops ws i (o :: l) e s K := by
  obtain ⟨e2, s2, h1, h2⟩ := hd
  have key : ∀ s, DOp P ops o e s (.tuple []) s := by
    intro s g w a hI hsl K Q hk
    rw [hw g w a (keep_ok hsl)]
    simp only [Bool.false_eq_true, if_false]
    exact hk undef w g hI (Ext.refl _ _) (by simp only [R, RA]; exact ⟨#[], rfl, rfl⟩)
  exact ⟨e2, s2, Det.cons (key s) (fun _ => rfl) (fun _ _ s => key s) h1, h2⟩
theorem DetC.gdo {o : Oper} {l : List Oper} {i : Nat} {K : Env → St → Prop} {v : PV} (hg : guard? ops o (Env.keep (slotsOf ops o) e) = some true) (ha : dcore P o.op (ev (Env.keep (slotsOf ops o) e)) s = some v) (hd : DetC P ops ws (i + 1) l (e.put o.dst v) s K) : DetC P ops ws i (o :: l) e s K := by
  obtain ⟨e2, s2, h1, h2⟩ := hd
  have key : ∀ s, dcore P o.op (ev (Env.keep (slotsOf ops o) e)) s = some v → DOp P ops o e s v s := fun s ha => DOp.of_effect hg fun g w a hI hE => dcore_run hI (fun x => ev_R hE x) ha
  exact ⟨e2, s2, Det.cons (key s ha) (fun _ => rfl) (fun ht _ s2 => key s2 (by rw [dcore_touch (s' := s) ht]; exact ha)) h1, h2⟩
theorem DetC.gskip' {o : Oper} {l : List Oper} {i : Nat} {K : Env → St → Prop} (hg : guard? ops o (Env.keep (slotsOf ops o) e) = some false) (hd : DetC P ops ws (i + 1) l (e.put o.dst (.tuple [])) s K) : DetC P ops ws i (o :: l) e s K :=
  DetC.skip_ (fun g w a hE => guard_wanted hg hE) hd
theorem DetC.gskipU {o : Oper} {l : List Oper} {i : Nat} {K : Env → St → Prop} (hg : gundef ops o (Env.keep (slotsOf ops o) e) = true) (hd : DetC P ops ws (i + 1) l (e.put o.dst (.tuple [])) s K) : DetC P ops ws i (o :: l) e s K :=
  DetC.skip_ (fun g w a hE => gundef_wanted hg hE) hd
end
end Go.PM
namespace Go.PM
open Go
def PV.frz (wk : Bool) (s : St) (q : Nat → Bool) : Nat → PV → PV
  | 0, p => p.weak
  | n + 1, .own id off len => if q id = true then .own id off len else match s.blk id with
    | some (.row _ els) => if off + len ≤ els.length then .sl .unk (((els.drop off).take len).map (PV.frz wk s q n)) else .junk
    | _ => .junk
  | n + 1, .sl k els => .sl (if wk then .unk else k) (els.map (PV.frz wk s q n))
  | n + 1, .agg cs => .agg (cs.map (PV.frz wk s q n))
  | n + 1, .tuple cs => .tuple (cs.map (PV.frz wk s q n))
  | _ + 1, p => p.weak
theorem RA_frz_map {g : G} {w : World} {m : Nat} {q : Nat → Bool} {f : PV → PV} (hf : ∀ p v, (f p).blw m → R g w p v → R (g.keep m q) w (f p) v) : ∀ (ps : List PV) (vs : List Value), PV.blws m (ps.map f) → RA g w ps vs → RA (g.keep m q) w (ps.map f) vs
  | [], vs, _, h => by simpa only [List.map_nil, RA] using h
  | p :: ps, vs, hb, h => by
    simp only [List.map_cons, PV.blws, RA] at hb h ⊢
    obtain ⟨v, r, rfl, h1, h2⟩ := h
    exact ⟨v, r, rfl, hf p v hb.1 h1, RA_frz_map hf ps r hb.2 h2⟩
theorem cellsAt_sub {w : World} {b o : Nat} {xs : List Value} (h : cellsAt w b o xs) (i n : Nat) : cellsAt w b (o + i) ((xs.drop i).take n) := by
  intro j hj
  simp only [List.length_take, List.length_drop] at hj
  rw [List.getElem_take, List.getElem_drop, Nat.add_assoc]
  exact h (i + j) (by omega)
theorem dead_free {P : Program} {g : G} {s : St} {w : World} (h : Inv P g s w) {id b n : Nat} {q : Nat → Bool} (hl : g.live id = true) (hr : g.rows id = some (b, n)) (hq : q id = false) (m k : Nat) : (g.keep m q).free b k := by
  refine ⟨?_, fun e he => ?_⟩
  · rintro ⟨i, z, hz, hlv⟩
    simp only [G.keep, Bool.and_eq_true] at hz hlv
    have := h.inj i id b z n hlv.2 hl hz hr
    subst this
    rw [hq] at hlv
    exact absurd hlv.1 (by simp)
  · have : (g.keep m q).lim b = g.lim b := rfl
    rw [this, h.rlim id b n hl hr] at he
    cases he
theorem R_frz {P : Program} {g : G} {s : St} {w : World} (h : Inv P g s w) (m : Nat) (wk : Bool) (q : Nat → Bool) : ∀ (n : Nat) (p : PV) (v : Value), (p.frz wk s q n).blw m → R g w p v → R (g.keep m q) w (p.frz wk s q n) v := by
  intro n
  have leaf : ∀ (p : PV) (v : Value), p.weak.blw m → R g w p v → R (g.keep m q) w p.weak v := fun p v hb hr => R_sub (keep_sub g m q) _ _ hb (R_weak p v hr)
  induction n with
  | zero => exact leaf
  | succ n ih =>
    intro p v hb hr
    cases p with
    | own id off len =>
      unfold PV.frz at hb ⊢
      split at hb
      · rename_i hq
        rw [if_pos hq]
        exact R_sub (keep_sub g m q) _ _ hb hr
      · rename_i hq
        rw [if_neg hq]
        split at hb
        · rename_i t els hbl
          split at hb
          · rename_i hle
            rw [if_pos hle]
            have hat := h.at' id
            rw [hbl] at hat
            obtain ⟨_, hlv, b, vs, hrow, hpos, _, hc, hsz, hra⟩ := hat
            simp only [R] at hr
            obtain ⟨hlt, b', sz, cap, hrow', hcap, rfl, hcs⟩ := hr
            rw [hrow] at hrow'
            cases hrow'
            have hvl := RA_length hra
            have hra' := RA_take len (RA_drop off hra)
            simp only [PV.blw] at hb
            simp only [R]
            refine ⟨(vs.drop off).take len, RA_frz_map ih _ _ hb.2 hra', .inr ?_⟩
            have hlen : (((els.drop off).take len).map (PV.frz wk s q n)).length = len := by simp; omega
            have hss : ∀ v ∈ (vs.drop off).take len, v.cells.size = P.cellsOf t := fun v hv => (hsz v (List.mem_of_mem_drop (List.mem_of_mem_take hv))).1
            refine .inl ⟨b, off * P.cellsOf t, cap, P.cellsOf t, by rw [hlen], by rw [hlen]; omega, hpos, (fun e => by cases e), fun _ => dead_free h hlv hrow (by simpa using hq) _ _, ?_, hss, (fun t z e => by cases e)⟩
            rw [flat_take _ (P.cellsOf t) (fun v hv => (hsz v (List.mem_of_mem_drop hv)).1), flat_drop _ (P.cellsOf t) (fun v hv => (hsz v hv).1)]
            have := cellsAt_sub hc (off * P.cellsOf t) (len * P.cellsOf t)
            rwa [Nat.zero_add] at this
          · rename_i hle
            rw [if_neg hle]
            simp only [R]
        · simp only [R]
    | sl k els =>
      unfold PV.frz at hb ⊢
      simp only [PV.blw] at hb
      simp only [R] at hr ⊢
      obtain ⟨vs, h1, h2⟩ := hr
      refine ⟨vs, RA_frz_map ih _ _ hb.2 h1, ?_⟩
      rw [List.length_map]
      cases wk with
      | true => exact slHead_sub (keep_sub g m q) (fun t z e => by cases e) (slHead_weak h2)
      | false => exact slHead_sub (keep_sub g m q) hb.1 h2
    | agg cs =>
      unfold PV.frz at hb ⊢
      simp only [PV.blw] at hb
      simp only [R] at hr ⊢
      obtain ⟨a, h1, h2, h3⟩ := hr
      exact ⟨a, h1, h2, RA_frz_map ih _ _ hb h3⟩
    | tuple cs =>
      unfold PV.frz at hb ⊢
      simp only [PV.blw] at hb
      simp only [R] at hr ⊢
      obtain ⟨a, h1, h3⟩ := hr
      exact ⟨a, h1, RA_frz_map ih _ _ hb h3⟩
    | _ => exact leaf _ v hb hr
section
variable {P : Program} {fn : Func} {args : List PV} {s0 : St} {Q : PV → St → Prop} {e : Env} {s : St}
theorem Ret.keepF {r r' : PV} (wk : Bool) (fuel n : Nat) (p : Nat → Bool) (hr : retv P fn.results.toList e s = some r) (hr' : ∀ g w v, R g w (r.frz wk s p fuel) v → R g w r' v) (hn : s0.nxt ≤ n) (hb : (r.frz wk s p fuel).blw n)
    (hp : ∀ i, p i = true → s.blk i ≠ none → i < n) (hk : ∀ i b, p i = true → s.blk i = some b → s0.blk i = some b ∨ b.blw n) (h : Q r' (s.keep n p)) : Ret P fn args s0 Q e s := by
  refine ⟨r, hr, _, _, h, fun g0 w0 g w hI0 hX hI v hv => ⟨g.keep n p, keep_inv hI n p hp ?_, hr' _ _ _ (R_frz hI n wk p fuel _ _ hb hv), keep_ext0 hX n (by rw [hI0.nxt]; exact hn) p⟩⟩
  intro i b hpi hbi
  rcases hk i b hpi hbi with q | q
  · have := hI0.blw q
    exact Ret.keep.blw_mono (s0 := s0) (n := s0.nxt) hn b this
  · exact q
theorem Ret.pureF {r r' : PV} (fuel : Nat) (hr : retv P fn.results.toList e s = some r) (hr' : r.frz true s (fun i => decide (i < s0.nxt)) fuel = r') (hb : r'.blw s0.nxt) (hwf : s0.wf) (hk : ∀ i, i < s0.nxt → s.blk i = s0.blk i) (h : Q r' s0) : Ret P fn args s0 Q e s := by
  have e1 : s.keep s0.nxt (fun i => decide (i < s0.nxt)) = s0 := by
    cases s0 with
    | mk n f =>
      simp only [St.keep, St.mk.injEq, true_and]
      funext i
      by_cases hi : i < n
      · simp only [hi, decide_true, if_true]; exact hk i hi
      · simp only [hi, decide_false, Bool.false_eq_true, if_false]
        exact (hwf i (by simp only; omega)).symm
  subst hr'
  refine Ret.keepF true fuel s0.nxt (fun i => decide (i < s0.nxt)) hr (fun _ _ _ h => h) (Nat.le_refl _) hb (fun i hi _ => of_decide_eq_true hi) ?_ (by rw [e1]; exact h)
  intro i b hi hbi
  rw [hk i (of_decide_eq_true hi)] at hbi
  exact .inl hbi
end
def SK.isTok : SK → Nat → Bool
  | .tok t _, i => t == i
  | _, _ => false
def Rowed (e : TypeId) (s : St) (lo : Nat) (v : PV) (els : List PV) : Prop :=
  v = .sl .nil [] ∧ els = [] ∨ ∃ L zs, v = .own L 0 els.length ∧ lo ≤ L ∧ s.blk L = some (.row e zs) ∧ els.length ≤ zs.length ∧ zs.take els.length = els
theorem Rowed.nil (e : TypeId) (s : St) (lo : Nat) : Rowed e s lo (.sl .nil []) [] := .inl ⟨rfl, rfl⟩
theorem Rowed.keep {e : TypeId} {s s' : St} {lo : Nat} {v : PV} {els : List PV} (h : Rowed e s lo v els) (hk : ∀ L z n, v = .own L z n → s'.blk L = s.blk L) : Rowed e s' lo v els := by
  rcases h with h | ⟨L, zs, h1, h2, h3, h4⟩
  · exact .inl h
  · exact .inr ⟨L, zs, h1, h2, by rw [hk L _ _ h1]; exact h3, h4⟩
theorem Rowed.lt {e : TypeId} {s : St} (hwf : s.wf) {lo : Nat} {v : PV} {els : List PV} (h : Rowed e s lo v els) {L z n : Nat} (hv : v = .own L z n) : lo ≤ L ∧ L < s.nxt := by
  rcases h with ⟨h, _⟩ | ⟨L', zs, h1, h2, h3, h4⟩
  · rw [hv] at h; cases h
  · rw [h1] at hv; cases hv
    refine ⟨h2, ?_⟩
    rcases Nat.lt_or_ge L s.nxt with h | h
    · exact h
    · rw [hwf L h] at h3; cases h3
theorem Rowed.frz {e : TypeId} {s : St} {lo : Nat} {v : PV} {els : List PV} (h : Rowed e s lo v els) {wk : Bool} {q : Nat → Bool} (hq : ∀ L z n, v = .own L z n → q L = false) (n : Nat) : v.frz wk s q (n + 1) = .sl .unk (els.map (PV.frz wk s q n)) ∨ els = [] ∧ v.frz wk s q (n + 1) = .sl .nil [] := by
  rcases h with ⟨rfl, rfl⟩ | ⟨L, zs, rfl, h2, h3, h4, h5⟩
  · cases wk with
    | true => exact .inl rfl
    | false => exact .inr ⟨rfl, rfl⟩
  · left
    unfold PV.frz
    rw [if_neg (by rw [hq L 0 _ rfl]; simp), h3]
    simp only [Nat.zero_add, List.drop_zero]
    rw [if_pos h4, h5]
theorem Rowed.out {e : TypeId} {s : St} {lo : Nat} {v : PV} {els : List PV} (h : Rowed e s lo v els) {wk : Bool} {q : Nat → Bool} (hq : ∀ L z n, v = .own L z n → q L = false) (n m : Nat) (hb : PV.blws m (els.map (PV.frz wk s q n))) :
    (v.frz wk s q (n + 1)).blw m ∧ ∀ g w u, R g w (v.frz wk s q (n + 1)) u → R g w (.sl .unk (els.map (PV.frz wk s q n))) u := by
  rcases h.frz hq n with e | ⟨rfl, e⟩
  · rw [e]
    exact ⟨by simp only [PV.blw]; exact ⟨(fun t z e => by cases e), hb⟩, fun _ _ _ h => h⟩
  · rw [e]
    exact ⟨by simp only [PV.blw]; exact ⟨(fun t z e => by cases e), hb⟩, fun g w u h => R_unk.2 (.inl h)⟩
theorem R_tuple2 {a b a' b' : PV} (h1 : ∀ g w v, R g w a v → R g w a' v) (h2 : ∀ g w v, R g w b v → R g w b' v) : ∀ g w v, R g w (.tuple [a, b]) v → R g w (.tuple [a', b']) v := by
  intro g w v h
  simp only [R, RA] at h ⊢
  obtain ⟨x, e1, v1, r1, e2, k1, v2, r2, e3, k2, e4⟩ := h
  exact ⟨x, e1, v1, r1, e2, h1 _ _ _ k1, v2, r2, e3, h2 _ _ _ k2, e4⟩
theorem Rowed.len {P : Program} {t e e' : TypeId} {s : St} {lo : Nat} {v : PV} {els : List PV} (h : Rowed e s lo v els) (ht : td P t = .sl e') : aLen P t v s = some (.int .i64 els.length) := by
  rcases h with ⟨rfl, rfl⟩ | ⟨L, zs, rfl, h2, h3, h4, h5⟩
  · unfold aLen; simp [ht]
  · unfold aLen; simp only [ht]
section
variable {P : Program} {N : Nat} {k : List KI} {e : Env} {s : St} {rt : Env → St → Prop}
theorem RunO.lenRowed {ops : Array Oper} {d : Option Nat} {x : Operand} {t ty : TypeId} {pos : String} {af : Array Edge} {gd : Option (Nat × Bool)} {l : List Oper} {el el' : TypeId} {lo : Nat} {v : PV} {els : List PV}
    (hg : guard? ops ⟨d, .call ⟨.builtin .len, #[x], #[t]⟩, ty, pos, af, gd⟩ e = some true) (hx : ev e x = v) (htd : td P t = .sl el') (hrow : Rowed el s lo v els)
    (h : RunO P N ops l k (e.put d (.int .i64 els.length)) s rt) : RunO P N ops (⟨d, .call ⟨.builtin .len, #[x], #[t]⟩, ty, pos, af, gd⟩ :: l) k e s rt := by
  refine RunO.eff hg (fun g w a hI hE => acore_run hI (fun x => ev_R hE x) ?_) h
  unfold acore
  simp only [apure]
  rw [hx, hrow.len htd]
theorem RunO.appendRowed {ops : Array Oper} {d : Option Nat} {x y : Operand} {t ty : TypeId} {pos : String} {af : Array Edge} {gd : Option (Nat × Bool)} {l : List Oper} {el : TypeId} {lo : Nat} {v : PV} {els : List PV} {ky : SK} {ys : List PV}
    (hg : guard? ops ⟨d, .call ⟨.builtin .append, #[x, y], #[t, t]⟩, ty, pos, af, gd⟩ e = some true) (hx : ev e x = v) (hy : ev e y = .sl ky ys) (htd : td P t = .sl el) (hz : (zpv P el).isSome = true)
    (hey : isEls P el ys) (hb0 : 0 < P.bytesOf el) (hlen : (els.length + ys.length) * P.bytesOf el ≤ 140737488355328) (hys : ys ≠ []) (hrow : Rowed el s lo v els) (hlo : lo ≤ s.nxt)
    (h : ∀ s', s'.nxt = s.nxt + 1 → s'.blk s.nxt = some (.row el (els ++ ys)) → (∀ i, i ≠ s.nxt → (∀ z n, v ≠ .own i z n) → s'.blk i = s.blk i) → (s.wf → s'.wf) → Rowed el s' lo (.own s.nxt 0 (els ++ ys).length) (els ++ ys) →
      RunO P N ops l k (e.put d (.own s.nxt 0 (els.length + ys.length))) s' rt) : RunO P N ops (⟨d, .call ⟨.builtin .append, #[x, y], #[t, t]⟩, ty, pos, af, gd⟩ :: l) k e s rt := by
  rcases hrow with ⟨h1, rfl⟩ | ⟨L, zs, h1, h2, h3, h4, h5⟩
  · subst h1
    refine RunO.appendFirst hg hx hy htd hz (by intro p hp; cases hp) hey hb0 hlen (v := .own s.nxt 0 (([] : List PV).length + ys.length)) (s' := s.new (.row el ([] ++ ys))) (by unfold aAppendFirst; simp only [if_pos hys]) ?_
    exact h _ rfl (if_pos rfl) (fun i hi _ => if_neg hi) (fun hwf => new_wf hwf _) (.inr ⟨s.nxt, ys, rfl, hlo, if_pos rfl, Nat.le_refl _, List.take_length⟩)
  · subst h1
    refine RunO.appendOwn hg hx hy htd hz hey hb0 hlen (v := .own s.nxt 0 (els.length + ys.length)) (s' := (s.set L none).new (.row el (els ++ ys))) ?_ ?_
    · unfold aAppendOwn
      rw [h3]
      simp only
      rw [if_pos ⟨hys, trivial, h4⟩, h5]
    · refine h _ rfl (if_pos rfl) (fun i hi hL => ?_) (fun hwf => new_wf (fun i hi => ?_) _) (.inr ⟨s.nxt, els ++ ys, rfl, hlo, if_pos rfl, Nat.le_refl _, List.take_length⟩)
      · show (if i = s.nxt then _ else if i = L then none else s.blk i) = s.blk i
        rw [if_neg hi, if_neg (fun e => hL 0 _ (by rw [e]))]
      · show (if i = L then none else s.blk i) = none
        split
        · rfl
        · exact hwf i hi
end
section
variable {P : Program} {fn : Func} {args : List PV} {s0 : St} {Q : PV → St → Prop} {e : Env} {s : St}
theorem Ret.tokF {r r' : PV} (fuel : Nat) {kk : SK} {n z : Nat} (hr : retv P fn.results.toList e s = some r) (hr' : ∀ g w v, R g w (r.frz false s (fun i => decide (i < s0.nxt) || kk.isTok i) fuel) v → R g w r' v) (hb : (r.frz false s (fun i => decide (i < s0.nxt) || kk.isTok i) fuel).blw s.nxt) (hwf : s.wf) (hle : s0.nxt ≤ s.nxt) (hfr : ∀ i, i < s0.nxt → s.blk i = s0.blk i)
    (hg : Grows s kk n z) (h : ∀ s', s'.nxt = s.nxt → (∀ i, i < s0.nxt → s'.blk i = s0.blk i) → Grows s' kk n z → Q r' s') : Ret P fn args s0 Q e s := by
  refine Ret.keepF false fuel s.nxt (fun i => decide (i < s0.nxt) || kk.isTok i) hr hr' hle hb (fun i _ hi => ?_) (fun i b hi hbi => ?_) (h _ rfl (fun i hi => ?_) (hg.mono fun t ht => ?_))
  · rcases Nat.lt_or_ge i s.nxt with h | h
    · exact h
    · exact absurd (hwf i h) hi
  · simp only [Bool.or_eq_true, decide_eq_true_eq] at hi
    rcases hi with hi | hi
    · exact .inl (by rw [← hfr i hi]; exact hbi)
    · right
      rcases hg with ⟨rfl, _⟩ | h | ⟨t, rfl, ht⟩
      · cases hi
      · rcases h with rfl | rfl <;> cases hi
      · simp only [SK.isTok, beq_iff_eq] at hi
        subst hi
        rw [ht] at hbi
        cases hbi
        trivial
  · show (if _ then s.blk i else none) = _
    rw [if_pos (by simp [hi])]
    exact hfr i hi
  · show (if _ then s.blk t else none) = _
    rw [if_pos (by simp [ht, SK.isTok])]
end
end Go.PM
namespace Go.PM
open Go
section
variable {P : Program} {N : Nat} {k : List KI} {e : Env} {s : St} {rt : Env → St → Prop}
theorem Run.join {x : KI} (J : Env → St → Prop) (hj : ∀ e s, J e s → Run P N k e s rt) (h : (∀ e s, J e s → Run P N k e s rt) → Run P N (x :: k) e s rt) : Run P N (x :: k) e s rt := h hj
theorem AWP.env {c : Code} {e e' : Env} {Q : AQ} (he : ∀ i, Env.get e' i = e.get i ∨ Env.get e' i = .junk) (h : AWP P N c e' s Q) : AWP P N c e s Q :=
  fun ok g w a h1 h2 h3 h4 => h ok g w a h1 (h2.env he) h3 h4
theorem Run.prune {c : Code} {e' : Env} (l : List Nat) (he : Env.keep l e = e') (h : Run P N (.code c :: k) e' s rt) : Run P N (.code c :: k) e s rt := by
  subst he
  intro ok
  exact AWP.env (keep_get e l) (h ok)
end
end Go.PM
namespace Go.PM
open Go
def conff (ops : Array Oper) (ws : List Nat) (fr : Nat → Bool) (i j : Nat) (oi oj : Oper) : Bool :=
  (match oi.dst with | some d => oj.dst == some d || (slotsOf ops oj).contains d | none => false) ||
  (match oj.dst with | some d => (slotsOf ops oi).contains d | none => false) ||
  (ws.contains i && (!fr j || ws.contains j)) || (ws.contains j && (!fr i || ws.contains i))
def drawOKf (ops : Array Oper) (ws : List Nat) (fr : Nat → Bool) : Bool :=
  let ms := masks ops.toList []
  (List.range ops.size).all fun j => match ops[j]? with
    | none => false
    | some oj => (oj.after.toList.all fun e => !Region.binds .any e || decide (e.on < j)) &&
      (List.range j).all fun i => match ops[i]? with
        | none => false
        | some oi => !conff ops ws fr i j oi oj || (ms.getD j 0).testBit i
theorem lastW_lt {p l : Nat → Bool} : ∀ {n k : Nat}, lastW p l n = some k → k < n
  | 0, k, h => by simp [lastW] at h
  | n + 1, k, h => by
    unfold lastW at h
    split at h
    · cases h; omega
    · have := lastW_lt h; omega
theorem any_order_f {P : Program} {ops : Array Oper} {ws : List Nat} {N : Nat} {e0 : Env} {Q : Exit → Act → World → Prop} {V : Nat → PV} {S : Nat → St} {E : Nat → Env} {g0 : G} {w0 : World} {n : Nat} {fr : Nat → Bool}
    (hnsz : n ≤ ops.size) (hcut : ∀ i j, n ≤ j → j < ops.size → i < j → ((masks ops.toList []).getD j 0).testBit i = true) (hok : drawOKf ops ws fr = true) (hN : ∀ (i : Nat) (o : Oper), ops[i]? = some o → okOp N o = true)
    (hE0 : E 0 = e0) (hE : ∀ (i : Nat) (o : Oper), i < n → ops[i]? = some o → E (i + 1) = (E i).put o.dst (V i))
    (hS : ∀ (i : Nat) (o : Oper), i < n → ops[i]? = some o → i ∉ ws → S (i + 1) = S i)
    (hD : ∀ (i : Nat) (o : Oper), i < n → ops[i]? = some o → DOp P ops o (E i) (S i) (V i) (S (i + 1)))
    (hF : ∀ (i : Nat) (o : Oper), i < n → ops[i]? = some o → fr i = true → i ∉ ws → ∀ k, k ≤ n → DOp P ops o (E i) (S k) (V i) (S k))
    (hQ : ∀ g w (a : Act), Inv P g (S n) w → EnvOK g w (E n) a.tmps → Ext g0 w0 g w → a.defers = [] → a.tmps.size = N → wpOps P ops Q (List.range' n (ops.size - n)) a w) :
    ∀ (fuel : Nat) (listed : Array Bool) (g : G) (s : St) (w : World) (a : Act), listed.size = ops.size →
      ((List.range ops.size).filter fun k => !listed.getD k true).length ≤ fuel → DC ops (fun k => listed.getD k false = true) → (∀ k, n ≤ k → listed.getD k false = false) →
      Inv P g s w → Ext g0 w0 g w → a.defers = [] → a.tmps.size = N →
      (∀ j, R g w (match lastW (wslot ops j) (fun k => listed.getD k false) n with | none => e0.get j | some k => V k) (a.tmps.getD j undef)) →
      s = (match lastW (fun k => ws.contains k) (fun k => listed.getD k false) n with | none => S 0 | some k => S (k + 1)) →
      wpAny P .any ops Q fuel listed a w := by
  have hpair : ∀ (i j : Nat) (oi oj : Oper), i < j → ops[i]? = some oi → ops[j]? = some oj → conff ops ws fr i j oi oj = true → ((masks ops.toList []).getD j 0).testBit i = true := by
    intro i j oi oj hij h1 h2 hc
    unfold drawOKf at hok
    have := List.all_eq_true.1 hok j (List.mem_range.2 (Array.getElem?_eq_some_iff.1 h2).1)
    rw [h2] at this
    simp only [Bool.and_eq_true] at this
    have := List.all_eq_true.1 this.2 i (List.mem_range.2 hij)
    rw [h1] at this
    simp only [hc, Bool.not_true, Bool.false_or] at this
    exact this
  have hedge : ∀ (j : Nat) (oj : Oper), ops[j]? = some oj → ∀ e ∈ oj.after, Region.binds .any e = true → e.on < j := by
    intro j oj h2 e he hb
    unfold drawOKf at hok
    have := List.all_eq_true.1 hok j (List.mem_range.2 (Array.getElem?_eq_some_iff.1 h2).1)
    rw [h2] at this
    simp only [Bool.and_eq_true] at this
    have := List.all_eq_true.1 this.1 e (by simpa using he)
    simpa [hb] using this
  have hmask : ∀ (L : Nat → Prop), DC ops L → ∀ (k : Nat) (o : Oper), ops[k]? = some o → (∀ e ∈ o.after, Region.binds .any e = true → L e.on) → ∀ b, ((masks ops.toList []).getD k 0).testBit b = true → L b :=
    fun L hdc => masks_spec hdc ops.toList [] (by simp) (fun j o h => by simpa using h) (fun k o h => by simp at h)
  have hEget : ∀ i, i ≤ n → ∀ j, (E i).get j = (match lastW (wslot ops j) (fun _ => true) i with | none => e0.get j | some k => V k) := by
    intro i
    induction i with
    | zero => intro _ j; rw [hE0]; rfl
    | succ i ih =>
      intro hi j
      obtain ⟨o, ho⟩ : ∃ o, ops[i]? = some o := ⟨ops[i]'(by omega), by simp⟩
      rw [hE i o (by omega) ho]
      unfold lastW
      rw [wslot_eq ho, Bool.and_true]
      unfold writesSlot
      cases hd : o.dst with
      | none => simp only [Env.put]; rw [ih (by omega) j]; simp
      | some d =>
        simp only [Env.put, Env.get]
        by_cases hjd : j = d
        · subst hjd; simp
        · rw [if_neg hjd, ih (by omega) j]
          have : (some d == some j) = false := by simp; exact fun e => hjd e.symm
          rw [this]; simp
  have hSget : ∀ i, i ≤ n → S i = (match lastW (fun k => ws.contains k) (fun _ => true) i with | none => S 0 | some k => S (k + 1)) := by
    intro i
    induction i with
    | zero => intro _; rfl
    | succ i ih =>
      intro hi
      obtain ⟨o, ho⟩ : ∃ o, ops[i]? = some o := ⟨ops[i]'(by omega), by simp⟩
      unfold lastW
      by_cases hw : i ∈ ws
      · have : ws.contains i = true := by simpa using hw
        rw [this]; simp
      · have : ws.contains i = false := by simpa using hw
        rw [this, hS i o (by omega) ho hw, ih (by omega)]; simp
  intro fuel
  have fin : ∀ (fuel : Nat) (listed : Array Bool) (g : G) (s : St) (w : World) (a : Act), listed.size = ops.size →
      ((List.range ops.size).filter fun k => !listed.getD k true).length ≤ fuel → DC ops (fun k => listed.getD k false = true) → (∀ k, n ≤ k → listed.getD k false = false) →
      Inv P g s w → Ext g0 w0 g w → a.defers = [] → a.tmps.size = N →
      (∀ j, R g w (match lastW (wslot ops j) (fun k => listed.getD k false) n with | none => e0.get j | some k => V k) (a.tmps.getD j undef)) →
      s = (match lastW (fun k => ws.contains k) (fun k => listed.getD k false) n with | none => S 0 | some k => S (k + 1)) → (∀ k, k < n → listed.getD k false = true) →
      wpAny P .any ops Q fuel listed a w := by
    intro fuel listed g s w a hsz hcnt hdc hhi hI hX hd hn hslots hstore hall'
    refine tail_order (n := n) hcut hedge hmask (ops.size - n) fuel n listed a w (by omega) ?_ (Nat.le_refl _) ?_ hsz hdc ?_
    · refine Nat.le_trans ?_ hcnt
      have e1 : ((List.range ops.size).filter fun k => !listed.getD k true) = ((List.range ops.size).filter fun k => decide (n ≤ k)) := by
        apply List.filter_congr
        intro k hk
        have hk := List.mem_range.1 hk
        have h3 : listed.getD k true = listed.getD k false := by
          rw [Array.getD_eq_getD_getElem?, Array.getD_eq_getD_getElem?, Array.getElem?_eq_getElem (by omega)]; rfl
        rw [h3]
        by_cases hkn : k < n
        · rw [hall' k hkn]; simp; omega
        · rw [hhi k (by omega)]; simp; omega
      rw [e1]
      have e2 : ∀ m, ((List.range m).filter fun k => decide (n ≤ k)).length = m - n := by
        intro m
        induction m with
        | zero => simp
        | succ m ih =>
          rw [List.range_succ, List.filter_append, List.length_append, ih]
          by_cases h : n ≤ m
          · simp [h]; omega
          · simp [h]; omega
      rw [e2]; exact Nat.le_refl _
    · intro k
      by_cases hkn : k < n
      · rw [hall' k hkn]; simp [hkn]
      · rw [hhi k (by omega)]; simp [hkn]
    · refine hQ g w a ?_ ?_ hX hd hn
      · rw [hSget _ (Nat.le_refl _), ← lastW_congr (l := fun k => listed.getD k false) (fun k hk _ => hall' k hk), ← hstore]; exact hI
      · intro j
        rw [hEget _ (Nat.le_refl _) j, ← lastW_congr (l := fun k => listed.getD k false) (fun k hk _ => hall' k hk)]; exact hslots j
  induction fuel with
  | zero =>
    intro listed g s w a hsz hcnt hdc hhi hI hX hd hn hslots hstore
    refine fin 0 listed g s w a hsz hcnt hdc hhi hI hX hd hn hslots hstore ?_
    have hall : ∀ k, k < ops.size → listed.getD k true = true := by
      intro k hk
      have : (List.range ops.size).filter (fun k => !listed.getD k true) = [] := List.length_eq_zero_iff.1 (by omega)
      have := List.filter_eq_nil_iff.1 this k (List.mem_range.2 hk)
      simpa using this
    intro k hk
    have := hall k (by omega)
    rw [Array.getD_eq_getD_getElem?, Array.getElem?_eq_getElem (by omega)] at this ⊢
    exact this
  | succ fuel ih =>
    intro listed g s w a hsz hcnt hdc hhi hI hX hd hn hslots hstore
    by_cases hfull : ∀ k, k < n → listed.getD k false = true
    · exact fin _ listed g s w a hsz hcnt hdc hhi hI hX hd hn hslots hstore hfull
    refine ⟨?_, ?_⟩
    · intro hr
      exfalso
      apply hfull
      have hall : ∀ m k, k ≤ m → k < ops.size → listed.getD k false = true := by
        intro m
        induction m with
        | zero =>
          intro k hk hlt
          have : k = 0 := by omega
          subst this
          exact any_order.ready_all hr hedge hsz (fun i hi => by omega) hlt
        | succ m ihm =>
          intro k hk hlt
          exact any_order.ready_all hr hedge hsz (fun i hi => ihm i (by omega) (by omega)) hlt
      exact fun k hk => hall k k (Nat.le_refl _) (by omega)
    · intro i hi
      obtain ⟨h0, o, ho, hedges⟩ := mem_ready.1 hi
      have hlt := (Array.getElem?_eq_some_iff.1 ho).1
      have hnl : listed.getD i false = false := by
        rw [Array.getD_eq_getD_getElem?, Array.getElem?_eq_getElem (by omega)] at h0 ⊢
        exact h0
      have hanc := hmask _ hdc i o ho hedges
      have hin : i < n := by
        by_cases h : i < n
        · exact h
        · exfalso
          exact hfull fun k hk => hanc k (hcut k i (by omega) hlt (by omega))
      have before : ∀ (k : Nat) (ok : Oper), ops[k]? = some ok → k < i → conff ops ws fr k i ok o = true → listed.getD k false = true :=
        fun k ok hk hki hc => hanc k (hpair k i ok o hki hk ho hc)
      have behind : ∀ (k : Nat) (ok : Oper), ops[k]? = some ok → i < k → conff ops ws fr i k o ok = true → listed.getD k false = false := by
        intro k ok hk hki hc
        cases hlk : listed.getD k false with
        | false => rfl
        | true =>
          have this : listed.getD i false = true := hmask _ hdc k ok hk (hdc k ok hk hlk) i (hpair i k o ok hki ho hk hc)
          rw [hnl] at this; cases this
      have cell : ∀ p : Nat → Bool, (∀ (k : Nat) (ok : Oper), ops[k]? = some ok → k < i → p k = true → conff ops ws fr k i ok o = true) → (∀ (k : Nat) (ok : Oper), ops[k]? = some ok → i < k → p k = true → conff ops ws fr i k o ok = true) →
          lastW p (fun k => listed.getD k false) n = lastW p (fun _ => true) i ∧ ∀ k, i < k → k < n → (p k && listed.getD k false) = false := by
        intro p h1 h2
        have hb : ∀ k, i < k → k < n → (p k && listed.getD k false) = false := by
          intro k hk hkn
          cases hp : p k with
          | false => rfl
          | true =>
            obtain ⟨ok, hok'⟩ : ∃ o, ops[k]? = some o := ⟨ops[k]'(by omega), by simp⟩
            rw [behind k ok hok' hk (h2 k ok hok' hk hp)]; rfl
        refine ⟨?_, hb⟩
        rw [lastW_cut (i := i) (by omega) (fun k hk hkn => by
          by_cases e : k = i
          · subst e; rw [hnl]; simp
          · exact hb k (by omega) hkn)]
        refine lastW_congr fun k hk hp => ?_
        obtain ⟨ok, hok'⟩ : ∃ o, ops[k]? = some o := ⟨ops[k]'(by omega), by simp⟩
        exact before k ok hok' hk (h1 k ok hok' hk hp)
      have hsl : ∀ j ∈ slotsOf ops o, R g w ((E i).get j) (a.tmps.getD j undef) := by
        intro j hj
        have := (cell (wslot ops j) (by
          intro k ok hk hki hp
          rw [wslot_eq hk] at hp
          simp only [writesSlot, beq_iff_eq] at hp
          unfold conff
          rw [hp]
          simp [hj]
        ) (by
          intro k ok hk hki hp
          rw [wslot_eq hk] at hp
          simp only [writesSlot, beq_iff_eq] at hp
          unfold conff
          rw [hp]
          simp [hj]
        )).1
        have h3 := hslots j
        rw [this] at h3
        rw [hEget i (by omega) j]
        exact h3
      have rest : ∀ (s' : St) val w' g', s' = (match lastW (fun k => ws.contains k) (fun k => (listed.setIfInBounds i true).getD k false) n with | none => S 0 | some k => S (k + 1)) →
          Inv P g' s' w' → Ext g w g' w' → R g' w' (V i) val → wpAny P .any ops Q fuel (listed.setIfInBounds i true) (a.put o.dst val) w' := by
        intro s' val w' g' hs' hI' hX' hR'
        have hgd : ∀ k, (listed.setIfInBounds i true).getD k false = if k = i then true else listed.getD k false := by
          intro k
          by_cases e : k = i
          · subst e; rw [if_pos rfl]; simp [hsz, hlt]
          · rw [if_neg e]; exact getD_set_ne false (fun x => e x.symm)
        refine ih _ g' s' w' _ (by simpa using hsz) ?_ ?_ (fun k hk => by rw [hgd, if_neg (by omega)]; exact hhi k hk) hI' (hX.trans hX') (by rw [put_defers]; exact hd) (by rw [put_size]; exact hn) ?_ hs'
        · -- one less
          have hgt : ∀ k, (listed.setIfInBounds i true).getD k true = if k = i then true else listed.getD k true := by
            intro k
            by_cases e : k = i
            · subst e; rw [if_pos rfl]; simp [hsz, hlt]
            · rw [if_neg e]; exact getD_set_ne true (fun x => e x.symm)
          have hfil : (List.range ops.size).filter (fun k => !(listed.setIfInBounds i true).getD k true) = ((List.range ops.size).filter fun k => !listed.getD k true).filter (· != i) := by
            rw [List.filter_filter]
            apply List.filter_congr
            intro k _
            rw [hgt]
            by_cases e : k = i
            · subst e; simp
            · simp [e]
          rw [hfil, ← List.Nodup.erase_eq_filter (List.Pairwise.filter _ List.nodup_range)]
          have hmem : i ∈ (List.range ops.size).filter (fun k => !listed.getD k true) := by
            rw [List.mem_filter]
            exact ⟨List.mem_range.2 hlt, by rw [h0]; rfl⟩
          rw [List.length_erase_of_mem hmem]
          omega
        · intro k ok hk hlk e he hb
          show (listed.setIfInBounds i true).getD e.on false = true
          have hlk : (listed.setIfInBounds i true).getD k false = true := hlk
          rw [hgd] at hlk ⊢
          by_cases e1 : k = i
          · subst e1
            rw [ho] at hk; cases hk
            split
            · rfl
            · exact hedges e he hb
          · rw [if_neg e1] at hlk
            split
            · rfl
            · exact hdc k ok hk hlk e he hb
        · intro j
          have hokd := okOp_lt (hN i o ho)
          by_cases hw : writesSlot o j = true
          · have hdst : o.dst = some j := by simpa [writesSlot] using hw
            have := (cell (wslot ops j) (by
              intro k ok hk hki hp
              rw [wslot_eq hk] at hp
              simp only [writesSlot, beq_iff_eq] at hp
              unfold conff; rw [hp]; simp [hdst]) (by
              intro k ok hk hki hp
              rw [wslot_eq hk] at hp
              simp only [writesSlot, beq_iff_eq] at hp
              unfold conff; rw [hdst]; simp [hp])).2
            rw [lastW_at (i := i) hin (by rw [wslot_eq ho]; exact hw) (by rw [hgd]; simp) (fun k h1 h2 => by rw [hgd, if_neg (by omega)]; exact this k h1 h2)]
            simp only [Act.put, hdst]
            have hjN : j < a.tmps.size := by rw [hn]; exact hokd j hdst
            rw [Array.getD_eq_getD_getElem?, Array.getElem?_setIfInBounds]
            simp [hjN, hR']
          · have : lastW (wslot ops j) (fun k => (listed.setIfInBounds i true).getD k false) n = lastW (wslot ops j) (fun k => listed.getD k false) n := by
              refine lastW_congr fun k hk hp => ?_
              rw [hgd, if_neg]
              rintro rfl
              rw [wslot_eq ho] at hp
              exact hw hp
            rw [this]
            have h3 := R_ext hX' _ _ (hslots j)
            cases hdst : o.dst with
            | none => exact h3
            | some d =>
              have hjd : d ≠ j := by
                rintro rfl
                exact hw (by simp [writesSlot, hdst])
              simp only [Act.put]
              rw [Array.getD_eq_getD_getElem?, Array.getElem?_setIfInBounds, if_neg hjd, ← Array.getD_eq_getD_getElem?]
              exact h3
      have hgd' : ∀ k, (listed.setIfInBounds i true).getD k false = if k = i then true else listed.getD k false := by
        intro k
        by_cases e : k = i
        · subst e; rw [if_pos rfl]; simp [hsz, hlt]
        · rw [if_neg e]; exact getD_set_ne false (fun x => e x.symm)
      unfold wpOp
      rw [ho]
      simp only
      by_cases hfree : fr i = true ∧ i ∉ ws
      · -- whatever the store
        obtain ⟨kk, hkk, hsk⟩ : ∃ kk, kk ≤ n ∧ s = S kk := by
          rw [hstore]
          cases hlw : lastW (fun k => ws.contains k) (fun k => listed.getD k false) n with
          | none => exact ⟨0, Nat.zero_le _, rfl⟩
          | some k => exact ⟨k + 1, lastW_lt hlw, rfl⟩
        subst hsk
        refine hF i o hin ho hfree.1 hfree.2 kk hkk g w a hI hsl _ _ fun val w' g' k1 k2 k3 => rest (S kk) val w' g' ?_ k1 k2 k3
        rw [hstore]
        have : lastW (fun k => ws.contains k) (fun k => (listed.setIfInBounds i true).getD k false) n = lastW (fun k => ws.contains k) (fun k => listed.getD k false) n := by
          refine lastW_congr fun k hk hp => ?_
          rw [hgd', if_neg]
          rintro rfl
          exact hfree.2 (by simpa using hp)
        rw [this]
      · -- the store is as in the order of the text
        have htw : (!fr i) = true ∨ ws.contains i = true := by
          by_cases h1 : fr i = true
          · right
            have : ¬ (i ∉ ws) := fun h2 => hfree ⟨h1, h2⟩
            simpa using this
          · left; simpa using h1
        have hcs := cell (fun k => ws.contains k) (by
          intro k ok hk hki hp
          unfold conff
          rcases htw with h | h <;> simp only [hp, h, Bool.true_or, Bool.or_true, Bool.and_self]) (by
          intro k ok hk hki hp
          unfold conff
          rcases htw with h | h <;> simp only [hp, h, Bool.true_or, Bool.or_true, Bool.and_self])
        have hs : s = S i := by rw [hstore, hcs.1]; exact (hSget i (by omega)).symm
        subst hs
        refine hD i o hin ho g w a hI hsl _ _ fun val w' g' k1 k2 k3 => rest _ val w' g' ?_ k1 k2 k3
        by_cases hw : ws.contains i = true
        · rw [lastW_at (i := i) hin hw (by rw [hgd']; simp) (fun k h1 h2 => by rw [hgd', if_neg (by omega)]; exact hcs.2 k h1 h2)]
        · have hni : i ∉ ws := by simpa using hw
          have : lastW (fun k => ws.contains k) (fun k => (listed.setIfInBounds i true).getD k false) n = lastW (fun k => ws.contains k) (fun k => listed.getD k false) n := by
            refine lastW_congr fun k hk hp => ?_
            rw [hgd', if_neg]
            rintro rfl
            exact hni (by simpa using hp)
          rw [this, ← hstore]
          exact hS i o hin ho hni
inductive DetB (P : Program) (ops : Array Oper) (ws : List Nat) (σ : List St) : Nat → List Oper → Env → St → Env → St → Prop
  | nil {i e s} : s ∈ σ → DetB P ops ws σ i [] e s e s
  | cons {i o l e s v e' s'} : i ∉ ws → (∀ s ∈ σ, DOp P ops o e s v s) → s ∈ σ → DetB P ops ws σ (i + 1) l (e.put o.dst v) s e' s' → DetB P ops ws σ i (o :: l) e s e' s'
  | ef {i o l e s v s1 e' s'} : i ∈ ws → s ∈ σ → DOp P ops o e s v s1 → DetB P ops ws σ (i + 1) l (e.put o.dst v) s1 e' s' → DetB P ops ws σ i (o :: l) e s e' s'
section
variable {P : Program} {ops : Array Oper} {ws : List Nat} {σ : List St} {e e' : Env} {s s' s0 : St} {N : Nat} {k : List KI} {rt : Env → St → Prop}
def DetBC (P : Program) (ops : Array Oper) (ws : List Nat) (σ : List St) (i : Nat) (l : List Oper) (e : Env) (s : St) (K : Env → St → Prop) : Prop := ∃ e' s', DetB P ops ws σ i l e s e' s' ∧ K e' s'
theorem DetBC.nil {i : Nat} {K : Env → St → Prop} (hs : s ∈ σ) (h : K e s) : DetBC P ops ws σ i [] e s K := ⟨e, s, .nil hs, h⟩
def DopsB (P : Program) (ops : Array Oper) : List Oper → Env → St → List St → Env → Prop
  | [], e, _, _, e1 => e = e1
  | o :: l, e, s, σ, e1 => ∃ v, dop1 P ops o (Env.keep (slotsOf ops o) e) s = some v ∧ (∀ s ∈ σ, dop1 P ops o (Env.keep (slotsOf ops o) e) s = some v) ∧ DopsB P ops l (e.put o.dst v) s σ e1
theorem DetB.pre (hs : s ∈ σ) : ∀ {pre : List Oper} {l : List Oper} {i : Nat} {e e1 e' : Env}, (∀ a ∈ ws, a < i ∨ i + pre.length ≤ a) → DopsB P ops pre e s σ e1 → DetB P ops ws σ (i + pre.length) l e1 s e' s' → DetB P ops ws σ i (pre ++ l) e s e' s'
  | [], l, i, e, e1, e', _, h, hd => by cases h; exact hd
  | o :: pre, l, i, e, e1, e', hi, h, hd => by
    simp only [List.length_cons] at hi hd
    obtain ⟨v, hv, hv', h⟩ := h
    refine DetB.cons (fun hm => by have := hi i hm; omega) (fun s hs => dop1_op (hv' s hs)) hs ?_
    refine DetB.pre hs (fun a ha => by have := hi a ha; omega) h ?_
    rw [show i + 1 + pre.length = i + (pre.length + 1) by omega]
    exact hd
theorem DetBC.pre {pre l : List Oper} {i : Nat} {e1 : Env} {K : Env → St → Prop} (hi : ∀ a ∈ ws, a < i ∨ i + pre.length ≤ a) (hs : s ∈ σ) (h : DopsB P ops pre e s σ e1) (hd : DetBC P ops ws σ (i + pre.length) l e1 s K) : DetBC P ops ws σ i (pre ++ l) e s K := by
  obtain ⟨e', s', h1, h2⟩ := hd
  exact ⟨e', s', DetB.pre hs hi h h1, h2⟩
theorem DetBC.all {l : List Oper} {i : Nat} {e1 : Env} {K : Env → St → Prop} (hi : ∀ a ∈ ws, a < i ∨ i + l.length ≤ a) (hs : s ∈ σ) (h : DopsB P ops l e s σ e1) (hk : K e1 s) : DetBC P ops ws σ i l e s K := by
  have := DetBC.pre (P := P) (ops := ops) (l := []) hi hs h (DetBC.nil hs hk)
  simpa using this
theorem DOp.of_call {d : Option Nat} {c : Call} {t : TypeId} {pos : String} {af : Array Edge} {gd : Option (Nat × Bool)} {f : FuncId} {args args' : List PV} {v : PV} {s : St}
    (hg : guard? ops ⟨d, .call c, t, pos, af, gd⟩ (Env.keep (slotsOf ops ⟨d, .call c, t, pos, af, gd⟩) e) = some true)
    (ha : acall c (Env.keep (slotsOf ops ⟨d, .call c, t, pos, af, gd⟩) e) = some (f, args)) (hw : PV.weaks args = args') (hc : callable P f = true)
    (h : ACalls P f args' s fun r s1 => r = v ∧ s1 = s) : DOp P ops ⟨d, .call c, t, pos, af, gd⟩ e s v s := by
  subst hw
  intro g w a hI hsl K Q hk
  have hE := keep_ok hsl
  rw [guard_wanted hg hE]
  simp only [if_true]
  obtain ⟨vs, hrun, hra⟩ := acall_run (P := P) (o := ⟨d, .call c, t, pos, af, gd⟩) (a := a) rfl hE ha hc
  left
  unfold Oper.wp
  rw [hrun, Oper.upon_enter]
  refine (h g w vs hI (RA_weak _ _ hra)).mono ?_
  rintro e' w' ⟨v', g', r', s', rfl, hI', hR', hX', rfl, rfl⟩
  exact hk _ _ _ hI' hX' hR'
theorem DetBC.call {d : Option Nat} {c : Call} {t : TypeId} {pos : String} {af : Array Edge} {gd : Option (Nat × Bool)} {l : List Oper} {i : Nat} {f : FuncId} {args args' : List PV} {v : PV} {K : Env → St → Prop} (hi : ws.contains i = false)
    (hg : guard? ops ⟨d, .call c, t, pos, af, gd⟩ (Env.keep (slotsOf ops ⟨d, .call c, t, pos, af, gd⟩) e) = some true)
    (ha : acall c (Env.keep (slotsOf ops ⟨d, .call c, t, pos, af, gd⟩) e) = some (f, args)) (hw : PV.weaks args = args') (hc : callable P f = true)
    (hs : s ∈ σ) (h : ∀ s ∈ σ, ACalls P f args' s fun r s2 => r = v ∧ s2 = s) (hd : DetBC P ops ws σ (i + 1) l (e.put d v) s K) : DetBC P ops ws σ i (⟨d, .call c, t, pos, af, gd⟩ :: l) e s K := by
  obtain ⟨e', s', h1, h2⟩ := hd
  exact ⟨e', s', DetB.cons (by simpa using hi) (fun s hs => DOp.of_call hg ha hw hc (h s hs)) hs h1, h2⟩
theorem DetBC.eff {o : Oper} {l : List Oper} {i : Nat} {v : PV} {s1 : St} {K : Env → St → Prop} (hi : ws.contains i = true) (hs : s ∈ σ) (hg : guard? ops o (Env.keep (slotsOf ops o) e) = some true)
    (ha : acore P o.op (ev (Env.keep (slotsOf ops o) e)) s = some (v, s1)) (hd : DetBC P ops ws σ (i + 1) l (e.put o.dst v) s1 K) : DetBC P ops ws σ i (o :: l) e s K := by
  obtain ⟨e', s', h1, h2⟩ := hd
  exact ⟨e', s', DetB.ef (by simpa using hi) hs (DOp.of_effect hg fun g w a hI hE => acore_run hI (fun x => ev_R hE x) ha) h1, h2⟩
theorem DetBC.callE {d : Option Nat} {c : Call} {t : TypeId} {pos : String} {af : Array Edge} {gd : Option (Nat × Bool)} {l : List Oper} {i : Nat} {f : FuncId} {args args' : List PV} {v : PV} {s1 : St} {K : Env → St → Prop} (hi : ws.contains i = true) (hs : s ∈ σ)
    (hg : guard? ops ⟨d, .call c, t, pos, af, gd⟩ (Env.keep (slotsOf ops ⟨d, .call c, t, pos, af, gd⟩) e) = some true)
    (ha : acall c (Env.keep (slotsOf ops ⟨d, .call c, t, pos, af, gd⟩) e) = some (f, args)) (hw : PV.weaks args = args') (hc : callable P f = true)
    (h : ACalls P f args' s fun r s2 => r = v ∧ s2 = s1) (hd : DetBC P ops ws σ (i + 1) l (e.put d v) s1 K) : DetBC P ops ws σ i (⟨d, .call c, t, pos, af, gd⟩ :: l) e s K := by
  obtain ⟨e', s', h1, h2⟩ := hd
  refine ⟨e', s', DetB.ef (v := v) (s1 := s1) (by simpa using hi) hs ?_ h1, h2⟩
  subst hw
  intro g w a hI hsl K Q hk
  have hE := keep_ok hsl
  rw [guard_wanted hg hE]
  simp only [if_true]
  obtain ⟨vs, hrun, hra⟩ := acall_run (P := P) (o := ⟨d, .call c, t, pos, af, gd⟩) (a := a) rfl hE ha hc
  left
  unfold Oper.wp
  rw [hrun, Oper.upon_enter]
  refine (h g w vs hI (RA_weak _ _ hra)).mono ?_
  rintro e' w' ⟨v', g', r', s', rfl, hI', hR', hX', rfl, rfl⟩
  exact hk _ _ _ hI' hX' hR'
theorem DetB.lists : ∀ {i l e s e' s'}, DetB P ops ws σ i l e s e' s' → (∀ j (o : Oper), l[j]? = some o → ops[i + j]? = some o) →
    ∃ (V : Nat → PV) (S : Nat → St) (E : Nat → Env), E i = e ∧ S i = s ∧ E (i + l.length) = e' ∧ S (i + l.length) = s' ∧ (∀ k, i ≤ k → k ≤ i + l.length → S k ∈ σ) ∧ ∀ k (o : Oper), i ≤ k → k < i + l.length → ops[k]? = some o →
      E (k + 1) = (E k).put o.dst (V k) ∧ (k ∉ ws → S (k + 1) = S k ∧ ∀ s ∈ σ, DOp P ops o (E k) s (V k) s) ∧ DOp P ops o (E k) (S k) (V k) (S (k + 1)) := by
  intro i l e s e' s' h
  induction h with
  | nil hs =>
    rename_i i e s
    intro hl
    refine ⟨fun _ => .junk, fun _ => s, fun _ => e, rfl, rfl, rfl, rfl, fun k _ _ => hs, fun k o hk hk2 ho => ?_⟩
    simp at hk2; omega
  | cons hne h1 hs hd ih =>
    rename_i i o l e s v e' s'
    intro hl
    obtain ⟨V, S, E, a1, a2, a3, a4, a6, a5⟩ := ih (fun j o' => by
      have := hl (j + 1) o'
      rw [show i + 1 + j = i + (j + 1) by omega]
      simpa using this)
    have h0 : ops[i]? = some o := by have := (hl 0 o) (by simp); simpa using this
    refine ⟨fun k => if k = i then v else V k, fun k => if k = i then s else S k, fun k => if k = i then e else E k, if_pos rfl, if_pos rfl, ?_, ?_, ?_, ?_⟩
    · show (if i + (o :: l).length = i then e else E (i + (o :: l).length)) = e'
      rw [List.length_cons, if_neg (by omega), show i + (l.length + 1) = i + 1 + l.length by omega]; exact a3
    · show (if i + (o :: l).length = i then s else S (i + (o :: l).length)) = s'
      rw [List.length_cons, if_neg (by omega), show i + (l.length + 1) = i + 1 + l.length by omega]; exact a4
    · intro k hk hk2
      simp only [List.length_cons] at hk2
      by_cases e1 : k = i
      · simp only [e1, if_true]; exact hs
      · simp only [e1, if_false]; exact a6 k (by omega) (by omega)
    · intro k o' hk hk2 ho'
      by_cases e1 : k = i
      · subst e1
        rw [h0] at ho'; cases ho'
        simp only [if_true, show ¬ (k + 1 = k) by omega, if_false]
        rw [a1, a2]
        exact ⟨rfl, fun _ => ⟨rfl, h1⟩, h1 _ hs⟩
      · simp only [e1, show ¬ (k + 1 = i) by omega, if_false]
        exact a5 k o' (by omega) (by simp only [List.length_cons] at hk2; omega) ho'
  | ef hin hs h1 hd ih =>
    rename_i i o l e s v s1 e' s'
    intro hl
    obtain ⟨V, S, E, a1, a2, a3, a4, a6, a5⟩ := ih (fun j o' => by
      have := hl (j + 1) o'
      rw [show i + 1 + j = i + (j + 1) by omega]
      simpa using this)
    have h0 : ops[i]? = some o := by have := (hl 0 o) (by simp); simpa using this
    refine ⟨fun k => if k = i then v else V k, fun k => if k = i then s else S k, fun k => if k = i then e else E k, if_pos rfl, if_pos rfl, ?_, ?_, ?_, ?_⟩
    · show (if i + (o :: l).length = i then e else E (i + (o :: l).length)) = e'
      rw [List.length_cons, if_neg (by omega), show i + (l.length + 1) = i + 1 + l.length by omega]; exact a3
    · show (if i + (o :: l).length = i then s else S (i + (o :: l).length)) = s'
      rw [List.length_cons, if_neg (by omega), show i + (l.length + 1) = i + 1 + l.length by omega]; exact a4
    · intro k hk hk2
      simp only [List.length_cons] at hk2
      by_cases e1 : k = i
      · simp only [e1, if_true]; exact hs
      · simp only [e1, if_false]; exact a6 k (by omega) (by omega)
    · intro k o' hk hk2 ho'
      by_cases e1 : k = i
      · subst e1
        rw [h0] at ho'; cases ho'
        simp only [if_true, show ¬ (k + 1 = k) by omega, if_false]
        rw [a1, a2]
        exact ⟨rfl, fun e => absurd hin e, h1⟩
      · simp only [e1, show ¬ (k + 1 = i) by omega, if_false]
        exact a5 k o' (by omega) (by simp only [List.length_cons] at hk2; omega) ho'
theorem Run.drawM {id : Nat} (n : Nat) (ws : List Nat) (σ : List St) (hm : P.follows .mixedOrders = true) (hs : drawOKf ops ws (fun _ => true) = true) (hc : cutOK ops n = true)
    (hd : DetBC P ops ws σ 0 (ops.toList.take n) e s0 (fun e' s' => RunO P N ops (ops.toList.drop n) k e' s' rt)) : Run P N (.code (.region id ops true) :: k) e s0 rt := by
  obtain ⟨e', s', hd, h⟩ := hd
  intro ok
  simp only [okK, okC, Bool.and_eq_true] at ok
  intro _ g w ac hI hE hdf hN
  obtain ⟨V, S, E, a1, a2, a3, a4, a6, a5⟩ := hd.lists (fun j o ho => by
    rw [List.getElem?_take] at ho
    split at ho
    · simpa using ho
    · cases ho)
  have hlen : (ops.toList.take n).length = min n ops.size := by simp
  simp only [Nat.zero_add, hlen] at a3 a4 a5 a6
  have hmin : min n ops.size ≤ ops.size := Nat.min_le_right _ _
  refine wp_region_any hm ?_
  obtain ⟨hI1, hX1⟩ := drew_step hI (w.drawn + 1)
  have hrepl : ∀ k, (Array.replicate ops.size false).getD k false = false := by
    intro k
    rw [Array.getD_eq_getD_getElem?]
    cases hx : (Array.replicate ops.size false)[k]? with
    | none => rfl
    | some b => have := Array.mem_of_getElem? hx; simp at this; rw [this.2]; rfl
  have hnone : ∀ (p : Nat → Bool) (n : Nat), lastW p (fun k => (Array.replicate ops.size false).getD k false) n = none := by
    intro p n
    induction n with
    | zero => rfl
    | succ n ih => unfold lastW; rw [hrepl, ih]; simp
  have hcut : ∀ i j, min n ops.size ≤ j → j < ops.size → i < j → ((masks ops.toList []).getD j 0).testBit i = true :=
    fun i j h1 h2 h3 => cutOK_spec hc i j (by omega) h2 h3
  refine any_order_f (ws := ws) (N := N) (e0 := e) (V := V) (S := S) (E := E) (g0 := g) (w0 := w) (n := min n ops.size) (fr := fun _ => true) hmin hcut hs ?_ a1 (fun i o hi ho => (a5 i o (Nat.zero_le _) hi ho).1)
    (fun i o hi ho hne => ((a5 i o (Nat.zero_le _) hi ho).2.1 hne).1) (fun i o hi ho => (a5 i o (Nat.zero_le _) hi ho).2.2)
    (fun i o hi ho _ hne k hk => ((a5 i o (Nat.zero_le _) hi ho).2.1 hne).2 _ (a6 k (Nat.zero_le _) hk)) ?_ ops.size _ g s0 _ ac (by simp) ?_ ?_ (fun k _ => hrepl k) hI1 hX1 hdf hN ?_ ?_
  · intro i o ho
    exact List.all_eq_true.1 ok.1 o (by simpa using Array.mem_of_getElem? ho)
  · intro g' w' a' k1 k2 k3 k4 k5
    rw [a4] at k1
    rw [a3] at k2
    refine RunO.eff.wpOps_mono' (fun _ _ _ => Lift.trans k3) (h ?_ ok.2 _ ?_ g' w' a' k1 k2 k4 k5)
    · refine List.all_eq_true.2 fun o ho => List.all_eq_true.1 ok.1 o (List.mem_of_mem_drop ho)
    · apply List.ext_getElem?
      intro i
      simp only [List.getElem?_map, List.getElem?_drop, List.getElem?_range', Array.getElem?_toList]
      by_cases hi : i < ops.size - min n ops.size
      · rw [List.getElem?_range' hi]
        have : min n ops.size + 1 * i = n + i := by omega
        simp only [Option.map_some, this, Nat.add_comm]
        rw [Array.getElem?_eq_getElem (by omega)]
        rfl
      · rw [List.getElem?_eq_none (by simp; omega), Array.getElem?_eq_none (by omega)]
        rfl
  · refine Nat.le_trans (List.length_filter_le _ _) (by simp)
  · intro k o ho hk
    have hk : (Array.replicate ops.size false).getD k false = true := hk
    rw [hrepl] at hk; cases hk
  · intro j
    rw [hnone]
    exact R_ext hX1 _ _ (hE j)
  · rw [hnone]; exact a2.symm
theorem Run.drawNew {id : Nat} (n a b : Nat) (t : TypeId) (z z' : PV) (hm : P.follows .mixedOrders = true) (hs : drawOKf ops [a, b] (fun _ => true) = true) (hc : cutOK ops n = true)
    (hd : DetBC P ops [a, b] [s0, s0.new (.row t [z]), (s0.new (.row t [z])).set s0.nxt (some (.row t [z']))] 0 (ops.toList.take n) e s0 (fun e' s' => RunO P N ops (ops.toList.drop n) k e' s' rt)) : Run P N (.code (.region id ops true) :: k) e s0 rt :=
  Run.drawM n _ _ hm hs hc hd
theorem in1 {a b c : St} : a ∈ [a, b, c] := by simp
theorem in2 {a b c : St} : b ∈ [a, b, c] := by simp
theorem in3 {a b c : St} : c ∈ [a, b, c] := by simp
theorem forall_mem3 {a b c : St} {p : St → Prop} : (∀ s ∈ [a, b, c], p s) ↔ p a ∧ p b ∧ p c := by simp
structure Fr (s s' : St) : Prop where
  wf : s'.wf
  nxt : s.nxt ≤ s'.nxt
  blk : ∀ i, i < s.nxt → s'.blk i = s.blk i
theorem Fr.refl {s : St} (h : s.wf) : Fr s s := ⟨h, Nat.le_refl _, fun _ _ => rfl⟩
theorem Fr.trans {a b c : St} (h : Fr a b) (k : Fr b c) : Fr a c := ⟨k.wf, Nat.le_trans h.nxt k.nxt, fun i hi => by rw [k.blk i (Nat.lt_of_lt_of_le hi h.nxt), h.blk i hi]⟩
theorem Fr.new {s s' : St} (h : Fr s s') (b : Blk) : Fr s (s'.new b) :=
  ⟨new_wf h.wf b, Nat.le_trans h.nxt (Nat.le_succ _), fun i hi => by
    show (if i = s'.nxt then some b else s'.blk i) = s.blk i
    rw [if_neg (by have := h.nxt; omega), h.blk i hi]⟩
theorem Fr.set {s s' : St} (h : Fr s s') {id : Nat} (h1 : s.nxt ≤ id) (h2 : id < s'.nxt) (b : Option Blk) : Fr s (s'.set id b) :=
  ⟨fun i hi => by
    have hi : s'.nxt ≤ i := hi
    show (if i = id then b else s'.blk i) = none
    rw [if_neg (by omega)]; exact h.wf i hi, h.nxt, fun i hi => by
    show (if i = id then b else s'.blk i) = s.blk i
    rw [if_neg (by omega), h.blk i hi]⟩
theorem Fr.lt {s s' : St} (h : Fr s s') {i : Nat} {b : Blk} (hb : s.blk i = some b) (hwf : s.wf) : s'.blk i = some b := by
  rw [h.blk i ?_, hb]
  rcases Nat.lt_or_ge i s.nxt with k | k
  · exact k
  · rw [hwf i k] at hb; cases hb
theorem Fr.newset {s s' : St} (h : Fr s s') {id : Nat} (b : Blk) (b' : Option Blk) (hid : id = s'.nxt) : Fr s ((s'.new b).set id b') := by
  subst hid
  exact (h.new b).set h.nxt (Nat.lt_succ_self _) b'
theorem ACalls.unk1 {P : Program} {f : FuncId} {els rest : List PV} {s : St} {Q : PV → St → Prop} (h1 : els = [] → ACalls P f (.sl .nil [] :: rest) s Q) (h2 : ACalls P f (.sl .any els :: rest) s Q) : ACalls P f (.sl .unk els :: rest) s Q := by
  intro g w vs hI hR
  simp only [RA] at hR
  obtain ⟨v, r, hv, hx, hr⟩ := hR
  rcases R_unk.1 hx with hx | hx
  · have he := (R_nil.1 hx).2
    subst he
    exact h1 rfl g w vs hI (by simp only [RA]; exact ⟨v, r, hv, hx, hr⟩)
  · exact h2 g w vs hI (by simp only [RA]; exact ⟨v, r, hv, hx, hr⟩)
theorem Fr.tm {a s s' : St} {k k' : SK} (h : Fr a s) (m : TMoves s s' k k') (hk : ∀ t z, k = .tok t z → a.nxt ≤ t) : Fr a s' :=
  ⟨m.wf h.wf, Nat.le_trans h.nxt m.nxt, fun i hi => by rw [m.rest i (Nat.lt_of_lt_of_le hi h.nxt) (fun z e => by have := hk i z e; omega), h.blk i hi]⟩
theorem Ret.pureK {P : Program} {fn : Func} {args : List PV} {s0 : St} {Q : PV → St → Prop} {e : Env} {s : St} {r : PV} (hr : retv P fn.results.toList e s = some r) (hb : r.blw s0.nxt) (hwf : s0.wf) (hk : ∀ i, i < s0.nxt → s.blk i = s0.blk i) (h : Q r s0) : Ret P fn args s0 Q e s := by
  have e1 : s.keep s0.nxt (fun i => decide (i < s0.nxt)) = s0 := by
    cases s0 with
    | mk n f =>
      simp only [St.keep, St.mk.injEq, true_and]
      funext i
      by_cases hi : i < n
      · simp only [hi, decide_true, if_true]; exact hk i hi
      · simp only [hi, decide_false, Bool.false_eq_true, if_false]
        exact (hwf i (by simp only; omega)).symm
  refine ⟨r, hr, r, s.keep s0.nxt (fun i => decide (i < s0.nxt)), by rw [e1]; exact h, fun g0 w0 g w hI0 hX hI v hv => ⟨g.keep s0.nxt _, keep_inv hI s0.nxt _ (fun i hi _ => of_decide_eq_true hi) ?_, R_sub (keep_sub g s0.nxt _) _ _ hb hv, keep_ext0 hX s0.nxt (by rw [hI0.nxt]; exact Nat.le_refl _) _⟩⟩
  intro i b hi hbi
  rw [hk i (of_decide_eq_true hi)] at hbi
  exact hI0.blw hbi
structure Kp (s s' : St) (l : List (Nat × Blk)) : Prop where
  fr : Fr s s'
  all : ∀ p ∈ l, p.1 < s'.nxt ∧ s'.blk p.1 = some p.2
theorem Kp.nil {s s' : St} (h : Fr s s') : Kp s s' [] := ⟨h, fun p hp => by cases hp⟩
theorem Kp.new {s s' : St} {l : List (Nat × Blk)} (h : Kp s s' l) (b : Blk) : Kp s (s'.new b) l :=
  ⟨h.fr.new b, fun p hp => by
    have := h.all p hp
    exact ⟨Nat.lt_succ_of_lt this.1, by rw [show (s'.new b).blk p.1 = if p.1 = s'.nxt then some b else s'.blk p.1 from rfl, if_neg (by omega)]; exact this.2⟩⟩
theorem Kp.push {s s' : St} {l : List (Nat × Blk)} (h : Kp s s' l) (b : Blk) : Kp s (s'.new b) ((s'.nxt, b) :: l) :=
  ⟨h.fr.new b, fun p hp => by
    rcases List.mem_cons.1 hp with rfl | hp
    · exact ⟨Nat.lt_succ_self _, if_pos rfl⟩
    · exact (h.new b).all p hp⟩
theorem Kp.newset {s s' : St} {l : List (Nat × Blk)} (h : Kp s s' l) {id : Nat} (b : Blk) (b' : Option Blk) (hid : id = s'.nxt) : Kp s ((s'.new b).set id b') l :=
  ⟨h.fr.newset b b' hid, fun p hp => by
    have h1 := h.all p hp
    have h2 := (h.new b).all p hp
    refine ⟨h2.1, ?_⟩
    show (if p.1 = id then b' else (s'.new b).blk p.1) = _
    rw [if_neg (by omega)]; exact h2.2⟩
theorem Kp.pushset {s s' : St} {l : List (Nat × Blk)} (h : Kp s s' l) {id : Nat} (b b' : Blk) (hid : id = s'.nxt) : Kp s ((s'.new b).set id (some b')) ((id, b') :: l) :=
  ⟨h.fr.newset b (some b') hid, fun p hp => by
    rcases List.mem_cons.1 hp with rfl | hp
    · exact ⟨by show id < s'.nxt + 1; omega, if_pos rfl⟩
    · exact (h.newset b (some b') hid).all p hp⟩
theorem Kp.setset {s s' : St} {l : List (Nat × Blk)} {id : Nat} {b b' : Blk} (h : Kp s s' ((id, b) :: l)) (hd : ∀ p ∈ l, p.1 ≠ id) (hlo : s.nxt ≤ id) : Kp s (s'.set id (some b')) ((id, b') :: l) := by
  have h0 := h.all _ (List.mem_cons_self)
  refine ⟨h.fr.set hlo h0.1 _, fun p hp => ?_⟩
  rcases List.mem_cons.1 hp with rfl | hp
  · exact ⟨h0.1, if_pos rfl⟩
  · have := h.all p (List.mem_cons_of_mem _ hp)
    refine ⟨this.1, ?_⟩
    show (if p.1 = id then some b' else s'.blk p.1) = _
    rw [if_neg (hd p hp)]; exact this.2
theorem Kp.tl {s s' : St} {p : Nat × Blk} {l : List (Nat × Blk)} (h : Kp s s' (p :: l)) : Kp s s' l := ⟨h.fr, fun q hq => h.all q (List.mem_cons_of_mem _ hq)⟩
theorem Kp.hd {s s' : St} {p : Nat × Blk} {l : List (Nat × Blk)} (h : Kp s s' (p :: l)) : s'.blk p.1 = some p.2 := (h.all p List.mem_cons_self).2
theorem Kp.lt {s s' : St} {p : Nat × Blk} {l : List (Nat × Blk)} (h : Kp s s' (p :: l)) : p.1 < s'.nxt := (h.all p List.mem_cons_self).1
theorem Kp.ne {s s' : St} {p : Nat × Blk} {l : List (Nat × Blk)} (h : Kp s s' (p :: l)) (n : Nat) : (p.1 = s'.nxt + n) = False := eq_false (by have := h.lt; omega)
theorem St.set_self {s : St} {i : Nat} {b : Option Blk} (h : s.blk i = b) : s.set i b = s := by
  cases s with
  | mk n f =>
    simp only [St.set, St.mk.injEq, true_and]
    funext k
    by_cases hk : k = i
    · subst hk; rw [if_pos rfl]; exact h.symm
    · rw [if_neg hk]
theorem Kp.setbase {s s' : St} {l : List (Nat × Blk)} {i : Nat} {b : Option Blk} (h : Kp (s.set i b) s' l) (hi : i < s.nxt) (hd : ∀ p ∈ l, p.1 ≠ i) (b' : Option Blk) : Kp (s.set i b') (s'.set i b') l := by
  have hn : s.nxt ≤ s'.nxt := h.fr.nxt
  refine ⟨⟨fun j hj => ?_, hn, fun j hj => ?_⟩, fun p hp => ⟨(h.all p hp).1, ?_⟩⟩
  · have hj : s'.nxt ≤ j := hj
    show (if j = i then b' else s'.blk j) = none
    rw [if_neg (by omega)]; exact h.fr.wf j hj
  · show (if j = i then b' else s'.blk j) = if j = i then b' else s.blk j
    split
    · rfl
    · rename_i hji
      have := h.fr.blk j hj
      rw [this]
      show (if j = i then b else s.blk j) = s.blk j
      rw [if_neg hji]
  · show (if p.1 = i then b' else s'.blk p.1) = _
    rw [if_neg (hd p hp)]; exact (h.all p hp).2
theorem lt_blk {s : St} (hwf : s.wf) {i : Nat} {b : Blk} (h : s.blk i = some b) : i < s.nxt := by
  rcases Nat.lt_or_ge i s.nxt with k | k
  · exact k
  · rw [hwf i k] at h; cases h
theorem forall_mem_nil' {p : St → Prop} : (∀ s ∈ ([] : List St), p s) ↔ True := by simp
attribute [go_sem] Array.toList_append Option.toArray_none Option.toArray_some DopsB exists_eq_left' List.forall_mem_cons forall_mem_nil'
end
end Go.PM
namespace Go.PM
open Go
theorem any_order_g {P : Program} {ops : Array Oper} {ws : List Nat} {N : Nat} {e0 : Env} {Q : Exit → Act → World → Prop} {V : Nat → PV} {S : Nat → St} {E : Nat → Env} {g0 : G} {w0 : World} {n : Nat} {al : Nat} {Gf : St → St}
    (hnsz : n ≤ ops.size) (hcut : ∀ i j, n ≤ j → j < ops.size → i < j → ((masks ops.toList []).getD j 0).testBit i = true) (hok : drawOKf ops ws (fun _ => true) = true) (hal : al < n) (haw : al ∉ ws) (hN : ∀ (i : Nat) (o : Oper), ops[i]? = some o → okOp N o = true)
    (hE0 : E 0 = e0) (hE : ∀ (i : Nat) (o : Oper), i < n → ops[i]? = some o → E (i + 1) = (E i).put o.dst (V i))
    (hS : ∀ (i : Nat) (o : Oper), i < n → ops[i]? = some o → i ∉ ws → S (i + 1) = S i)
    (hD : ∀ (i : Nat) (o : Oper), i < n → ops[i]? = some o → i ∈ ws → (((masks ops.toList []).getD i 0).testBit al = false → DOp P ops o (E i) (S i) (V i) (S (i + 1))) ∧ DOp P ops o (E i) (Gf (S i)) (V i) (Gf (S (i + 1))))
    (hF : ∀ (i : Nat) (o : Oper), i < n → ops[i]? = some o → i ∉ ws → i ≠ al → ∀ k, k ≤ n → DOp P ops o (E i) (S k) (V i) (S k) ∧ DOp P ops o (E i) (Gf (S k)) (V i) (Gf (S k)))
    (hA : ∀ (o : Oper), ops[al]? = some o → ∀ k, k ≤ n → DOp P ops o (E al) (S k) (V al) (Gf (S k)))
    (hQ : ∀ g w (a : Act), Inv P g (Gf (S n)) w → EnvOK g w (E n) a.tmps → Ext g0 w0 g w → a.defers = [] → a.tmps.size = N → wpOps P ops Q (List.range' n (ops.size - n)) a w) :
    ∀ (fuel : Nat) (listed : Array Bool) (g : G) (s : St) (w : World) (a : Act), listed.size = ops.size →
      ((List.range ops.size).filter fun k => !listed.getD k true).length ≤ fuel → DC ops (fun k => listed.getD k false = true) → (∀ k, n ≤ k → listed.getD k false = false) →
      Inv P g s w → Ext g0 w0 g w → a.defers = [] → a.tmps.size = N →
      (∀ j, R g w (match lastW (wslot ops j) (fun k => listed.getD k false) n with | none => e0.get j | some k => V k) (a.tmps.getD j undef)) →
      s = (if listed.getD al false = true then Gf (match lastW (fun k => ws.contains k) (fun k => listed.getD k false) n with | none => S 0 | some k => S (k + 1)) else (match lastW (fun k => ws.contains k) (fun k => listed.getD k false) n with | none => S 0 | some k => S (k + 1))) →
      wpAny P .any ops Q fuel listed a w := by
  have hpair : ∀ (i j : Nat) (oi oj : Oper), i < j → ops[i]? = some oi → ops[j]? = some oj → conff ops ws (fun _ => true) i j oi oj = true → ((masks ops.toList []).getD j 0).testBit i = true := by
    intro i j oi oj hij h1 h2 hc
    unfold drawOKf at hok
    have := List.all_eq_true.1 hok j (List.mem_range.2 (Array.getElem?_eq_some_iff.1 h2).1)
    rw [h2] at this
    simp only [Bool.and_eq_true] at this
    have := List.all_eq_true.1 this.2 i (List.mem_range.2 hij)
    rw [h1] at this
    simp only [hc, Bool.not_true, Bool.false_or] at this
    exact this
  have hedge : ∀ (j : Nat) (oj : Oper), ops[j]? = some oj → ∀ e ∈ oj.after, Region.binds .any e = true → e.on < j := by
    intro j oj h2 e he hb
    unfold drawOKf at hok
    have := List.all_eq_true.1 hok j (List.mem_range.2 (Array.getElem?_eq_some_iff.1 h2).1)
    rw [h2] at this
    simp only [Bool.and_eq_true] at this
    have := List.all_eq_true.1 this.1 e (by simpa using he)
    simpa [hb] using this
  have hmask : ∀ (L : Nat → Prop), DC ops L → ∀ (k : Nat) (o : Oper), ops[k]? = some o → (∀ e ∈ o.after, Region.binds .any e = true → L e.on) → ∀ b, ((masks ops.toList []).getD k 0).testBit b = true → L b :=
    fun L hdc => masks_spec hdc ops.toList [] (by simp) (fun j o h => by simpa using h) (fun k o h => by simp at h)
  have hEget : ∀ i, i ≤ n → ∀ j, (E i).get j = (match lastW (wslot ops j) (fun _ => true) i with | none => e0.get j | some k => V k) := by
    intro i
    induction i with
    | zero => intro _ j; rw [hE0]; rfl
    | succ i ih =>
      intro hi j
      obtain ⟨o, ho⟩ : ∃ o, ops[i]? = some o := ⟨ops[i]'(by omega), by simp⟩
      rw [hE i o (by omega) ho]
      unfold lastW
      rw [wslot_eq ho, Bool.and_true]
      unfold writesSlot
      cases hd : o.dst with
      | none => simp only [Env.put]; rw [ih (by omega) j]; simp
      | some d =>
        simp only [Env.put, Env.get]
        by_cases hjd : j = d
        · subst hjd; simp
        · rw [if_neg hjd, ih (by omega) j]
          have : (some d == some j) = false := by simp; exact fun e => hjd e.symm
          rw [this]; simp
  have hSget : ∀ i, i ≤ n → S i = (match lastW (fun k => ws.contains k) (fun _ => true) i with | none => S 0 | some k => S (k + 1)) := by
    intro i
    induction i with
    | zero => intro _; rfl
    | succ i ih =>
      intro hi
      obtain ⟨o, ho⟩ : ∃ o, ops[i]? = some o := ⟨ops[i]'(by omega), by simp⟩
      unfold lastW
      by_cases hw : i ∈ ws
      · have : ws.contains i = true := by simpa using hw
        rw [this]; simp
      · have : ws.contains i = false := by simpa using hw
        rw [this, hS i o (by omega) ho hw, ih (by omega)]; simp
  intro fuel
  have fin : ∀ (fuel : Nat) (listed : Array Bool) (g : G) (s : St) (w : World) (a : Act), listed.size = ops.size →
      ((List.range ops.size).filter fun k => !listed.getD k true).length ≤ fuel → DC ops (fun k => listed.getD k false = true) → (∀ k, n ≤ k → listed.getD k false = false) →
      Inv P g s w → Ext g0 w0 g w → a.defers = [] → a.tmps.size = N →
      (∀ j, R g w (match lastW (wslot ops j) (fun k => listed.getD k false) n with | none => e0.get j | some k => V k) (a.tmps.getD j undef)) →
      s = (if listed.getD al false = true then Gf (match lastW (fun k => ws.contains k) (fun k => listed.getD k false) n with | none => S 0 | some k => S (k + 1)) else (match lastW (fun k => ws.contains k) (fun k => listed.getD k false) n with | none => S 0 | some k => S (k + 1))) → (∀ k, k < n → listed.getD k false = true) →
      wpAny P .any ops Q fuel listed a w := by
    intro fuel listed g s w a hsz hcnt hdc hhi hI hX hd hn hslots hstore hall'
    refine tail_order (n := n) hcut hedge hmask (ops.size - n) fuel n listed a w (by omega) ?_ (Nat.le_refl _) ?_ hsz hdc ?_
    · refine Nat.le_trans ?_ hcnt
      have e1 : ((List.range ops.size).filter fun k => !listed.getD k true) = ((List.range ops.size).filter fun k => decide (n ≤ k)) := by
        apply List.filter_congr
        intro k hk
        have hk := List.mem_range.1 hk
        have h3 : listed.getD k true = listed.getD k false := by
          rw [Array.getD_eq_getD_getElem?, Array.getD_eq_getD_getElem?, Array.getElem?_eq_getElem (by omega)]; rfl
        rw [h3]
        by_cases hkn : k < n
        · rw [hall' k hkn]; simp; omega
        · rw [hhi k (by omega)]; simp; omega
      rw [e1]
      have e2 : ∀ m, ((List.range m).filter fun k => decide (n ≤ k)).length = m - n := by
        intro m
        induction m with
        | zero => simp
        | succ m ih =>
          rw [List.range_succ, List.filter_append, List.length_append, ih]
          by_cases h : n ≤ m
          · simp [h]; omega
          · simp [h]; omega
      rw [e2]; exact Nat.le_refl _
    · intro k
      by_cases hkn : k < n
      · rw [hall' k hkn]; simp [hkn]
      · rw [hhi k (by omega)]; simp [hkn]
    · refine hQ g w a ?_ ?_ hX hd hn
      · rw [hSget _ (Nat.le_refl _), ← lastW_congr (l := fun k => listed.getD k false) (fun k hk _ => hall' k hk)]
        rw [if_pos (hall' al hal)] at hstore
        rw [← hstore]; exact hI
      · intro j
        rw [hEget _ (Nat.le_refl _) j, ← lastW_congr (l := fun k => listed.getD k false) (fun k hk _ => hall' k hk)]; exact hslots j
  induction fuel with
  | zero =>
    intro listed g s w a hsz hcnt hdc hhi hI hX hd hn hslots hstore
    refine fin 0 listed g s w a hsz hcnt hdc hhi hI hX hd hn hslots hstore ?_
    have hall : ∀ k, k < ops.size → listed.getD k true = true := by
      intro k hk
      have : (List.range ops.size).filter (fun k => !listed.getD k true) = [] := List.length_eq_zero_iff.1 (by omega)
      have := List.filter_eq_nil_iff.1 this k (List.mem_range.2 hk)
      simpa using this
    intro k hk
    have := hall k (by omega)
    rw [Array.getD_eq_getD_getElem?, Array.getElem?_eq_getElem (by omega)] at this ⊢
    exact this
  | succ fuel ih =>
    intro listed g s w a hsz hcnt hdc hhi hI hX hd hn hslots hstore
    by_cases hfull : ∀ k, k < n → listed.getD k false = true
    · exact fin _ listed g s w a hsz hcnt hdc hhi hI hX hd hn hslots hstore hfull
    refine ⟨?_, ?_⟩
    · intro hr
      exfalso
      apply hfull
      have hall : ∀ m k, k ≤ m → k < ops.size → listed.getD k false = true := by
        intro m
        induction m with
        | zero =>
          intro k hk hlt
          have : k = 0 := by omega
          subst this
          exact any_order.ready_all hr hedge hsz (fun i hi => by omega) hlt
        | succ m ihm =>
          intro k hk hlt
          exact any_order.ready_all hr hedge hsz (fun i hi => ihm i (by omega) (by omega)) hlt
      exact fun k hk => hall k k (Nat.le_refl _) (by omega)
    · intro i hi
      obtain ⟨h0, o, ho, hedges⟩ := mem_ready.1 hi
      have hlt := (Array.getElem?_eq_some_iff.1 ho).1
      have hnl : listed.getD i false = false := by
        rw [Array.getD_eq_getD_getElem?, Array.getElem?_eq_getElem (by omega)] at h0 ⊢
        exact h0
      have hanc := hmask _ hdc i o ho hedges
      have hin : i < n := by
        by_cases h : i < n
        · exact h
        · exfalso
          exact hfull fun k hk => hanc k (hcut k i (by omega) hlt (by omega))
      have before : ∀ (k : Nat) (ok : Oper), ops[k]? = some ok → k < i → conff ops ws (fun _ => true) k i ok o = true → listed.getD k false = true :=
        fun k ok hk hki hc => hanc k (hpair k i ok o hki hk ho hc)
      have behind : ∀ (k : Nat) (ok : Oper), ops[k]? = some ok → i < k → conff ops ws (fun _ => true) i k o ok = true → listed.getD k false = false := by
        intro k ok hk hki hc
        cases hlk : listed.getD k false with
        | false => rfl
        | true =>
          have this : listed.getD i false = true := hmask _ hdc k ok hk (hdc k ok hk hlk) i (hpair i k o ok hki ho hk hc)
          rw [hnl] at this; cases this
      have cell : ∀ p : Nat → Bool, (∀ (k : Nat) (ok : Oper), ops[k]? = some ok → k < i → p k = true → conff ops ws (fun _ => true) k i ok o = true) → (∀ (k : Nat) (ok : Oper), ops[k]? = some ok → i < k → p k = true → conff ops ws (fun _ => true) i k o ok = true) →
          lastW p (fun k => listed.getD k false) n = lastW p (fun _ => true) i ∧ ∀ k, i < k → k < n → (p k && listed.getD k false) = false := by
        intro p h1 h2
        have hb : ∀ k, i < k → k < n → (p k && listed.getD k false) = false := by
          intro k hk hkn
          cases hp : p k with
          | false => rfl
          | true =>
            obtain ⟨ok, hok'⟩ : ∃ o, ops[k]? = some o := ⟨ops[k]'(by omega), by simp⟩
            rw [behind k ok hok' hk (h2 k ok hok' hk hp)]; rfl
        refine ⟨?_, hb⟩
        rw [lastW_cut (i := i) (by omega) (fun k hk hkn => by
          by_cases e : k = i
          · subst e; rw [hnl]; simp
          · exact hb k (by omega) hkn)]
        refine lastW_congr fun k hk hp => ?_
        obtain ⟨ok, hok'⟩ : ∃ o, ops[k]? = some o := ⟨ops[k]'(by omega), by simp⟩
        exact before k ok hok' hk (h1 k ok hok' hk hp)
      have hsl : ∀ j ∈ slotsOf ops o, R g w ((E i).get j) (a.tmps.getD j undef) := by
        intro j hj
        have := (cell (wslot ops j) (by
          intro k ok hk hki hp
          rw [wslot_eq hk] at hp
          simp only [writesSlot, beq_iff_eq] at hp
          unfold conff
          rw [hp]
          simp [hj]
        ) (by
          intro k ok hk hki hp
          rw [wslot_eq hk] at hp
          simp only [writesSlot, beq_iff_eq] at hp
          unfold conff
          rw [hp]
          simp [hj]
        )).1
        have h3 := hslots j
        rw [this] at h3
        rw [hEget i (by omega) j]
        exact h3
      have rest : ∀ (s' : St) val w' g', s' = (if (listed.setIfInBounds i true).getD al false = true then Gf (match lastW (fun k => ws.contains k) (fun k => (listed.setIfInBounds i true).getD k false) n with | none => S 0 | some k => S (k + 1)) else (match lastW (fun k => ws.contains k) (fun k => (listed.setIfInBounds i true).getD k false) n with | none => S 0 | some k => S (k + 1))) →
          Inv P g' s' w' → Ext g w g' w' → R g' w' (V i) val → wpAny P .any ops Q fuel (listed.setIfInBounds i true) (a.put o.dst val) w' := by
        intro s' val w' g' hs' hI' hX' hR'
        have hgd : ∀ k, (listed.setIfInBounds i true).getD k false = if k = i then true else listed.getD k false := by
          intro k
          by_cases e : k = i
          · subst e; rw [if_pos rfl]; simp [hsz, hlt]
          · rw [if_neg e]; exact getD_set_ne false (fun x => e x.symm)
        refine ih _ g' s' w' _ (by simpa using hsz) ?_ ?_ (fun k hk => by rw [hgd, if_neg (by omega)]; exact hhi k hk) hI' (hX.trans hX') (by rw [put_defers]; exact hd) (by rw [put_size]; exact hn) ?_ hs'
        · -- one less
          have hgt : ∀ k, (listed.setIfInBounds i true).getD k true = if k = i then true else listed.getD k true := by
            intro k
            by_cases e : k = i
            · subst e; rw [if_pos rfl]; simp [hsz, hlt]
            · rw [if_neg e]; exact getD_set_ne true (fun x => e x.symm)
          have hfil : (List.range ops.size).filter (fun k => !(listed.setIfInBounds i true).getD k true) = ((List.range ops.size).filter fun k => !listed.getD k true).filter (· != i) := by
            rw [List.filter_filter]
            apply List.filter_congr
            intro k _
            rw [hgt]
            by_cases e : k = i
            · subst e; simp
            · simp [e]
          rw [hfil, ← List.Nodup.erase_eq_filter (List.Pairwise.filter _ List.nodup_range)]
          have hmem : i ∈ (List.range ops.size).filter (fun k => !listed.getD k true) := by
            rw [List.mem_filter]
            exact ⟨List.mem_range.2 hlt, by rw [h0]; rfl⟩
          rw [List.length_erase_of_mem hmem]
          omega
        · intro k ok hk hlk e he hb
          show (listed.setIfInBounds i true).getD e.on false = true
          have hlk : (listed.setIfInBounds i true).getD k false = true := hlk
          rw [hgd] at hlk ⊢
          by_cases e1 : k = i
          · subst e1
            rw [ho] at hk; cases hk
            split
            · rfl
            · exact hedges e he hb
          · rw [if_neg e1] at hlk
            split
            · rfl
            · exact hdc k ok hk hlk e he hb
        · intro j
          have hokd := okOp_lt (hN i o ho)
          by_cases hw : writesSlot o j = true
          · have hdst : o.dst = some j := by simpa [writesSlot] using hw
            have := (cell (wslot ops j) (by
              intro k ok hk hki hp
              rw [wslot_eq hk] at hp
              simp only [writesSlot, beq_iff_eq] at hp
              unfold conff; rw [hp]; simp [hdst]) (by
              intro k ok hk hki hp
              rw [wslot_eq hk] at hp
              simp only [writesSlot, beq_iff_eq] at hp
              unfold conff; rw [hdst]; simp [hp])).2
            rw [lastW_at (i := i) hin (by rw [wslot_eq ho]; exact hw) (by rw [hgd]; simp) (fun k h1 h2 => by rw [hgd, if_neg (by omega)]; exact this k h1 h2)]
            simp only [Act.put, hdst]
            have hjN : j < a.tmps.size := by rw [hn]; exact hokd j hdst
            rw [Array.getD_eq_getD_getElem?, Array.getElem?_setIfInBounds]
            simp [hjN, hR']
          · have : lastW (wslot ops j) (fun k => (listed.setIfInBounds i true).getD k false) n = lastW (wslot ops j) (fun k => listed.getD k false) n := by
              refine lastW_congr fun k hk hp => ?_
              rw [hgd, if_neg]
              rintro rfl
              rw [wslot_eq ho] at hp
              exact hw hp
            rw [this]
            have h3 := R_ext hX' _ _ (hslots j)
            cases hdst : o.dst with
            | none => exact h3
            | some d =>
              have hjd : d ≠ j := by
                rintro rfl
                exact hw (by simp [writesSlot, hdst])
              simp only [Act.put]
              rw [Array.getD_eq_getD_getElem?, Array.getElem?_setIfInBounds, if_neg hjd, ← Array.getD_eq_getD_getElem?]
              exact h3
      have hgd' : ∀ k, (listed.setIfInBounds i true).getD k false = if k = i then true else listed.getD k false := by
        intro k
        by_cases e : k = i
        · subst e; rw [if_pos rfl]; simp [hsz, hlt]
        · rw [if_neg e]; exact getD_set_ne false (fun x => e x.symm)
      unfold wpOp
      rw [ho]
      simp only
      have hbase : ∃ kk, kk ≤ n ∧ (match lastW (fun k => ws.contains k) (fun k => listed.getD k false) n with | none => S 0 | some k => S (k + 1)) = S kk := by
        cases hlw : lastW (fun k => ws.contains k) (fun k => listed.getD k false) n with
        | none => exact ⟨0, Nat.zero_le _, rfl⟩
        | some k => exact ⟨k + 1, lastW_lt hlw, rfl⟩
      by_cases hia : i = al
      · -- what makes something new
        subst hia
        obtain ⟨kk, hkk, hbk⟩ := hbase
        have hsk : s = S kk := by rw [hstore, if_neg (by rw [hnl]; simp), hbk]
        subst hsk
        refine hA o ho kk hkk g w a hI hsl _ _ fun val w' g' k1 k2 k3 => rest _ val w' g' ?_ k1 k2 k3
        rw [hgd', if_pos rfl]
        have : lastW (fun k => ws.contains k) (fun k => (listed.setIfInBounds i true).getD k false) n = lastW (fun k => ws.contains k) (fun k => listed.getD k false) n := by
          refine lastW_congr fun k hk hp => ?_
          rw [hgd', if_neg]
          rintro rfl
          exact haw (by simpa using hp)
        rw [this, hbk]; rfl
      · have hgal : (listed.setIfInBounds i true).getD al false = listed.getD al false := by rw [hgd', if_neg (fun e => hia e.symm)]
        by_cases hfree : i ∉ ws
        · -- whatever the store
          obtain ⟨kk, hkk, hbk⟩ := hbase
          have hsame : lastW (fun k => ws.contains k) (fun k => (listed.setIfInBounds i true).getD k false) n = lastW (fun k => ws.contains k) (fun k => listed.getD k false) n := by
            refine lastW_congr fun k hk hp => ?_
            rw [hgd', if_neg]
            rintro rfl
            exact hfree (by simpa using hp)
          have hboth := hF i o hin ho hfree hia kk hkk
          have hd : DOp P ops o (E i) s (V i) s := by
            rw [hstore, hbk]
            split
            · exact hboth.2
            · exact hboth.1
          refine hd g w a hI hsl _ _ fun val w' g' k1 k2 k3 => rest s val w' g' ?_ k1 k2 k3
          rw [hgal, hsame, ← hstore]
        · -- the store is as in the order of the text
          have htw : ws.contains i = true := by simpa using hfree
          have hcs := cell (fun k => ws.contains k) (by
            intro k ok hk hki hp
            unfold conff
            simp only [hp, htw, Bool.or_true, Bool.and_self, Bool.not_true]) (by
            intro k ok hk hki hp
            unfold conff
            simp only [hp, htw, Bool.or_true, Bool.and_self, Bool.not_true])
          have hs0 : (match lastW (fun k => ws.contains k) (fun k => listed.getD k false) n with | none => S 0 | some k => S (k + 1)) = S i := by rw [hcs.1]; exact (hSget i (by omega)).symm
          have hs1 : lastW (fun k => ws.contains k) (fun k => (listed.setIfInBounds i true).getD k false) n = some i :=
            lastW_at (i := i) hin htw (by rw [hgd']; simp) (fun k h1 h2 => by rw [hgd', if_neg (by omega)]; exact hcs.2 k h1 h2)
          have hboth := hD i o hin ho (by simpa using hfree)
          have hd : DOp P ops o (E i) s (V i) (if listed.getD al false = true then Gf (S (i + 1)) else S (i + 1)) := by
            rw [hstore, hs0]
            split
            · exact hboth.2
            · rename_i hnal
              refine hboth.1 ?_
              cases hm : ((masks ops.toList []).getD i 0).testBit al with
              | false => rfl
              | true => exact absurd (hanc al hm) hnal
          refine hd g w a hI hsl _ _ fun val w' g' k1 k2 k3 => rest _ val w' g' ?_ k1 k2 k3
          rw [hgal, hs1]
inductive DetG (P : Program) (ops : Array Oper) (ws : List Nat) (al : Nat) (Gf : St → St) (σ : List St) : Nat → List Oper → Env → St → Env → St → Prop
  | nil {i e s} : s ∈ σ → DetG P ops ws al Gf σ i [] e s e s
  | cons {i o l e s v e' s'} : i ∉ ws → i ≠ al → (∀ s ∈ σ, DOp P ops o e s v s ∧ DOp P ops o e (Gf s) v (Gf s)) → s ∈ σ → DetG P ops ws al Gf σ (i + 1) l (e.put o.dst v) s e' s' → DetG P ops ws al Gf σ i (o :: l) e s e' s'
  | ef {i o l e s v s1 e' s'} : i ∈ ws → s ∈ σ → DOp P ops o e s v s1 → DOp P ops o e (Gf s) v (Gf s1) → DetG P ops ws al Gf σ (i + 1) l (e.put o.dst v) s1 e' s' → DetG P ops ws al Gf σ i (o :: l) e s e' s'
  | ef2 {i o l e s v s1 e' s'} : i ∈ ws → s ∈ σ → ((masks ops.toList []).getD i 0).testBit al = true → DOp P ops o e (Gf s) v (Gf s1) → DetG P ops ws al Gf σ (i + 1) l (e.put o.dst v) s1 e' s' → DetG P ops ws al Gf σ i (o :: l) e s e' s'
  | al {i o l e s v e' s'} : i = al → (∀ s ∈ σ, DOp P ops o e s v (Gf s)) → s ∈ σ → DetG P ops ws al Gf σ (i + 1) l (e.put o.dst v) s e' s' → DetG P ops ws al Gf σ i (o :: l) e s e' s'
section
variable {P : Program} {ops : Array Oper} {ws : List Nat} {al : Nat} {Gf : St → St} {σ : List St} {e e' : Env} {s s' s0 : St} {N : Nat} {k : List KI} {rt : Env → St → Prop}
theorem DetG.lists (haw : al ∉ ws) : ∀ {i l e s e' s'}, DetG P ops ws al Gf σ i l e s e' s' → (∀ j (o : Oper), l[j]? = some o → ops[i + j]? = some o) →
    ∃ (V : Nat → PV) (S : Nat → St) (E : Nat → Env), E i = e ∧ S i = s ∧ E (i + l.length) = e' ∧ S (i + l.length) = s' ∧ (∀ k, i ≤ k → k ≤ i + l.length → S k ∈ σ) ∧ ∀ k (o : Oper), i ≤ k → k < i + l.length → ops[k]? = some o →
      E (k + 1) = (E k).put o.dst (V k) ∧ (k ∉ ws → S (k + 1) = S k) ∧ (k ∉ ws → k ≠ al → ∀ s ∈ σ, DOp P ops o (E k) s (V k) s ∧ DOp P ops o (E k) (Gf s) (V k) (Gf s)) ∧
      (k ∈ ws → (((masks ops.toList []).getD k 0).testBit al = false → DOp P ops o (E k) (S k) (V k) (S (k + 1))) ∧ DOp P ops o (E k) (Gf (S k)) (V k) (Gf (S (k + 1)))) ∧ (k = al → ∀ s ∈ σ, DOp P ops o (E k) s (V k) (Gf s)) := by
  intro i l e s e' s' h
  have glue : ∀ {i : Nat} {o : Oper} {l : List Oper} {e : Env} {s : St} {v : PV} {s1 : St} {e' : Env} {s' : St}, s ∈ σ → (i ∉ ws → s1 = s) →
      (i ∉ ws → i ≠ al → ∀ s ∈ σ, DOp P ops o e s v s ∧ DOp P ops o e (Gf s) v (Gf s)) → (i ∈ ws → (((masks ops.toList []).getD i 0).testBit al = false → DOp P ops o e s v s1) ∧ DOp P ops o e (Gf s) v (Gf s1)) → (i = al → ∀ s ∈ σ, DOp P ops o e s v (Gf s)) →
      ((∀ j (o : Oper), l[j]? = some o → ops[i + 1 + j]? = some o) → ∃ (V : Nat → PV) (S : Nat → St) (E : Nat → Env), E (i + 1) = e.put o.dst v ∧ S (i + 1) = s1 ∧ E (i + 1 + l.length) = e' ∧ S (i + 1 + l.length) = s' ∧ (∀ k, i + 1 ≤ k → k ≤ i + 1 + l.length → S k ∈ σ) ∧ ∀ k (o : Oper), i + 1 ≤ k → k < i + 1 + l.length → ops[k]? = some o →
        E (k + 1) = (E k).put o.dst (V k) ∧ (k ∉ ws → S (k + 1) = S k) ∧ (k ∉ ws → k ≠ al → ∀ s ∈ σ, DOp P ops o (E k) s (V k) s ∧ DOp P ops o (E k) (Gf s) (V k) (Gf s)) ∧
        (k ∈ ws → (((masks ops.toList []).getD k 0).testBit al = false → DOp P ops o (E k) (S k) (V k) (S (k + 1))) ∧ DOp P ops o (E k) (Gf (S k)) (V k) (Gf (S (k + 1)))) ∧ (k = al → ∀ s ∈ σ, DOp P ops o (E k) s (V k) (Gf s))) →
      (∀ j (o' : Oper), (o :: l)[j]? = some o' → ops[i + j]? = some o') → ∃ (V : Nat → PV) (S : Nat → St) (E : Nat → Env), E i = e ∧ S i = s ∧ E (i + (o :: l).length) = e' ∧ S (i + (o :: l).length) = s' ∧ (∀ k, i ≤ k → k ≤ i + (o :: l).length → S k ∈ σ) ∧ ∀ k (o' : Oper), i ≤ k → k < i + (o :: l).length → ops[k]? = some o' →
        E (k + 1) = (E k).put o'.dst (V k) ∧ (k ∉ ws → S (k + 1) = S k) ∧ (k ∉ ws → k ≠ al → ∀ s ∈ σ, DOp P ops o' (E k) s (V k) s ∧ DOp P ops o' (E k) (Gf s) (V k) (Gf s)) ∧
        (k ∈ ws → (((masks ops.toList []).getD k 0).testBit al = false → DOp P ops o' (E k) (S k) (V k) (S (k + 1))) ∧ DOp P ops o' (E k) (Gf (S k)) (V k) (Gf (S (k + 1)))) ∧ (k = al → ∀ s ∈ σ, DOp P ops o' (E k) s (V k) (Gf s)) := by
    intro i o l e s v s1 e' s' hs hne hfree hef hal ih hl
    obtain ⟨V, S, E, a1, a2, a3, a4, a6, a5⟩ := ih (fun j o' => by
      have := hl (j + 1) o'
      rw [show i + 1 + j = i + (j + 1) by omega]
      simpa using this)
    have h0 : ops[i]? = some o := by have := (hl 0 o) (by simp); simpa using this
    refine ⟨fun k => if k = i then v else V k, fun k => if k = i then s else S k, fun k => if k = i then e else E k, if_pos rfl, if_pos rfl, ?_, ?_, ?_, ?_⟩
    · show (if i + (o :: l).length = i then e else E (i + (o :: l).length)) = e'
      rw [List.length_cons, if_neg (by omega), show i + (l.length + 1) = i + 1 + l.length by omega]; exact a3
    · show (if i + (o :: l).length = i then s else S (i + (o :: l).length)) = s'
      rw [List.length_cons, if_neg (by omega), show i + (l.length + 1) = i + 1 + l.length by omega]; exact a4
    · intro k hk hk2
      simp only [List.length_cons] at hk2
      by_cases e1 : k = i
      · simp only [e1, if_true]; exact hs
      · simp only [e1, if_false]; exact a6 k (by omega) (by omega)
    · intro k o' hk hk2 ho'
      by_cases e1 : k = i
      · subst e1
        rw [h0] at ho'; cases ho'
        simp only [if_true, show ¬ (k + 1 = k) by omega, if_false]
        rw [a1, a2]
        exact ⟨rfl, hne, hfree, hef, hal⟩
      · simp only [e1, show ¬ (k + 1 = i) by omega, if_false]
        exact a5 k o' (by omega) (by simp only [List.length_cons] at hk2; omega) ho'
  induction h with
  | nil hs =>
    rename_i i e s
    intro hl
    refine ⟨fun _ => .junk, fun _ => s, fun _ => e, rfl, rfl, rfl, rfl, fun k _ _ => hs, fun k o hk hk2 ho => ?_⟩
    simp at hk2; omega
  | cons hne hna h1 hs hd ih => exact glue hs (fun _ => rfl) (fun _ _ => h1) (fun h => absurd h hne) (fun h => absurd h hna) ih
  | ef hin hs h1 h2 hd ih => exact glue hs (fun h => absurd hin h) (fun h => absurd hin h) (fun _ => ⟨fun _ => h1, h2⟩) (fun h => absurd (h ▸ hin) haw) ih
  | ef2 hin hs hm h2 hd ih => exact glue hs (fun h => absurd hin h) (fun h => absurd hin h) (fun _ => ⟨fun h => (by rw [hm] at h; cases h), h2⟩) (fun h => absurd (h ▸ hin) haw) ih
  | al heq h1 hs hd ih => exact glue hs (fun _ => rfl) (fun _ h => absurd heq h) (fun h => absurd (heq ▸ h) haw) (fun _ => h1) ih
def DetGC (P : Program) (ops : Array Oper) (ws : List Nat) (al : Nat) (Gf : St → St) (σ : List St) (i : Nat) (l : List Oper) (e : Env) (s : St) (K : Env → St → Prop) : Prop := ∃ e' s', DetG P ops ws al Gf σ i l e s e' s' ∧ K e' s'
theorem DetGC.nil {i : Nat} {K : Env → St → Prop} (hs : s ∈ σ) (h : K e s) : DetGC P ops ws al Gf σ i [] e s K := ⟨e, s, .nil hs, h⟩
theorem DetG.pre (hs : s ∈ σ) : ∀ {pre : List Oper} {l : List Oper} {i : Nat} {e e1 e' : Env}, (∀ a ∈ al :: ws, a < i ∨ i + pre.length ≤ a) → DopsB P ops pre e s (σ ++ σ.map Gf) e1 → DetG P ops ws al Gf σ (i + pre.length) l e1 s e' s' → DetG P ops ws al Gf σ i (pre ++ l) e s e' s'
  | [], l, i, e, e1, e', _, h, hd => by cases h; exact hd
  | o :: pre, l, i, e, e1, e', hi, h, hd => by
    simp only [List.length_cons] at hi hd
    obtain ⟨v, hv, hv', h⟩ := h
    refine DetG.cons (fun hm => by have := hi i (List.mem_cons_of_mem _ hm); omega) (fun hm => by have := hi i (by rw [hm]; exact List.mem_cons_self); omega)
      (fun s hs => ⟨dop1_op (hv' s (List.mem_append_left _ hs)), dop1_op (hv' (Gf s) (List.mem_append_right _ (List.mem_map_of_mem hs)))⟩) hs ?_
    refine DetG.pre hs (fun a ha => by have := hi a ha; omega) h ?_
    rw [show i + 1 + pre.length = i + (pre.length + 1) by omega]
    exact hd
theorem DetGC.pre {pre l : List Oper} {i : Nat} {e1 : Env} {K : Env → St → Prop} (hi : ∀ a ∈ al :: ws, a < i ∨ i + pre.length ≤ a) (hs : s ∈ σ) (h : DopsB P ops pre e s (σ ++ σ.map Gf) e1) (hd : DetGC P ops ws al Gf σ (i + pre.length) l e1 s K) : DetGC P ops ws al Gf σ i (pre ++ l) e s K := by
  obtain ⟨e', s', h1, h2⟩ := hd
  exact ⟨e', s', DetG.pre hs hi h h1, h2⟩
theorem DetGC.all {l : List Oper} {i : Nat} {e1 : Env} {K : Env → St → Prop} (hi : ∀ a ∈ al :: ws, a < i ∨ i + l.length ≤ a) (hs : s ∈ σ) (h : DopsB P ops l e s (σ ++ σ.map Gf) e1) (hk : K e1 s) : DetGC P ops ws al Gf σ i l e s K := by
  have := DetGC.pre (P := P) (ops := ops) (l := []) hi hs h (DetGC.nil hs hk)
  simpa using this
theorem DetGC.callE {d : Option Nat} {c : Call} {t : TypeId} {pos : String} {af : Array Edge} {gd : Option (Nat × Bool)} {l : List Oper} {i : Nat} {f : FuncId} {args args' : List PV} {v : PV} {s1 : St} {K : Env → St → Prop} (hi : ws.contains i = true) (hs : s ∈ σ)
    (hg : guard? ops ⟨d, .call c, t, pos, af, gd⟩ (Env.keep (slotsOf ops ⟨d, .call c, t, pos, af, gd⟩) e) = some true)
    (ha : acall c (Env.keep (slotsOf ops ⟨d, .call c, t, pos, af, gd⟩) e) = some (f, args)) (hw : PV.weaks args = args') (hc : callable P f = true)
    (h : ACalls P f args' s fun r s2 => r = v ∧ s2 = s1) (h' : ACalls P f args' (Gf s) fun r s2 => r = v ∧ s2 = Gf s1) (hd : DetGC P ops ws al Gf σ (i + 1) l (e.put d v) s1 K) : DetGC P ops ws al Gf σ i (⟨d, .call c, t, pos, af, gd⟩ :: l) e s K := by
  obtain ⟨e', s', h1, h2⟩ := hd
  subst hw
  have key : ∀ sa sb, (ACalls P f (PV.weaks args) sa fun r s2 => r = v ∧ s2 = sb) → DOp P ops ⟨d, .call c, t, pos, af, gd⟩ e sa v sb := by
    intro sa sb h g w a hI hsl K Q hk
    have hE := keep_ok hsl
    rw [guard_wanted hg hE]
    simp only [if_true]
    obtain ⟨vs, hrun, hra⟩ := acall_run (P := P) (o := ⟨d, .call c, t, pos, af, gd⟩) (a := a) rfl hE ha hc
    left
    unfold Oper.wp
    rw [hrun, Oper.upon_enter]
    refine (h g w vs hI (RA_weak _ _ hra)).mono ?_
    rintro e' w' ⟨v', g', r', s', rfl, hI', hR', hX', rfl, rfl⟩
    exact hk _ _ _ hI' hX' hR'
  exact ⟨e', s', DetG.ef (v := v) (s1 := s1) (by simpa using hi) hs (key _ _ h) (key _ _ h') h1, h2⟩
theorem DetGC.call {d : Option Nat} {c : Call} {t : TypeId} {pos : String} {af : Array Edge} {gd : Option (Nat × Bool)} {l : List Oper} {i : Nat} {f : FuncId} {args args' : List PV} {v : PV} {K : Env → St → Prop} (hi : ws.contains i = false) (hna : i ≠ al)
    (hg : guard? ops ⟨d, .call c, t, pos, af, gd⟩ (Env.keep (slotsOf ops ⟨d, .call c, t, pos, af, gd⟩) e) = some true)
    (ha : acall c (Env.keep (slotsOf ops ⟨d, .call c, t, pos, af, gd⟩) e) = some (f, args)) (hw : PV.weaks args = args') (hc : callable P f = true)
    (hs : s ∈ σ) (h : ∀ s, ACalls P f args' s fun r s2 => r = v ∧ s2 = s) (hd : DetGC P ops ws al Gf σ (i + 1) l (e.put d v) s K) : DetGC P ops ws al Gf σ i (⟨d, .call c, t, pos, af, gd⟩ :: l) e s K := by
  obtain ⟨e', s', h1, h2⟩ := hd
  exact ⟨e', s', DetG.cons (by simpa using hi) hna (fun s _ => ⟨DOp.of_call hg ha hw hc (h s), DOp.of_call hg ha hw hc (h (Gf s))⟩) hs h1, h2⟩
theorem DetGC.alloc {o : Oper} {l : List Oper} {i : Nat} {v : PV} {K : Env → St → Prop} (hi : i = al) (hs : s ∈ σ) (hg : guard? ops o (Env.keep (slotsOf ops o) e) = some true)
    (ha : ∀ s ∈ σ, acore P o.op (ev (Env.keep (slotsOf ops o) e)) s = some (v, Gf s)) (hd : DetGC P ops ws al Gf σ (i + 1) l (e.put o.dst v) s K) : DetGC P ops ws al Gf σ i (o :: l) e s K := by
  obtain ⟨e', s', h1, h2⟩ := hd
  exact ⟨e', s', DetG.al hi (fun s hs => DOp.of_effect hg fun g w a hI hE => acore_run hI (fun x => ev_R hE x) (ha s hs)) hs h1, h2⟩
theorem Run.drawG {id : Nat} (n : Nat) (ws : List Nat) (al : Nat) (Gf : St → St) (σ : List St) (hm : P.follows .mixedOrders = true) (hs : drawOKf ops ws (fun _ => true) = true) (hc : cutOK ops n = true) (han : al < min n ops.size) (haw : al ∉ ws)
    (hd : DetGC P ops ws al Gf σ 0 (ops.toList.take n) e s0 (fun e' s' => RunO P N ops (ops.toList.drop n) k e' (Gf s') rt)) : Run P N (.code (.region id ops true) :: k) e s0 rt := by
  obtain ⟨e', s', hd, h⟩ := hd
  intro ok
  simp only [okK, okC, Bool.and_eq_true] at ok
  intro _ g w ac hI hE hdf hN
  obtain ⟨V, S, E, a1, a2, a3, a4, a6, a5⟩ := hd.lists haw (fun j o ho => by
    rw [List.getElem?_take] at ho
    split at ho
    · simpa using ho
    · cases ho)
  have hlen : (ops.toList.take n).length = min n ops.size := by simp
  simp only [Nat.zero_add, hlen] at a3 a4 a5 a6
  have hmin : min n ops.size ≤ ops.size := Nat.min_le_right _ _
  refine wp_region_any hm ?_
  obtain ⟨hI1, hX1⟩ := drew_step hI (w.drawn + 1)
  have hrepl : ∀ k, (Array.replicate ops.size false).getD k false = false := by
    intro k
    rw [Array.getD_eq_getD_getElem?]
    cases hx : (Array.replicate ops.size false)[k]? with
    | none => rfl
    | some b => have := Array.mem_of_getElem? hx; simp at this; rw [this.2]; rfl
  have hnone : ∀ (p : Nat → Bool) (n : Nat), lastW p (fun k => (Array.replicate ops.size false).getD k false) n = none := by
    intro p n
    induction n with
    | zero => rfl
    | succ n ih => unfold lastW; rw [hrepl, ih]; simp
  have hcut : ∀ i j, min n ops.size ≤ j → j < ops.size → i < j → ((masks ops.toList []).getD j 0).testBit i = true :=
    fun i j h1 h2 h3 => cutOK_spec hc i j (by omega) h2 h3
  refine any_order_g (ws := ws) (N := N) (e0 := e) (V := V) (S := S) (E := E) (g0 := g) (w0 := w) (n := min n ops.size) (al := al) (Gf := Gf) hmin hcut hs han haw ?_ a1 (fun i o hi ho => (a5 i o (Nat.zero_le _) hi ho).1)
    (fun i o hi ho hne => (a5 i o (Nat.zero_le _) hi ho).2.1 hne) (fun i o hi ho hin => (a5 i o (Nat.zero_le _) hi ho).2.2.2.1 hin)
    (fun i o hi ho hne hna k hk => (a5 i o (Nat.zero_le _) hi ho).2.2.1 hne hna _ (a6 k (Nat.zero_le _) hk)) (fun o ho k hk => (a5 al o (Nat.zero_le _) han ho).2.2.2.2 rfl _ (a6 k (Nat.zero_le _) hk)) ?_ ops.size _ g s0 _ ac (by simp) ?_ ?_ (fun k _ => hrepl k) hI1 hX1 hdf hN ?_ ?_
  · intro i o ho
    exact List.all_eq_true.1 ok.1 o (by simpa using Array.mem_of_getElem? ho)
  · intro g' w' a' k1 k2 k3 k4 k5
    rw [a4] at k1
    rw [a3] at k2
    refine RunO.eff.wpOps_mono' (fun _ _ _ => Lift.trans k3) (h ?_ ok.2 _ ?_ g' w' a' k1 k2 k4 k5)
    · refine List.all_eq_true.2 fun o ho => List.all_eq_true.1 ok.1 o (List.mem_of_mem_drop ho)
    · apply List.ext_getElem?
      intro i
      simp only [List.getElem?_map, List.getElem?_drop, List.getElem?_range', Array.getElem?_toList]
      by_cases hi : i < ops.size - min n ops.size
      · rw [List.getElem?_range' hi]
        have : min n ops.size + 1 * i = n + i := by omega
        simp only [Option.map_some, this, Nat.add_comm]
        rw [Array.getElem?_eq_getElem (by omega)]
        rfl
      · rw [List.getElem?_eq_none (by simp; omega), Array.getElem?_eq_none (by omega)]
        rfl
  · refine Nat.le_trans (List.length_filter_le _ _) (by simp)
  · intro k o ho hk
    have hk : (Array.replicate ops.size false).getD k false = true := hk
    rw [hrepl] at hk; cases hk
  · intro j
    rw [hnone]
    exact R_ext hX1 _ _ (hE j)
  · rw [hnone, if_neg (by rw [hrepl]; simp)]; exact a2.symm
end
end Go.PM
namespace Go.PM
open Go
inductive DetF (P : Program) (ops : Array Oper) (ws lc : List Nat) (σ : List St) : Nat → List Oper → Env → St → Env → St → Prop
  | nil {i e s} : s ∈ σ → DetF P ops ws lc σ i [] e s e s
  | cons {i o l e s v e' s'} : i ∉ ws → (∀ s ∈ σ, DOp P ops o e s v s) → s ∈ σ → DetF P ops ws lc σ (i + 1) l (e.put o.dst v) s e' s' → DetF P ops ws lc σ i (o :: l) e s e' s'
  | lo {i o l e s v e' s'} : i ∉ ws → i ∈ lc → DOp P ops o e s v s → s ∈ σ → DetF P ops ws lc σ (i + 1) l (e.put o.dst v) s e' s' → DetF P ops ws lc σ i (o :: l) e s e' s'
  | ef {i o l e s v s1 e' s'} : i ∈ ws → s ∈ σ → DOp P ops o e s v s1 → DetF P ops ws lc σ (i + 1) l (e.put o.dst v) s1 e' s' → DetF P ops ws lc σ i (o :: l) e s e' s'
section
variable {P : Program} {ops : Array Oper} {ws lc : List Nat} {σ : List St} {e e' : Env} {s s' s0 : St} {N : Nat} {k : List KI} {rt : Env → St → Prop}
def DetFC (P : Program) (ops : Array Oper) (ws lc : List Nat) (σ : List St) (i : Nat) (l : List Oper) (e : Env) (s : St) (K : Env → St → Prop) : Prop := ∃ e' s', DetF P ops ws lc σ i l e s e' s' ∧ K e' s'
theorem DetFC.nil {i : Nat} {K : Env → St → Prop} (hs : s ∈ σ) (h : K e s) : DetFC P ops ws lc σ i [] e s K := ⟨e, s, .nil hs, h⟩
theorem DetF.pre (hs : s ∈ σ) : ∀ {pre : List Oper} {l : List Oper} {i : Nat} {e e1 e' : Env}, (∀ a ∈ ws, a < i ∨ i + pre.length ≤ a) → DopsB P ops pre e s σ e1 → DetF P ops ws lc σ (i + pre.length) l e1 s e' s' → DetF P ops ws lc σ i (pre ++ l) e s e' s'
  | [], l, i, e, e1, e', _, h, hd => by cases h; exact hd
  | o :: pre, l, i, e, e1, e', hi, h, hd => by
    simp only [List.length_cons] at hi hd
    obtain ⟨v, hv, hv', h⟩ := h
    refine DetF.cons (fun hm => by have := hi i hm; omega) (fun s hs => dop1_op (hv' s hs)) hs ?_
    refine DetF.pre hs (fun a ha => by have := hi a ha; omega) h ?_
    rw [show i + 1 + pre.length = i + (pre.length + 1) by omega]
    exact hd
theorem DetF.loc (hs : s ∈ σ) : ∀ {pre : List Oper} {l : List Oper} {i : Nat} {e e1 e' : Env}, (∀ a ∈ ws, a < i ∨ i + pre.length ≤ a) → (∀ j, i ≤ j → j < i + pre.length → j ∈ lc) → DopsB P ops pre e s [s] e1 → DetF P ops ws lc σ (i + pre.length) l e1 s e' s' → DetF P ops ws lc σ i (pre ++ l) e s e' s'
  | [], l, i, e, e1, e', _, _, h, hd => by cases h; exact hd
  | o :: pre, l, i, e, e1, e', hi, hl, h, hd => by
    simp only [List.length_cons] at hi hl hd
    obtain ⟨v, hv, hv', h⟩ := h
    refine DetF.lo (fun hm => by have := hi i hm; omega) (hl i (Nat.le_refl _) (by omega)) (dop1_op hv) hs ?_
    refine DetF.loc hs (fun a ha => by have := hi a ha; omega) (fun j h1 h2 => hl j (by omega) (by omega)) h ?_
    rw [show i + 1 + pre.length = i + (pre.length + 1) by omega]
    exact hd
theorem DetFC.loc {pre l : List Oper} {i : Nat} {e1 : Env} {K : Env → St → Prop} (hi : ∀ a ∈ ws, a < i ∨ i + pre.length ≤ a) (hl : (List.range' i pre.length).all (fun j => lc.contains j) = true) (hs : s ∈ σ) (h : DopsB P ops pre e s [s] e1) (hd : DetFC P ops ws lc σ (i + pre.length) l e1 s K) : DetFC P ops ws lc σ i (pre ++ l) e s K := by
  obtain ⟨e', s', h1, h2⟩ := hd
  refine ⟨e', s', DetF.loc hs hi (fun j h1 h2 => ?_) h h1, h2⟩
  have := List.all_eq_true.1 hl j (List.mem_range'_1.2 ⟨h1, h2⟩)
  simpa using this
theorem DetFC.pre {pre l : List Oper} {i : Nat} {e1 : Env} {K : Env → St → Prop} (hi : ∀ a ∈ ws, a < i ∨ i + pre.length ≤ a) (hs : s ∈ σ) (h : DopsB P ops pre e s σ e1) (hd : DetFC P ops ws lc σ (i + pre.length) l e1 s K) : DetFC P ops ws lc σ i (pre ++ l) e s K := by
  obtain ⟨e', s', h1, h2⟩ := hd
  exact ⟨e', s', DetF.pre hs hi h h1, h2⟩
theorem DetFC.all {l : List Oper} {i : Nat} {e1 : Env} {K : Env → St → Prop} (hi : ∀ a ∈ ws, a < i ∨ i + l.length ≤ a) (hs : s ∈ σ) (h : DopsB P ops l e s σ e1) (hk : K e1 s) : DetFC P ops ws lc σ i l e s K := by
  have := DetFC.pre (P := P) (ops := ops) (lc := lc) (l := []) hi hs h (DetFC.nil hs hk)
  simpa using this
theorem DetFC.call {d : Option Nat} {c : Call} {t : TypeId} {pos : String} {af : Array Edge} {gd : Option (Nat × Bool)} {l : List Oper} {i : Nat} {f : FuncId} {args args' : List PV} {v : PV} {K : Env → St → Prop} (hi : ws.contains i = false)
    (hg : guard? ops ⟨d, .call c, t, pos, af, gd⟩ (Env.keep (slotsOf ops ⟨d, .call c, t, pos, af, gd⟩) e) = some true)
    (ha : acall c (Env.keep (slotsOf ops ⟨d, .call c, t, pos, af, gd⟩) e) = some (f, args)) (hw : PV.weaks args = args') (hc : callable P f = true)
    (hs : s ∈ σ) (h : ∀ s ∈ σ, ACalls P f args' s fun r s2 => r = v ∧ s2 = s) (hd : DetFC P ops ws lc σ (i + 1) l (e.put d v) s K) : DetFC P ops ws lc σ i (⟨d, .call c, t, pos, af, gd⟩ :: l) e s K := by
  obtain ⟨e', s', h1, h2⟩ := hd
  exact ⟨e', s', DetF.cons (by simpa using hi) (fun s hs => DOp.of_call hg ha hw hc (h s hs)) hs h1, h2⟩
theorem DetFC.eff {o : Oper} {l : List Oper} {i : Nat} {v : PV} {s1 : St} {K : Env → St → Prop} (hi : ws.contains i = true) (hs : s ∈ σ) (hg : guard? ops o (Env.keep (slotsOf ops o) e) = some true)
    (ha : acore P o.op (ev (Env.keep (slotsOf ops o) e)) s = some (v, s1)) (hd : DetFC P ops ws lc σ (i + 1) l (e.put o.dst v) s1 K) : DetFC P ops ws lc σ i (o :: l) e s K := by
  obtain ⟨e', s', h1, h2⟩ := hd
  exact ⟨e', s', DetF.ef (by simpa using hi) hs (DOp.of_effect hg fun g w a hI hE => acore_run hI (fun x => ev_R hE x) ha) h1, h2⟩
theorem DetFC.callE {d : Option Nat} {c : Call} {t : TypeId} {pos : String} {af : Array Edge} {gd : Option (Nat × Bool)} {l : List Oper} {i : Nat} {f : FuncId} {args args' : List PV} {v : PV} {s1 : St} {K : Env → St → Prop} (hi : ws.contains i = true) (hs : s ∈ σ)
    (hg : guard? ops ⟨d, .call c, t, pos, af, gd⟩ (Env.keep (slotsOf ops ⟨d, .call c, t, pos, af, gd⟩) e) = some true)
    (ha : acall c (Env.keep (slotsOf ops ⟨d, .call c, t, pos, af, gd⟩) e) = some (f, args)) (hw : PV.weaks args = args') (hc : callable P f = true)
    (h : ACalls P f args' s fun r s2 => r = v ∧ s2 = s1) (hd : DetFC P ops ws lc σ (i + 1) l (e.put d v) s1 K) : DetFC P ops ws lc σ i (⟨d, .call c, t, pos, af, gd⟩ :: l) e s K := by
  obtain ⟨e', s', h1, h2⟩ := hd
  refine ⟨e', s', DetF.ef (v := v) (s1 := s1) (by simpa using hi) hs ?_ h1, h2⟩
  subst hw
  intro g w a hI hsl K Q hk
  have hE := keep_ok hsl
  rw [guard_wanted hg hE]
  simp only [if_true]
  obtain ⟨vs, hrun, hra⟩ := acall_run (P := P) (o := ⟨d, .call c, t, pos, af, gd⟩) (a := a) rfl hE ha hc
  left
  unfold Oper.wp
  rw [hrun, Oper.upon_enter]
  refine (h g w vs hI (RA_weak _ _ hra)).mono ?_
  rintro e' w' ⟨v', g', r', s', rfl, hI', hR', hX', rfl, rfl⟩
  exact hk _ _ _ hI' hX' hR'
theorem DetF.lists : ∀ {i l e s e' s'}, DetF P ops ws lc σ i l e s e' s' → (∀ j (o : Oper), l[j]? = some o → ops[i + j]? = some o) →
    ∃ (V : Nat → PV) (S : Nat → St) (E : Nat → Env), E i = e ∧ S i = s ∧ E (i + l.length) = e' ∧ S (i + l.length) = s' ∧ (∀ k, i ≤ k → k ≤ i + l.length → S k ∈ σ) ∧ ∀ k (o : Oper), i ≤ k → k < i + l.length → ops[k]? = some o →
      E (k + 1) = (E k).put o.dst (V k) ∧ (k ∉ ws → S (k + 1) = S k ∧ (k ∉ lc → ∀ s ∈ σ, DOp P ops o (E k) s (V k) s)) ∧ DOp P ops o (E k) (S k) (V k) (S (k + 1)) := by
  intro i l e s e' s' h
  induction h with
  | nil hs =>
    rename_i i e s
    intro hl
    refine ⟨fun _ => .junk, fun _ => s, fun _ => e, rfl, rfl, rfl, rfl, fun k _ _ => hs, fun k o hk hk2 ho => ?_⟩
    simp at hk2; omega
  | cons hne h1 hs hd ih =>
    rename_i i o l e s v e' s'
    intro hl
    obtain ⟨V, S, E, a1, a2, a3, a4, a6, a5⟩ := ih (fun j o' => by
      have := hl (j + 1) o'
      rw [show i + 1 + j = i + (j + 1) by omega]
      simpa using this)
    have h0 : ops[i]? = some o := by have := (hl 0 o) (by simp); simpa using this
    refine ⟨fun k => if k = i then v else V k, fun k => if k = i then s else S k, fun k => if k = i then e else E k, if_pos rfl, if_pos rfl, ?_, ?_, ?_, ?_⟩
    · show (if i + (o :: l).length = i then e else E (i + (o :: l).length)) = e'
      rw [List.length_cons, if_neg (by omega), show i + (l.length + 1) = i + 1 + l.length by omega]; exact a3
    · show (if i + (o :: l).length = i then s else S (i + (o :: l).length)) = s'
      rw [List.length_cons, if_neg (by omega), show i + (l.length + 1) = i + 1 + l.length by omega]; exact a4
    · intro k hk hk2
      simp only [List.length_cons] at hk2
      by_cases e1 : k = i
      · simp only [e1, if_true]; exact hs
      · simp only [e1, if_false]; exact a6 k (by omega) (by omega)
    · intro k o' hk hk2 ho'
      by_cases e1 : k = i
      · subst e1
        rw [h0] at ho'; cases ho'
        simp only [if_true, show ¬ (k + 1 = k) by omega, if_false]
        rw [a1, a2]
        exact ⟨rfl, fun _ => ⟨rfl, fun _ => h1⟩, h1 _ hs⟩
      · simp only [e1, show ¬ (k + 1 = i) by omega, if_false]
        exact a5 k o' (by omega) (by simp only [List.length_cons] at hk2; omega) ho'
  | lo hne hlc h1 hs hd ih =>
    rename_i i o l e s v e' s'
    intro hl
    obtain ⟨V, S, E, a1, a2, a3, a4, a6, a5⟩ := ih (fun j o' => by
      have := hl (j + 1) o'
      rw [show i + 1 + j = i + (j + 1) by omega]
      simpa using this)
    have h0 : ops[i]? = some o := by have := (hl 0 o) (by simp); simpa using this
    refine ⟨fun k => if k = i then v else V k, fun k => if k = i then s else S k, fun k => if k = i then e else E k, if_pos rfl, if_pos rfl, ?_, ?_, ?_, ?_⟩
    · show (if i + (o :: l).length = i then e else E (i + (o :: l).length)) = e'
      rw [List.length_cons, if_neg (by omega), show i + (l.length + 1) = i + 1 + l.length by omega]; exact a3
    · show (if i + (o :: l).length = i then s else S (i + (o :: l).length)) = s'
      rw [List.length_cons, if_neg (by omega), show i + (l.length + 1) = i + 1 + l.length by omega]; exact a4
    · intro k hk hk2
      simp only [List.length_cons] at hk2
      by_cases e1 : k = i
      · simp only [e1, if_true]; exact hs
      · simp only [e1, if_false]; exact a6 k (by omega) (by omega)
    · intro k o' hk hk2 ho'
      by_cases e1 : k = i
      · subst e1
        rw [h0] at ho'; cases ho'
        simp only [if_true, show ¬ (k + 1 = k) by omega, if_false]
        rw [a1, a2]
        exact ⟨rfl, fun _ => ⟨rfl, fun h => absurd hlc h⟩, h1⟩
      · simp only [e1, show ¬ (k + 1 = i) by omega, if_false]
        exact a5 k o' (by omega) (by simp only [List.length_cons] at hk2; omega) ho'
  | ef hin hs h1 hd ih =>
    rename_i i o l e s v s1 e' s'
    intro hl
    obtain ⟨V, S, E, a1, a2, a3, a4, a6, a5⟩ := ih (fun j o' => by
      have := hl (j + 1) o'
      rw [show i + 1 + j = i + (j + 1) by omega]
      simpa using this)
    have h0 : ops[i]? = some o := by have := (hl 0 o) (by simp); simpa using this
    refine ⟨fun k => if k = i then v else V k, fun k => if k = i then s else S k, fun k => if k = i then e else E k, if_pos rfl, if_pos rfl, ?_, ?_, ?_, ?_⟩
    · show (if i + (o :: l).length = i then e else E (i + (o :: l).length)) = e'
      rw [List.length_cons, if_neg (by omega), show i + (l.length + 1) = i + 1 + l.length by omega]; exact a3
    · show (if i + (o :: l).length = i then s else S (i + (o :: l).length)) = s'
      rw [List.length_cons, if_neg (by omega), show i + (l.length + 1) = i + 1 + l.length by omega]; exact a4
    · intro k hk hk2
      simp only [List.length_cons] at hk2
      by_cases e1 : k = i
      · simp only [e1, if_true]; exact hs
      · simp only [e1, if_false]; exact a6 k (by omega) (by omega)
    · intro k o' hk hk2 ho'
      by_cases e1 : k = i
      · subst e1
        rw [h0] at ho'; cases ho'
        simp only [if_true, show ¬ (k + 1 = k) by omega, if_false]
        rw [a1, a2]
        exact ⟨rfl, fun e => absurd hin e, h1⟩
      · simp only [e1, show ¬ (k + 1 = i) by omega, if_false]
        exact a5 k o' (by omega) (by simp only [List.length_cons] at hk2; omega) ho'
theorem Run.drawF {id : Nat} (n : Nat) (ws lc : List Nat) (σ : List St) (hm : P.follows .mixedOrders = true) (hs : drawOKf ops ws (fun i => !lc.contains i) = true) (hc : cutOK ops n = true)
    (hd : DetFC P ops ws lc σ 0 (ops.toList.take n) e s0 (fun e' s' => RunO P N ops (ops.toList.drop n) k e' s' rt)) : Run P N (.code (.region id ops true) :: k) e s0 rt := by
  obtain ⟨e', s', hd, h⟩ := hd
  intro ok
  simp only [okK, okC, Bool.and_eq_true] at ok
  intro _ g w ac hI hE hdf hN
  obtain ⟨V, S, E, a1, a2, a3, a4, a6, a5⟩ := hd.lists (fun j o ho => by
    rw [List.getElem?_take] at ho
    split at ho
    · simpa using ho
    · cases ho)
  have hlen : (ops.toList.take n).length = min n ops.size := by simp
  simp only [Nat.zero_add, hlen] at a3 a4 a5 a6
  have hmin : min n ops.size ≤ ops.size := Nat.min_le_right _ _
  refine wp_region_any hm ?_
  obtain ⟨hI1, hX1⟩ := drew_step hI (w.drawn + 1)
  have hrepl : ∀ k, (Array.replicate ops.size false).getD k false = false := by
    intro k
    rw [Array.getD_eq_getD_getElem?]
    cases hx : (Array.replicate ops.size false)[k]? with
    | none => rfl
    | some b => have := Array.mem_of_getElem? hx; simp at this; rw [this.2]; rfl
  have hnone : ∀ (p : Nat → Bool) (n : Nat), lastW p (fun k => (Array.replicate ops.size false).getD k false) n = none := by
    intro p n
    induction n with
    | zero => rfl
    | succ n ih => unfold lastW; rw [hrepl, ih]; simp
  have hcut : ∀ i j, min n ops.size ≤ j → j < ops.size → i < j → ((masks ops.toList []).getD j 0).testBit i = true :=
    fun i j h1 h2 h3 => cutOK_spec hc i j (by omega) h2 h3
  refine any_order_f (ws := ws) (N := N) (e0 := e) (V := V) (S := S) (E := E) (g0 := g) (w0 := w) (n := min n ops.size) (fr := fun i => !lc.contains i) hmin hcut hs ?_ a1 (fun i o hi ho => (a5 i o (Nat.zero_le _) hi ho).1)
    (fun i o hi ho hne => ((a5 i o (Nat.zero_le _) hi ho).2.1 hne).1) (fun i o hi ho => (a5 i o (Nat.zero_le _) hi ho).2.2)
    (fun i o hi ho hfr hne k hk => ((a5 i o (Nat.zero_le _) hi ho).2.1 hne).2 (by simpa using hfr) _ (a6 k (Nat.zero_le _) hk)) ?_ ops.size _ g s0 _ ac (by simp) ?_ ?_ (fun k _ => hrepl k) hI1 hX1 hdf hN ?_ ?_
  · intro i o ho
    exact List.all_eq_true.1 ok.1 o (by simpa using Array.mem_of_getElem? ho)
  · intro g' w' a' k1 k2 k3 k4 k5
    rw [a4] at k1
    rw [a3] at k2
    refine RunO.eff.wpOps_mono' (fun _ _ _ => Lift.trans k3) (h ?_ ok.2 _ ?_ g' w' a' k1 k2 k4 k5)
    · refine List.all_eq_true.2 fun o ho => List.all_eq_true.1 ok.1 o (List.mem_of_mem_drop ho)
    · apply List.ext_getElem?
      intro i
      simp only [List.getElem?_map, List.getElem?_drop, List.getElem?_range', Array.getElem?_toList]
      by_cases hi : i < ops.size - min n ops.size
      · rw [List.getElem?_range' hi]
        have : min n ops.size + 1 * i = n + i := by omega
        simp only [Option.map_some, this, Nat.add_comm]
        rw [Array.getElem?_eq_getElem (by omega)]
        rfl
      · rw [List.getElem?_eq_none (by simp; omega), Array.getElem?_eq_none (by omega)]
        rfl
  · refine Nat.le_trans (List.length_filter_le _ _) (by simp)
  · intro k o ho hk
    have hk : (Array.replicate ops.size false).getD k false = true := hk
    rw [hrepl] at hk; cases hk
  · intro j
    rw [hnone]
    exact R_ext hX1 _ _ (hE j)
  · rw [hnone]; exact a2.symm
end
end Go.PM

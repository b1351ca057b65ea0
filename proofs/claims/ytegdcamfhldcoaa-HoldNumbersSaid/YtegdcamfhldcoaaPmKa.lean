import Derived.Test.YtegdcamfhldcoaaPmK
set_option linter.unusedVariables false
set_option linter.unusedSimpArgs false
namespace Go.PM
open Go

/-! ## Maps with numbers as keys -/

def mfind (k : IntKind) (n : Int) : List (PV × PV) → Nat → Option (Option (Nat × PV))
  | [], _ => some none
  | (key, v) :: es, i => match key with
    | .int k' m => if k = k' then (if n = m then some (some (i, v)) else mfind k n es (i + 1)) else none
    | _ => none

theorem findNow_run {g w k n} : ∀ {es : List (PV × PV)} {me : List MapEntry} {i : Nat} {r}, RA g w (es.map (·.1)) (me.map (·.key)) → RA g w (es.map (·.2)) (me.map (·.val)) → mfind k n es i = some r →
    match r with
    | none => Instr.findNow (.int k) (.int k n) me i = some none
    | some (j, p) => ∃ v, Instr.findNow (.int k) (.int k n) me i = some (some (j, v)) ∧ R g w p v ∧ i ≤ j ∧ j < i + es.length
  | [], me, i, r, h1, h2, h => by
    simp only [List.map_nil, RA, List.map_eq_nil_iff] at h1
    subst h1
    simp only [mfind, Option.some.injEq] at h
    subst h
    rfl
  | (key, p) :: es, me, i, r, h1, h2, h => by
    cases me with
    | nil => simp [RA] at h1
    | cons e me =>
      simp only [List.map_cons, RA, List.cons.injEq] at h1 h2
      obtain ⟨kv, kr, ⟨rfl, rfl⟩, hk, h1⟩ := h1
      obtain ⟨vv, vr, ⟨rfl, rfl⟩, hv, h2⟩ := h2
      unfold mfind at h
      cases key with
      | int k' m =>
        simp only [R] at hk
        simp only at h
        split at h
        case isFalse => cases h
        rename_i hkk
        subst hkk
        unfold Instr.findNow
        rw [hk]
        simp only [Instr.sameNow, if_true]
        by_cases hnm : n = m
        · rw [if_pos hnm] at h
          cases h
          subst hnm
          simp only [beq_self_eq_true]
          exact ⟨e.val, rfl, hv, Nat.le_refl _, by simp⟩
        · rw [if_neg hnm] at h
          have hb : (n == m) = false := by simpa using hnm
          simp only [hb]
          have := findNow_run h1 h2 h
          cases r with
          | none => exact this
          | some x =>
            obtain ⟨j, q⟩ := x
            obtain ⟨v, a1, a2, a3, a4⟩ := this
            exact ⟨v, a1, a2, by omega, by simp; omega⟩
      | _ => cases h

theorem checkKey_int {P : Program} {w : World} {t k b n} (v : Value) (hv : v = .int k n) (hu : P.underlying t = some (.int k)) : (Instr.checkKey b 10000 t v).run P w = .ok () w := by
  subst hv
  rw [show (10000 : Nat) = 9999 + 1 from rfl]
  unfold Instr.checkKey
  rw [bind_run, underlying_run hu]
  rfl

def aLookup (P : Program) (t : TypeId) (m key : PV) (ok : Bool) (s : St) : Option PV :=
  match td P t with
  | .map kt et => match td P kt, key, zpv P et with
    | .int k, .int k' n, some z => if k = k' then
        match (match m with
          | .nilm => some []
          | .map id => match s.blk id with
            | some (.map es) => some es
            | _ => none
          | _ => none) with
        | some es => match mfind k n es 0 with
          | some (some (_, v)) => some (if ok then .tuple [v, .bool true] else v)
          | some none => some (if ok then .tuple [z, .bool false] else z)
          | none => none
        | none => none
      else none
    | _, _, _ => none
  | _ => none

theorem map_at {P g s w id es v} (h : Inv P g s w) (hb : s.blk id = some (.map es)) (hr : R g w (.map id) v) : ∃ b, v = .map (some b) ∧ MapAt g w b es ∧ g.rows id = some (b, 0) ∧ g.live id = true := by
  simp only [R] at hr
  obtain ⟨_, b, sz, h1, rfl⟩ := hr
  have hat := h.at' id
  rw [hb] at hat
  obtain ⟨_, hl, b', h2, h3⟩ := hat
  rw [h1] at h2
  cases h2
  exact ⟨b, rfl, h3, h1, hl⟩

theorem td_int' {P : Program} {t k} (h : td P t = .int k) : P.underlying t = some (.int k) := by
  unfold td at h; split at h <;> cases h; assumption

theorem aLookup_run {P : Program} {g s w t m key ok v mv kv} (h : Inv P g s w) (hm : R g w m mv) (hk : R g w key kv) (ha : aLookup P t m key ok s = some v) :
    ∃ val, (Instr.lookup t mv kv ok).run P w = .ok val w ∧ R g w v val := by
  unfold aLookup at ha
  split at ha
  case h_2 => cases ha
  rename_i kt et htd
  split at ha
  case h_2 => cases ha
  rename_i k k' n z hkt hz
  split at ha
  case isFalse => cases ha
  rename_i hkk
  subst hkk
  simp only [R] at hk
  subst hk
  have hu := td_map htd
  have hku := td_int' hkt
  obtain ⟨zv, z1, z2, z3, z4, z5, z6, z7⟩ := zero_run (P := P) (w := w) hz
  have hzR : R g w z zv := by
    rw [z2]
    exact pvOf_R g w zv fun cs e x hx => by subst e; simp only [flatV, List.all_eq_true] at z3; exact z3 x hx
  have main : ∀ (es : List (PV × PV)) (me : List MapEntry), RA g w (es.map (·.1)) (me.map (·.key)) → RA g w (es.map (·.2)) (me.map (·.val)) →
      (match mfind k n es 0 with
          | some (some (_, v)) => some (if ok then .tuple [v, .bool true] else v)
          | some none => some (if ok then .tuple [z, .bool false] else z)
          | none => none) = some v →
      ∃ val, (do
        Instr.checkKey me.toArray.isEmpty 10000 kt (.int k n)
        let (v, okk) ← match ← Instr.findKey kt (.int k n) me.toArray.toList with
          | some (_, v) => pure (v, true)
          | none => pure (← zeroValue et, false)
        pure (if ok then .tuple #[v, .bool okk] else v) : Sem Value).run P w = .ok val w ∧ R g w v val := by
    intro es me h1 h2 hx
    cases hf : mfind k n es 0 with
    | none => rw [hf] at hx; cases hx
    | some r =>
      rw [hf] at hx
      have hr := findNow_run h1 h2 hf
      rw [bind_run, checkKey_int _ rfl hku]
      simp only
      unfold Instr.findKey
      simp only [bind_run, underlying_run hku]
      cases r with
      | none =>
        simp only at hr hx
        rw [hr]
        simp only [pure_run, bind_run, z1]
        cases ok with
        | true => simp only [if_true] at hx ⊢; cases hx; exact ⟨_, rfl, by simp only [R]; exact ⟨_, rfl, by simp only [RA]; exact ⟨_, _, rfl, hzR, _, _, rfl, by simp only [R], rfl⟩⟩⟩
        | false => simp only [Bool.false_eq_true, if_false] at hx ⊢; cases hx; exact ⟨_, rfl, hzR⟩
      | some x =>
        obtain ⟨j, p⟩ := x
        simp only at hr hx
        obtain ⟨v', a1, a2, _⟩ := hr
        rw [a1]
        simp only [pure_run]
        cases ok with
        | true => simp only [if_true] at hx ⊢; cases hx; exact ⟨_, rfl, by simp only [R]; exact ⟨_, rfl, by simp only [RA]; exact ⟨_, _, rfl, a2, _, _, rfl, by simp only [R], rfl⟩⟩⟩
        | false => simp only [Bool.false_eq_true, if_false] at hx ⊢; cases hx; exact ⟨_, rfl, a2⟩
  unfold Instr.lookup
  rw [bind_run, underlying_run hu]
  simp only
  cases m with
  | nilm =>
    simp only [R] at hm
    subst hm
    simp only at ha
    rw [bind_run]
    exact main [] [] rfl rfl ha
  | map id =>
    simp only at ha
    cases hb : s.blk id with
    | none => rw [hb] at ha; cases ha
    | some B =>
      cases B with
      | map es =>
        rw [hb] at ha
        simp only at ha
        obtain ⟨b, rfl, ⟨me, clock, hh, h1, h2⟩, _, _⟩ := map_at h hb hm
        have hg : (getObj b).run P w = .ok (.map me.toArray clock) w := by
          unfold getObj
          simp only [Sem.run, hh]
        obtain ⟨val, hval, hR⟩ := main es me h1 h2 ha
        refine ⟨val, ?_, hR⟩
        rw [bind_run, hg]
        exact hval
      | _ => rw [hb] at ha; cases ha
  | _ => cases ha

/-! ## What changes a map -/

def World.setB (w : World) (b : Nat) (o : Obj) : World := { w with heap := w.heap.setIfInBounds b o }

theorem setB_heap (w : World) (b : Nat) (o : Obj) (k : Nat) : (World.setB w b o).heap[k]? = if k = b then (if b < w.heap.size then some o else none) else w.heap[k]? := by
  show (w.heap.setIfInBounds b o)[k]? = _
  rw [Array.getElem?_setIfInBounds]
  by_cases h : b = k
  · subst h; simp
  · rw [if_neg h, if_neg (Ne.symm h)]

theorem newMap_step {P g s w} (h : Inv P g s w) :
    ∃ g', Inv P g' (s.new (.map [])) (World.newB w (.map #[] 0)) ∧ Ext g w g' (World.newB w (.map #[] 0)) ∧ R g' (World.newB w (.map #[] 0)) (.map s.nxt) (.map (some w.heap.size)) := by
  let g' : G := { nxt := g.nxt + 1, rows := upd g.rows s.nxt (some (w.heap.size, 0)), live := updB g.live s.nxt true, toks := g.toks, lim := g.lim }
  have e : Ext g w g' (World.newB w (.map #[] 0)) := by
    refine ext_newB h _ g' (Nat.le_succ _) (fun id hid => upd_ne _ _ ?_) (toks_keep (fun _ _ => rfl) (fun _ _ _ _ => rfl)) (fun b hb hk => ?_) (fun _ _ => rfl)
    · have := h.nxt; omega
    · rcases isRow_upd rfl (fun i hi => updB_ne _ _ hi) hk with r | r
      · omega
      · exact r
  have hn := h.rows_none (Nat.le_refl s.nxt)
  refine ⟨g', ?_, e, by simp only [R]; exact ⟨by show s.nxt < g.nxt + 1; rw [h.nxt]; omega, w.heap.size, 0, upd_eq _ _ _, rfl⟩⟩
  refine Inv.step s.nxt h e (by show g.nxt + 1 = s.nxt + 1; rw [h.nxt]) ?_ ?_ ?_ ?_ ?_ ?_ ?_ ?_ ?_ (fun _ _ _ _ _ _ => rfl) (fun b m _ e => by rw [show g'.rows s.nxt = some (w.heap.size, 0) from upd_eq _ _ _] at e; cases e; exact (h.newfree (Nat.le_refl _)).2)
  · intro i hi
    simp only [St.new] at hi ⊢
    rw [if_neg (by omega)]
    exact h.wf i (by omega)
  · exact fun id hid => ⟨if_neg hid, upd_ne _ _ hid, updB_ne _ _ hid, rfl⟩
  · exact fun id b n hid l e => newB_old w _ (h.rowlt l e)
  · intro id b n hid et
    refine ⟨rfl, fun hk => ?_⟩
    have ⟨h1, h2, _⟩ := h.toklt et
    rcases isRow_upd rfl (fun i hi => updB_ne _ _ hi) hk with r | r
    · omega
    · exact h2 r
  · exact fun b hb => writable_of_heap (newB_old w _ hb.lt) hb
  · simp only [St.new, if_true, At]
    exact ⟨hn.2, updB_eq _ _ _, w.heap.size, upd_eq _ _ _, [], 0, newB_new _ _, rfl, rfl⟩
  · intro b m j n _ hx hj lj hjr
    have : g'.rows s.nxt = some (w.heap.size, 0) := upd_eq _ _ _
    rw [this] at hx
    cases hx
    have := h.rowlt lj hjr
    omega
  · intro b m j n hx
    rw [show g'.toks s.nxt = none from hn.2] at hx
    cases hx
  · intro b e' hl
    have := h.lim b e' hl
    rw [newB_size]
    omega

theorem mapSet_step {P g s w id es es' b me' clock'} (h : Inv P g s w) (hb : s.blk id = some (.map es)) (hr : g.rows id = some (b, 0)) (hk : RA g w (es'.map (·.1)) ((me' : List MapEntry).map (·.key))) (hv : RA g w (es'.map (·.2)) (me'.map (·.val))) :
    Inv P g (s.set id (some (.map es'))) (World.setB w b (.map me'.toArray clock')) ∧ Ext g w g (World.setB w b (.map me'.toArray clock')) := by
  have hat := h.at' id
  rw [hb] at hat
  obtain ⟨h1, hlv, b', h2, me, clock, hh, _, _⟩ := hat
  rw [hr] at h2; cases h2
  have hbl : b < w.heap.size := (Array.getElem?_eq_some_iff.1 hh).1
  have hrow : g.isRow b := ⟨id, _, hr, hlv⟩
  have ho : ∀ k, k ≠ b → (World.setB w b (.map me'.toArray clock')).heap[k]? = w.heap[k]? := fun k hk => by rw [setB_heap, if_neg hk]
  have hn : (World.setB w b (.map me'.toArray clock')).heap[b]? = some (.map me'.toArray clock') := by rw [setB_heap, if_pos rfl, if_pos hbl]
  have e : Ext g w g (World.setB w b (.map me'.toArray clock')) :=
    { os := rfl, tape := rfl, output := rfl
      size := by show _ ≤ (w.heap.setIfInBounds _ _).size; simp
      nxt := Nat.le_refl _
      rd := fun b' o' v hf hcell => by
        have : b' ≠ b := fun e => hf.1 (e ▸ hrow)
        rw [cell_of_heap (ho b' this)]; exact hcell
      free := fun _ _ _ hf => hf
      same := fun b' hb' hnr _ => ho b' (fun e => hnr (e ▸ hrow))
      rows := fun _ _ => rfl
      csz := fun b' _ => by
        by_cases hbb : b' = b
        · subst hbb
          unfold csize World.shape?
          rw [hn, hh]
        · exact csize_of_heap (ho b' hbb)
      toks := toks_keep (fun _ _ => rfl) (fun _ _ _ _ => rfl) }
  refine ⟨?_, e⟩
  refine Inv.step id h e h.nxt ?_ (fun j hj => ⟨if_neg hj, rfl, rfl, rfl⟩) ?_ ?_ ?_ ?_ ?_ ?_ ?_ (fun _ _ _ _ _ _ => rfl) (fun b' m l e => h.rlim id b' m l e)
  · intro i hi
    have : i ≠ id := fun e => by
      subst e
      have := h.id_lt (id := i) (by rw [hb]; simp)
      simp only [St.set] at hi
      omega
    simp only [St.set]
    rw [if_neg this]
    exact h.wf i hi
  · intro j b' n hj lj hjr
    refine ho b' (fun e => hj ?_)
    subst e
    exact h.inj j id b' n _ lj hlv hjr hr
  · intro j b' n hj hjt
    exact ⟨rfl, (h.toklt hjt).2.1⟩
  · intro b' hb'
    refine writable_of_heap (ho b' ?_) hb'
    rintro rfl
    obtain ⟨c, ty, lo, hi, hx, _⟩ := hb'
    rw [hh] at hx; cases hx
  · simp only [St.set, if_true, At]
    exact ⟨h1, hlv, b, hr, me', clock', hn, RA_ext e _ _ hk, RA_ext e _ _ hv⟩
  · intro b' m j n _ hx hj lj hjr
    rw [hr] at hx; cases hx
    exact hj (h.inj j id b n _ lj hlv hjr hr)
  · intro b' m j n hx
    rw [h1] at hx; cases hx
  · intro b' e' hl
    have := h.lim b' e' hl
    show b' < (w.heap.setIfInBounds _ _).size
    simpa using this

/-- the entry of a key, or one more -/
def aMapUpdate (P : Program) (t : TypeId) (m key v : PV) (s : St) : Option St :=
  match td P t, m with
  | .map kt et, .map id => match td P kt, key, s.blk id with
    | .int k, .int k' n, some (.map es) => if k = k' ∧ v.ok = true then match mfind k n es 0 with
        | some (some (i, _)) => some (s.set id (some (.map (es.set i (.int k n, v)))))
        | some none => some (s.set id (some (.map (es ++ [(.int k n, v)]))))
        | none => none
      else none
    | _, _, _ => none
  | _, _ => none

theorem keyStays_int {P : Program} {w : World} {k n} (x : Value) (hx : x = .int k n) : (Instr.keyThatStays x (.int k n)).run P w = .ok (.int k n) w := by
  subst hx
  unfold Instr.keyThatStays
  have : Instr.sameBits 10000 (.int k n) (.int k n) = true := by
    rw [show (10000 : Nat) = 9999 + 1 from rfl]
    unfold Instr.sameBits
    simp
  rw [this]
  rfl

theorem findNow_key {k n} : ∀ {me : List MapEntry} {i j v}, Instr.findNow (.int k) (.int k n) me i = some (some (j, v)) → ∃ e, me[j - i]? = some e ∧ i ≤ j ∧ ∃ k', e.key = .int k' n
  | [], i, j, v, h => by simp [Instr.findNow] at h
  | e :: me, i, j, v, h => by
    unfold Instr.findNow at h
    split at h
    · rename_i hs
      cases h
      refine ⟨e, by simp, Nat.le_refl _, ?_⟩
      unfold Instr.sameNow at hs
      split at hs
      · rename_i h1 h2
        cases h1
        split at hs
        · rename_i a b c heq
          cases heq
          simp at hs
          exact ⟨_, by rw [h2, hs]⟩
        · cases hs
      · rename_i h1 h2; cases h1
      · rename_i h1 h2; cases h1
      · cases hs
    · obtain ⟨e', h1, h2, h3⟩ := findNow_key h
      refine ⟨e', ?_, by omega, h3⟩
      rw [show j - i = (j - (i + 1)) + 1 by omega]
      simpa using h1
    · cases h

theorem aMapUpdate_run {P : Program} {g s w t m key v mv kv vv s'} (h : Inv P g s w) (hm : R g w m mv) (hk : R g w key kv) (hv : R g w v vv) (ha : aMapUpdate P t m key v s = some s') :
    ∃ w', (Instr.mapUpdate t mv kv vv).run P w = .ok () w' ∧ Inv P g s' w' ∧ Ext g w g w' := by
  unfold aMapUpdate at ha
  split at ha
  case h_2 => cases ha
  rename_i kt et id htd
  split at ha
  case h_2 => cases ha
  rename_i k k' n es hkt hb
  split at ha
  case isFalse => cases ha
  rename_i hc
  obtain ⟨rfl, hok⟩ := hc
  have hkR := hk
  simp only [R] at hk
  subst hk
  have hu := td_map htd
  have hku := td_int' hkt
  obtain ⟨b, rfl, ⟨me, clock, hh, h1, h2⟩, hrow, hlv⟩ := map_at h hb hm
  have hg : (getObj b).run P w = .ok (.map me.toArray clock) w := by
    unfold getObj
    simp only [Sem.run, hh]
  have hset : ∀ o : Obj, (setObj b o).run P w = .ok () (World.setB w b o) := fun o => by
    unfold setObj
    simp only [Sem.run, hh]
    rfl
  unfold Instr.mapUpdate
  simp only [bind_run, underlying_run hu, hg, checkKey_int _ rfl hku]
  unfold Instr.findKey
  simp only [bind_run, underlying_run hku]
  cases hf : mfind k n es 0 with
  | none => rw [hf] at ha; cases ha
  | some r =>
    rw [hf] at ha
    have hr := findNow_run h1 h2 hf
    cases r with
    | none =>
      simp only at hr ha
      cases ha
      rw [hr]
      simp only [pure_run, hset]
      obtain ⟨k1, k2⟩ := mapSet_step (es' := es ++ [(.int k n, v)]) (me' := me ++ [{ key := .int k n, val := vv, born := clock }]) (clock' := clock + 1) h hb hrow
        (by rw [List.map_append, List.map_append]; exact RA_append h1 (by simp only [List.map_cons, List.map_nil, RA]; exact ⟨_, _, rfl, hkR, rfl⟩))
        (by rw [List.map_append, List.map_append]; exact RA_append h2 (by simp only [List.map_cons, List.map_nil, RA]; exact ⟨_, _, rfl, hv, rfl⟩))
      refine ⟨_, rfl, ?_⟩
      have hp : (me.toArray.push ({ key := .int k n, val := vv, born := clock } : MapEntry)) = (me ++ [({ key := .int k n, val := vv, born := clock } : MapEntry)]).toArray := by simp
      rw [hp]
      exact ⟨k1, k2⟩
    | some x =>
      obtain ⟨j, p⟩ := x
      simp only at hr ha
      cases ha
      obtain ⟨v', a1, a2, _, a4⟩ := hr
      rw [a1]
      obtain ⟨e, e1, _, k', e2⟩ := findNow_key a1
      simp only [Nat.sub_zero] at e1
      have hkk : e.key = .int k n := by
        obtain ⟨kv', q1, q2⟩ := RA_get h1 j ((es[j]'(by omega)).1) (by rw [List.getElem?_map, List.getElem?_eq_getElem (by omega)]; rfl)
        rw [List.getElem?_map, e1] at q1
        simp only [Option.map_some, Option.some.injEq] at q1
        have : ∀ {es : List (PV × PV)} {i j p}, mfind k n es i = some (some (j, p)) → ∃ q, es[j - i]? = some q ∧ i ≤ j ∧ q.1 = .int k n := by
          intro es
          induction es with
          | nil => intro i j p h; simp [mfind] at h
          | cons y es ih =>
            intro i j p h
            obtain ⟨key, u⟩ := y
            unfold mfind at h
            cases key with
            | int k2 m =>
              simp only at h
              split at h
              · rename_i hk2
                subst hk2
                split at h
                · rename_i hnm
                  subst hnm
                  simp only [Option.some.injEq, Prod.mk.injEq] at h
                  obtain ⟨rfl, rfl⟩ := h
                  exact ⟨(.int k n, u), by simp, Nat.le_refl _, rfl⟩
                · obtain ⟨q, b1, b2, b3⟩ := ih h
                  refine ⟨q, ?_, by omega, b3⟩
                  rw [show j - i = (j - (i + 1)) + 1 by omega]
                  simpa using b1
              · cases h
            | _ => cases h
        obtain ⟨q, b1, _, b3⟩ := this hf
        simp only [Nat.sub_zero] at b1
        rw [List.getElem?_eq_getElem (by omega)] at b1
        simp only [Option.some.injEq] at b1
        rw [b1, b3] at q2
        simp only [R] at q2
        rw [q1, q2]
      have hold : ((me.toArray[j]?).map (·.key)).getD (.int k n) = .int k n := by
        rw [show me.toArray[j]? = me[j]? by simp, e1]
        exact hkk
      simp only [pure_run, bind_run, hold, keyStays_int _ rfl, hset]
      obtain ⟨k1, k2⟩ := mapSet_step (es' := es.set j (.int k n, v)) (me' := me.set j { e with key := .int k n, val := vv }) (clock' := clock) h hb hrow
        (by rw [List.map_set, List.map_set]; exact RA_set j h1 hkR)
        (by rw [List.map_set, List.map_set]; exact RA_set j h2 hv)
      refine ⟨_, rfl, ?_⟩
      have hm2 : (me.toArray.modify j fun e => { e with key := .int k n, val := vv }) = (me.set j { e with key := .int k n, val := vv }).toArray := by
        apply Array.ext'
        simp only [Array.toList_modify, List.toList_toArray]
        apply List.ext_getElem?
        intro i
        rw [List.getElem?_modify, List.getElem?_set]
        by_cases hij : j = i
        · subst hij
          rw [e1]
          have := (List.getElem?_eq_some_iff.1 e1).1
          simp [this]
        · rw [if_neg hij]
          simp [hij]
      rw [hm2]
      exact ⟨k1, k2⟩

end Go.PM

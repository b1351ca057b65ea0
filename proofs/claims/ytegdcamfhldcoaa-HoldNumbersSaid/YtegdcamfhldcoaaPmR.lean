import Derived.Test.YtegdcamfhldcoaaPmQ
set_option linter.unusedVariables false
set_option linter.unusedSimpArgs false
namespace Go.PM
open Go

/-! ## Regions that draw, for use -/

theorem keep_mem (e : Env) : ∀ (l : List Nat) (i : Nat), (i ∈ l ∧ (Env.keep l e).get i = e.get i) ∨ (Env.keep l e).get i = .junk
  | [], i => .inr rfl
  | x :: l, i => by
    simp only [Env.keep, List.map_cons, Env.get]
    split
    · rename_i h; subst h; exact .inl ⟨by simp, rfl⟩
    · rcases keep_mem e l i with ⟨h1, h2⟩ | h
      · exact .inl ⟨by simp [h1], h2⟩
      · exact .inr h

theorem keep_ok {g w e l} {tmps : Array Value} (h : ∀ j ∈ l, R g w (Env.get e j) (tmps.getD j undef)) : EnvOK g w (Env.keep l e) tmps := by
  intro i
  rcases keep_mem e l i with ⟨h1, h2⟩ | h2
  · rw [h2]; exact h i h1
  · rw [h2]; simp [R]

def dcore (P : Program) (op : Op) (rv : Operand → PV) (s : St) : Option PV :=
  match op with
  | .buildSlice t len parts => match aBuildSlice P t len parts.toList rv with
    | some els => some (.sl .clip els)
    | none => none
  | _ => apure P op rv s

theorem apure_touch {P : Program} {op : Op} {rv : Operand → PV} {s s' : St} (h : touch op = false) : apure P op rv s = apure P op rv s' := by
  cases op <;> first | rfl | (simp [touch] at h)

theorem dcore_touch {P : Program} {op : Op} {rv : Operand → PV} {s s' : St} (h : touch op = false) : dcore P op rv s = dcore P op rv s' := by
  unfold dcore
  cases op <;> first | rfl | exact apure_touch h

theorem dcore_run {P : Program} {g s w v rv} {a : Act} {o : Oper} (h : Inv P g s w) (hrv : ∀ x, R g w (rv x) (a.eval x)) (ha : dcore P o.op rv s = some v) : Effect P o g w a v s := by
  have pureCase : apure P o.op rv s = some v → Effect P o g w a v s := fun hp => by
    obtain ⟨val, h1, h2⟩ := apure_run h hrv hp
    exact ⟨val, w, g, .inl h1, h, Ext.refl _ _, h2⟩
  unfold dcore at ha
  cases hop : o.op with
  | buildSlice t len parts =>
    rw [hop] at ha
    simp only at ha
    cases hb : aBuildSlice P t len parts.toList rv with
    | none => rw [hb] at ha; cases ha
    | some els =>
      rw [hb] at ha
      cases ha
      obtain ⟨val, w', r1, r2, r3, r4⟩ := aBuildSlice_run h hrv hb
      refine ⟨val, w', g, .inl ?_, r2, r3, r4⟩
      unfold execOp
      rw [hop]
      simp only [bind_run, pure_run, r1]
  | _ => rw [hop] at ha; exact pureCase (by rw [hop]; exact ha)

def dop1 (P : Program) (ops : Array Oper) (o : Oper) (e : Env) (s : St) : Option PV :=
  match o.guard with
  | none => dcore P o.op (ev e) s
  | some (j, want) => match gslot ops j with
    | none => none
    | some d => match Env.get e d with
      | .bool b => match dcore P o.op (fun x => ung (b == want) (ev e x)) s with
        | some v => some (.gd (b == want) v)
        | none => none
      | _ => none

theorem DOp.of_effect {P : Program} {ops : Array Oper} {o : Oper} {e : Env} {s s1 : St} {v : PV} (hg : guard? ops o (Env.keep (slotsOf ops o) e) = some true)
    (h : ∀ g w (a : Act), Inv P g s w → EnvOK g w (Env.keep (slotsOf ops o) e) a.tmps → Effect P o g w a v s1) : DOp P ops o e s v s1 := by
  intro g w a hI hsl K Q hk
  have hE := keep_ok hsl
  rw [guard_wanted hg hE]
  simp only [if_true]
  obtain ⟨val, w', g', hr, k1, k2, k3⟩ := h g w a hI hE
  left
  unfold Oper.wp
  rcases hr with hr | ⟨hr, rfl⟩
  · rw [hr, Oper.upon_value]; exact hk val w' g' k1 k2 k3
  · rw [hr, Oper.upon_skip]; exact hk _ w' g' k1 k2 k3

theorem dop1_op {P : Program} {ops : Array Oper} {o : Oper} {e : Env} {s : St} {v : PV} (h : dop1 P ops o (Env.keep (slotsOf ops o) e) s = some v) : DOp P ops o e s v s := by
  unfold dop1 at h
  cases hg : o.guard with
  | none =>
    rw [hg] at h
    exact DOp.of_effect (by unfold guard?; rw [hg]) fun g w a hI hE => dcore_run hI (fun x => ev_R hE x) h
  | some jw =>
    obtain ⟨j, want⟩ := jw
    rw [hg] at h
    simp only at h
    cases hd : gslot ops j with
    | none => rw [hd] at h; cases h
    | some d =>
      rw [hd] at h
      simp only at h
      cases hb : Env.get (Env.keep (slotsOf ops o) e) d with
      | bool b =>
        rw [hb] at h
        simp only at h
        split at h
        · rename_i u hu
          cases h
          have hgd : guard? ops o (Env.keep (slotsOf ops o) e) = some (b == want) := by
            unfold guard?; rw [hg]; simp only
            unfold gslot at hd; rw [hd]; simp only; rw [hb]
          cases hbw : b == want with
          | true =>
            rw [hbw] at hu hgd
            refine DOp.of_effect hgd fun g w a hI hE => ?_
            obtain ⟨val, w', g', k1, k2, k3, k4⟩ := dcore_run (o := o) (a := a) hI (fun x => ung_R true rfl (ev_R hE x)) hu
            exact ⟨val, w', g', k1, k2, k3, by simp only [R]; exact fun _ => k4⟩
          | false =>
            rw [hbw] at hgd
            intro g w a hI hsl K Q hk
            rw [guard_wanted hgd (keep_ok hsl)]
            simp only [Bool.false_eq_true, if_false]
            exact hk undef w g hI (Ext.refl _ _) (by simp only [R]; exact fun x => by cases x)
        · cases h
      | _ => rw [hb] at h; cases h

theorem dop1_touch {P : Program} {ops : Array Oper} {o : Oper} {e : Env} {s s' : St} (ht : touch o.op = false) : dop1 P ops o e s = dop1 P ops o e s' := by
  unfold dop1
  cases o.guard with
  | none => exact dcore_touch ht
  | some jw =>
    obtain ⟨j, want⟩ := jw
    simp only
    cases gslot ops j with
    | none => rfl
    | some d =>
      simp only
      cases Env.get e d with
      | bool b => simp only; rw [dcore_touch (s := s) (s' := s') ht]
      | _ => rfl

def dops (P : Program) (ops : Array Oper) : List Oper → Env → St → Option Env
  | [], e, _ => some e
  | o :: l, e, s => match dop1 P ops o (Env.keep (slotsOf ops o) e) s with
    | some v => dops P ops l (Env.put e o.dst v) s
    | none => none

def dnext (P : Program) (ops : Array Oper) (l : List Oper) (d : Option Nat) (e : Env) (s : St) (r : Option PV) : Option Env :=
  match r with
  | some v => dops P ops l (Env.put e d v) s
  | none => none

theorem dops_nil (P : Program) (ops : Array Oper) (e : Env) (s : St) : dops P ops [] e s = some e := rfl
theorem dops_cons (P : Program) (ops : Array Oper) (o : Oper) (l : List Oper) (e : Env) (s : St) : dops P ops (o :: l) e s = dnext P ops l o.dst e s (dop1 P ops o (Env.keep (slotsOf ops o) e) s) := rfl
theorem dnext_some (P : Program) (ops : Array Oper) (l : List Oper) (d : Option Nat) (e : Env) (s : St) (v : PV) : dnext P ops l d e s (some v) = dops P ops l (Env.put e d v) s := rfl

section
variable {P : Program} {ops : Array Oper} {ws : List Nat} {e e' : Env} {s s' : St}

theorem Det.pre : ∀ {pre : List Oper} {l : List Oper} {i : Nat} {e e1 : Env}, dops P ops pre e s = some e1 → Det P ops ws (i + pre.length) l e1 s e' s' → Det P ops ws i (pre ++ l) e s e' s'
  | [], l, i, e, e1, h, hd => by cases h; exact hd
  | o :: pre, l, i, e, e1, h, hd => by
    rw [dops_cons] at h
    cases hv : dop1 P ops o (Env.keep (slotsOf ops o) e) s with
    | none => rw [hv] at h; cases h
    | some v =>
      rw [hv, dnext_some] at h
      refine Det.cons (dop1_op hv) (fun _ => rfl) (fun ht _ s2 => dop1_op (by rw [dop1_touch (s' := s) ht]; exact hv)) ?_
      refine Det.pre h ?_
      simp only [List.length_cons] at hd
      rw [show i + 1 + pre.length = i + (pre.length + 1) by omega]
      exact hd

theorem Det.all {l : List Oper} {i : Nat} {e1 : Env} (h : dops P ops l e s = some e1) : Det P ops ws i l e s e1 s := by
  have := Det.pre (ws := ws) (l := []) (i := i) (e' := e1) (s' := s) h Det.nil
  simpa using this

/-- a call that leaves the store as it is -/
theorem Det.call {d : Option Nat} {c : Call} {t : TypeId} {pos : String} {af : Array Edge} {gd : Option (Nat × Bool)} {l : List Oper} {i : Nat} {f : FuncId} {args args' : List PV} {v : PV}
    (hg : guard? ops ⟨d, .call c, t, pos, af, gd⟩ (Env.keep (slotsOf ops ⟨d, .call c, t, pos, af, gd⟩) e) = some true)
    (ha : acall c (Env.keep (slotsOf ops ⟨d, .call c, t, pos, af, gd⟩) e) = some (f, args)) (hw : PV.weaks args = args') (hc : callable P f = true)
    (h : ACalls P f args' s fun r s1 => r = v ∧ s1 = s) (hd : Det P ops ws (i + 1) l (e.put d v) s e' s') : Det P ops ws i (⟨d, .call c, t, pos, af, gd⟩ :: l) e s e' s' := by
  subst hw
  refine Det.cons (v := v) (s1 := s) ?_ (fun _ => rfl) (fun ht => by simp [touch] at ht) hd
  intro g w a hI hsl K Q hk
  have hE := keep_ok hsl
  rw [guard_wanted hg hE]
  simp only [if_true]
  obtain ⟨vs, hrun, hra⟩ := acall_run (P := P) (o := ⟨d, .call c, t, pos, af, gd⟩) (a := a) rfl hE ha hc
  left
  unfold Oper.wp
  rw [hrun, Oper.upon_enter]
  refine (h g w vs hI (RA_weak _ _ hra)).mono ?_
  rintro e' w' ⟨v', g', r', s', rfl, hI', hR', hX', rfl, rfl⟩
  exact hk _ _ _ hI' hX' hR'

/-- one that changes the store: its number stands in ws -/
theorem Det.eff {o : Oper} {l : List Oper} {i : Nat} {v : PV} {s1 : St} (hi : ws.contains i = true) (hg : guard? ops o (Env.keep (slotsOf ops o) e) = some true)
    (ha : acore P o.op (ev (Env.keep (slotsOf ops o) e)) s = some (v, s1)) (hd : Det P ops ws (i + 1) l (e.put o.dst v) s1 e' s') : Det P ops ws i (o :: l) e s e' s' := by
  have hi' : i ∈ ws := by simpa using hi
  exact Det.cons (DOp.of_effect hg fun g w a hI hE => acore_run hI (fun x => ev_R hE x) ha) (fun h => absurd hi' h) (fun _ h => absurd hi' h) hd

theorem Det.append {d : Option Nat} {x y : Operand} {t ty : TypeId} {pos : String} {af : Array Edge} {gd : Option (Nat × Bool)} {l : List Oper} {i : Nat} {el : TypeId} {kx ky : SK} {xs ys : List PV} {v : PV} {s1 : St} (hi : ws.contains i = true)
    (hg : guard? ops ⟨d, .call ⟨.builtin .append, #[x, y], #[t, t]⟩, ty, pos, af, gd⟩ (Env.keep (slotsOf ops ⟨d, .call ⟨.builtin .append, #[x, y], #[t, t]⟩, ty, pos, af, gd⟩) e) = some true)
    (hx : ev e x = .sl kx xs) (hy : ev e y = .sl ky ys) (htd : td P t = .sl el) (hz : (zpv P el).isSome = true)
    (hex : isEls P el xs) (hey : isEls P el ys) (hb0 : 0 < P.bytesOf el) (hlen : (xs.length + ys.length) * P.bytesOf el ≤ 140737488355328) (ha : aAppend P el kx xs ys s = some (v, s1))
    (hd : Det P ops ws (i + 1) l (e.put d v) s1 e' s') : Det P ops ws i (⟨d, .call ⟨.builtin .append, #[x, y], #[t, t]⟩, ty, pos, af, gd⟩ :: l) e s e' s' := by
  have hi' : i ∈ ws := by simpa using hi
  refine Det.cons (DOp.of_effect hg fun g w a hI hE => ?_) (fun h => absurd hi' h) (fun _ h => absurd hi' h) hd
  have hkeep : ∀ z : Operand, z = x ∨ z = y → ev (Env.keep (slotsOf ops ⟨d, .call ⟨.builtin .append, #[x, y], #[t, t]⟩, ty, pos, af, gd⟩) e) z = ev e z := by
    intro z hz
    cases z with
    | tmp j =>
      simp only [ev]
      have hmem : j ∈ slotsOf ops ⟨d, .call ⟨.builtin .append, #[x, y], #[t, t]⟩, ty, pos, af, gd⟩ := by
        unfold slotsOf
        simp only [Op.operands, Call.operands]
        rcases hz with rfl | rfl <;> simp
      have : ∀ (l : List Nat), j ∈ l → (Env.keep l e).get j = e.get j := by
        intro l
        induction l with
        | nil => intro h; simp at h
        | cons q l ih =>
          intro h
          simp only [Env.keep, List.map_cons, Env.get]
          split
          · rename_i hq; subst hq; rfl
          · rename_i hq
            simp at h
            rcases h with h | h
            · exact absurd h hq
            · exact ih h
      exact this _ hmem
    | const v => rfl
    | func f => rfl
    | global g => rfl
  have h1 := ev_R hE x
  have h2 := ev_R hE y
  rw [hkeep x (.inl rfl), hx] at h1
  rw [hkeep y (.inr rfl), hy] at h2
  obtain ⟨val, w', g', r1, r2, r3, r4⟩ := aAppend_run (ty := ty) hI h1 h2 htd hz hex hey hb0 hlen ha
  refine ⟨val, w', g', .inl ?_, r2, r3, r4⟩
  unfold execOp
  simp only [resolve, bind_run, pure_run, invoke, builtin]
  have : Array.map a.eval #[x, y] = #[a.eval x, a.eval y] := by simp
  rw [this, r1]

theorem Det.lists : ∀ {i l e s e' s'}, Det P ops ws i l e s e' s' → (∀ j (o : Oper), l[j]? = some o ↔ ops[i + j]? = some o) →
    ∃ (V : Nat → PV) (S : Nat → St) (E : Nat → Env), E i = e ∧ S i = s ∧ E (i + l.length) = e' ∧ S (i + l.length) = s' ∧ ∀ k (o : Oper), i ≤ k → ops[k]? = some o →
      E (k + 1) = (E k).put o.dst (V k) ∧ (k ∉ ws → S (k + 1) = S k) ∧ DOp P ops o (E k) (S k) (V k) (S (k + 1)) ∧ (touch o.op = false → k ∉ ws → ∀ s, DOp P ops o (E k) s (V k) s) := by
  intro i l e s e' s' h
  induction h with
  | nil =>
    rename_i i e s
    intro hl
    refine ⟨fun _ => .junk, fun _ => s, fun _ => e, rfl, rfl, rfl, rfl, fun k o hk ho => ?_⟩
    have := (hl (k - i) o).2 (by rw [show i + (k - i) = k by omega]; exact ho)
    simp at this
  | cons h1 h2 h3 hd ih =>
    rename_i i o l e s v s1 e' s'
    intro hl
    obtain ⟨V, S, E, a1, a2, a3, a4, a5⟩ := ih (fun j o' => by
      have := hl (j + 1) o'
      rw [show i + 1 + j = i + (j + 1) by omega]
      simpa using this)
    have h0 : ops[i]? = some o := by have := (hl 0 o).1 (by simp); simpa using this
    refine ⟨fun k => if k = i then v else V k, fun k => if k = i then s else S k, fun k => if k = i then e else E k, if_pos rfl, if_pos rfl, ?_, ?_, ?_⟩
    · show (if i + (o :: l).length = i then e else E (i + (o :: l).length)) = e'
      rw [List.length_cons, if_neg (by omega), show i + (l.length + 1) = i + 1 + l.length by omega]; exact a3
    · show (if i + (o :: l).length = i then s else S (i + (o :: l).length)) = s'
      rw [List.length_cons, if_neg (by omega), show i + (l.length + 1) = i + 1 + l.length by omega]; exact a4
    · intro k o' hk ho'
      by_cases e1 : k = i
      · subst e1
        rw [h0] at ho'; cases ho'
        simp only [if_true, show ¬ (k + 1 = k) by omega, if_false]
        rw [a1, a2]
        exact ⟨rfl, h2, h1, h3⟩
      · simp only [e1, show ¬ (k + 1 = i) by omega, if_false]
        exact a5 k o' (by omega) ho'

variable {N : Nat} {k : List KI} {rt : Env → St → Prop}

theorem Run.draw {id : Nat} (ws : List Nat) (hm : P.follows .mixedOrders = true) (hs : drawOK ops ws = true) (hd : Det P ops ws 0 ops.toList e s e' s') (l : List Nat) (h : Run P N k (Env.keep l e') s' rt) :
    Run P N (.code (.region id ops true) :: k) e s rt := by
  intro ok
  simp only [okK, okC, Bool.and_eq_true] at ok
  intro _ g w a hI hE hdf hN
  obtain ⟨V, S, E, a1, a2, a3, a4, a5⟩ := hd.lists (fun j o => by simp)
  simp only [Nat.zero_add, Array.length_toList] at a3 a4
  refine wp_region_any hm ?_
  obtain ⟨hI1, hX1⟩ := drew_step hI (w.drawn + 1)
  have hnone : ∀ (p : Nat → Bool) (n : Nat), lastW p (fun k => (Array.replicate ops.size false).getD k false) n = none := by
    intro p n
    induction n with
    | zero => rfl
    | succ n ih =>
      unfold lastW
      have : (Array.replicate ops.size false).getD n false = false := by
        rw [Array.getD_eq_getD_getElem?]
        cases hx : (Array.replicate ops.size false)[n]? with
        | none => rfl
        | some b => have := Array.mem_of_getElem? hx; simp at this; rw [this.2]; rfl
      rw [this, ih]; simp
  refine any_order (ws := ws) (N := N) (e0 := e) (V := V) (S := S) (E := E) (g0 := g) (w0 := w) hs ?_ a1 (fun i o ho => (a5 i o (Nat.zero_le _) ho).1) (fun i o ho => (a5 i o (Nat.zero_le _) ho).2.1)
    (fun i o ho => (a5 i o (Nat.zero_le _) ho).2.2.1) (fun i o ho => (a5 i o (Nat.zero_le _) ho).2.2.2) ?_ ops.size _ g s _ a (by simp) ?_ ?_ hI1 hX1 hdf hN ?_ ?_
  · intro i o ho
    exact List.all_eq_true.1 ok.1 o (by simpa using Array.mem_of_getElem? ho)
  · intro g' w' a' k1 k2 k3 k4 k5
    rw [a4] at k1
    rw [a3] at k2
    exact ⟨g', Env.keep l e', s', k1, k2.env (keep_get e' l), k3, k4, k5, h ok.2⟩
  · refine Nat.le_trans (List.length_filter_le _ _) (by simp)
  · intro k o ho hk
    have hk : (Array.replicate ops.size false).getD k false = true := hk
    rw [Array.getD_eq_getD_getElem?] at hk
    cases hx : (Array.replicate ops.size false)[k]? with
    | none => rw [hx] at hk; cases hk
    | some b => have := Array.mem_of_getElem? hx; simp at this; rw [hx, this.2] at hk; cases hk
  · intro j
    rw [hnone]
    exact R_ext hX1 _ _ (hE j)
  · rw [hnone]; exact a2.symm

end

end Go.PM

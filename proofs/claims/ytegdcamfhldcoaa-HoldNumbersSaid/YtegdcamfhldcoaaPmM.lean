import Derived.Test.YtegdcamfhldcoaaPmL
set_option linter.unusedVariables false
set_option linter.unusedSimpArgs false
namespace Go.PM
open Go

/-! ## Operations of a region, one behind the other -/

def ung (g : Bool) : PV → PV
  | .gd g' v => if (!g || g') = true then v else .gd g' v
  | v => v

theorem ung_R {g : G} {w : World} {p : PV} {v : Value} (b : Bool) (hb : b = true) (h : R g w p v) : R g w (ung b p) v := by
  subst hb
  unfold ung
  split
  · split
    · rename_i hc
      simp only [R] at h
      exact h (by simpa using hc)
    · exact h
  · exact h

def acore (P : Program) (op : Op) (rv : Operand → PV) (s : St) : Option (PV × St) :=
  match op with
  | .alloc _ | .box _ _ | .store _ _ _ | .makeMap _ _ | .mapUpdate _ _ _ _ => aeff P op rv s
  | _ => match apure P op rv s with
    | some v => some (v, s)
    | none => none

def gslot (ops : Array Oper) (j : Nat) : Option Nat := (ops[j]?).bind (fun o => o.dst)

def aop1 (P : Program) (ops : Array Oper) (o : Oper) (e : Env) (s : St) : Option (PV × St) :=
  match o.guard with
  | none => acore P o.op (ev e) s
  | some (j, want) => match gslot ops j with
    | none => none
    | some d => match Env.get e d with
      | .bool b => match apure P o.op (fun x => ung (b == want) (ev e x)) s with
        | some v => some (.gd (b == want) v, s)
        | none => none
      | _ => none

def aops (P : Program) (ops : Array Oper) : List Oper → Env → St → Option (Env × St)
  | [], e, s => some (e, s)
  | o :: l, e, s => match aop1 P ops o e s with
    | some (v, s') => aops P ops l (Env.put e o.dst v) s'
    | none => none

def anext (P : Program) (ops : Array Oper) (l : List Oper) (d : Option Nat) (e : Env) (r : Option (PV × St)) : Option (Env × St) :=
  match r with
  | some (v, s') => aops P ops l (Env.put e d v) s'
  | none => none

theorem aops_nil (P : Program) (ops : Array Oper) (e : Env) (s : St) : aops P ops [] e s = some (e, s) := rfl
theorem aops_cons (P : Program) (ops : Array Oper) (o : Oper) (l : List Oper) (e : Env) (s : St) : aops P ops (o :: l) e s = anext P ops l o.dst e (aop1 P ops o e s) := rfl
theorem anext_some (P : Program) (ops : Array Oper) (l : List Oper) (d : Option Nat) (e : Env) (v : PV) (s' : St) : anext P ops l d e (some (v, s')) = aops P ops l (Env.put e d v) s' := rfl

theorem acore_run {P : Program} {g s w v rv s'} {a : Act} {o : Oper} (h : Inv P g s w) (hrv : ∀ x, R g w (rv x) (a.eval x)) (ha : acore P o.op rv s = some (v, s')) : Effect P o g w a v s' := by
  have pureCase : (match apure P o.op rv s with | some v => some (v, s) | none => none) = some (v, s') → Effect P o g w a v s' := by
    intro hx
    cases hp : apure P o.op rv s with
    | none => rw [hp] at hx; cases hx
    | some u =>
      rw [hp] at hx
      cases hx
      obtain ⟨val, h1, h2⟩ := apure_run h hrv hp
      exact ⟨val, w, g, .inl h1, h, Ext.refl _ _, h2⟩
  unfold acore at ha
  cases hop : o.op with
  | alloc t => rw [hop] at ha; exact aeff_run h hrv (by rw [hop]; exact ha)
  | box t x => rw [hop] at ha; exact aeff_run h hrv (by rw [hop]; exact ha)
  | store t x y => rw [hop] at ha; exact aeff_run h hrv (by rw [hop]; exact ha)
  | makeMap t x => rw [hop] at ha; exact aeff_run h hrv (by rw [hop]; exact ha)
  | mapUpdate t m k x => rw [hop] at ha; exact aeff_run h hrv (by rw [hop]; exact ha)
  | _ => rw [hop] at ha; exact pureCase (by rw [hop]; exact ha)

/-- one operation of a list: what wpOps asks -/
theorem ops_step {P : Program} {N : Nat} {ops : Array Oper} {o : Oper} {i : Nat} {rest : List Nat} {K : Exit → Act → World → Prop} {g : G} {w : World} {a : Act} {v : PV} {s' : St}
    (ho : ops[i]? = some o) (hw : Region.wanted o (yielded ops a.tmps) = true) (he : Effect P o g w a v s')
    (hk : ∀ val w' g', Inv P g' s' w' → Ext g w g' w' → R g' w' v val → wpOps P ops K rest (a.put o.dst val) w') : wpOps P ops K (i :: rest) a w := by
  obtain ⟨val, w', g', hr, hI, hE, hR⟩ := he
  simp only [wpOps, ho, hw, if_true]
  left
  unfold Oper.wp
  rcases hr with hr | ⟨hr, rfl⟩
  · rw [hr, Oper.upon_value]; exact hk val w' g' hI hE hR
  · rw [hr, Oper.upon_skip]; exact hk _ w' g' hI hE hR

theorem okOp_lt {N : Nat} {o : Oper} (h : okOp N o = true) : ∀ x, o.dst = some x → x < N := by
  intro x hx
  unfold okOp at h
  rw [hx] at h
  simpa using h

section
variable {P : Program} {N : Nat} {k : List KI} {e : Env} {s : St} {rt : Env → St → Prop}

theorem idx_cons {ops : Array Oper} {o : Oper} {l : List Oper} {idx : List Nat} (h : idx.map (ops[·]?) = (o :: l).map some) : ∃ i r, idx = i :: r ∧ ops[i]? = some o ∧ r.map (ops[·]?) = l.map some := by
  cases idx with
  | nil => simp at h
  | cons i r =>
    simp only [List.map_cons, List.cons.injEq] at h
    exact ⟨i, r, rfl, h.1, h.2⟩

/-- one operation by its effect -/
theorem RunO.eff {ops : Array Oper} {o : Oper} {l : List Oper} {v : PV} {s' : St} (hg : guard? ops o e = some true)
    (he : ∀ g w (a : Act), Inv P g s w → EnvOK g w e a.tmps → Effect P o g w a v s') (h : RunO P N ops l k (e.put o.dst v) s' rt) : RunO P N ops (o :: l) k e s rt := by
  intro ok okk idx hidx g w a hI hE hd hN
  obtain ⟨i, r, rfl, ho, hr⟩ := idx_cons hidx
  simp only [List.all_cons, Bool.and_eq_true] at ok
  refine ops_step (N := N) ho (guard_wanted hg hE) (he g w a hI hE) ?_
  intro val w' g' hI' hX hR
  have := h ok.2 okk r hr g' w' (a.put o.dst val) hI' ((hE.ext hX).put hN (okOp_lt ok.1) hR) (by rw [put_defers]; exact hd) (by rw [put_size]; exact hN)
  exact wpOps_lift hX this
where
  wpOps_lift {g w g1 w1} {Q : AQ} {ops : Array Oper} (x : Ext g w g1 w1) : ∀ {idx : List Nat} {a : Act} {w2}, wpOps P ops (Lift P N g1 w1 Q) idx a w2 → wpOps P ops (Lift P N g w Q) idx a w2 := by
    intro idx a w2 h
    exact wpOps_mono' (fun _ _ _ => Lift.trans x) h
  wpOps_mono' {ops : Array Oper} {Q Q' : Exit → Act → World → Prop} (hq : ∀ e a w, Q e a w → Q' e a w) : ∀ {idx : List Nat} {a : Act} {w : World}, wpOps P ops Q idx a w → wpOps P ops Q' idx a w := by
    intro idx
    induction idx with
    | nil => exact fun h => hq _ _ _ h
    | cons i rest ih =>
      intro a w h
      simp only [wpOps] at h ⊢
      cases ho : ops[i]? with
      | none => rw [ho] at h; exact ih h
      | some o =>
        rw [ho] at h
        simp only at h ⊢
        split
        · rename_i hw
          rw [if_pos hw] at h
          rcases h with h | ⟨h1, a0, w0, h2⟩
          · left
            unfold Oper.wp at h ⊢
            unfold Oper.upon at h ⊢
            split at h
            · exact ih h
            · exact ih h
            · exact ih h
            · refine h.mono fun e w' hr => ?_
              cases e with
              | returned v => exact ih hr
              | panicked c => exact hq _ _ _ hr
              | outgrown => obtain ⟨a0, w0, h0⟩ := hr; exact ⟨a0, w0, hq _ _ _ h0⟩
            · exact h.mono fun v w' hr => ih hr
            · exact hq _ _ _ h
            · exact h
          · exact .inr ⟨h1, a0, w0, hq _ _ _ h2⟩
        · rename_i hw
          rw [if_neg hw] at h
          exact ih h

/-- a row of simple operations -/
theorem RunO.ops {ops : Array Oper} : ∀ {pre : List Oper} {l : List Oper} {e : Env} {s : St} {e' : Env} {s' : St}, aops P ops pre e s = some (e', s') → RunO P N ops l k e' s' rt → RunO P N ops (pre ++ l) k e s rt
  | [], l, e, s, e', s', h, hr => by cases h; exact hr
  | o :: pre, l, e, s, e', s', h, hr => by
    rw [aops_cons] at h
    cases h1 : aop1 P ops o e s with
    | none => rw [h1] at h; cases h
    | some vs =>
      obtain ⟨v, s1⟩ := vs
      rw [h1, anext_some] at h
      have ih := RunO.ops h hr
      unfold aop1 at h1
      cases hg : o.guard with
      | none =>
        rw [hg] at h1
        refine RunO.eff (by unfold guard?; rw [hg]) ?_ ih
        intro g w a hI hE
        exact acore_run hI (fun x => ev_R hE x) h1
      | some jw =>
        obtain ⟨j, want⟩ := jw
        rw [hg] at h1
        simp only at h1
        cases hd : gslot ops j with
        | none => rw [hd] at h1; cases h1
        | some d =>
          rw [hd] at h1
          simp only at h1
          cases hb : Env.get e d with
          | bool b =>
            rw [hb] at h1
            simp only at h1
            split at h1
            · rename_i u hu
              cases h1
              -- by cases on the guard
              intro ok okk idx hidx g w a hI hE hdf hN
              obtain ⟨i, r, rfl, ho, hr'⟩ := idx_cons hidx
              simp only [List.cons_append, List.all_cons, Bool.and_eq_true] at ok
              have hgd : guard? ops o e = some (b == want) := by
                unfold guard?; rw [hg]; simp only
                unfold gslot at hd; rw [hd]; simp only; rw [hb]
              have hw := guard_wanted hgd hE
              cases hbw : b == want with
              | true =>
                rw [hbw] at hw hu ih
                obtain ⟨val, h2, h3⟩ := apure_run (o := o) (a := a) hI (fun x => ung_R true rfl (ev_R hE x)) hu
                refine ops_step (N := N) ho hw ⟨val, w, g, .inl h2, hI, Ext.refl _ _, h3⟩ ?_
                intro val' w' g' hI' hX hR
                have := ih ok.2 okk r hr' g' w' (a.put o.dst val') hI' ((hE.ext hX).put hN (okOp_lt ok.1) (v := .gd true u) (by simp only [R]; exact fun _ => hR)) (by rw [put_defers]; exact hdf) (by rw [put_size]; exact hN)
                exact RunO.eff.wpOps_lift hX this
              | false =>
                rw [hbw] at hw hu ih
                simp only [wpOps, ho, hw, if_false, Bool.false_eq_true]
                exact ih ok.2 okk r hr' g w (a.put o.dst undef) hI (hE.put hN (okOp_lt ok.1) (v := .gd false u) (by simp only [R]; exact fun x => by cases x)) (by rw [put_defers]; exact hdf) (by rw [put_size]; exact hN)
            · cases h1
          | _ => rw [hb] at h1; cases h1

theorem RunO.all {ops : Array Oper} {l : List Oper} {e' : Env} {s' : St} (h : aops P ops l e s = some (e', s')) (hr : RunO P N ops [] k e' s' rt) : RunO P N ops l k e s rt := by
  have := RunO.ops (l := []) h hr
  simpa using this

/-- an operation whose guard says no -/
theorem RunO.gskip {ops : Array Oper} {o : Oper} {l : List Oper} (hg : guard? ops o e = some false) (h : RunO P N ops l k (e.put o.dst .junk) s rt) : RunO P N ops (o :: l) k e s rt := by
  intro ok okk idx hidx g w a hI hE hd hN
  obtain ⟨i, r, rfl, ho, hr⟩ := idx_cons hidx
  simp only [List.all_cons, Bool.and_eq_true] at ok
  have hw := guard_wanted hg hE
  simp only [wpOps, ho, hw, if_false, Bool.false_eq_true]
  exact h ok.2 okk r hr g w (a.put o.dst undef) hI (hE.put hN (okOp_lt ok.1) (by simp [R])) (by rw [put_defers]; exact hd) (by rw [put_size]; exact hN)

/-- an operation whose guard says yes -/
theorem RunO.gdo {ops : Array Oper} {o : Oper} {l : List Oper} {v : PV} {s' : St} (hg : guard? ops o e = some true) (he : acore P o.op (ev e) s = some (v, s')) (h : RunO P N ops l k (e.put o.dst v) s' rt) : RunO P N ops (o :: l) k e s rt :=
  RunO.eff hg (fun g w a hI hE => acore_run hI (fun x => ev_R hE x) he) h

end

/-! ## Calls -/

def ACalls (P : Program) (f : FuncId) (args : List PV) (s : St) (Q : PV → St → Prop) : Prop :=
  ∀ g w (vs : Array Value), Inv P g s w → RA g w args vs.toList → Calls P f vs w fun e w' =>
    ∃ v g' r s', e = .returned v ∧ Inv P g' s' w' ∧ R g' w' r v ∧ Ext g w g' w' ∧ Q r s'

theorem ACalls.mono {P f args s} {Q Q' : PV → St → Prop} (h : ACalls P f args s Q) (hq : ∀ r s', Q r s' → Q' r s') : ACalls P f args s Q' :=
  fun g w vs hI hR => (h g w vs hI hR).mono fun e w' ⟨v, g', r, s', h1, h2, h3, h4, h5⟩ => ⟨v, g', r, s', h1, h2, h3, h4, hq _ _ h5⟩

/-- a function that may be called as any -/
def callable (P : Program) (f : FuncId) : Bool := match P.funcs[f]? with
  | some fn => fn.body.isSome && !(fn.name == "runtime.NumGoroutine")
  | none => false

theorem callFunc_run {P : Program} {f : FuncId} {args : Array Value} {w : World} (h : callable P f = true) : (callFunc f args).run P w = .ok (.enter f args) w := by
  unfold callable at h
  unfold callFunc
  rw [bind_run]
  show (match P.funcs[f]? with | none => _ | some fn => _ : Sem Next).run P w = _
  cases hf : P.funcs[f]? with
  | none => rw [hf] at h; cases h
  | some fn =>
    rw [hf] at h
    simp only [Bool.and_eq_true, Bool.not_eq_true'] at h
    simp only [h.2, Bool.false_eq_true, if_false]
    have : fn.body.isNone = false := by cases hb : fn.body <;> simp_all
    simp only [this, Bool.false_eq_true, if_false]
    rfl

/-- the function that an operation calls, and with what -/
def acall (c : Call) (e : Env) : Option (FuncId × List PV) :=
  match c.callee with
  | .value f => match ev e f with
    | .fn (.func i) first cap => some (i, first ++ c.args.toList.map (ev e) ++ cap)
    | _ => none
  | _ => none

theorem acall_run {P : Program} {c : Call} {o : Oper} {g w e f args} {a : Act} (hop : o.op = .call c) (hE : EnvOK g w e a.tmps) (h : acall c e = some (f, args)) (hc : callable P f = true) :
    ∃ vs : Array Value, (execOp a.eval o).run P w = .ok (.enter f vs) w ∧ RA g w args vs.toList := by
  unfold acall at h
  obtain ⟨callee, cargs, ats⟩ := c
  simp only at h
  cases callee with
  | value x =>
    simp only at h
    split at h
    · rename_i i first cap hev
      cases h
      have hx := ev_R hE x
      rw [hev] at hx
      simp only [R] at hx
      obtain ⟨fv, cv, hx, h1, h2⟩ := hx
      refine ⟨fv ++ cargs.map a.eval ++ cv, ?_, ?_⟩
      · unfold execOp
        rw [hop]
        simp only [resolve, hx, Deferred.ofValue, bind_run, pure_run, invoke]
        exact callFunc_run hc
      · simp only [Array.toList_append, Array.toList_map]
        exact RA_append (RA_append h1 (ev_RA hE _)) h2
    · cases h
  | _ => cases h

section
variable {P : Program} {N : Nat} {k : List KI} {e : Env} {s : St} {rt : Env → St → Prop}

theorem RunO.call_ {ops : Array Oper} {o : Oper} {l : List Oper} {f : FuncId} {args : List PV} (hg : guard? ops o e = some true)
    (hc : ∀ g w (a : Act), Inv P g s w → EnvOK g w e a.tmps → ∃ vs : Array Value, (execOp a.eval o).run P w = .ok (.enter f vs) w ∧ RA g w args vs.toList)
    (h : ACalls P f args s fun r s' => RunO P N ops l k (e.put o.dst r) s' rt) : RunO P N ops (o :: l) k e s rt := by
  intro ok okk idx hidx g w a hI hE hd hN
  obtain ⟨i, r, rfl, ho, hr⟩ := idx_cons hidx
  simp only [List.all_cons, Bool.and_eq_true] at ok
  have hw := guard_wanted hg hE
  obtain ⟨vs, hrun, hra⟩ := hc g w a hI hE
  simp only [wpOps, ho, hw, if_true]
  left
  unfold Oper.wp
  rw [hrun, Oper.upon_enter]
  refine (h g w vs hI hra).mono ?_
  rintro e' w' ⟨v, g', r', s', rfl, hI', hR', hX', hQ⟩
  have := hQ ok.2 okk r hr g' w' (a.put o.dst v) hI' ((hE.ext hX').put hN (okOp_lt ok.1) hR') (by rw [put_defers]; exact hd) (by rw [put_size]; exact hN)
  exact RunO.eff.wpOps_lift hX' this

/-- a call of a function, or of a function's value -/
theorem RunO.call {ops : Array Oper} {d : Option Nat} {c : Call} {t : TypeId} {pos : String} {af : Array Edge} {gd : Option (Nat × Bool)} {l : List Oper} {f : FuncId} {args : List PV}
    (hg : guard? ops ⟨d, .call c, t, pos, af, gd⟩ e = some true) (ha : acall c e = some (f, args)) (hc : callable P f = true)
    (h : ACalls P f args s fun r s' => RunO P N ops l k (e.put d r) s' rt) : RunO P N ops (⟨d, .call c, t, pos, af, gd⟩ :: l) k e s rt :=
  RunO.call_ hg (fun g w a hI hE => acall_run rfl hE ha hc) h

end

/-! ## A function's body -/

def argEnv : Nat → List PV → Env
  | _, [] => []
  | i, p :: ps => (i, p) :: argEnv (i + 1) ps

theorem argEnv_get {g w} : ∀ (ps : List PV) (vs : List Value) (i j : Nat), RA g w ps vs → R g w ((argEnv i ps).get j) ((vs[j - i]?).getD undef) ∨ (argEnv i ps).get j = .junk
  | [], vs, i, j, _ => .inr rfl
  | p :: ps, vs, i, j, h => by
    simp only [RA] at h
    obtain ⟨v, r, rfl, hv, hr⟩ := h
    simp only [argEnv, Env.get]
    split
    · rename_i e; subst e; left; simpa using hv
    · rename_i hne
      rcases argEnv_get ps r (i + 1) j hr with q | q
      · by_cases hlt : i < j
        · left
          rw [show j - i = (j - (i + 1)) + 1 by omega, List.getElem?_cons_succ]
          exact q
        · right
          exact argEnv_small ps (i + 1) j (by omega)
      · exact .inr q
where
  argEnv_small : ∀ (ps : List PV) (i j : Nat), j < i → (argEnv i ps).get j = .junk
    | [], i, j, _ => rfl
    | p :: ps, i, j, h => by
      simp only [argEnv, Env.get]
      rw [if_neg (by omega)]
      exact argEnv_small ps (i + 1) j (by omega)

/-- what a function answers -/
def ret1 (P : Program) (e : Env) (s : St) : ResultVar → Option PV
  | .tmp t => some (e.get t)
  | .cell a t => aLoad P t (e.get a) s

def rets (P : Program) (e : Env) (s : St) : List ResultVar → Option (List PV)
  | [] => some []
  | r :: rs => match ret1 P e s r, rets P e s rs with
    | some p, some ps => some (p :: ps)
    | _, _ => none

def retv (P : Program) (rs : List ResultVar) (e : Env) (s : St) : Option PV :=
  match rs with
  | [r] => ret1 P e s r
  | rs => match rets P e s rs with
    | some ps => some (.tuple ps)
    | none => none

theorem map_run {α β : Type} (P : Program) (f : α → β) (x : Sem α) (w : World) : (f <$> x).run P w = match x.run P w with | .ok a w' => .ok (f a) w' | .halt h w' => .halt h w' := by
  show (x >>= fun a => pure (f a)).run P w = _
  rw [bind_run]
  cases x.run P w <;> rfl

theorem ret1_run {P : Program} {g s w e p r} {a : Act} {fx : ResultVar → Sem Value} (h : Inv P g s w) (hE : EnvOK g w e a.tmps) (ht : ∀ t, fx (.tmp t) = pure (a.tmps.getD t undef))
    (hc : ∀ x t, fx (.cell x t) = (do loadVar t (← asAddr (a.tmps.getD x undef)))) (hr : ret1 P e s r = some p) : ∃ v, (fx r).run P w = .ok v w ∧ R g w p v := by
  cases r with
  | tmp t =>
    cases hr
    exact ⟨_, by rw [ht]; rfl, hE t⟩
  | cell ad t =>
    have hr : aLoad P t (e.get ad) s = some p := hr
    have hx := hE ad
    obtain ⟨val, hv, hrv⟩ := aLoad_run h hx hr
    have : ∃ p, a.tmps.getD ad undef = .pointer (some p) := by
      unfold aLoad at hr
      split at hr
      · rename_i id i j he
        rw [he] at hx
        simp only [R] at hx
        obtain ⟨_, b, sz, _, e2⟩ := hx
        exact ⟨_, e2⟩
      · rename_i cs he
        rw [he] at hx
        simp only [R] at hx
        obtain ⟨b, o, vs, e2, _⟩ := hx
        exact ⟨_, e2⟩
      · cases hr
    obtain ⟨q, hq⟩ := this
    refine ⟨val, ?_, hrv⟩
    rw [hc, hq]
    rw [hq] at hv
    unfold Instr.loadAt at hv
    simp only [Instr.sureAddr, bind_run, pure_run] at hv
    simp only [asAddr, bind_run, pure_run, hv]

theorem rets_run {P : Program} {g s w e} {a : Act} {fx : ResultVar → Sem Value} (h : Inv P g s w) (hE : EnvOK g w e a.tmps) (ht : ∀ t, fx (.tmp t) = pure (a.tmps.getD t undef))
    (hc : ∀ x t, fx (.cell x t) = (do loadVar t (← asAddr (a.tmps.getD x undef)))) : ∀ (rs : List ResultVar) (ps : List PV), rets P e s rs = some ps → ∃ vs, (rs.mapM fx).run P w = .ok vs w ∧ RA g w ps vs
  | [], ps, hr => by cases hr; exact ⟨[], rfl, by simp [RA]⟩
  | r :: rs, ps, hr => by
    unfold rets at hr
    split at hr
    · rename_i p ps' h1 h2
      cases hr
      obtain ⟨v, hv, hR⟩ := ret1_run h hE ht hc h1
      obtain ⟨vs, hvs, hRs⟩ := rets_run h hE ht hc rs ps' h2
      refine ⟨v :: vs, ?_, by simp only [RA]; exact ⟨v, vs, rfl, hR, hRs⟩⟩
      rw [List.mapM_cons, bind_run, hv]
      simp only
      rw [bind_run, hvs]
      rfl
    · cases hr

def resOf (tmps : Array Value) : ResultVar → Sem Value
  | .tmp t => pure (tmps.getD t undef)
  | .cell a t => do loadVar t (← asAddr (tmps.getD a undef))

theorem results_eq (fn : Func) (tmps : Array Value) : results fn tmps = (do let vs ← fn.results.mapM (resOf tmps); pure (if h : vs.size = 1 then vs[0] else .tuple vs)) := rfl

theorem retv_run {P : Program} {fn : Func} {g s w e r} {a : Act} (h : Inv P g s w) (hE : EnvOK g w e a.tmps) (hr : retv P fn.results.toList e s = some r) :
    ∃ v, (results fn a.tmps).run P w = .ok v w ∧ R g w r v := by
  unfold retv at hr
  rw [results_eq]
  have hres : fn.results = fn.results.toList.toArray := by simp
  split at hr
  · rename_i r1 hl
    obtain ⟨v, hv, hR⟩ := ret1_run (fx := resOf a.tmps) (a := a) h hE (fun t => rfl) (fun x t => rfl) hr
    rw [hres, hl]
    rw [bind_run, List.mapM_toArray, map_run]
    simp only [List.mapM_cons, List.mapM_nil, bind_run, pure_run]
    refine ⟨v, ?_, hR⟩
    rw [hv]
    rfl
  · rename_i rs hne
    cases hps : rets P e s fn.results.toList with
    | none => rw [hps] at hr; cases hr
    | some ps =>
      rw [hps] at hr
      cases hr
      obtain ⟨vs, hv, hR⟩ := rets_run (fx := resOf a.tmps) (a := a) h hE (fun t => rfl) (fun x t => rfl) fn.results.toList ps hps
      rw [hres]
      rw [bind_run, List.mapM_toArray, map_run]
      refine ⟨.tuple vs.toArray, ?_, by simp only [R]; exact ⟨_, rfl, hR⟩⟩
      simp only [hv, pure_run]
      have hl := RA_length hR
      have hl2 : fn.results.toList.length = ps.length := by
        clear hv hR hl hne hres
        generalize fn.results.toList = rs at hps
        induction rs generalizing ps with
        | nil => cases hps; rfl
        | cons r rs ih =>
          unfold rets at hps
          split at hps
          · rename_i p ps' h1 h2
            cases hps
            simp [ih _ h2]
          · cases hps
      have : vs.toArray.size ≠ 1 := by
        simp only [List.size_toArray]
        intro h1
        rw [← hl, ← hl2] at h1
        match hrs : fn.results.toList, h1 with
        | [r], _ => exact hne r hrs
      rw [dif_neg this]

/-- what holds when a function is left: names may be forgotten -/
def Ret (P : Program) (fn : Func) (args : List PV) (s0 : St) (Q : PV → St → Prop) (e : Env) (s : St) : Prop :=
  ∃ r, retv P fn.results.toList e s = some r ∧ ∃ r' s1, Q r' s1 ∧
    ∀ g0 w0 g w, Inv P g0 s0 w0 → Ext g0 w0 g w → Inv P g s w → ∀ v, R g w r v → ∃ g1, Inv P g1 s1 w ∧ R g1 w r' v ∧ Ext g0 w0 g1 w

theorem ACalls.body {P : Program} {f : FuncId} {fn : Func} {c : Code} {args : List PV} {s : St} {Q : PV → St → Prop} (hf : P.funcs[f]? = some fn) (hb : fn.body = some c) (hn : args.length ≤ fn.ntmps)
    (hok : okC fn.ntmps c = true) (h : s.wf → Run P fn.ntmps [.code c] (argEnv 0 args) s (Ret P fn args s Q)) : ACalls P f args s Q := by
  intro g w vs hI hR
  refine calls_of_wp hf hb ?_
  have hl := RA_length hR
  simp only [Array.length_toList] at hl
  have hE : EnvOK g w (argEnv 0 args) (vs ++ Array.replicate (fn.ntmps - vs.size) undef) := by
    intro j
    rcases argEnv_get args vs.toList 0 j hR with q | q
    · have e : ((vs ++ Array.replicate (fn.ntmps - vs.size) undef).getD j undef) = ((vs.toList[j - 0]?).getD undef) := by
        rw [Array.getD_eq_getD_getElem?, Nat.sub_zero, Array.getElem?_toList, Array.getElem?_append]
        split
        · rfl
        · rename_i hlt
          rw [Array.getElem?_eq_none (xs := vs) (by omega)]
          cases hx : (Array.replicate (fn.ntmps - vs.size) undef)[j - vs.size]? with
          | none => rfl
          | some x =>
            have := Array.mem_of_getElem? hx
            simp at this
            rw [this.2]; rfl
      rw [e]; exact q
    · rw [q]; simp [R]
  refine wp_mono (h hI.wf (by simp only [okK, Bool.and_true]; exact hok) hok g w _ hI hE rfl (by simp; omega)) ?_
  rintro ex a' w' ⟨g', e', s', h1, h2, h3, h4, h5, h6⟩
  have fin : Ret P fn args s Q e' s' → a'.defers = [] ∧ ∃ v, (results fn a'.tmps).run P w' = .ok v w' ∧ ∃ v' g' r s', Ending.returned v = .returned v' ∧ Inv P g' s' w' ∧ R g' w' r v' ∧ Ext g w g' w' ∧ Q r s' := by
    rintro ⟨r, hr, r', s1, hQ, hfin⟩
    obtain ⟨v, hv, hrv⟩ := retv_run h1 h2 hr
    obtain ⟨g1, k1, k2, k3⟩ := hfin g w g' w' hI h3 h1 v hrv
    exact ⟨h4, v, hv, v, g1, r', s1, rfl, k1, k2, k3, hQ⟩
  cases ex with
  | normal => exact fin h6
  | ret => exact fin h6
  | _ => exact h6.elim

end Go.PM

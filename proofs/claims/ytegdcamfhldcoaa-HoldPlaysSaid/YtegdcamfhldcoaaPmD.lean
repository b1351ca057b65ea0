import Derived.Test.YtegdcamfhldcoaaPmC
set_option linter.unusedVariables false
set_option linter.unusedSimpArgs false
namespace Go.PM
open Go

/-! ## The frame's slots, code -/

abbrev Env := List (Nat × PV)

def Env.get : Env → Nat → PV
  | [], _ => .junk
  | (k, v) :: e, i => if i = k then v else Env.get e i

def EnvOK (g : G) (w : World) (e : Env) (tmps : Array Value) : Prop := ∀ i, R g w (e.get i) (tmps.getD i undef)

def Env.put (e : Env) (d : Option Nat) (v : PV) : Env := match d with | some d => (d, v) :: e | none => e

theorem EnvOK.ext {g w g' w' e tmps} (h : EnvOK g w e tmps) (x : Ext g w g' w') : EnvOK g' w' e tmps := fun i => R_ext x _ _ (h i)

theorem EnvOK.put {g w e} {a : Act} {d : Option Nat} {v : PV} {val : Value} {N : Nat} (h : EnvOK g w e a.tmps) (hN : a.tmps.size = N) (hd : ∀ x, d = some x → x < N) (hv : R g w v val) :
    EnvOK g w (e.put d v) (a.put d val).tmps := by
  cases d with
  | none => exact h
  | some d =>
    intro i
    have hd' := hd d rfl
    simp only [Env.put, Env.get, Act.put]
    by_cases hi : i = d
    · subst hi
      rw [if_pos rfl, Array.getD_eq_getD_getElem?, Array.getElem?_setIfInBounds]
      simp [hN, hd', hv]
    · rw [if_neg hi, Array.getD_eq_getD_getElem?, Array.getElem?_setIfInBounds, if_neg (fun e => hi e.symm), ← Array.getD_eq_getD_getElem?]
      exact h i

theorem put_size (a : Act) (d : Option Nat) (v : Value) : (a.put d v).tmps.size = a.tmps.size := by cases d <;> simp [Act.put]
theorem put_defers (a : Act) (d : Option Nat) (v : Value) : (a.put d v).defers = a.defers := by cases d <;> rfl

def okOp (N : Nat) (o : Oper) : Bool := match o.dst with | some d => decide (d < N) | none => true

def okC (N : Nat) : Code → Bool
  | .region _ ops _ => ops.toList.all (okOp N)
  | .seq a b => okC N a && okC N b
  | .cond _ a b => okC N a && okC N b
  | .block _ c => okC N c
  | .loop c => okC N c
  | _ => true

abbrev AQ := Exit → Env → St → Prop

def Lift (P : Program) (N : Nat) (g : G) (w : World) (Q : AQ) : Exit → Act → World → Prop := fun ex a' w' =>
  ∃ g' e' s', Inv P g' s' w' ∧ EnvOK g' w' e' a'.tmps ∧ Ext g w g' w' ∧ a'.defers = [] ∧ a'.tmps.size = N ∧ Q ex e' s'

def AWP (P : Program) (N : Nat) (c : Code) (e : Env) (s : St) (Q : AQ) : Prop :=
  okC N c = true → ∀ g w (a : Act), Inv P g s w → EnvOK g w e a.tmps → a.defers = [] → a.tmps.size = N → c.wp P (Lift P N g w Q) a w

inductive KI where
  | code (c : Code)
  | blk (id : Nat)
  | lp (I : Env → St → Prop)

def After (P : Program) (N : Nat) (ret : Env → St → Prop) : List KI → AQ
  | [], .normal, e, s => ret e s
  | [], .ret, e, s => ret e s
  | [], _, _, _ => False
  | .code c :: k, .normal, e, s => AWP P N c e s (After P N ret k)
  | .code _ :: k, ex, e, s => After P N ret k ex e s
  | .blk id :: k, .exit i, e, s => if i = id then After P N ret k .normal e s else After P N ret k (.exit i) e s
  | .blk _ :: k, ex, e, s => After P N ret k ex e s
  | .lp I :: _, .normal, e, s => I e s
  | .lp _ :: k, ex, e, s => After P N ret k ex e s

def okK (N : Nat) : List KI → Bool
  | [] => true
  | .code c :: k => okC N c && okK N k
  | _ :: k => okK N k

def Run (P : Program) (N : Nat) (k : List KI) (e : Env) (s : St) (ret : Env → St → Prop) : Prop := okK N k = true → After P N ret k .normal e s

/-- after an exit -/
def Out (P : Program) (N : Nat) (i : Nat) : List KI → Env → St → (Env → St → Prop) → Prop
  | .blk id :: k, e, s, ret => if i = id then Run P N k e s ret else Out P N i k e s ret
  | _ :: k, e, s, ret => Out P N i k e s ret
  | [], _, _, _ => False

theorem Lift.mono {P N g w Q Q'} (h : ∀ ex e s, Q ex e s → Q' ex e s) {ex a' w'} : Lift P N g w Q ex a' w' → Lift P N g w Q' ex a' w' :=
  fun ⟨g', e', s', h1, h2, h3, h4, h5, h6⟩ => ⟨g', e', s', h1, h2, h3, h4, h5, h _ _ _ h6⟩

theorem Lift.trans {P N g w g1 w1 Q} (x : Ext g w g1 w1) {ex a' w'} : Lift P N g1 w1 Q ex a' w' → Lift P N g w Q ex a' w' :=
  fun ⟨g', e', s', h1, h2, h3, h4, h5, h6⟩ => ⟨g', e', s', h1, h2, x.trans h3, h4, h5, h6⟩

theorem AWP.mono {P N c e s Q Q'} (h : AWP P N c e s Q) (hq : ∀ ex e s, Q ex e s → Q' ex e s) : AWP P N c e s Q' :=
  fun ok g w a h1 h2 h3 h4 => wp_mono (h ok g w a h1 h2 h3 h4) fun _ _ _ => Lift.mono hq

/-! The rules, on the list of what is to be done -/

section
variable {P : Program} {N : Nat} {k : List KI} {e : Env} {s : St} {rt : Env → St → Prop}

theorem Run.seq {a b : Code} (h : Run P N (.code a :: .code b :: k) e s rt) : Run P N (.code (.seq a b) :: k) e s rt := by
  intro ok
  simp only [okK, okC, Bool.and_eq_true] at ok
  obtain ⟨⟨oa, ob⟩, okk⟩ := ok
  have h := h (by simp only [okK, Bool.and_eq_true]; exact ⟨oa, ob, okk⟩)
  intro _ g w c hI hE hd hN
  refine wp_seq (wp_mono (h oa g w c hI hE hd hN) ?_)
  rintro ex a1 w1 ⟨g1, e1, s1, hI1, hE1, hX1, hd1, hN1, hQ⟩
  cases ex with
  | normal =>
    refine wp_mono (hQ ob g1 w1 a1 hI1 hE1 hd1 hN1) fun ex a' w' => Lift.trans hX1
  | _ => exact ⟨g1, e1, s1, hI1, hE1, hX1, hd1, hN1, hQ⟩

theorem Run.skip (h : Run P N k e s rt) : Run P N (.code .skip :: k) e s rt := by
  intro ok _ g w c hI hE hd hN
  simp only [okK, okC, Bool.true_and] at ok
  exact wp_skip ⟨g, e, s, hI, hE, Ext.refl _ _, hd, hN, h ok⟩

theorem Run.ret (h : rt e s) : Run P N (.code .ret :: k) e s rt := by
  intro ok _ g w c hI hE hd hN
  refine wp_ret ⟨g, e, s, hI, hE, Ext.refl _ _, hd, hN, ?_⟩
  clear ok
  induction k with
  | nil => exact h
  | cons x k ih => cases x <;> exact ih

theorem Run.nil (h : rt e s) : Run P N [] e s rt := fun _ => h

theorem Run.blk {id : Nat} (h : Run P N k e s rt) : Run P N (.blk id :: k) e s rt := fun ok => h (by simpa only [okK] using ok)

theorem Run.lp {I : Env → St → Prop} (h : I e s) : Run P N (.lp I :: k) e s rt := fun ok => h

theorem Out.run {i : Nat} (h : Out P N i k e s rt) (ok : okK N k = true) : After P N rt k (.exit i) e s := by
  induction k with
  | nil => exact h.elim
  | cons x k ih =>
    cases x with
    | code c =>
      simp only [okK, Bool.and_eq_true] at ok
      exact ih h ok.2
    | blk id =>
      simp only [okK] at ok
      simp only [Out] at h
      simp only [After]
      by_cases hi : i = id
      · rw [if_pos hi] at h ⊢
        exact h ok
      · rw [if_neg hi] at h ⊢
        exact ih h ok
    | lp I => exact ih h (by simpa only [okK] using ok)

theorem Run.exit {i : Nat} (h : Out P N i k e s rt) : Run P N (.code (.exit i) :: k) e s rt := by
  intro ok _ g w c hI hE hd hN
  simp only [okK, okC, Bool.true_and] at ok
  exact wp_exit ⟨g, e, s, hI, hE, Ext.refl _ _, hd, hN, Out.run h ok⟩

theorem Run.block {id : Nat} {c : Code} (h : Run P N (.code c :: .blk id :: k) e s rt) : Run P N (.code (.block id c) :: k) e s rt := by
  intro ok
  simp only [okK, okC, Bool.and_eq_true] at ok
  have h := h (by simp only [okK, Bool.and_eq_true]; exact ok)
  intro _ g w a hI hE hd hN
  refine wp_block (wp_mono (h ok.1 g w a hI hE hd hN) ?_)
  rintro ex a1 w1 ⟨g1, e1, s1, hI1, hE1, hX1, hd1, hN1, hQ⟩
  cases ex with
  | exit i =>
    simp only [Exit.inBlock]
    simp only [After] at hQ
    by_cases hi : i = id
    · rw [if_pos hi] at hQ ⊢
      exact ⟨g1, e1, s1, hI1, hE1, hX1, hd1, hN1, hQ⟩
    · rw [if_neg hi] at hQ ⊢
      exact ⟨g1, e1, s1, hI1, hE1, hX1, hd1, hN1, hQ⟩
  | _ => exact ⟨g1, e1, s1, hI1, hE1, hX1, hd1, hN1, hQ⟩

/-- a loop: what holds at each round's head, and a number that goes down -/
theorem Run.loop {c : Code} (I : Env → St → Prop) (μ : Env → St → Nat) (h0 : I e s)
    (round : ∀ e s, I e s → Run P N (.code c :: .lp (fun e' s' => I e' s' ∧ μ e' s' < μ e s) :: k) e s rt) : Run P N (.code (.loop c) :: k) e s rt := by
  intro ok
  simp only [okK, okC, Bool.and_eq_true] at ok
  intro _ g w a hI hE hd hN
  -- the concrete invariant
  intro b kk cs
  have key : ∀ n e s g w (a : Act), μ e s = n → I e s → Inv P g s w → EnvOK g w e a.tmps → a.defers = [] → a.tmps.size = N →
      ∃ ex a' w', Lift P N g w (After P N rt k) ex a' w' ∧ Arrives P (lone (b.at a (.code c :: .inLoop c :: kk)) cs w) b kk cs ex a' w' := by
    intro n
    induction n using Nat.strongRecOn with
    | _ n ih =>
      intro e s g w a hn hi hI hE hd hN
      have h := round e s hi (by simp only [okK, Bool.and_eq_true]; exact ok) ok.1 g w a hI hE hd hN
      obtain ⟨ex, a₁, w₁, hq, harr⟩ := h b (.inLoop c :: kk) cs
      obtain ⟨g1, e1, s1, hI1, hE1, hX1, hd1, hN1, hQ⟩ := hq
      cases ex with
      | normal =>
        obtain ⟨hi1, hlt⟩ := hQ
        obtain ⟨e₂, a₂, w₂, hq₂, harr₂⟩ := ih (μ e1 s1) (by rw [← hn]; exact hlt) e1 s1 g1 w₁ a₁ rfl hi1 hI1 hE1 hd1 hN1
        exact ⟨e₂, a₂, w₂, Lift.trans hX1 hq₂, .of_steps (Steps.trans harr (.one step_inLoop)) harr₂⟩
      | exit id => exact ⟨_, a₁, w₁, ⟨g1, e1, s1, hI1, hE1, hX1, hd1, hN1, hQ⟩, .pass (x := .inLoop c) rfl (fun _ _ => .inl (by simp)) harr⟩
      | goto l => exact ⟨_, a₁, w₁, ⟨g1, e1, s1, hI1, hE1, hX1, hd1, hN1, hQ⟩, .pass (x := .inLoop c) rfl (fun _ _ => .inl (by simp)) harr⟩
      | ret => exact ⟨_, a₁, w₁, ⟨g1, e1, s1, hI1, hE1, hX1, hd1, hN1, hQ⟩, .pass (x := .inLoop c) rfl (fun _ _ => .inl (by simp)) harr⟩
      | panic ch => exact ⟨_, a₁, w₁, ⟨g1, e1, s1, hI1, hE1, hX1, hd1, hN1, hQ⟩, .pass (x := .inLoop c) rfl (fun _ _ => .inl (by simp)) harr⟩
      | outgrown => exact ⟨_, a₁, w₁, ⟨g1, e1, s1, hI1, hE1, hX1, hd1, hN1, hQ⟩, .pass (x := .inLoop c) rfl (fun _ _ => .inl (by simp)) harr⟩
  obtain ⟨ex, a', w', hq, harr⟩ := key _ e s g w a rfl h0 hI hE hd hN
  exact ⟨ex, a', w', hq, .of_steps (.one step_loop) harr⟩

end

/-! ## Operands -/

def pvScalar : Value → PV
  | .int k n => .int k n
  | .bool b => .bool b
  | .string s => .str s
  | .pointer none => .nilp
  | .slice none 0 0 => .sl .nil []
  | .map none => .nilm
  | .nilFunc => .nilf
  | .nilIface => .nili
  | _ => .junk

def pvOf : Value → PV
  | .agg cs => .agg (cs.toList.map pvScalar)
  | v => pvScalar v

theorem pvScalar_R (g w) (v : Value) : R g w (pvScalar v) v := by
  unfold pvScalar
  split <;> simp [R, RA, slHead, slHead0]

theorem pvScalar_RA (g w) : ∀ (vs : List Value), RA g w (vs.map pvScalar) vs
  | [] => by simp [RA]
  | v :: vs => by simp only [List.map_cons, RA]; exact ⟨v, vs, rfl, pvScalar_R g w v, pvScalar_RA g w vs⟩

theorem pvOf_R (g w) (v : Value) (h : ∀ cs, v = .agg cs → ∀ x ∈ cs.toList, x.flat = true) : R g w (pvOf v) v := by
  unfold pvOf
  split
  · rename_i cs
    simp only [R]
    exact ⟨cs, rfl, h cs rfl, pvScalar_RA g w _⟩
  · exact pvScalar_R g w v

def flatV : Value → Bool
  | .agg cs => cs.toList.all Value.flat
  | _ => true

/-- what an operand holds; a constant of parts must be flat -/
def ev (e : Env) : Operand → PV
  | .tmp t => e.get t
  | .const v => if flatV v then pvOf v else .junk
  | .func f => .fn (.func f) [] []
  | .global _ => .junk

theorem ev_R {g w e} {a : Act} (h : EnvOK g w e a.tmps) (x : Operand) : R g w (ev e x) (a.eval x) := by
  cases x with
  | tmp t => exact h t
  | const v =>
    simp only [ev, Act.eval]
    split
    · rename_i hf
      refine pvOf_R g w v fun cs hc x hx => ?_
      subst hc
      simp only [flatV, List.all_eq_true] at hf
      exact hf x hx
    · simp [R]
  | func f => simp [ev, Act.eval, R, RA]
  | global _ => simp [ev, R]

theorem ev_RA {g w e} {a : Act} (h : EnvOK g w e a.tmps) : ∀ (xs : List Operand), RA g w (xs.map (ev e)) (xs.map a.eval)
  | [] => by simp [RA]
  | x :: xs => by simp only [List.map_cons, RA]; exact ⟨_, _, rfl, ev_R h x, ev_RA h xs⟩

section
variable {P : Program} {N : Nat} {k : List KI} {e : Env} {s : St} {rt : Env → St → Prop}

theorem Run.cond {c : Operand} {x y : Code} {t : Bool} (hc : ev e c = .bool t) (ht : t = true → Run P N (.code x :: k) e s rt)
    (hf : t = false → Run P N (.code y :: k) e s rt) : Run P N (.code (.cond c x y) :: k) e s rt := by
  intro ok
  simp only [okK, okC, Bool.and_eq_true] at ok
  intro _ g w a hI hE hd hN
  have hv := ev_R hE c
  rw [hc] at hv
  simp only [R] at hv
  refine wp_cond hv ?_
  cases t with
  | true => exact ht rfl (by simp only [okK, Bool.and_eq_true]; exact ⟨ok.1.1, ok.2⟩) ok.1.1 g w a hI hE hd hN
  | false => exact hf rfl (by simp only [okK, Bool.and_eq_true]; exact ⟨ok.1.2, ok.2⟩) ok.1.2 g w a hI hE hd hN

end

/-! ## Regions -/

def Env.keep (l : List Nat) (e : Env) : Env := l.map fun i => (i, e.get i)

theorem keep_get (e : Env) : ∀ (l : List Nat) (i : Nat), (Env.keep l e).get i = e.get i ∨ (Env.keep l e).get i = .junk
  | [], i => .inr rfl
  | x :: l, i => by
    simp only [Env.keep, List.map_cons, Env.get]
    split
    · rename_i h; subst h; exact .inl rfl
    · exact keep_get e l i

theorem EnvOK.env {g w e e' tmps} (h : EnvOK g w e tmps) (he : ∀ i, Env.get e' i = e.get i ∨ Env.get e' i = .junk) : EnvOK g w e' tmps := fun i => by
  rcases he i with q | q
  · rw [q]; exact h i
  · rw [q]; simp [R]

/-- the operations l of the region ops are to be done -/
def RunO (P : Program) (N : Nat) (ops : Array Oper) (l : List Oper) (k : List KI) (e : Env) (s : St) (rt : Env → St → Prop) : Prop :=
  l.all (okOp N) = true → okK N k = true → ∀ idx : List Nat, idx.map (ops[·]?) = l.map some → ∀ g w (a : Act), Inv P g s w → EnvOK g w e a.tmps → a.defers = [] → a.tmps.size = N →
    wpOps P ops (Lift P N g w (After P N rt k)) idx a w

section
variable {P : Program} {N : Nat} {k : List KI} {e : Env} {s : St} {rt : Env → St → Prop}

theorem Run.region {id : Nat} {ops : Array Oper} (h : RunO P N ops ops.toList k e s rt) : Run P N (.code (.region id ops false) :: k) e s rt := by
  intro ok
  simp only [okK, okC, Bool.and_eq_true] at ok
  intro _ g w a hI hE hd hN
  refine wp_region (h ok.1 ok.2 _ ?_ g w a hI hE hd hN)
  apply List.ext_getElem
  · simp
  · intro i h1 h2
    simp at h1 h2 ⊢

theorem RunO.nil {ops : Array Oper} (h : Run P N k e s rt) : RunO P N ops [] k e s rt := by
  intro ok okk idx hidx g w a hI hE hd hN
  have : idx = [] := by simpa using hidx
  subst this
  exact ⟨g, e, s, hI, hE, Ext.refl _ _, hd, hN, h okk⟩

/-- fewer slots -/
theorem RunO.live {ops : Array Oper} (l : List Nat) (h : Run P N k (Env.keep l e) s rt) : RunO P N ops [] k e s rt := by
  intro ok okk idx hidx g w a hI hE hd hN
  have : idx = [] := by simpa using hidx
  subst this
  exact ⟨g, Env.keep l e, s, hI, hE.env (keep_get e l), Ext.refl _ _, hd, hN, h okk⟩

/-- may the operation be done? -/
def guard? (ops : Array Oper) (o : Oper) (e : Env) : Option Bool :=
  match o.guard with
  | none => some true
  | some (j, want) => match (ops[j]?).bind (fun o => o.dst) with
    | none => none
    | some d => match Env.get e d with
      | .bool b => some (b == want)
      | _ => none

theorem guard_wanted {g w ops o e} {a : Act} {t : Bool} (h : guard? ops o e = some t) (hE : EnvOK g w e a.tmps) :
    Region.wanted o (yielded ops a.tmps) = t := by
  unfold guard? at h
  unfold Region.wanted
  cases hg : o.guard with
  | none => rw [hg] at h; simpa using h
  | some x =>
    obtain ⟨j, want⟩ := x
    rw [hg] at h
    simp only at h ⊢
    cases hd : (ops[j]?).bind (fun o => o.dst) with
    | none => rw [hd] at h; simp at h
    | some d =>
      rw [hd] at h
      simp only at h
      cases hb : Env.get e d with
      | bool b =>
        rw [hb] at h
        simp only [Option.some.injEq] at h
        have hv := hE d
        rw [hb] at hv
        simp only [R] at hv
        unfold yielded
        rw [hd]
        simp only [Option.bind_some]
        rw [Array.getD_eq_getD_getElem?] at hv
        cases hx : a.tmps[d]? with
        | none => rw [hx] at hv; simp [undef] at hv
        | some v =>
          rw [hx] at hv
          simp only [Option.getD_some] at hv
          subst hv
          simp only
          rw [← h]
          cases b <;> cases want <;> rfl
      | _ => rw [hb] at h; simp at h

end

end Go.PM

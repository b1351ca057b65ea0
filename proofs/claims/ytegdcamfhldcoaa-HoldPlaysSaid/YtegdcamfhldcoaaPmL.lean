import Derived.Test.YtegdcamfhldcoaaPmKa
set_option linter.unusedVariables false
set_option linter.unusedSimpArgs false
namespace Go.PM
open Go

/-! ## All simple operations in one function -/

/-- what does not touch the store's names: the value -/
def apure (P : Program) (op : Op) (rv : Operand → PV) (s : St) : Option PV :=
  match op with
  | .move x | .assign x => some (rv x)
  | .pick c a b => pickv (rv c) (rv a) (rv b)
  | .build t parts => aBuild P t (parts.toList.map fun p => (p.1, rv p.2))
  | .load t a => aLoad P t (rv a) s
  | .nilCheck x => match rv x with
    | .ptr id i j => some (.ptr id i j)
    | .rptr cs => some (.rptr cs)
    | _ => none
  | .binOp op t x y _ => aBin P op t (rv x) (rv y)
  | .unOp op _ x => aUn op (rv x)
  | .convert src dst x => aConv P src dst (rv x)
  | .makeInterface t x => aMakeIface P t (rv x)
  | .makeFunc f first cap => some (.fn f (first.toList.map rv) (cap.toList.map rv))
  | .slice t x lo hi mx => aSlice P t (rv x) (lo.map rv) (hi.map rv) (mx.map rv) s
  | .fieldAddr t x f => aFieldAddr P t (rv x) f
  | .field t x f => aField P t (rv x) f
  | .indexAddr t x ix => aIndexAddr P t (rv x) (rv ix) s
  | .index t x ix => aIndex P t (rv x) (rv ix)
  | .extract x n => aExtract (rv x) n
  | .typeAssert x _ t ok => aTypeAssert P (rv x) t ok
  | .lookup t x ix ok => aLookup P t (rv x) (rv ix) ok s
  | .call c => match c.callee with
    | .builtin .len => match c.args.toList, c.argTypes.toList with
      | [x], [t] => aLen P t (rv x) s
      | _, _ => none
    | .builtin .min => aMin (c.args.toList.map rv)
    | .builtin .max => aMax (c.args.toList.map rv)
    | _ => none
  | _ => none

theorem optR_map {g w rv} {a : Act} (hrv : ∀ x, R g w (rv x) (a.eval x)) (x : Option Operand) : optR g w (x.map rv) (x.map a.eval) := by
  cases x with
  | none => rfl
  | some x => exact ⟨_, rfl, hrv x⟩

theorem RA_map {g w rv} {a : Act} (hrv : ∀ x, R g w (rv x) (a.eval x)) : ∀ (xs : List Operand), RA g w (xs.map rv) (xs.map a.eval)
  | [] => by simp [RA]
  | x :: xs => by simp only [List.map_cons, RA]; exact ⟨_, _, rfl, hrv x, RA_map hrv xs⟩

theorem apure_run {P : Program} {g s w v rv} {a : Act} {o : Oper} (h : Inv P g s w) (hrv : ∀ x, R g w (rv x) (a.eval x)) (ha : apure P o.op rv s = some v) :
    ∃ val, (execOp a.eval o).run P w = .ok (.value val) w ∧ R g w v val := by
  have fin : ∀ {x : Sem Value}, (∃ val, x.run P w = .ok val w ∧ R g w v val) → ∃ val, (do pure (Next.value (← x)) : Sem Next).run P w = .ok (.value val) w ∧ R g w v val := by
    rintro x ⟨val, h1, h2⟩
    exact ⟨val, by rw [bind_run, h1]; rfl, h2⟩
  unfold apure at ha
  unfold execOp
  cases hop : o.op with
  | move x => rw [hop] at ha; cases ha; exact ⟨_, rfl, hrv x⟩
  | assign x => rw [hop] at ha; cases ha; exact ⟨_, rfl, hrv x⟩
  | pick c x y =>
    rw [hop] at ha
    obtain ⟨b, h1, h2⟩ := pickv_R (hrv c) (hrv x) (hrv y) ha
    refine ⟨_, ?_, h2⟩
    simp only [h1, asBool, bind_run, pure_run]
  | build t parts =>
    rw [hop] at ha
    refine fin (aBuild_run ?_ ?_ ha)
    · simp
    · simpa [Function.comp_def] using RA_map hrv (parts.toList.map (·.2))
  | load t x => rw [hop] at ha; exact fin (aLoad_run h (hrv x) ha)
  | nilCheck x =>
    rw [hop] at ha
    simp only at ha
    have hx := hrv x
    split at ha
    · rename_i e
      cases ha
      rw [e] at hx
      have hx' := hx
      simp only [R] at hx
      obtain ⟨_, b, sz, _, e2⟩ := hx
      simp only [e2]
      exact ⟨_, rfl, by rw [← e2]; exact hx'⟩
    · rename_i e
      cases ha
      rw [e] at hx
      have hx' := hx
      simp only [R] at hx
      obtain ⟨b, o', vs, e2, _⟩ := hx
      simp only [e2]
      exact ⟨_, rfl, by rw [← e2]; exact hx'⟩
    · cases ha
  | binOp op t x y yt => rw [hop] at ha; exact fin (aBin_run (hrv x) (hrv y) ha)
  | unOp op t x => rw [hop] at ha; exact fin (aUn_run (hrv x) ha)
  | convert src dst x => rw [hop] at ha; exact fin (aConv_run (hrv x) ha)
  | makeInterface t x => rw [hop] at ha; exact fin (aMakeIface_run (hrv x) ha)
  | makeFunc f first cap =>
    rw [hop] at ha
    cases ha
    refine fin ⟨_, rfl, ?_⟩
    simp only [R]
    exact ⟨_, _, rfl, by simpa using RA_map hrv first.toList, by simpa using RA_map hrv cap.toList⟩
  | slice t x lo hi mx => rw [hop] at ha; exact fin (aSlice_run h (hrv x) (optR_map hrv lo) (optR_map hrv hi) (optR_map hrv mx) ha)
  | fieldAddr t x f => rw [hop] at ha; exact fin (aFieldAddr_run (hrv x) ha)
  | field t x f => rw [hop] at ha; exact fin (aField_run (hrv x) ha)
  | indexAddr t x ix => rw [hop] at ha; exact fin (aIndexAddr_run h (hrv x) (hrv ix) ha)
  | index t x ix => rw [hop] at ha; exact fin (aIndex_run (hrv x) (hrv ix) ha)
  | extract x n => rw [hop] at ha; exact fin (aExtract_run (hrv x) ha)
  | typeAssert x xt t ok => rw [hop] at ha; exact fin (aTypeAssert_run (hrv x) ha)
  | lookup t x ix ok => rw [hop] at ha; exact fin (aLookup_run h (hrv x) (hrv ix) ha)
  | call c =>
    rw [hop] at ha
    simp only at ha
    obtain ⟨callee, args, ats⟩ := c
    simp only at ha
    cases callee with
    | builtin b =>
      cases b with
      | len =>
        simp only at ha
        split at ha
        · rename_i x t e1 e2
          have e1' : args = #[x] := by cases args; simp_all
          have e2' : ats = #[t] := by cases ats; simp_all
          subst e1'; subst e2'
          obtain ⟨val, h1, h2⟩ := aLen_run (ty := o.type) h (hrv x) ha
          refine ⟨val, ?_, h2⟩
          simp only [resolve, bind_run, pure_run, invoke, builtin]
          rw [show Array.map a.eval #[x] = #[a.eval x] by simp, h1]
        · cases ha
      | min =>
        obtain ⟨val, h1, h2⟩ := aMin_run (P := P) (ts := ats) (ty := o.type) (as := args.map a.eval) (by simpa using RA_map hrv args.toList) ha
        refine ⟨val, ?_, h2⟩
        simp only [resolve, bind_run, pure_run, invoke, builtin, h1]
      | max =>
        obtain ⟨val, h1, h2⟩ := aMax_run (P := P) (ts := ats) (ty := o.type) (as := args.map a.eval) (by simpa using RA_map hrv args.toList) ha
        refine ⟨val, ?_, h2⟩
        simp only [resolve, bind_run, pure_run, invoke, builtin, h1]
      | _ => cases ha
    | _ => cases ha
  | _ => rw [hop] at ha; cases ha

/-- what makes or changes names: the value, the store -/
def aeff (P : Program) (op : Op) (rv : Operand → PV) (s : St) : Option (PV × St) :=
  match op with
  | .alloc t => match zpv P t with
    | some z => some (.ptr s.nxt 0 0, s.new (.row t [z]))
    | none => none
  | .box t x => if (rv x).ok = true ∧ (rv x).cells.length = P.cellsOf t ∧ 0 < P.cellsOf t then some (.ptr s.nxt 0 0, s.new (.row t [rv x])) else none
  | .store t a x => match aStore P t (rv a) (rv x) s with
    | some s' => some (.junk, s')
    | none => none
  | .makeMap _ none => some (.map s.nxt, s.new (.map []))
  | .mapUpdate t m k x => match aMapUpdate P t (rv m) (rv k) (rv x) s with
    | some s' => some (.junk, s')
    | none => none
  | _ => none

def Effect (P : Program) (o : Oper) (g : G) (w : World) (a : Act) (v : PV) (s' : St) : Prop :=
  ∃ val w' g', ((execOp a.eval o).run P w = .ok (.value val) w' ∨ ((execOp a.eval o).run P w = .ok .skip w' ∧ val = undef)) ∧ Inv P g' s' w' ∧ Ext g w g' w' ∧ R g' w' v val

theorem newVar_run (P : Program) (w : World) (t : TypeId) (v : Value) : (newVar t v).run P w = .ok ⟨w.heap.size, 0, none⟩ (World.newB w (.cells v.cells t (0, 0))) := by
  unfold newVar newRow
  rw [bind_run]
  rfl

theorem one_row {P g s w t} {p : PV} {v : Value} (h : Inv P g s w) (hr : R g w p v) (hok : p.ok = true) (hl : p.cells.length = P.cellsOf t) (hp : 0 < P.cellsOf t) :
    ∃ g', Inv P g' (s.new (.row t [p])) (World.newB w (.cells v.cells t (0, 0))) ∧ Ext g w g' (World.newB w (.cells v.cells t (0, 0))) ∧
      R g' (World.newB w (.cells v.cells t (0, 0))) (.ptr s.nxt 0 0) (.pointer (some ⟨w.heap.size, 0, none⟩)) := by
  obtain ⟨c1, c2, c3⟩ := RA_cells hr hok
  obtain ⟨g', h1, h2, h3, h4⟩ := newRow_step (t := t) (ty := t) (els := [p]) (vs := [v]) (c := v.cells) h hp (by simp only [RA]; exact ⟨v, [], rfl, hr, rfl⟩)
    (by simp [flat]) (fun x hx => by simp at hx; subst hx; exact ⟨by omega, c2⟩)
  refine ⟨g', h1, h2, ?_⟩
  simp only [R]
  exact ⟨by omega, _, _, h3, by simp⟩

theorem aeff_run {P : Program} {g s w v rv s'} {a : Act} {o : Oper} (h : Inv P g s w) (hrv : ∀ x, R g w (rv x) (a.eval x)) (ha : aeff P o.op rv s = some (v, s')) : Effect P o g w a v s' := by
  unfold aeff at ha
  unfold Effect execOp
  cases hop : o.op with
  | alloc t =>
    rw [hop] at ha
    simp only at ha
    cases hz : zpv P t with
    | none => rw [hz] at ha; cases ha
    | some z =>
      rw [hz] at ha
      cases ha
      obtain ⟨zv, h1, h2, h3, h4, h5, h6, h7⟩ := zero_run (P := P) (w := w) hz
      subst h2
      have hR := pvOf_R g w zv fun cs e x hx => by subst e; simp only [flatV, List.all_eq_true] at h3; exact h3 x hx
      have hc := RA_cells hR h7
      obtain ⟨g', k1, k2, k3⟩ := one_row h hR h7 (by omega) h5
      refine ⟨_, _, g', .inl ?_, k1, k2, k3⟩
      simp only [Instr.alloc, bind_run, h1, newVar_run, pure_run]
  | box t x =>
    rw [hop] at ha
    simp only at ha
    split at ha
    · rename_i hc
      cases ha
      obtain ⟨g', h1, h2, h3⟩ := one_row h (hrv x) hc.1 hc.2.1 hc.2.2
      refine ⟨_, _, g', .inl ?_, h1, h2, h3⟩
      simp only [Instr.box, bind_run, newVar_run, pure_run]
    · cases ha
  | store t x y =>
    rw [hop] at ha
    simp only at ha
    split at ha
    · rename_i s1 hs
      cases ha
      obtain ⟨w', h1, h2, h3⟩ := aStore_run h (hrv x) (hrv y) hs
      refine ⟨undef, w', g, .inr ⟨?_, rfl⟩, h2, h3, by simp [R]⟩
      simp only [bind_run, h1, pure_run]
    · cases ha
  | makeMap t r =>
    rw [hop] at ha
    cases r with
    | some r => cases ha
    | none =>
      cases ha
      obtain ⟨g', h1, h2, h3⟩ := newMap_step h
      refine ⟨_, _, g', .inl ?_, h1, h2, h3⟩
      simp only [Instr.makeMap, Option.map_none, bind_run, pure_run]
      rfl
  | mapUpdate t m k x =>
    rw [hop] at ha
    simp only at ha
    split at ha
    · rename_i s1 hs
      cases ha
      obtain ⟨w', h1, h2, h3⟩ := aMapUpdate_run h (hrv m) (hrv k) (hrv x) hs
      refine ⟨undef, w', g, .inr ⟨?_, rfl⟩, h2, h3, by simp [R]⟩
      simp only [bind_run, h1, pure_run]
    · cases ha
  | _ => rw [hop] at ha; cases ha

end Go.PM

import Derived.Test.YtegdcamfhldcoaaPmS
set_option linter.unusedVariables false
set_option linter.unusedSimpArgs false
namespace Go.PM
open Go

/-! ## Lists that grow -/

/-- a list that may be appended to: none yet, full, or the holder of a token -/
def Grows (s : St) (k : SK) (n z : Nat) : Prop := k = .nil ∧ n = 0 ∨ k = .clip ∨ ∃ t, k = .tok t z ∧ s.blk t = some (.tok n)

theorem new_wf {s : St} (h : s.wf) (b : Blk) : (s.new b).wf := fun i hi => by
  have hi : s.nxt + 1 ≤ i := hi
  show (if i = s.nxt then some b else s.blk i) = none
  rw [if_neg (by omega)]
  exact h i (by omega)

structure TMoves (s s' : St) (k k' : SK) : Prop where
  wf : s.wf → s'.wf
  nxt : s.nxt ≤ s'.nxt
  rest : ∀ i, i < s.nxt → (∀ z, k ≠ .tok i z) → s'.blk i = s.blk i
  fresh : ∀ i z, k' = .tok i z → (∃ z', k = .tok i z') ∨ s.nxt ≤ i ∧ i < s'.nxt

theorem Grows.mono {s s' : St} {k : SK} {n z : Nat} (h : Grows s k n z) (hf : ∀ t, k = .tok t z → s'.blk t = s.blk t) : Grows s' k n z := by
  rcases h with h | h | ⟨t, h1, h2⟩
  · exact .inl h
  · exact .inr (.inl h)
  · exact .inr (.inr ⟨t, h1, by rw [hf t h1]; exact h2⟩)

theorem Grows.ne {s : St} {k : SK} {n z t z' : Nat} {b : Blk} (h : Grows s k n z) (hk : k = .tok t z') (i : Nat) (hb : s.blk i = some b) (hr : ∀ n, b ≠ .tok n) : t ≠ i := by
  rintro rfl
  rcases h with ⟨h, _⟩ | h | ⟨t', h1, h2⟩
  · rw [hk] at h; cases h
  · rw [hk] at h; cases h
  · rw [hk] at h1; cases h1; rw [hb] at h2; exact hr _ (Option.some.inj h2)

theorem Grows.append {P : Program} {s : St} {e : TypeId} {k : SK} {xs ys : List PV} (h : Grows s k xs.length (P.cellsOf e)) (hy : ys ≠ []) :
    ∃ k' s', aAppend P e k xs ys s = some (.sl k' (xs ++ ys), s') ∧ Grows s' k' (xs.length + ys.length) (P.cellsOf e) ∧ TMoves s s' k k' := by
  have new : (k = .nil ∨ k = .clip) → aAppend P e k xs ys s = some (.sl (.tok s.nxt (P.cellsOf e)) (xs ++ ys), s.new (.tok (xs.length + ys.length))) ∧ Grows (s.new (.tok (xs.length + ys.length))) (.tok s.nxt (P.cellsOf e)) (xs.length + ys.length) (P.cellsOf e) ∧ TMoves s (s.new (.tok (xs.length + ys.length))) k (.tok s.nxt (P.cellsOf e)) := by
    intro hk
    refine ⟨?_, .inr (.inr ⟨s.nxt, rfl, by simp [St.new]⟩), ⟨fun hwf => new_wf hwf _, Nat.le_succ _, fun i hi _ => ?_, fun i z e => .inr (by cases e; exact ⟨Nat.le_refl _, Nat.lt_succ_self _⟩)⟩⟩
    · unfold aAppend
      rw [if_neg hy]
      rcases hk with rfl | rfl <;> rfl
    · show (if i = s.nxt then _ else s.blk i) = s.blk i
      rw [if_neg (by omega)]
  rcases h with ⟨rfl, _⟩ | rfl | ⟨t, rfl, ht⟩
  · exact ⟨_, _, new (.inl rfl)⟩
  · exact ⟨_, _, new (.inr rfl)⟩
  · refine ⟨.tok t (P.cellsOf e), s.set t (some (.tok (xs.length + ys.length))), ?_, .inr (.inr ⟨t, rfl, blk_set_self _ _ _⟩), ⟨fun hwf i hi => by
      rw [blk_set]
      split
      · rename_i e
        subst e
        rw [hwf i hi] at ht
        cases ht
      · exact hwf i hi, Nat.le_refl _, fun i hi hk => ?_, fun i z e => .inl ⟨_, by cases e; rfl⟩⟩⟩
    · unfold aAppend
      rw [if_neg hy]
      simp only [ht]
      simp only [and_self, if_true]
    · rw [blk_set, if_neg]
      rintro rfl
      exact hk _ rfl

section
variable {P : Program} {N : Nat} {k : List KI} {e e' : Env} {s : St} {rt : Env → St → Prop}

theorem RunO.grow {ops : Array Oper} {d : Option Nat} {x y : Operand} {t ty : TypeId} {pos : String} {af : Array Edge} {gd : Option (Nat × Bool)} {l : List Oper} {el : TypeId} {kx ky : SK} {xs ys : List PV}
    (hg : guard? ops ⟨d, .call ⟨.builtin .append, #[x, y], #[t, t]⟩, ty, pos, af, gd⟩ e = some true) (hx : ev e x = .sl kx xs) (hy : ev e y = .sl ky ys) (htd : td P t = .sl el) (hz : (zpv P el).isSome = true)
    (hex : isEls P el xs) (hey : isEls P el ys) (hb0 : 0 < P.bytesOf el) (hlen : (xs.length + ys.length) * P.bytesOf el ≤ 140737488355328) (hgr : Grows s kx xs.length (P.cellsOf el)) (hys : ys ≠ [])
    (h : ∀ k' s', Grows s' k' (xs.length + ys.length) (P.cellsOf el) → TMoves s s' kx k' → RunO P N ops l k (e.put d (.sl k' (xs ++ ys))) s' rt) :
    RunO P N ops (⟨d, .call ⟨.builtin .append, #[x, y], #[t, t]⟩, ty, pos, af, gd⟩ :: l) k e s rt := by
  obtain ⟨k', s', h1, h2, h3⟩ := hgr.append (P := P) hys
  exact RunO.append hg hx hy htd hz hex hey hb0 hlen h1 (h k' s' h2 h3)

theorem Grows.append' {P : Program} {s : St} {e : TypeId} {k : SK} {xs ys : List PV} (h : Grows s k xs.length (P.cellsOf e)) :
    ∃ k' s', aAppend P e k xs ys s = some (.sl k' (xs ++ ys), s') ∧ Grows s' k' (xs.length + ys.length) (P.cellsOf e) ∧ TMoves s s' k k' := by
  by_cases hy : ys = []
  · subst hy
    exact ⟨k, s, by unfold aAppend; rw [if_pos rfl, List.append_nil], by simpa using h, ⟨fun h => h, Nat.le_refl _, fun _ _ _ => rfl, fun i z e => .inl ⟨z, e⟩⟩⟩
  · exact h.append hy

theorem RunO.grow' {ops : Array Oper} {d : Option Nat} {x y : Operand} {t ty : TypeId} {pos : String} {af : Array Edge} {gd : Option (Nat × Bool)} {l : List Oper} {el : TypeId} {kx ky : SK} {xs ys : List PV}
    (hg : guard? ops ⟨d, .call ⟨.builtin .append, #[x, y], #[t, t]⟩, ty, pos, af, gd⟩ e = some true) (hx : ev e x = .sl kx xs) (hy : ev e y = .sl ky ys) (htd : td P t = .sl el) (hz : (zpv P el).isSome = true)
    (hex : isEls P el xs) (hey : isEls P el ys) (hb0 : 0 < P.bytesOf el) (hlen : (xs.length + ys.length) * P.bytesOf el ≤ 140737488355328) (hgr : Grows s kx xs.length (P.cellsOf el))
    (h : ∀ k' s', Grows s' k' (xs.length + ys.length) (P.cellsOf el) → TMoves s s' kx k' → RunO P N ops l k (e.put d (.sl k' (xs ++ ys))) s' rt) :
    RunO P N ops (⟨d, .call ⟨.builtin .append, #[x, y], #[t, t]⟩, ty, pos, af, gd⟩ :: l) k e s rt := by
  obtain ⟨k', s', h1, h2, h3⟩ := hgr.append' (P := P) (ys := ys)
  exact RunO.append hg hx hy htd hz hex hey hb0 hlen h1 (h k' s' h2 h3)

theorem DetC.grow {ops : Array Oper} {ws : List Nat} {i : Nat} {K : Env → St → Prop} {d : Option Nat} {x y : Operand} {t ty : TypeId} {pos : String} {af : Array Edge} {gd : Option (Nat × Bool)} {l : List Oper} {el : TypeId} {kx ky : SK} {xs ys : List PV}
    (hi : ws.contains i = true) (hg : guard? ops ⟨d, .call ⟨.builtin .append, #[x, y], #[t, t]⟩, ty, pos, af, gd⟩ (Env.keep (slotsOf ops ⟨d, .call ⟨.builtin .append, #[x, y], #[t, t]⟩, ty, pos, af, gd⟩) e) = some true)
    (hx : ev e x = .sl kx xs) (hy : ev e y = .sl ky ys) (htd : td P t = .sl el) (hz : (zpv P el).isSome = true)
    (hex : isEls P el xs) (hey : isEls P el ys) (hb0 : 0 < P.bytesOf el) (hlen : (xs.length + ys.length) * P.bytesOf el ≤ 140737488355328) (hgr : Grows s kx xs.length (P.cellsOf el)) (hys : ys ≠ [])
    (h : ∀ k' s', Grows s' k' (xs.length + ys.length) (P.cellsOf el) → TMoves s s' kx k' → DetC P ops ws (i + 1) l (e.put d (.sl k' (xs ++ ys))) s' K) :
    DetC P ops ws i (⟨d, .call ⟨.builtin .append, #[x, y], #[t, t]⟩, ty, pos, af, gd⟩ :: l) e s K := by
  obtain ⟨k', s', h1, h2, h3⟩ := hgr.append (P := P) hys
  obtain ⟨e2, s2, d1, d2⟩ := h k' s' h2 h3
  exact ⟨e2, s2, Det.append hi hg hx hy htd hz hex hey hb0 hlen h1 d1, d2⟩
end

/-- the guard's own operation was left out -/
def gundef (ops : Array Oper) (o : Oper) (e : Env) : Bool :=
  match o.guard with
  | none => false
  | some (j, _) => match (ops[j]?).bind (fun o => o.dst) with
    | none => false
    | some d => match Env.get e d with
      | .tuple [] => true
      | _ => false

theorem gundef_wanted {g w ops o e} {a : Act} (h : gundef ops o e = true) (hE : EnvOK g w e a.tmps) : Region.wanted o (yielded ops a.tmps) = false := by
  unfold gundef at h
  unfold Region.wanted
  cases hg : o.guard with
  | none => rw [hg] at h; cases h
  | some x =>
    obtain ⟨j, want⟩ := x
    rw [hg] at h
    simp only at h ⊢
    cases hd : (ops[j]?).bind (fun o => o.dst) with
    | none => rw [hd] at h; cases h
    | some d =>
      rw [hd] at h
      simp only at h
      split at h
      case h_2 => cases h
      rename_i hb
      have hv := hE d
      rw [hb] at hv
      simp only [R, RA] at hv
      obtain ⟨x, hx, hx2⟩ := hv
      unfold yielded
      rw [hd]
      simp only [Option.bind_some]
      rw [Array.getD_eq_getD_getElem?] at hx
      cases hq : a.tmps[d]? with
      | none => rfl
      | some v =>
        rw [hq] at hx
        simp only [Option.getD_some] at hx
        subst hx
        rfl

section
variable {P : Program} {N : Nat} {k : List KI} {e : Env} {s : St} {rt : Env → St → Prop}
theorem RunO.gskip' {ops : Array Oper} {o : Oper} {l : List Oper} (hg : guard? ops o e = some false) (h : RunO P N ops l k (e.put o.dst (.tuple [])) s rt) : RunO P N ops (o :: l) k e s rt := by
  intro ok okk idx hidx g w a hI hE hd hN
  obtain ⟨i, r, rfl, ho, hr⟩ := idx_cons hidx
  simp only [List.all_cons, Bool.and_eq_true] at ok
  have hw := guard_wanted hg hE
  simp only [wpOps, ho, hw, if_false, Bool.false_eq_true]
  exact h ok.2 okk r hr g w (a.put o.dst undef) hI (hE.put hN (okOp_lt ok.1) (by simp only [R, RA]; exact ⟨#[], rfl, rfl⟩)) (by rw [put_defers]; exact hd) (by rw [put_size]; exact hN)
theorem RunO.gskipU {ops : Array Oper} {o : Oper} {l : List Oper} (hg : gundef ops o e = true) (h : RunO P N ops l k (e.put o.dst (.tuple [])) s rt) : RunO P N ops (o :: l) k e s rt := by
  intro ok okk idx hidx g w a hI hE hd hN
  obtain ⟨i, r, rfl, ho, hr⟩ := idx_cons hidx
  simp only [List.all_cons, Bool.and_eq_true] at ok
  have hw := gundef_wanted hg hE
  simp only [wpOps, ho, hw, if_false, Bool.false_eq_true]
  exact h ok.2 okk r hr g w (a.put o.dst undef) hI (hE.put hN (okOp_lt ok.1) (by simp only [R, RA]; exact ⟨#[], rfl, rfl⟩)) (by rw [put_defers]; exact hd) (by rw [put_size]; exact hN)
end
attribute [go_sem] gundef aEqStruct eqScalars

/-- a mask -/
theorem ibits_and_le (a : Int) (m : Nat) (hm : m < 2 ^ 63) : 0 ≤ ibits .and .i64 a m ∧ ibits .and .i64 a m ≤ m := by
  have h1 : ((BitVec.ofInt 64 a) &&& (BitVec.ofInt 64 (m : Int))).toNat ≤ m := by
    rw [BitVec.toNat_and]
    refine Nat.le_trans Nat.and_le_right ?_
    rw [BitVec.toNat_ofInt]
    omega
  have e : ibits .and .i64 a m = IntKind.i64.wrap (((BitVec.ofInt 64 a) &&& (BitVec.ofInt 64 (m : Int))).toNat : Int) := rfl
  rw [e, wrap_i64 (by omega)]
  omega

theorem ACalls.wf {P : Program} {f : FuncId} {args : List PV} {s : St} {Q : PV → St → Prop} (h : ACalls P f args s Q) : ACalls P f args s (fun r s' => s'.wf ∧ Q r s') :=
  fun g w vs hI hR => (h g w vs hI hR).mono fun e w' ⟨v, g', r, s', h1, h2, h3, h4, h5⟩ => ⟨v, g', r, s', h1, h2, h3, h4, h2.wf, h5⟩

theorem isEls_map {α : Type} {P : Program} {e : TypeId} {f : α → PV} (h : ∀ a, (f a).ok = true ∧ (f a).cells.length = P.cellsOf e) (l : List α) : isEls P e (l.map f) := by
  intro x hx
  obtain ⟨a, _, rfl⟩ := List.mem_map.1 hx
  exact h a
end Go.PM

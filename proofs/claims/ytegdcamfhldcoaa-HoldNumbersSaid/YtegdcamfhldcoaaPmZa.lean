import Derived.Test.YtegdcamfhldcoaaPmZ
set_option linter.unusedVariables false
set_option linter.unusedSimpArgs false
namespace Go.PM
open Go

/-! ## Own rows that are handed out -/

/-- rows whose names are forgotten are lists that nobody writes any more -/
def PV.frz (wk : Bool) (s : St) (q : Nat → Bool) : Nat → PV → PV
  | 0, p => p.weak
  | n + 1, .own id off len => if q id = true then .own id off len else match s.blk id with
    | some (.row _ els) => if off + len ≤ els.length then .sl .unk (((els.drop off).take len).map (PV.frz wk s q n)) else .junk
    | _ => .junk
  | n + 1, .sl k els => .sl (if wk then .unk else k) (els.map (PV.frz wk s q n))
  | n + 1, .agg cs => .agg (cs.map (PV.frz wk s q n))
  | n + 1, .tuple cs => .tuple (cs.map (PV.frz wk s q n))
  | _ + 1, p => p.weak

theorem RA_frz_map {g : G} {w : World} {m : Nat} {q : Nat → Bool} {f : PV → PV} (hf : ∀ p v, (f p).blw m → R g w p v → R (g.keep m q) w (f p) v) : ∀ (ps : List PV) (vs : List Value), PV.blws m (ps.map f) → RA g w ps vs → RA (g.keep m q) w (ps.map f) vs
  | [], vs, _, h => by simpa only [List.map_nil, RA] using h
  | p :: ps, vs, hb, h => by
    simp only [List.map_cons, PV.blws, RA] at hb h ⊢
    obtain ⟨v, r, rfl, h1, h2⟩ := h
    exact ⟨v, r, rfl, hf p v hb.1 h1, RA_frz_map hf ps r hb.2 h2⟩

theorem cellsAt_sub {w : World} {b o : Nat} {xs : List Value} (h : cellsAt w b o xs) (i n : Nat) : cellsAt w b (o + i) ((xs.drop i).take n) := by
  intro j hj
  simp only [List.length_take, List.length_drop] at hj
  rw [List.getElem_take, List.getElem_drop, Nat.add_assoc]
  exact h (i + j) (by omega)

theorem dead_free {P : Program} {g : G} {s : St} {w : World} (h : Inv P g s w) {id b n : Nat} {q : Nat → Bool} (hl : g.live id = true) (hr : g.rows id = some (b, n)) (hq : q id = false) (m k : Nat) : (g.keep m q).free b k := by
  refine ⟨?_, fun e he => ?_⟩
  · rintro ⟨i, z, hz, hlv⟩
    simp only [G.keep, Bool.and_eq_true] at hz hlv
    have := h.inj i id b z n hlv.2 hl hz hr
    subst this
    rw [hq] at hlv
    exact absurd hlv.1 (by simp)
  · have : (g.keep m q).lim b = g.lim b := rfl
    rw [this, h.rlim id b n hl hr] at he
    cases he

theorem R_frz {P : Program} {g : G} {s : St} {w : World} (h : Inv P g s w) (m : Nat) (wk : Bool) (q : Nat → Bool) : ∀ (n : Nat) (p : PV) (v : Value), (p.frz wk s q n).blw m → R g w p v → R (g.keep m q) w (p.frz wk s q n) v := by
  intro n
  have leaf : ∀ (p : PV) (v : Value), p.weak.blw m → R g w p v → R (g.keep m q) w p.weak v := fun p v hb hr => R_sub (keep_sub g m q) _ _ hb (R_weak p v hr)
  induction n with
  | zero => exact leaf
  | succ n ih =>
    intro p v hb hr
    cases p with
    | own id off len =>
      unfold PV.frz at hb ⊢
      split at hb
      · rename_i hq
        rw [if_pos hq]
        exact R_sub (keep_sub g m q) _ _ hb hr
      · rename_i hq
        rw [if_neg hq]
        split at hb
        · rename_i t els hbl
          split at hb
          · rename_i hle
            rw [if_pos hle]
            have hat := h.at' id
            rw [hbl] at hat
            obtain ⟨_, hlv, b, vs, hrow, hpos, _, hc, hsz, hra⟩ := hat
            simp only [R] at hr
            obtain ⟨hlt, b', sz, cap, hrow', hcap, rfl, hcs⟩ := hr
            rw [hrow] at hrow'
            cases hrow'
            have hvl := RA_length hra
            have hra' := RA_take len (RA_drop off hra)
            simp only [PV.blw] at hb
            simp only [R]
            refine ⟨(vs.drop off).take len, RA_frz_map ih _ _ hb.2 hra', .inr ?_⟩
            have hlen : (((els.drop off).take len).map (PV.frz wk s q n)).length = len := by simp; omega
            have hss : ∀ v ∈ (vs.drop off).take len, v.cells.size = P.cellsOf t := fun v hv => (hsz v (List.mem_of_mem_drop (List.mem_of_mem_take hv))).1
            refine ⟨b, off * P.cellsOf t, cap, P.cellsOf t, by rw [hlen], by rw [hlen]; omega, hpos, (fun e => by cases e), fun _ => dead_free h hlv hrow (by simpa using hq) _ _, ?_, hss, (fun t z e => by cases e)⟩
            rw [flat_take _ (P.cellsOf t) (fun v hv => (hsz v (List.mem_of_mem_drop hv)).1), flat_drop _ (P.cellsOf t) (fun v hv => (hsz v hv).1)]
            have := cellsAt_sub hc (off * P.cellsOf t) (len * P.cellsOf t)
            rwa [Nat.zero_add] at this
          · rename_i hle
            rw [if_neg hle]
            simp only [R]
        · simp only [R]
    | sl k els =>
      unfold PV.frz at hb ⊢
      simp only [PV.blw] at hb
      simp only [R] at hr ⊢
      obtain ⟨vs, h1, h2⟩ := hr
      refine ⟨vs, RA_frz_map ih _ _ hb.2 h1, ?_⟩
      rw [List.length_map]
      cases wk with
      | true => exact slHead_sub (keep_sub g m q) (fun t z e => by cases e) (slHead_weak h2)
      | false => exact slHead_sub (keep_sub g m q) hb.1 h2
    | agg cs =>
      unfold PV.frz at hb ⊢
      simp only [PV.blw] at hb
      simp only [R] at hr ⊢
      obtain ⟨a, h1, h2, h3⟩ := hr
      exact ⟨a, h1, h2, RA_frz_map ih _ _ hb h3⟩
    | tuple cs =>
      unfold PV.frz at hb ⊢
      simp only [PV.blw] at hb
      simp only [R] at hr ⊢
      obtain ⟨a, h1, h3⟩ := hr
      exact ⟨a, h1, RA_frz_map ih _ _ hb h3⟩
    | _ => exact leaf _ v hb hr

section
variable {P : Program} {fn : Func} {args : List PV} {s0 : St} {Q : PV → St → Prop} {e : Env} {s : St}

theorem Ret.keepF {r r' : PV} (wk : Bool) (fuel n : Nat) (p : Nat → Bool) (hr : retv P fn.results.toList e s = some r) (hr' : ∀ g w v, R g w (r.frz wk s p fuel) v → R g w r' v) (hn : s0.nxt ≤ n) (hb : (r.frz wk s p fuel).blw n)
    (hp : ∀ i, p i = true → s.blk i ≠ none → i < n) (hk : ∀ i b, p i = true → s.blk i = some b → s0.blk i = some b ∨ b.blw n) (h : Q r' (s.keep n p)) : Ret P fn args s0 Q e s := by
  refine ⟨r, hr, _, _, h, fun g0 w0 g w hI0 hX hI v hv => ⟨g.keep n p, keep_inv hI n p hp ?_, hr' _ _ _ (R_frz hI n wk p fuel _ _ hb hv), keep_ext0 hX n (by rw [hI0.nxt]; exact hn) p⟩⟩
  intro i b hpi hbi
  rcases hk i b hpi hbi with q | q
  · have := hI0.blw q
    exact Ret.keep.blw_mono (s0 := s0) (n := s0.nxt) hn b this
  · exact q

/-- nothing that was there has changed; nothing new is kept -/
theorem Ret.pureF {r r' : PV} (fuel : Nat) (hr : retv P fn.results.toList e s = some r) (hr' : r.frz true s (fun i => decide (i < s0.nxt)) fuel = r') (hb : r'.blw s0.nxt) (hwf : s0.wf) (hk : ∀ i, i < s0.nxt → s.blk i = s0.blk i) (h : Q r' s0) : Ret P fn args s0 Q e s := by
  have e1 : s.keep s0.nxt (fun i => decide (i < s0.nxt)) = s0 := by
    cases s0 with
    | mk n f =>
      simp only [St.keep, St.mk.injEq, true_and]
      funext i
      by_cases hi : i < n
      · simp only [hi, decide_true, if_true]; exact hk i hi
      · simp only [hi, decide_false, Bool.false_eq_true, if_false]
        exact (hwf i (by simp only; omega)).symm
  subst hr'
  refine Ret.keepF true fuel s0.nxt (fun i => decide (i < s0.nxt)) hr (fun _ _ _ h => h) (Nat.le_refl _) hb (fun i hi _ => of_decide_eq_true hi) ?_ (by rw [e1]; exact h)
  intro i b hi hbi
  rw [hk i (of_decide_eq_true hi)] at hbi
  exact .inl hbi

end

def SK.isTok : SK → Nat → Bool
  | .tok t _, i => t == i
  | _, _ => false

/-! ## A list that grows in a row of one's own -/

/-- none yet, or a row of one's own, its name from lo on -/
def Rowed (e : TypeId) (s : St) (lo : Nat) (v : PV) (els : List PV) : Prop :=
  v = .sl .nil [] ∧ els = [] ∨ ∃ L zs, v = .own L 0 els.length ∧ lo ≤ L ∧ s.blk L = some (.row e zs) ∧ els.length ≤ zs.length ∧ zs.take els.length = els

theorem Rowed.nil (e : TypeId) (s : St) (lo : Nat) : Rowed e s lo (.sl .nil []) [] := .inl ⟨rfl, rfl⟩

theorem Rowed.keep {e : TypeId} {s s' : St} {lo : Nat} {v : PV} {els : List PV} (h : Rowed e s lo v els) (hk : ∀ L z n, v = .own L z n → s'.blk L = s.blk L) : Rowed e s' lo v els := by
  rcases h with h | ⟨L, zs, h1, h2, h3, h4⟩
  · exact .inl h
  · exact .inr ⟨L, zs, h1, h2, by rw [hk L _ _ h1]; exact h3, h4⟩

theorem Rowed.lt {e : TypeId} {s : St} (hwf : s.wf) {lo : Nat} {v : PV} {els : List PV} (h : Rowed e s lo v els) {L z n : Nat} (hv : v = .own L z n) : lo ≤ L ∧ L < s.nxt := by
  rcases h with ⟨h, _⟩ | ⟨L', zs, h1, h2, h3, h4⟩
  · rw [hv] at h; cases h
  · rw [h1] at hv; cases hv
    refine ⟨h2, ?_⟩
    rcases Nat.lt_or_ge L s.nxt with h | h
    · exact h
    · rw [hwf L h] at h3; cases h3

theorem Rowed.frz {e : TypeId} {s : St} {lo : Nat} {v : PV} {els : List PV} (h : Rowed e s lo v els) {wk : Bool} {q : Nat → Bool} (hq : ∀ L z n, v = .own L z n → q L = false) (n : Nat) : v.frz wk s q (n + 1) = .sl .unk (els.map (PV.frz wk s q n)) ∨ els = [] ∧ v.frz wk s q (n + 1) = .sl .nil [] := by
  rcases h with ⟨rfl, rfl⟩ | ⟨L, zs, rfl, h2, h3, h4, h5⟩
  · cases wk with
    | true => exact .inl rfl
    | false => exact .inr ⟨rfl, rfl⟩
  · left
    unfold PV.frz
    rw [if_neg (by rw [hq L 0 _ rfl]; simp), h3]
    simp only [Nat.zero_add, List.drop_zero]
    rw [if_pos h4, h5]

/-- a row that is handed out reads as a list -/
theorem Rowed.out {e : TypeId} {s : St} {lo : Nat} {v : PV} {els : List PV} (h : Rowed e s lo v els) {wk : Bool} {q : Nat → Bool} (hq : ∀ L z n, v = .own L z n → q L = false) (n m : Nat) (hb : PV.blws m (els.map (PV.frz wk s q n))) :
    (v.frz wk s q (n + 1)).blw m ∧ ∀ g w u, R g w (v.frz wk s q (n + 1)) u → R g w (.sl .unk (els.map (PV.frz wk s q n))) u := by
  rcases h.frz hq n with e | ⟨rfl, e⟩
  · rw [e]
    exact ⟨by simp only [PV.blw]; exact ⟨(fun t z e => by cases e), hb⟩, fun _ _ _ h => h⟩
  · rw [e]
    exact ⟨by simp only [PV.blw]; exact ⟨(fun t z e => by cases e), hb⟩, fun g w u h => R_unk.2 (.inl h)⟩

theorem R_tuple2 {a b a' b' : PV} (h1 : ∀ g w v, R g w a v → R g w a' v) (h2 : ∀ g w v, R g w b v → R g w b' v) : ∀ g w v, R g w (.tuple [a, b]) v → R g w (.tuple [a', b']) v := by
  intro g w v h
  simp only [R, RA] at h ⊢
  obtain ⟨x, e1, v1, r1, e2, k1, v2, r2, e3, k2, e4⟩ := h
  exact ⟨x, e1, v1, r1, e2, h1 _ _ _ k1, v2, r2, e3, h2 _ _ _ k2, e4⟩

theorem Rowed.len {P : Program} {t e e' : TypeId} {s : St} {lo : Nat} {v : PV} {els : List PV} (h : Rowed e s lo v els) (ht : td P t = .sl e') : aLen P t v s = some (.int .i64 els.length) := by
  rcases h with ⟨rfl, rfl⟩ | ⟨L, zs, rfl, h2, h3, h4, h5⟩
  · unfold aLen; simp [ht]
  · unfold aLen; simp only [ht]

section
variable {P : Program} {N : Nat} {k : List KI} {e : Env} {s : St} {rt : Env → St → Prop}

theorem RunO.lenRowed {ops : Array Oper} {d : Option Nat} {x : Operand} {t ty : TypeId} {pos : String} {af : Array Edge} {gd : Option (Nat × Bool)} {l : List Oper} {el el' : TypeId} {lo : Nat} {v : PV} {els : List PV}
    (hg : guard? ops ⟨d, .call ⟨.builtin .len, #[x], #[t]⟩, ty, pos, af, gd⟩ e = some true) (hx : ev e x = v) (htd : td P t = .sl el') (hrow : Rowed el s lo v els)
    (h : RunO P N ops l k (e.put d (.int .i64 els.length)) s rt) : RunO P N ops (⟨d, .call ⟨.builtin .len, #[x], #[t]⟩, ty, pos, af, gd⟩ :: l) k e s rt := by
  refine RunO.eff hg (fun g w a hI hE => acore_run hI (fun x => ev_R hE x) ?_) h
  unfold acore
  simp only [apure]
  rw [hx, hrow.len htd]

theorem RunO.appendRowed {ops : Array Oper} {d : Option Nat} {x y : Operand} {t ty : TypeId} {pos : String} {af : Array Edge} {gd : Option (Nat × Bool)} {l : List Oper} {el : TypeId} {lo : Nat} {v : PV} {els : List PV} {ky : SK} {ys : List PV}
    (hg : guard? ops ⟨d, .call ⟨.builtin .append, #[x, y], #[t, t]⟩, ty, pos, af, gd⟩ e = some true) (hx : ev e x = v) (hy : ev e y = .sl ky ys) (htd : td P t = .sl el) (hz : (zpv P el).isSome = true)
    (hey : isEls P el ys) (hb0 : 0 < P.bytesOf el) (hlen : (els.length + ys.length) * P.bytesOf el ≤ 140737488355328) (hys : ys ≠ []) (hrow : Rowed el s lo v els) (hlo : lo ≤ s.nxt)
    (h : ∀ s', s'.nxt = s.nxt + 1 → s'.blk s.nxt = some (.row el (els ++ ys)) → (∀ i, i ≠ s.nxt → (∀ z n, v ≠ .own i z n) → s'.blk i = s.blk i) → (s.wf → s'.wf) → Rowed el s' lo (.own s.nxt 0 (els ++ ys).length) (els ++ ys) →
      RunO P N ops l k (e.put d (.own s.nxt 0 (els.length + ys.length))) s' rt) : RunO P N ops (⟨d, .call ⟨.builtin .append, #[x, y], #[t, t]⟩, ty, pos, af, gd⟩ :: l) k e s rt := by
  rcases hrow with ⟨h1, rfl⟩ | ⟨L, zs, h1, h2, h3, h4, h5⟩
  · subst h1
    refine RunO.appendFirst hg hx hy htd hz (by intro p hp; cases hp) hey hb0 hlen (v := .own s.nxt 0 (([] : List PV).length + ys.length)) (s' := s.new (.row el ([] ++ ys))) (by unfold aAppendFirst; simp only [if_pos hys]) ?_
    exact h _ rfl (if_pos rfl) (fun i hi _ => if_neg hi) (fun hwf => new_wf hwf _) (.inr ⟨s.nxt, ys, rfl, hlo, if_pos rfl, Nat.le_refl _, List.take_length⟩)
  · subst h1
    refine RunO.appendOwn hg hx hy htd hz hey hb0 hlen (v := .own s.nxt 0 (els.length + ys.length)) (s' := (s.set L none).new (.row el (els ++ ys))) ?_ ?_
    · unfold aAppendOwn
      rw [h3]
      simp only
      rw [if_pos ⟨hys, trivial, h4⟩, h5]
    · refine h _ rfl (if_pos rfl) (fun i hi hL => ?_) (fun hwf => new_wf (fun i hi => ?_) _) (.inr ⟨s.nxt, els ++ ys, rfl, hlo, if_pos rfl, Nat.le_refl _, List.take_length⟩)
      · show (if i = s.nxt then _ else if i = L then none else s.blk i) = s.blk i
        rw [if_neg hi, if_neg (fun e => hL 0 _ (by rw [e]))]
      · show (if i = L then none else s.blk i) = none
        split
        · rfl
        · exact hwf i hi

end

section
variable {P : Program} {fn : Func} {args : List PV} {s0 : St} {Q : PV → St → Prop} {e : Env} {s : St}

/-- nothing that was there has changed; a list that grows is kept -/
theorem Ret.tokF {r r' : PV} (fuel : Nat) {kk : SK} {n z : Nat} (hr : retv P fn.results.toList e s = some r) (hr' : ∀ g w v, R g w (r.frz false s (fun i => decide (i < s0.nxt) || kk.isTok i) fuel) v → R g w r' v) (hb : (r.frz false s (fun i => decide (i < s0.nxt) || kk.isTok i) fuel).blw s.nxt) (hwf : s.wf) (hle : s0.nxt ≤ s.nxt) (hfr : ∀ i, i < s0.nxt → s.blk i = s0.blk i)
    (hg : Grows s kk n z) (h : ∀ s', s'.nxt = s.nxt → (∀ i, i < s0.nxt → s'.blk i = s0.blk i) → Grows s' kk n z → Q r' s') : Ret P fn args s0 Q e s := by
  refine Ret.keepF false fuel s.nxt (fun i => decide (i < s0.nxt) || kk.isTok i) hr hr' hle hb (fun i _ hi => ?_) (fun i b hi hbi => ?_) (h _ rfl (fun i hi => ?_) (hg.mono fun t ht => ?_))
  · rcases Nat.lt_or_ge i s.nxt with h | h
    · exact h
    · exact absurd (hwf i h) hi
  · simp only [Bool.or_eq_true, decide_eq_true_eq] at hi
    rcases hi with hi | hi
    · exact .inl (by rw [← hfr i hi]; exact hbi)
    · right
      rcases hg with ⟨rfl, _⟩ | rfl | ⟨t, rfl, ht⟩
      · cases hi
      · cases hi
      · simp only [SK.isTok, beq_iff_eq] at hi
        subst hi
        rw [ht] at hbi
        cases hbi
        trivial
  · show (if _ then s.blk i else none) = _
    rw [if_pos (by simp [hi])]
    exact hfr i hi
  · show (if _ then s.blk t else none) = _
    rw [if_pos (by simp [ht, SK.isTok])]

end
end Go.PM

namespace Go.PM
open Go
section
variable {P : Program} {N : Nat} {k : List KI} {e : Env} {s : St} {rt : Env → St → Prop}

/-- ways that meet behind x -/
theorem Run.join {x : KI} (J : Env → St → Prop) (hj : ∀ e s, J e s → Run P N k e s rt) (h : (∀ e s, J e s → Run P N k e s rt) → Run P N (x :: k) e s rt) : Run P N (x :: k) e s rt := h hj

theorem AWP.env {c : Code} {e e' : Env} {Q : AQ} (he : ∀ i, Env.get e' i = e.get i ∨ Env.get e' i = .junk) (h : AWP P N c e' s Q) : AWP P N c e s Q :=
  fun ok g w a h1 h2 h3 h4 => h ok g w a h1 (h2.env he) h3 h4

/-- fewer slots, ahead of code -/
theorem Run.prune {c : Code} {e' : Env} (l : List Nat) (he : Env.keep l e = e') (h : Run P N (.code c :: k) e' s rt) : Run P N (.code c :: k) e s rt := by
  subst he
  intro ok
  exact AWP.env (keep_get e l) (h ok)
end
end Go.PM

import Derived.Test.YtegdcamfhldcoaaPmM
set_option linter.unusedVariables false
set_option linter.unusedSimpArgs false
namespace Go.PM
open Go

/-! ## Leaving a function -/

mutual
theorem R_blw {g : G} {w : World} : ∀ (p : PV) (v : Value), R g w p v → p.blw g.nxt
  | .int _ _, _, _ => by simp only [PV.blw]
  | .bool _, _, _ => by simp only [PV.blw]
  | .str _, _, _ => by simp only [PV.blw]
  | .nilp, _, _ => by simp only [PV.blw]
  | .ptr id i j, v, r => by simp only [R, PV.blw] at r ⊢; exact r.1
  | .rptr cs, v, r => by
    simp only [R, PV.blw] at r ⊢
    obtain ⟨b, o, vs, _, _, _, _, hr⟩ := r
    exact RA_blw cs vs hr
  | .sl k els, v, r => by
    simp only [R, PV.blw] at r ⊢
    obtain ⟨vs, hr, hs⟩ := r
    refine ⟨fun t z e => ?_, RA_blw els vs hr⟩
    subst e
    rw [slHead_base rfl] at hs
    simp only [slHead0] at hs
    obtain ⟨b, o, cap, sz, _, _, _, _, _, _, _, ht⟩ := hs
    exact (ht t z rfl).2.1
  | .own id _ _, v, r => by simp only [R, PV.blw] at r ⊢; exact r.1
  | .agg cs, v, r => by simp only [R, PV.blw] at r ⊢; obtain ⟨a, _, _, h⟩ := r; exact RA_blw cs _ h
  | .tuple cs, v, r => by simp only [R, PV.blw] at r ⊢; obtain ⟨a, _, h⟩ := r; exact RA_blw cs _ h
  | .fn _ a b, v, r => by simp only [R, PV.blw] at r ⊢; obtain ⟨x, y, _, h1, h2⟩ := r; exact ⟨RA_blw a _ h1, RA_blw b _ h2⟩
  | .nilf, _, _ => by simp only [PV.blw]
  | .iface _ p, v, r => by simp only [R, PV.blw] at r ⊢; obtain ⟨x, _, h⟩ := r; exact R_blw p x h
  | .nili, _, _ => by simp only [PV.blw]
  | .map id, v, r => by simp only [R, PV.blw] at r ⊢; exact r.1
  | .nilm, _, _ => by simp only [PV.blw]
  | .gd b p, v, r => by simp only [R, PV.blw] at r ⊢; exact fun hb => R_blw p v (r hb)
  | .junk, _, _ => by simp only [PV.blw]
theorem RA_blw {g : G} {w : World} : ∀ (ps : List PV) (vs : List Value), RA g w ps vs → PV.blws g.nxt ps
  | [], _, _ => by simp only [PV.blws]
  | p :: ps, vs, r => by
    simp only [RA, PV.blws] at r ⊢
    obtain ⟨v, r', _, h1, h2⟩ := r
    exact ⟨R_blw p v h1, RA_blw ps r' h2⟩
end

mutual
/-- of slices only the elements are known -/
def PV.weak : PV → PV
  | .rptr cs => .rptr (PV.weaks cs)
  | .sl _ els => .sl .unk (PV.weaks els)
  | .agg cs => .agg (PV.weaks cs)
  | .tuple cs => .tuple (PV.weaks cs)
  | .fn f a b => .fn f (PV.weaks a) (PV.weaks b)
  | .iface t p => .iface t (PV.weak p)
  | .gd b p => .gd b (PV.weak p)
  | p => p
def PV.weaks : List PV → List PV
  | [] => []
  | p :: ps => PV.weak p :: PV.weaks ps
end

theorem weaks_length : ∀ (ps : List PV), (PV.weaks ps).length = ps.length
  | [] => rfl
  | p :: ps => by simp [PV.weaks, weaks_length ps]

theorem weaks_map : ∀ (ps : List PV), PV.weaks ps = ps.map PV.weak
  | [] => rfl
  | p :: ps => by simp [PV.weaks, weaks_map ps]

theorem slHead_weak {g w k n vs v} (h : slHead g w k n vs v) : slHead g w .unk n vs v := by
  have main : ∀ k : SK, slHead0 g w k n vs v → k = .nil ∧ slHead0 g w .nil n vs v ∨ slHead0 g w .any n vs v := by
    intro k h
    by_cases hn : k = .nil
    · subst hn; exact .inl ⟨rfl, h⟩
    · obtain ⟨b, o, cap, sz, h1, h2, h3, h4, h5, h6, h7, h8⟩ := slHead0_open h hn
      exact .inr ⟨b, o, cap, sz, h1, h2, h3, (fun e => by cases e), h5, h6, h7, fun t z e => by cases e⟩
  have main' : ∀ k : SK, slHead0 g w k n vs v → slHead g w .unk n vs v := fun k h => (main k h).imp (fun x => x.2) id
  cases k with
  | unk => exact h
  | unc => rcases h with h | h
           · exact main' _ h
           · exact main' _ h
  | nil => exact main' .nil h
  | clip => exact main' .clip h
  | any => exact main' .any h
  | tok t z => exact main' (.tok t z) h

mutual
theorem R_weak {g : G} {w : World} : ∀ (p : PV) (v : Value), R g w p v → R g w p.weak v
  | .int _ _, _, r => by simpa only [PV.weak, R] using r
  | .bool _, _, r => by simpa only [PV.weak, R] using r
  | .str _, _, r => by simpa only [PV.weak, R] using r
  | .nilp, _, r => by simpa only [PV.weak, R] using r
  | .ptr id i j, v, r => by simpa only [PV.weak, R] using r
  | .rptr cs, v, r => by
    simp only [R, PV.weak] at r ⊢
    obtain ⟨b, o, vs, h1, h2, h3, h4, hr⟩ := r
    exact ⟨b, o, vs, h1, by rw [weaks_length]; exact h2, h3, h4, RA_weak cs vs hr⟩
  | .sl k els, v, r => by
    simp only [R, PV.weak] at r ⊢
    obtain ⟨vs, hr, hs⟩ := r
    exact ⟨vs, RA_weak els vs hr, by rw [weaks_length]; exact slHead_weak hs⟩
  | .own id _ _, v, r => by simpa only [PV.weak, R] using r
  | .agg cs, v, r => by simp only [R, PV.weak] at r ⊢; obtain ⟨a, h0, h1, h⟩ := r; exact ⟨a, h0, h1, RA_weak cs _ h⟩
  | .tuple cs, v, r => by simp only [R, PV.weak] at r ⊢; obtain ⟨a, h1, h⟩ := r; exact ⟨a, h1, RA_weak cs _ h⟩
  | .fn _ a b, v, r => by simp only [R, PV.weak] at r ⊢; obtain ⟨x, y, h0, h1, h2⟩ := r; exact ⟨x, y, h0, RA_weak a _ h1, RA_weak b _ h2⟩
  | .nilf, _, r => by simpa only [PV.weak, R] using r
  | .iface _ p, v, r => by simp only [R, PV.weak] at r ⊢; obtain ⟨x, h0, h⟩ := r; exact ⟨x, h0, R_weak p x h⟩
  | .nili, _, r => by simpa only [PV.weak, R] using r
  | .map id, v, r => by simpa only [PV.weak, R] using r
  | .nilm, _, r => by simpa only [PV.weak, R] using r
  | .gd b p, v, r => by simp only [R, PV.weak] at r ⊢; exact fun hb => R_weak p v (r hb)
  | .junk, _, r => by simp only [PV.weak, R]
theorem RA_weak {g : G} {w : World} : ∀ (ps : List PV) (vs : List Value), RA g w ps vs → RA g w (PV.weaks ps) vs
  | [], _, r => by simpa only [PV.weaks, RA] using r
  | p :: ps, vs, r => by
    simp only [RA, PV.weaks] at r ⊢
    obtain ⟨v, r', h0, h1, h2⟩ := r
    exact ⟨v, r', h0, R_weak p v h1, RA_weak ps r' h2⟩
end

def Blk.blw (n : Nat) : Blk → Prop
  | .row _ els => PV.blws n els
  | .tok _ => True
  | .map es => PV.blws n (es.map (·.1)) ∧ PV.blws n (es.map (·.2))

theorem Inv.blw {P g s w} (h : Inv P g s w) {id b} (e : s.blk id = some b) : b.blw s.nxt := by
  have := h.at' id
  rw [e] at this
  rw [← h.nxt]
  cases b with
  | row t els => obtain ⟨_, _, b, vs, _, _, _, _, _, hr⟩ := this; exact RA_blw _ _ hr
  | tok L => trivial
  | map es => obtain ⟨_, _, b, _, me, cl, _, h1, h2⟩ := this; exact ⟨RA_blw _ _ h1, RA_blw _ _ h2⟩

/-- names are forgotten, of which nothing that is kept speaks -/
theorem keep_inv {P g s w} (h : Inv P g s w) (n : Nat) (p : Nat → Bool) (hp : ∀ i, p i = true → s.blk i ≠ none → i < n) (hb : ∀ i b, p i = true → s.blk i = some b → b.blw n) : Inv P (g.keep n p) (s.keep n p) w where
  nxt := rfl
  wf := fun i hi => by
    simp only [St.keep] at hi ⊢
    split
    · rename_i hpi
      by_cases e : s.blk i = none
      · exact e
      · have := hp i hpi e; omega
    · rfl
  at' := fun id => by
    simp only [St.keep]
    have hat := h.at' id
    split
    · rename_i hpi
      cases hbl : s.blk id with
      | none =>
        rw [hbl] at hat
        simp only [At, G.keep, hpi, Bool.true_and, if_true] at hat ⊢
        exact hat
      | some b =>
        rw [hbl] at hat
        have hbw := hb id b hpi hbl
        have hsub := keep_sub g n p
        cases b with
        | row t els =>
          obtain ⟨a, al, b, vs, a1, a2, a3, a4, a5, a6⟩ := hat
          exact ⟨by simp only [G.keep, hpi, if_true]; exact a, by simp only [G.keep, hpi, Bool.true_and]; exact al, b, vs, a1, a2, a3, a4, a5, RA_sub hsub _ _ hbw a6⟩
        | tok L =>
          obtain ⟨a, b, l, a1, a2, a3, a4⟩ := hat
          exact ⟨by simp only [G.keep, hpi, Bool.true_and]; exact a, b, l, by simp only [G.keep, hpi, if_true]; exact a1, a2, fun ⟨i, k, e, lv⟩ => by
            simp only [G.keep, Bool.and_eq_true] at e lv
            exact a3 ⟨i, k, e, lv.2⟩, a4⟩
        | map es =>
          obtain ⟨a, al, b, a1, me, cl, a2, a3, a4⟩ := hat
          exact ⟨by simp only [G.keep, hpi, if_true]; exact a, by simp only [G.keep, hpi, Bool.true_and]; exact al, b, a1, me, cl, a2, RA_sub hsub _ _ hbw.1 a3, RA_sub hsub _ _ hbw.2 a4⟩
    · rename_i hpi
      simp only [At, G.keep, hpi, Bool.false_and, if_false, Bool.false_eq_true, and_self]
  inj := fun i j b m k li lj e1 e2 => by
    simp only [G.keep, Bool.and_eq_true] at li lj
    exact h.inj i j b m k li.2 lj.2 e1 e2
  tinj := fun i j b m k e1 e2 => by
    simp only [G.keep] at e1 e2
    split at e1
    · split at e2
      · exact h.tinj i j b m k e1 e2
      · cases e2
    · cases e1
  lim := h.lim
  rlim := fun i b m li e => by
    simp only [G.keep, Bool.and_eq_true] at li e
    exact h.rlim i b m li.2 e

theorem keep_ext0 {g0 w0 g w} (h : Ext g0 w0 g w) (n : Nat) (hn : g0.nxt ≤ n) (p : Nat → Bool) : Ext g0 w0 (g.keep n p) w :=
  { os := h.os, tape := h.tape, output := h.output, size := h.size, nxt := hn, rd := h.rd
    free := fun b m hb hf => keep_free (h.free b m hb hf)
    same := h.same, rows := h.rows, csz := h.csz
    toks := fun t ht b' L' e => by
      simp only [G.keep] at e
      split at e
      · exact h.toks t ht b' L' e
      · cases e }

section
variable {P : Program} {fn : Func} {args : List PV} {s0 : St} {Q : PV → St → Prop} {e : Env} {s : St}

/-- all is kept -/
theorem Ret.all {r : PV} (hr : retv P fn.results.toList e s = some r) (h : Q r s) : Ret P fn args s0 Q e s :=
  ⟨r, hr, r, s, h, fun g0 w0 g w _ hX hI v hv => ⟨g, hI, hv, hX⟩⟩

/-- some names are kept -/
theorem Ret.keep {r r' : PV} (n : Nat) (p : Nat → Bool) (hr : retv P fn.results.toList e s = some r) (hr' : r' = r.weak) (hn : s0.nxt ≤ n) (hb : r'.blw n)
    (hp : ∀ i, p i = true → s.blk i ≠ none → i < n) (hk : ∀ i b, p i = true → s.blk i = some b → s0.blk i = some b ∨ b.blw n) (h : Q r' (s.keep n p)) : Ret P fn args s0 Q e s := by
  subst hr'
  refine ⟨r, hr, _, _, h, fun g0 w0 g w hI0 hX hI v hv => ⟨g.keep n p, keep_inv hI n p hp ?_, R_sub (keep_sub g n p) _ _ hb (R_weak r v hv), keep_ext0 hX n (by rw [hI0.nxt]; exact hn) p⟩⟩
  intro i b hpi hbi
  rcases hk i b hpi hbi with q | q
  · have := hI0.blw q
    exact blw_mono hn b this
  · exact q
where
  blw_mono {n m : Nat} (h : n ≤ m) (b : Blk) (hb : b.blw n) : b.blw m := by
    cases b with
    | row t els => exact blws_mono h els hb
    | tok L => trivial
    | map es => exact ⟨blws_mono h _ hb.1, blws_mono h _ hb.2⟩
  blw1_mono {n m : Nat} (h : n ≤ m) : ∀ (p : PV), p.blw n → p.blw m
    | .int _ _, _ => by simp only [PV.blw]
    | .bool _, _ => by simp only [PV.blw]
    | .str _, _ => by simp only [PV.blw]
    | .nilp, _ => by simp only [PV.blw]
    | .ptr id i j, r => by simp only [PV.blw] at r ⊢; omega
    | .rptr cs, r => by simp only [PV.blw] at r ⊢; exact blws_mono h cs r
    | .sl k els, r => by simp only [PV.blw] at r ⊢; exact ⟨fun t z e => Nat.lt_of_lt_of_le (r.1 t z e) h, blws_mono h els r.2⟩
    | .own id _ _, r => by simp only [PV.blw] at r ⊢; omega
    | .agg cs, r => by simp only [PV.blw] at r ⊢; exact blws_mono h cs r
    | .tuple cs, r => by simp only [PV.blw] at r ⊢; exact blws_mono h cs r
    | .fn _ a b, r => by simp only [PV.blw] at r ⊢; exact ⟨blws_mono h a r.1, blws_mono h b r.2⟩
    | .nilf, _ => by simp only [PV.blw]
    | .iface _ p, r => by simp only [PV.blw] at r ⊢; exact blw1_mono h p r
    | .nili, _ => by simp only [PV.blw]
    | .map id, r => by simp only [PV.blw] at r ⊢; omega
    | .nilm, _ => by simp only [PV.blw]
    | .gd b p, r => by simp only [PV.blw] at r ⊢; exact fun hb => blw1_mono h p (r hb)
    | .junk, _ => by simp only [PV.blw]
  blws_mono {n m : Nat} (h : n ≤ m) : ∀ (ps : List PV), PV.blws n ps → PV.blws m ps
    | [], _ => by simp only [PV.blws]
    | p :: ps, r => by simp only [PV.blws] at r ⊢; exact ⟨blw1_mono h p r.1, blws_mono h ps r.2⟩

/-- nothing that was there has changed; nothing new is kept -/
theorem Ret.pure {r r' : PV} (hr : retv P fn.results.toList e s = some r) (hr' : r' = r.weak) (hb : r'.blw s0.nxt) (hwf : s0.wf) (hk : ∀ i, i < s0.nxt → s.blk i = s0.blk i) (h : Q r' s0) : Ret P fn args s0 Q e s := by
  have e1 : s.keep s0.nxt (fun i => decide (i < s0.nxt)) = s0 := by
    cases s0 with
    | mk n f =>
      simp only [St.keep, St.mk.injEq, true_and]
      funext i
      by_cases hi : i < n
      · simp only [hi, decide_true, if_true]; exact hk i hi
      · simp only [hi, decide_false, Bool.false_eq_true, if_false]
        exact (hwf i (by simp only; omega)).symm
  refine Ret.keep s0.nxt (fun i => decide (i < s0.nxt)) hr hr' (Nat.le_refl _) hb (fun i hi _ => of_decide_eq_true hi) ?_ (by rw [e1]; exact h)
  intro i b hi hbi
  rw [hk i (of_decide_eq_true hi)] at hbi
  exact .inl hbi

end

end Go.PM

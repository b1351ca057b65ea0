import Derived.Test.YtegdcamfhldcoaaPmI
import Derived.Laws.BytesString
set_option linter.unusedVariables false
set_option linter.unusedSimpArgs false
namespace Go.PM
open Go

/-- what values aEql is of -/
theorem aEql_shape {P : Program} {g w t x y a b r} (hx : R g w x a) (hy : R g w y b) (h : aEql P t x y = some r) :
    (∀ k n, a ≠ .int k n) ∧ (∀ s, a ≠ .string s) ∧ (∀ u v, a ≠ .float u v) ∧ (∀ u v z, a ≠ .complex u v z) := by
  unfold aEql at h
  split at h
  all_goals (first | (cases h; done) | skip)
  all_goals
    first
    | (simp only [R] at hx; subst hx; simp; done)
    | (obtain ⟨_, _, rfl⟩ := sl_len hx; simp; done)
    | (simp only [R] at hx; obtain ⟨_, _, _, _, rfl⟩ := hx; simp; done)
    | (simp only [R] at hx; obtain ⟨_, _, _, rfl, _⟩ := hx; simp; done)
    | (simp only [R] at hx; obtain ⟨_, _, rfl, _⟩ := hx; simp; done)
    | (simp only [R] at hx; obtain ⟨_, _, _, _, _, _, rfl, _⟩ := hx; simp; done)

theorem binOp_eql {P : Program} {w : World} {t a b r} (he : (Op.equal t a b).run P w = .ok r w)
    (ha : (∀ k n, a ≠ .int k n) ∧ (∀ s, a ≠ .string s) ∧ (∀ u v, a ≠ .float u v) ∧ (∀ u v z, a ≠ .complex u v z)) :
    (binOp .eql t a b).run P w = .ok (.bool r) w ∧ (binOp .neq t a b).run P w = .ok (.bool (!r)) w := by
  obtain ⟨h1, h2, h3, h4⟩ := ha
  have e1 : binOp .eql t a b = (do pure (.bool (← Op.equal t a b))) := by
    cases a <;> first | exact absurd rfl (h1 _ _) | exact absurd rfl (h2 _) | exact absurd rfl (h3 _ _) | exact absurd rfl (h4 _ _ _) | rfl
  have e2 : binOp .neq t a b = (do pure (.bool (!(← Op.equal t a b)))) := by
    cases a <;> first | exact absurd rfl (h1 _ _) | exact absurd rfl (h2 _) | exact absurd rfl (h3 _ _) | exact absurd rfl (h4 _ _ _) | rfl
  rw [e1, e2]
  simp only [bind_run, he, pure_run, and_self]

theorem aBin_run {P : Program} {g w op t x y a b v xo yo} (hx : R g w x a) (hy : R g w y b) (h : aBin P op t x y = some v) :
    ∃ val, (do eqGuard op t xo yo a b; binOp op t a b).run P w = .ok val w ∧ R g w v val := by
  unfold aBin at h
  split at h
  · simp only [R] at hx hy
    subst hx; subst hy
    obtain ⟨h1, h2⟩ := iBin_run (P := P) (w := w) (t := t) h
    refine ⟨_, ?_, h2 g⟩
    rw [bind_run, eqGuard_run (.inr ⟨fun _ _ e => by (cases e), fun e => by (cases e)⟩)]
    exact h1
  · rename_i sa sb
    simp only [R] at hx hy
    subst hx; subst hy
    have hg := eqGuard_run (P := P) (w := w) (op := op) (t := t) (x := xo) (y := yo) (a := .string sa) (b := .string sb) (.inr ⟨fun _ _ e => by (cases e), fun e => by (cases e)⟩)
    split at h
    · cases h; exact ⟨_, by rw [bind_run, hg]; rfl, by simp only [R]⟩
    · cases h; exact ⟨_, by rw [bind_run, hg]; rfl, by simp only [R]⟩
    · split at h
      · rename_i hc
        cases h
        refine ⟨_, ?_, by simp only [R]; rfl⟩
        rw [bind_run, hg]
        have : ¬ (((sa.size + sb.size : Nat) : Int) > IntKind.i64.max) := by
          show ¬ (_ > (2 ^ (64 - 1) - 1 : Int))
          omega
        simp only [binOp, Op.stringOp]
        rw [if_neg this]
        rfl
      · cases h
    · cases h
  · split at h
    case h_2 => cases h
    rename_i r hr
    obtain ⟨h1, h2, u, v, rfl, rfl⟩ := aEqStruct_run hx hy hr xo yo op
    split at h
    · cases h
      refine ⟨.bool r, ?_, by simp only [R]⟩
      rw [bind_run, h2]
      simp only [run_eql_struct, h1]
      rfl
    · cases h
      refine ⟨.bool (!r), ?_, by simp only [R]⟩
      rw [bind_run, h2]
      simp only [run_neq_struct, h1]
      rfl
    · cases h
  · split at h
    · cases he : aEql P t x y with
      | none => rw [he] at h; cases h
      | some r =>
        rw [he] at h; cases h
        have h1 := aEql_run hx hy he
        have h2 := aEql_flat hx hy he
        refine ⟨.bool r, ?_, by simp only [R]⟩
        rw [bind_run, eqGuard_run (.inr h2)]
        exact (binOp_eql h1 (aEql_shape hx hy he)).1
    · cases he : aEql P t x y with
      | none => rw [he] at h; cases h
      | some r =>
        rw [he] at h; cases h
        have h1 := aEql_run hx hy he
        have h2 := aEql_flat hx hy he
        refine ⟨.bool (!r), ?_, by simp only [R]⟩
        rw [bind_run, eqGuard_run (.inr h2)]
        exact (binOp_eql h1 (aEql_shape hx hy he)).2
    · cases h

def aUn (op : UnOp) (x : PV) : Option PV :=
  match op, x with
  | .not, .bool b => some (.bool (!b))
  | .neg, .int k n => some (.int k (k.wrap (0 - n)))
  | .xor, .int k n => some (.int k (ibits .xor k (if k.signed then -1 else k.max) n))
  | _, _ => none

theorem aUn_run {P : Program} {g w op x a v} (hx : R g w x a) (h : aUn op x = some v) : ∃ val, (Op.unary op a).run P w = .ok val w ∧ R g w v val := by
  unfold aUn at h
  split at h
  · cases h; simp only [R] at hx; subst hx; exact ⟨_, rfl, by simp only [R]⟩
  · cases h; simp only [R] at hx; subst hx; exact ⟨_, rfl, by simp only [R]⟩
  · cases h; simp only [R] at hx; subst hx; exact ⟨_, rfl, by simp only [R, ibits]⟩
  · cases h

/-! ## Conversions -/

def byteOf : PV → Option UInt8
  | .int .u8 n => some (UInt8.ofNat n.toNat)
  | _ => none

def aConv (P : Program) (src dst : TypeId) (x : PV) : Option PV :=
  match td P src, td P dst, x with
  | .int _, .int k, .int _ n => some (.int k (k.wrap n))
  | .str, .str, .str s => some (.str s)
  | .sl e, .str, .sl _ els => match td P e, els.mapM byteOf with
    | .int .u8, some bs => some (.str ⟨bs.toArray⟩)
    | _, _ => none
  | _, _, _ => none

theorem RA_bytes {g w} : ∀ {els : List PV} {vs : List Value} {bs : List UInt8}, RA g w els vs → els.mapM byteOf = some bs →
    ∃ ns : List Int, vs = ns.map (Value.int .u8) ∧ bs = ns.map (fun n => UInt8.ofNat n.toNat) ∧ flat vs = vs
  | [], vs, bs, h, hb => by simp [RA] at h; subst h; simp at hb; subst hb; exact ⟨[], rfl, rfl, rfl⟩
  | p :: ps, vs, bs, h, hb => by
    simp only [RA] at h
    obtain ⟨v, r, rfl, hv, hr⟩ := h
    simp only [List.mapM_cons] at hb
    cases hbo : byteOf p with
    | none => rw [hbo] at hb; simp at hb
    | some b =>
      rw [hbo] at hb
      cases hm : ps.mapM byteOf with
      | none => rw [hm] at hb; simp at hb
      | some bs' =>
        rw [hm] at hb
        simp at hb
        subst hb
        obtain ⟨ns, rfl, rfl, e2⟩ := RA_bytes hr hm
        unfold byteOf at hbo
        split at hbo
        · rename_i n
          cases hbo
          simp only [R] at hv
          subst hv
          refine ⟨n :: ns, rfl, rfl, ?_⟩
          have : flat (Value.int .u8 n :: ns.map (Value.int .u8)) = [Value.int .u8 n] ++ flat (ns.map (Value.int .u8)) := rfl
          rw [this, e2]; rfl
        · cases hbo

theorem fold_push : ∀ (ns : List Int) (s : ByteArray), ns.foldl (fun r n => r.push (UInt8.ofNat n.toNat)) s = ⟨s.data ++ (ns.map fun n => UInt8.ofNat n.toNat).toArray⟩
  | [], s => by simp
  | n :: ns, s => by
    rw [List.foldl_cons, fold_push ns]
    simp [ByteArray.push]

theorem aConv_run {P : Program} {g w src dst x a v} (hx : R g w x a) (h : aConv P src dst x = some v) : ∃ val, (convert src dst a).run P w = .ok val w ∧ R g w v val := by
  unfold aConv at h
  split at h
  · rename_i h1 h2
    cases h
    simp only [R] at hx
    subst hx
    refine ⟨_, ?_, by simp only [R]; rfl⟩
    unfold convert
    simp only [bind_run, underlying_run (td_int h1), underlying_run (td_int h2)]
    rfl
  · rename_i h1 h2
    cases h
    simp only [R] at hx
    subst hx
    refine ⟨_, ?_, by simp only [R]; rfl⟩
    unfold convert
    simp only [bind_run, underlying_run (td_str h1), underlying_run (td_str h2)]
    rfl
  · rename_i e k els h1 h2
    split at h
    case h_2 => cases h
    rename_i bs he hb
    cases h
    have conv : ∀ ad n cap, (convert src dst (.slice ad n cap)).run P w = (Conv.bytesToString (.slice ad n cap)).run P w := by
      intro ad n cap
      unfold convert
      simp only [bind_run, underlying_run (td_slice h1), underlying_run (td_str h2)]
      cases ad <;> simp only [bind_run, underlying_run (td_int he)]
    obtain ⟨k', hkb, hx, _⟩ := sl_base hx
    cases hk : decide (k' = .nil) with
    | true =>
      have := of_decide_eq_true hk
      subst this
      obtain ⟨rfl, rfl⟩ := R_nil.1 hx
      simp at hb
      subst hb
      refine ⟨.string .empty, ?_, by simp only [R]; rfl⟩
      rw [conv]; rfl
    | false =>
      obtain ⟨b, o, cap, sz, vs, rfl, a1, a2, a3, a4, a5, a6, a7, a8⟩ := sl_head hx (of_decide_eq_false hk) hkb
      obtain ⟨ns, rfl, rfl, e2⟩ := RA_bytes a8 hb
      rw [e2] at a5
      have := run_bytesToString (P := P) w ⟨b, o, none⟩ els.length cap ns (loadCells_run P w b o _ els.length (RA_length a8) a5)
      refine ⟨_, by rw [conv]; exact this, ?_⟩
      simp only [R]
      rw [fold_push]
      simp
  · cases h

end Go.PM

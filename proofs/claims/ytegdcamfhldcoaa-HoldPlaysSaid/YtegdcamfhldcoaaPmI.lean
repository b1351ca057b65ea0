import Derived.Test.YtegdcamfhldcoaaPmH
import Derived.Laws.StructEq
set_option linter.unusedVariables false
set_option linter.unusedSimpArgs false
namespace Go.PM
open Go

/-! ## Numbers, bools, texts -/

def ibits (op : BinOp) (k : IntKind) (a b : Int) : Int :=
  let x := BitVec.ofInt k.bits a
  let y := BitVec.ofInt k.bits b
  k.wrap ((match op with | .and => x &&& y | .or => x ||| y | .xor => x ^^^ y | _ => x &&& ~~~y).toNat)

def iBin (op : BinOp) (k : IntKind) (a : Int) (k' : IntKind) (b : Int) : Option PV :=
  match op with
  | .shl => if 0 ≤ b then some (.int k (k.wrap (a * 2 ^ min b.toNat k.bits))) else none
  | .shr => if 0 ≤ b then some (.int k (a.fdiv (2 ^ min b.toNat k.bits))) else none
  | .add => if k = k' then some (.int k (k.wrap (a + b))) else none
  | .sub => if k = k' then some (.int k (k.wrap (a - b))) else none
  | .mul => if k = k' then some (.int k (k.wrap (a * b))) else none
  | .quo => if k = k' ∧ b ≠ 0 then some (.int k (k.wrap (a.tdiv b))) else none
  | .rem => if k = k' ∧ b ≠ 0 then some (.int k (a.tmod b)) else none
  | .and | .or | .xor | .andNot => if k = k' then some (.int k (ibits op k a b)) else none
  | .eql => if k = k' then some (.bool (decide (a = b))) else none
  | .neq => if k = k' then some (.bool (!decide (a = b))) else none
  | .lss => if k = k' then some (.bool (decide (a < b))) else none
  | .leq => if k = k' then some (.bool (decide (a ≤ b))) else none
  | .gtr => if k = k' then some (.bool (decide (b < a))) else none
  | .geq => if k = k' then some (.bool (decide (b ≤ a))) else none

def pvV : PV → Value
  | .int k n => .int k n
  | .bool b => .bool b
  | .str s => .string s
  | _ => undef

theorem iBin_run {P : Program} {w : World} {op k a k' b v t} (h : iBin op k a k' b = some v) : (binOp op t (.int k a) (.int k' b)).run P w = .ok (pvV v) w ∧ ∀ g, R g w v (pvV v) := by
  unfold iBin at h
  cases op <;> simp only at h <;> split at h <;> first | (cases h; done) | skip
  case quo.isTrue hc => obtain ⟨rfl, hb⟩ := hc; cases h; exact ⟨by simp only [binOp, ne_eq, not_true_eq_false, if_false, Op.intDiv, if_neg hb, pure_run]; rfl, fun g => by simp only [R, pvV]⟩
  case rem.isTrue hc => obtain ⟨rfl, hb⟩ := hc; cases h; exact ⟨by simp only [binOp, ne_eq, not_true_eq_false, if_false, Op.intDiv, if_neg hb, pure_run]; rfl, fun g => by simp only [R, pvV]⟩
  case shl.isTrue hc => cases h; exact ⟨by simp only [binOp, Op.shift, if_neg (show ¬ b < 0 by omega), pure_run]; rfl, fun g => by simp only [R, pvV]⟩
  case shr.isTrue hc => cases h; exact ⟨by simp only [binOp, Op.shift, if_neg (show ¬ b < 0 by omega), pure_run]; rfl, fun g => by simp only [R, pvV]⟩
  all_goals
    rename_i hc
    subst hc
    cases h
    exact ⟨by simp only [binOp, ne_eq, not_true_eq_false, if_false, Op.intArith, Op.intBits, Op.intCmp, pure_run]; rfl, fun g => by simp only [R, pvV]⟩

/-- a nil of some kind? -/
def isNil : PV → Option Bool
  | .nilp | .nilf | .nili | .nilm => some true
  | .ptr _ _ _ | .rptr _ | .fn _ _ _ | .iface _ _ | .map _ | .own _ _ _ => some false
  | .sl k _ => some (decide (k = .nil))
  | _ => none

def aEql (P : Program) (t : TypeId) (x y : PV) : Option Bool :=
  match td P t, x, y with
  | .bool, .bool a, .bool b => some (a == b)
  | .ptr _, .nilp, .nilp => some true
  | .ptr _, .ptr _ _ _, .nilp | .ptr _, .rptr _, .nilp | .ptr _, .nilp, .ptr _ _ _ | .ptr _, .nilp, .rptr _ => some false
  | .sl _, .sl k _, .sl .nil [] => if k.base then some (decide (k = .nil)) else none
  | .sl _, .own _ _ _, .sl .nil [] => some false
  | .map _ _, .map _, .nilm => some false
  | .map _ _, .nilm, .nilm => some true
  | .fn, .nilf, .nilf => some true
  | .fn, .fn _ _ _, .nilf => some false
  | _, _, _ => none

theorem slice_isNone {g w k els v} (h : R g w (.sl k els) v) (hb : k.base = true) : ∃ a n cap, v = .slice a n cap ∧ (a.isNone = decide (k = .nil)) := by
  cases hk : decide (k = .nil) with
  | true =>
    have := of_decide_eq_true hk
    subst this
    exact ⟨none, 0, 0, (R_nil.1 h).1, rfl⟩
  | false =>
    obtain ⟨b, o, cap, sz, vs, h1, _⟩ := sl_head h (of_decide_eq_false hk) hb
    exact ⟨_, _, _, h1, rfl⟩

theorem td_fn {P : Program} {t} (h : td P t = .fn) : ∃ a b c, P.underlying t = some (.func a b c) := by
  unfold td at h; split at h <;> first | (cases h; done) | exact ⟨_, _, _, by assumption⟩

theorem aEql_run {P : Program} {g w t x y a b r} (hx : R g w x a) (hy : R g w y b) (h : aEql P t x y = some r) : (Op.equal t a b).run P w = .ok r w := by
  unfold aEql at h
  unfold Op.equal Op.maxDepth
  split at h
  all_goals (first | (cases h; done) | skip)
  · rename_i htd; simp only [R] at hx hy; subst hx; subst hy; cases h
    unfold Op.equalIn; simp only [bind_run, underlying_run (td_bool htd), pure_run]
  · rename_i htd; simp only [R] at hx hy; subst hx; subst hy; cases h
    unfold Op.equalIn; simp only [bind_run, underlying_run (td_ptr htd), pure_run]; rfl
  · rename_i htd; simp only [R] at hx hy; obtain ⟨_, _, _, _, rfl⟩ := hx; subst hy; cases h
    unfold Op.equalIn; simp only [bind_run, underlying_run (td_ptr htd), pure_run]
  · rename_i htd; simp only [R] at hx hy; obtain ⟨_, _, _, rfl, _⟩ := hx; subst hy; cases h
    unfold Op.equalIn; simp only [bind_run, underlying_run (td_ptr htd), pure_run]
  · rename_i htd; simp only [R] at hx hy; obtain ⟨_, _, _, _, rfl⟩ := hy; subst hx; cases h
    unfold Op.equalIn; simp only [bind_run, underlying_run (td_ptr htd), pure_run]; rfl
  · rename_i htd; simp only [R] at hx hy; obtain ⟨_, _, _, rfl, _⟩ := hy; subst hx; cases h
    unfold Op.equalIn; simp only [bind_run, underlying_run (td_ptr htd), pure_run]; rfl
  · rename_i htd
    split at h
    case isFalse => cases h
    rename_i hkb
    cases h
    obtain ⟨ad, n, cap, rfl, hn⟩ := slice_isNone hx hkb
    obtain ⟨ad', n', cap', rfl, hn'⟩ := slice_isNone hy rfl
    have : ad' = none := by simpa using hn'
    subst this
    rw [← hn]
    unfold Op.equalIn; simp only [bind_run, underlying_run (td_slice htd)]
    cases ad <;> simp only [pure_run] <;> rfl
  · rename_i htd; cases h
    obtain ⟨ad', n', cap', rfl, hn'⟩ := slice_isNone hy rfl
    have : ad' = none := by simpa using hn'
    subst this
    simp only [R] at hx; obtain ⟨_, _, _, _, _, _, rfl, _⟩ := hx
    unfold Op.equalIn; simp only [bind_run, underlying_run (td_slice htd), pure_run]
  · rename_i htd; simp only [R] at hx hy; obtain ⟨_, _, _, _, rfl⟩ := hx; subst hy; cases h
    unfold Op.equalIn; simp only [bind_run, underlying_run (td_map htd), pure_run]
  · rename_i htd; simp only [R] at hx hy; subst hx; subst hy; cases h
    unfold Op.equalIn; simp only [bind_run, underlying_run (td_map htd), pure_run]; rfl
  · rename_i htd; simp only [R] at hx hy; subst hx; subst hy; cases h
    obtain ⟨_, _, _, hu⟩ := td_fn htd
    unfold Op.equalIn; simp only [bind_run, underlying_run hu, pure_run]
  · rename_i htd; simp only [R] at hx hy; obtain ⟨_, _, rfl, _⟩ := hx; subst hy; cases h
    obtain ⟨_, _, _, hu⟩ := td_fn htd
    unfold Op.equalIn; simp only [bind_run, underlying_run hu, pure_run]

/-- a struct of numbers, bools, texts alone, that may be compared: what they are -/
def flatStruct (P : Program) (t : TypeId) : Option (List TD) :=
  match P.underlying t with
  | some (.struct fs) => if (fs.toList.zipIdx.all fun (f, i) => f.offset == i && f.name != "_") && !P.stoodInHeld t && !P.eqGuardType P.depth t then some (fs.toList.map fun f => td P f.type) else none
  | _ => none

/-- are they the same, one by one? -/
def eqScalars : List TD → List PV → List PV → Option Bool
  | [], [], [] => some true
  | .int _ :: ts, .int k a :: xs, .int k' b :: ys => if k = k' then match eqScalars ts xs ys with
      | some r => some (decide (a = b) && r)
      | none => none
    else none
  | .bool :: ts, .bool a :: xs, .bool b :: ys => match eqScalars ts xs ys with
      | some r => some ((a == b) && r)
      | none => none
  | .str :: ts, .str a :: xs, .str b :: ys => match eqScalars ts xs ys with
      | some r => some ((a.toList == b.toList) && r)
      | none => none
  | _, _, _ => none

def aEqStruct (P : Program) (t : TypeId) (xs ys : List PV) : Option Bool :=
  match flatStruct P t with
  | some ts => eqScalars ts xs ys
  | none => none

theorem eqFields_run {P : Program} {g w} {xs ys : Array Value} (d : Nat) : ∀ (fs : List Field) (i : Nat) (ps qs : List PV) (us vs : List Value) (r : Bool),
    (fs.zipIdx i).all (fun (f, i) => f.offset == i && f.name != "_") = true →
    RA g w ps us → RA g w qs vs → (∀ j, us[j]? = xs[i + j]?) → (∀ j, vs[j]? = ys[i + j]?) → eqScalars (fs.map fun f => td P f.type) ps qs = some r → (Op.eqFields (d + 1) xs ys fs).run P w = .ok r w
  | [], i, ps, qs, us, vs, r, _, h1, h2, _, _, he => by
    cases ps with
    | nil => cases qs with
      | nil => simp [eqScalars] at he; subst he; rfl
      | cons q qs => simp [eqScalars] at he
    | cons p ps => simp [eqScalars] at he
  | f :: fs, i, ps, qs, us, vs, r, hall, h1, h2, hx, hy, he => by
    simp only [List.map_cons] at he
    simp only [List.zipIdx_cons, List.all_cons, Bool.and_eq_true, beq_iff_eq, bne_iff_ne] at hall
    obtain ⟨⟨ho, hname⟩, hall⟩ := hall
    cases ps with
    | nil => cases htd : td P f.type <;> rw [htd] at he <;> simp [eqScalars] at he
    | cons p ps =>
    cases qs with
    | nil => cases htd : td P f.type <;> rw [htd] at he <;> cases p <;> simp [eqScalars] at he
    | cons q qs =>
    simp only [RA] at h1 h2
    obtain ⟨u, us', rfl, hu, h1⟩ := h1
    obtain ⟨v, vs', rfl, hv, h2⟩ := h2
    have hx0 : xs[f.offset]? = some u := by have := hx 0; rw [ho]; simpa using this.symm
    have hy0 : ys[f.offset]? = some v := by have := hy 0; rw [ho]; simpa using this.symm
    have ih := fun r' he' => eqFields_run (P := P) (g := g) (w := w) (xs := xs) (ys := ys) d fs (i + 1) ps qs us' vs' r' hall h1 h2
      (fun j => by have := hx (j + 1); rw [show i + 1 + j = i + (j + 1) by omega]; simpa using this) (fun j => by have := hy (j + 1); rw [show i + 1 + j = i + (j + 1) by omega]; simpa using this) he'
    have fin : ∀ (dd : TypeDesc) (b r' : Bool), P.underlying f.type = some dd → (match dd with | .struct _ | .array _ _ => false | _ => true) = true → (Op.equalIn (d + 1) f.type u v).run P w = .ok b w →
        eqScalars (fs.map fun f => td P f.type) ps qs = some r' → r = (b && r') → (Op.eqFields (d + 1) xs ys (f :: fs)).run P w = .ok r w := by
      intro dd b r' hdd hna h3 h4 h5
      have hpart : ∀ (a : Array Value) (z : Value), a[f.offset]? = some z → (part f.type a f.offset).run P w = .ok z w := fun a z hz => by
        unfold part isAgg
        simp only [bind_run, underlying_run hdd]
        cases dd <;> first | (cases hna; done) | (simp only [bind_run, pure_run, Bool.false_eq_true, if_false, hz])
      unfold Op.eqFields
      rw [if_pos hname]
      simp only [bind_run, hpart xs u hx0, hpart ys v hy0, h3]
      cases b with
      | false => subst h5; rfl
      | true => rw [h5]; simp only [Bool.not_true, Bool.false_eq_true, if_false, Bool.true_and]; exact ih r' h4
    cases htd : td P f.type <;> rw [htd] at he <;> cases p <;> cases q <;> simp only [eqScalars] at he <;> first | (cases he; done) | skip
    · split at he
      · rename_i hk
        subst hk
        split at he
        · rename_i r' hr'
          cases he
          simp only [R] at hu hv
          subst hu; subst hv
          exact fin _ _ r' (td_int htd) rfl (run_equalIn_int w d f.type _ _ _ _ (td_int htd)) hr' rfl
        · cases he
      · cases he
    · split at he
      · rename_i r' hr'
        cases he
        simp only [R] at hu hv
        subst hu; subst hv
        exact fin _ _ r' (td_bool htd) rfl (run_equalIn_bool' w d f.type _ _ (td_bool htd)) hr' rfl
      · cases he
    · split at he
      · rename_i r' hr'
        cases he
        simp only [R] at hu hv
        subst hu; subst hv
        exact fin _ _ r' (td_str htd) rfl (run_equalIn_string w d f.type _ _ (td_str htd)) hr' rfl
      · cases he

theorem aEqStruct_run {P : Program} {g w t xs ys a b r} (hx : R g w (.agg xs) a) (hy : R g w (.agg ys) b) (h : aEqStruct P t xs ys = some r) (xo yo : Operand) (op : BinOp) :
    (Op.equalIn 10000 t a b).run P w = .ok r w ∧ (eqGuard op t xo yo a b).run P w = .ok () w ∧ (∃ u v, a = .agg u ∧ b = .agg v) := by
  unfold aEqStruct at h
  cases hf : flatStruct P t with
  | none => rw [hf] at h; cases h
  | some ts =>
    rw [hf] at h
    simp only at h
    unfold flatStruct at hf
    split at hf
    case h_2 => cases hf
    rename_i fs hu
    split at hf
    case isFalse => cases hf
    rename_i hc
    simp only [Bool.and_eq_true, Bool.not_eq_true'] at hc
    cases hf
    simp only [R] at hx hy
    obtain ⟨u, rfl, _, hxr⟩ := hx
    obtain ⟨v, rfl, _, hyr⟩ := hy
    have hfo : P.fieldsOf t = fs := by unfold Program.fieldsOf; rw [hu]
    refine ⟨?_, run_eqGuard_agg w op t xo yo u v hc.2, u, v, rfl, rfl⟩
    rw [run_equalIn_struct w 9999 t u v (by rw [hfo]; exact hu) hc.1.2, hfo]
    exact eqFields_run (g := g) 9998 fs.toList 0 xs ys u.toList v.toList r hc.1.1 hxr hyr (fun j => by simp) (fun j => by simp) h

def aBin (P : Program) (op : BinOp) (t : TypeId) (x y : PV) : Option PV :=
  match x, y with
  | .int k a, .int k' b => iBin op k a k' b
  | .str a, .str b => match op with
    | .eql => some (.bool (a.toList == b.toList))
    | .neq => some (.bool (!(a.toList == b.toList)))
    | .add => if a.size + b.size ≤ 9223372036854775807 then some (.str (a ++ b)) else none
    | _ => none
  | .agg xs, .agg ys => match aEqStruct P t xs ys with
    | some r => match op with
      | .eql => some (.bool r)
      | .neq => some (.bool (!r))
      | _ => none
    | none => none
  | x, y => match op with
    | .eql => (aEql P t x y).map .bool
    | .neq => (aEql P t x y).map fun b => .bool (!b)
    | _ => none

theorem eqGuard_run {P : Program} {w : World} {op t x y a b} (h : op ≠ .eql ∧ op ≠ .neq ∨ (∀ u v, a = .agg u → b = .agg v → False) ∧ (a = .nilIface → b = .nilIface → False)) : (eqGuard op t x y a b).run P w = .ok () w := by
  by_cases hop : op = .eql ∨ op = .neq
  · have h : (∀ u v, a = .agg u → b = .agg v → False) ∧ (a = .nilIface → b = .nilIface → False) := by
      rcases h with h | h
      · rcases hop with e | e
        · exact absurd e h.1
        · exact absurd e h.2
      · exact h
    obtain ⟨h1, h2⟩ := h
    rcases hop with rfl | rfl
    all_goals
      unfold eqGuard
      simp only [Bool.not_true, Bool.false_eq_true, if_false]
      clear h
      cases a <;> cases b <;> first | rfl | exact (h2 rfl rfl).elim | exact (h1 _ _ rfl rfl).elim
  · unfold eqGuard
    cases op <;> first | rfl | (exact absurd (Or.inl rfl) hop) | (exact absurd (Or.inr rfl) hop)

theorem aEql_flat {P : Program} {g w t x y a b r} (hx : R g w x a) (hy : R g w y b) (h : aEql P t x y = some r) : (∀ u v, a = .agg u → b = .agg v → False) ∧ (a = .nilIface → b = .nilIface → False) := by
  unfold aEql at h
  split at h
  all_goals (first | (cases h; done) | skip)
  all_goals
    refine ⟨?_, ?_⟩
    · rintro u v rfl rfl
      first
      | (simp only [R] at hx; simp at hx; done)
      | (obtain ⟨_, _, e⟩ := sl_len hx; cases e)
      | (simp only [R] at hy; simp at hy; done)
    · rintro rfl rfl
      first
      | (simp only [R] at hx; simp at hx; done)
      | (obtain ⟨_, _, e⟩ := sl_len hx; cases e)
      | (simp only [R] at hy; simp at hy; done)

theorem equal_to_bin {P : Program} {w : World} {t a b r} (he : (Op.equal t a b).run P w = .ok r w) (hn : ∀ k n k' n', a = .int k n → b = .int k' n' → False) (hs : ∀ x y, a = .string x → b = .string y → False)
    (hf : ∀ x y z u, a = .float x y → b = .float z u → False) (hc : ∀ x y z x' y' z', a = .complex x y z → b = .complex x' y' z' → False) :
    (binOp .eql t a b).run P w = .ok (.bool r) w ∧ (binOp .neq t a b).run P w = .ok (.bool (!r)) w := by
  constructor
  · unfold binOp
    split <;> first | (rename_i h1 h2; exact (hn _ _ _ _ rfl rfl).elim) | (exact (hs _ _ rfl rfl).elim) | (exact (hf _ _ _ _ rfl rfl).elim) | (exact (hc _ _ _ _ _ _ rfl rfl).elim) | skip
    all_goals simp_all [bind_run, pure_run]
  · unfold binOp
    split <;> first | (rename_i h1 h2; exact (hn _ _ _ _ rfl rfl).elim) | (exact (hs _ _ rfl rfl).elim) | (exact (hf _ _ _ _ rfl rfl).elim) | (exact (hc _ _ _ _ _ _ rfl rfl).elim) | skip
    all_goals simp_all [bind_run, pure_run]

end Go.PM

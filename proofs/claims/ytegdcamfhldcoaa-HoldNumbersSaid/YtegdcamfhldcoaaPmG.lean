import Derived.Test.YtegdcamfhldcoaaPmF
set_option linter.unusedVariables false
set_option linter.unusedSimpArgs false
namespace Go.PM
open Go

theorem td_slice {P : Program} {t e} (h : td P t = .sl e) : P.underlying t = some (.slice e) := by
  unfold td at h; split at h <;> cases h; assumption
theorem td_arr {P : Program} {t n e} (h : td P t = .arr n e) : P.underlying t = some (.array n e) := by
  unfold td at h; split at h <;> cases h; assumption
theorem td_int {P : Program} {t k} (h : td P t = .int k) : P.underlying t = some (.int k) := by
  unfold td at h; split at h <;> cases h; assumption
theorem td_str {P : Program} {t} (h : td P t = .str) : P.underlying t = some .string := by
  unfold td at h; split at h <;> cases h; assumption
theorem td_bool {P : Program} {t} (h : td P t = .bool) : P.underlying t = some .bool := by
  unfold td at h; split at h <;> cases h; assumption
theorem td_map {P : Program} {t k e} (h : td P t = .map k e) : P.underlying t = some (.map k e) := by
  unfold td at h; split at h <;> cases h; assumption
theorem td_ptr {P : Program} {t e} (h : td P t = .ptr e) : P.underlying t = some (.pointer e) := by
  unfold td at h; split at h <;> cases h; assumption

theorem slHead0_open {g w k n vs v} (h : slHead0 g w k n vs v) (hk : k ≠ .nil) : ∃ b o cap sz, v = .slice (some ⟨b, o, none⟩) n cap ∧ n ≤ cap ∧ 0 < sz ∧ (k = .clip → cap = n) ∧ (0 < n → g.free b (o + n * sz)) ∧ cellsAt w b o (flat vs) ∧
      (∀ v ∈ vs, v.cells.size = sz) ∧
      ∀ t z, k = .tok t z → sz = z ∧ t < g.nxt ∧ ∀ b' L, g.toks t = some (b', L) → n ≤ L ∧ (n = L → b' = b ∧ g.lim b = some (o + L * sz) ∧ o + cap * sz ≤ csize w b) := by
  cases k with
  | nil => exact absurd rfl hk
  | clip => exact h
  | any => exact h
  | tok t z => exact h
  | unk => exact h
  | unc => exact h

/-- is it just nil, or an address? -/
def SK.base : SK → Bool
  | .unk | .unc => false
  | _ => true

theorem slHead_base {g w k n vs v} (hk : k.base = true) : slHead g w k n vs v = slHead0 g w k n vs v := by
  cases k <;> first | rfl | (simp [SK.base] at hk)

/-- of a kind that is not known: of one that is -/
theorem R_unk {g w els v} : R g w (.sl .unk els) v ↔ R g w (.sl .nil els) v ∨ R g w (.sl .any els) v := by
  simp only [R, slHead]
  constructor
  · rintro ⟨vs, h, h1 | h1⟩
    · exact .inl ⟨vs, h, h1⟩
    · exact .inr ⟨vs, h, h1⟩
  · rintro (⟨vs, h, h1⟩ | ⟨vs, h, h1⟩)
    · exact ⟨vs, h, .inl h1⟩
    · exact ⟨vs, h, .inr h1⟩

theorem R_unc {g w els v} : R g w (.sl .unc els) v ↔ R g w (.sl .nil els) v ∨ R g w (.sl .clip els) v := by
  simp only [R, slHead]
  constructor
  · rintro ⟨vs, h, h1 | h1⟩
    · exact .inl ⟨vs, h, h1⟩
    · exact .inr ⟨vs, h, h1⟩
  · rintro (⟨vs, h, h1⟩ | ⟨vs, h, h1⟩)
    · exact ⟨vs, h, .inl h1⟩
    · exact ⟨vs, h, .inr h1⟩

theorem R_nil {g w els v} : R g w (.sl .nil els) v ↔ v = .slice none 0 0 ∧ els = [] := by
  simp only [R, slHead, slHead0]
  constructor
  · rintro ⟨vs, _, h1, h2⟩; exact ⟨h1, List.length_eq_zero_iff.1 h2⟩
  · rintro ⟨rfl, rfl⟩; exact ⟨[], by simp [RA], rfl, rfl⟩

/-- a slice value of any kind, as one whose kind is known -/
theorem sl_base {g w k els v} (h : R g w (.sl k els) v) : ∃ k', k'.base = true ∧ R g w (.sl k' els) v ∧ (k.base = true → k' = k) ∧ (k = .unk → k' = .nil ∨ k' = .any) ∧ (k = .unc → k' = .nil ∨ k' = .clip) := by
  cases k with
  | unk =>
    rcases R_unk.1 h with h | h
    · exact ⟨.nil, rfl, h, by simp [SK.base], by simp, by simp⟩
    · exact ⟨.any, rfl, h, by simp [SK.base], by simp, by simp⟩
  | unc =>
    rcases R_unc.1 h with h | h
    · exact ⟨.nil, rfl, h, by simp [SK.base], by simp, by simp⟩
    · exact ⟨.clip, rfl, h, by simp [SK.base], by simp, by simp⟩
  | nil => exact ⟨_, rfl, h, fun _ => rfl, by simp, by simp⟩
  | clip => exact ⟨_, rfl, h, fun _ => rfl, by simp, by simp⟩
  | any => exact ⟨_, rfl, h, fun _ => rfl, by simp, by simp⟩
  | tok t z => exact ⟨_, rfl, h, fun _ => rfl, by simp, by simp⟩

/-- the parts of a slice value that is not nil -/
theorem sl_open {g w k els v} (h : R g w (.sl k els) v) (hk : 0 < els.length) : ∃ b o cap sz vs, v = .slice (some ⟨b, o, none⟩) els.length cap ∧ els.length ≤ cap ∧ 0 < sz ∧
    g.free b (o + els.length * sz) ∧ cellsAt w b o (flat vs) ∧ (∀ v ∈ vs, v.cells.size = sz) ∧ RA g w els vs := by
  obtain ⟨k', hb, h', _⟩ := sl_base h
  have hn : k' ≠ .nil := by rintro rfl; obtain ⟨_, rfl⟩ := R_nil.1 h'; simp at hk
  simp only [R] at h'
  obtain ⟨vs, hr, hs⟩ := h'
  rw [slHead_base hb] at hs
  obtain ⟨b, o, cap, sz, h1, h2, h3, h4, h5, h6, h7, h8⟩ := slHead0_open hs hn
  exact ⟨b, o, cap, sz, vs, h1, h2, h3, h5 hk, h6, h7, hr⟩

theorem sl_len {g w k els v} (h : R g w (.sl k els) v) : ∃ a cap, v = .slice a els.length cap := by
  obtain ⟨k', hb, h', _⟩ := sl_base h
  by_cases hn : k' = .nil
  · subst hn; obtain ⟨rfl, rfl⟩ := R_nil.1 h'; exact ⟨_, _, rfl⟩
  · simp only [R] at h'
    obtain ⟨vs, hr, hs⟩ := h'
    rw [slHead_base hb] at hs
    obtain ⟨b, o, cap, sz, h1, _⟩ := slHead0_open hs hn
    exact ⟨_, _, h1⟩

def aIndexAddr (P : Program) (t : TypeId) (x ix : PV) (s : St) : Option PV :=
  match ix with
  | .int _ i => match td P t with
    | .sl e => match x with
      | .sl _ els => if 0 ≤ i ∧ 0 < P.cellsOf e then match els[i.toNat]? with
          | some el => if el.ok ∧ el.cells.length = P.cellsOf e then some (.rptr el.cells) else none
          | none => none
        else none
      | .own id off len => if 0 ≤ i ∧ i < len ∧ 0 < P.cellsOf e then match s.blk id with
          | some (.row ty _) => if P.cellsOf e = P.cellsOf ty then some (.ptr id (off + i.toNat) 0) else none
          | _ => none
        else none
      | _ => none
    | .arr n e => if 0 ≤ i ∧ i < n ∧ 0 < P.cellsOf e then match x with
        | .ptr id k j => some (.ptr id k (j + i.toNat * P.cellsOf e))
        | .rptr cs => if (i.toNat + 1) * P.cellsOf e ≤ cs.length then some (.rptr (cs.drop (i.toNat * P.cellsOf e))) else none
        | _ => none
      else none
    | _ => none
  | _ => none

theorem aIndexAddr_run {P g s w t x ix a b v} (h : Inv P g s w) (hx : R g w x a) (hi : R g w ix b) (ha : aIndexAddr P t x ix s = some v) : ∃ val, (Instr.indexAt t a b).run P w = .ok val w ∧ R g w v val := by
  unfold aIndexAddr at ha
  cases ix with
  | int kk i =>
    simp only [R] at hi
    subst hi
    simp only at ha
    cases htd : td P t with
    | sl e =>
      rw [htd] at ha
      simp only at ha
      have hu := td_slice htd
      have sliceCase : ∀ (b o len cap : Nat), 0 ≤ i → i < len → 0 < P.cellsOf e → (Instr.indexAt t (.slice (some ⟨b, o, none⟩) len cap) (.int kk i)).run P w = .ok (.pointer (some ⟨b, o + i.toNat * P.cellsOf e, none⟩)) w := by
        intro b o len cap h1 h2 h3
        unfold Instr.indexAt
        simp only [asIntOf, bind_run, pure_run, underlying_run hu, sizeOf_run h3, addr_add, if_pos (And.intro h1 h2)]
      cases x with
      | sl k els =>
        simp only at ha
        split at ha
        · rename_i hc
          cases he : els[i.toNat]? with
          | none => rw [he] at ha; cases ha
          | some el =>
            rw [he] at ha
            simp only at ha
            split at ha
            · rename_i hok
              cases ha
              have hlt : i.toNat < els.length := (List.getElem?_eq_some_iff.1 he).1
              obtain ⟨b, o, cap, sz, vs, rfl, h1, h2, h3, h4, h5, h6⟩ := sl_open hx (by omega)
              refine ⟨_, sliceCase b o _ cap hc.1 (by omega) hc.2, ?_⟩
              obtain ⟨u, hu', hru⟩ := RA_get h6 _ _ he
              obtain ⟨c1, c2, c3⟩ := RA_cells hru hok.1
              have hsz := h5 u (List.mem_of_getElem? hu')
              have hszeq : sz = P.cellsOf e := by omega
              subst hszeq
              have hcell := (cellsAt_flat h5).1 h4 _ u hu'
              simp only [R]
              refine ⟨b, _, u.cells.toList, rfl, fun _ => free_mono h3 ?_, hcell, c2, c1⟩
              rw [hok.2]
              have := Nat.mul_le_mul_right (P.cellsOf e) hlt
              rw [Nat.succ_mul] at this
              omega
            · cases ha
        · cases ha
      | own id off len =>
        simp only at ha
        split at ha
        · rename_i hc
          split at ha
          case h_2 => cases ha
          rename_i ty els hb
          split at ha
          · rename_i heq
            cases ha
            simp only [R] at hx
            obtain ⟨h0, b, sz, cap, hr, hcap, rfl, hcs⟩ := hx
            have hat := h.at' id
            rw [hb] at hat
            obtain ⟨_, _, b', vs, hr', _⟩ := hat
            rw [hr] at hr'; cases hr'
            refine ⟨_, sliceCase b _ _ cap hc.1 hc.2.1 hc.2.2, ?_⟩
            simp only [R]
            exact ⟨h0, b, P.cellsOf ty, hr, by rw [heq, Nat.add_mul]; rfl⟩
          · cases ha
        · cases ha
      | _ => cases ha
    | arr n e =>
      rw [htd] at ha
      simp only at ha
      have hu := td_arr htd
      split at ha
      · rename_i hc
        have arrCase : ∀ (b o : Nat), (Instr.indexAt t (.pointer (some ⟨b, o, none⟩)) (.int kk i)).run P w = .ok (.pointer (some ⟨b, o + i.toNat * P.cellsOf e, none⟩)) w := by
          intro b o
          unfold Instr.indexAt
          simp only [asIntOf, bind_run, pure_run, underlying_run hu, Instr.sureAddr, sizeOf_run hc.2.2, addr_add, if_pos (And.intro hc.1 hc.2.1)]
        cases x with
        | ptr id k j =>
          cases ha
          simp only [R] at hx
          obtain ⟨h0, b, sz, hr, rfl⟩ := hx
          refine ⟨_, arrCase b _, ?_⟩
          simp only [R]
          exact ⟨h0, b, sz, hr, by rw [Nat.add_assoc]⟩
        | rptr cs =>
          simp only at ha
          split at ha
          · rename_i hle
            cases ha
            simp only [R] at hx
            obtain ⟨b, o, vs, rfl, h1, h2, h3, h4⟩ := hx
            refine ⟨_, arrCase b o, ?_⟩
            simp only [R]
            refine ⟨b, _, vs.drop (i.toNat * P.cellsOf e), rfl, fun hp => ?_, cellsAt_drop h2 _, fun v hv => h3 v (List.mem_of_mem_drop hv), RA_drop _ h4⟩
            simp only [List.length_drop] at hp ⊢
            exact free_mono (h1 (by omega)) (by omega)
          · cases ha
        | _ => cases ha
      · cases ha
    | _ => rw [htd] at ha; cases ha
  | _ => cases ha

/-- a part of cells: of a type, at a place -/
def aPart (P : Program) (t : TypeId) (cs : List PV) (off : Nat) : Option PV :=
  match aggO P t with
  | some true => if 0 < P.cellsOf t ∧ off + P.cellsOf t ≤ cs.length then some (.agg ((cs.drop off).take (P.cellsOf t))) else none
  | some false => cs[off]?
  | none => none

theorem aPart_run {P g w t off v} {cs : List PV} {a : Array Value} (hr : RA g w cs a.toList) (hf : ∀ x ∈ a.toList, x.flat = true) (h : aPart P t cs off = some v) :
    ∃ val, (part t a off).run P w = .ok val w ∧ R g w v val := by
  unfold aPart at h
  unfold part
  cases ha : aggO P t with
  | none => rw [ha] at h; cases h
  | some x =>
    rw [ha] at h
    cases x with
    | true =>
      simp only at h
      split at h
      · rename_i hc
        cases h
        refine ⟨.agg (a.extract off (off + P.cellsOf t)), ?_, ?_⟩
        · rw [bind_run, isAgg_run ha]
          simp only [if_true]
          rw [bind_run, sizeOf_run hc.1]
          rfl
        · simp only [R]
          have : (a.extract off (off + P.cellsOf t)).toList = (a.toList.drop off).take (P.cellsOf t) := by
            simp [List.extract_eq_take_drop]
          refine ⟨_, rfl, ?_, ?_⟩
          · rw [this]; exact fun x hx => hf x (List.mem_of_mem_drop (List.mem_of_mem_take hx))
          · rw [this]; exact RA_take _ (RA_drop _ hr)
      · cases h
    | false =>
      simp only at h
      obtain ⟨u, hu, hru⟩ := RA_get hr _ _ h
      refine ⟨u, ?_, hru⟩
      rw [bind_run, isAgg_run ha]
      simp only [Bool.false_eq_true, if_false]
      rw [Array.getElem?_toList] at hu
      rw [hu]; rfl

def aField (P : Program) (t : TypeId) (x : PV) (f : Nat) : Option PV :=
  match P.underlying t with
  | some (.struct fs) => match fs[f]? with
    | some fd => match x with
      | .agg cs => aPart P fd.type cs fd.offset
      | _ => none
    | none => none
  | _ => none

theorem aField_run {P g w t f x a v} (hx : R g w x a) (h : aField P t x f = some v) : ∃ val, (Instr.field t a f).run P w = .ok val w ∧ R g w v val := by
  unfold aField at h
  split at h
  case h_2 => cases h
  rename_i fs hu
  split at h
  case h_2 => cases h
  rename_i fd hf
  cases x with
  | agg cs =>
    simp only [R] at hx
    obtain ⟨arr, rfl, h1, h2⟩ := hx
    obtain ⟨val, hv, hr⟩ := aPart_run (P := P) h2 h1 h
    refine ⟨val, ?_, hr⟩
    unfold Instr.field
    rw [bind_run, underlying_run hu]
    simp only [hf]
    simp only [asAgg, bind_run, pure_run]
    exact hv
  | _ => cases h

def aIndex (P : Program) (t : TypeId) (x ix : PV) : Option PV :=
  match ix with
  | .int _ i => match td P t with
    | .arr n e => if 0 ≤ i ∧ i < n ∧ 0 < P.cellsOf e then match x with
        | .agg cs => aPart P e cs (i.toNat * P.cellsOf e)
        | _ => none
      else none
    | .str => match x with
        | .str s => if 0 ≤ i then match s[i.toNat]? with
            | some b => some (.int .u8 b.toNat)
            | none => none
          else none
        | _ => none
    | _ => none
  | _ => none

theorem aIndex_run {P g w t x ix a b v} (hx : R g w x a) (hi : R g w ix b) (h : aIndex P t x ix = some v) : ∃ val, (Instr.index t a b).run P w = .ok val w ∧ R g w v val := by
  unfold aIndex at h
  cases ix with
  | int kk i =>
    simp only [R] at hi
    subst hi
    simp only at h
    cases htd : td P t with
    | arr n e =>
      rw [htd] at h
      simp only at h
      split at h
      · rename_i hc
        cases x with
        | agg cs =>
          simp only [R] at hx
          obtain ⟨arr, rfl, h1, h2⟩ := hx
          obtain ⟨val, hv, hr⟩ := aPart_run (P := P) h2 h1 h
          refine ⟨val, ?_, hr⟩
          unfold Instr.index
          simp only [asIntOf, bind_run, pure_run, underlying_run (td_arr htd), if_pos (And.intro hc.1 hc.2.1), sizeOf_run hc.2.2]
          exact hv
        | _ => cases h
      · cases h
    | str =>
      rw [htd] at h
      cases x with
      | str s =>
        simp only [R] at hx
        subst hx
        simp only at h
        split at h
        · rename_i hc
          split at h
          · rename_i bb hb
            cases h
            refine ⟨.int .u8 bb.toNat, ?_, by simp only [R]⟩
            unfold Instr.index
            simp only [asIntOf, bind_run, pure_run, underlying_run (td_str htd), if_pos hc, hb]
          · cases h
        · cases h
      | _ => cases h
    | _ => rw [htd] at h; cases h
  | _ => cases h

def aExtract (x : PV) (n : Nat) : Option PV := match x with
  | .tuple vs => vs[n]?
  | _ => none

theorem aExtract_run {P g w x n a v} (hx : R g w x a) (h : aExtract x n = some v) : ∃ val, (Instr.extract a n).run P w = .ok val w ∧ R g w v val := by
  unfold aExtract at h
  cases x with
  | tuple vs =>
    simp only [R] at hx
    obtain ⟨arr, rfl, h2⟩ := hx
    obtain ⟨u, hu, hru⟩ := RA_get h2 _ _ h
    refine ⟨u, ?_, hru⟩
    unfold Instr.extract
    rw [Array.getElem?_toList] at hu
    simp only [hu, pure_run]
  | _ => cases h

/-! ## Slicing -/

theorem bound_run {P : Program} {w : World} {kk : IntKind} {i : Int} {y : Nat} {c : BoundsCode} (h0 : 0 ≤ i) (h1 : i ≤ y) : (Instr.sliceBound (.int kk i) y c).run P w = .ok i.toNat w := by
  unfold Instr.sliceBound
  simp only [asIntOf, bind_run, pure_run, if_pos (And.intro h0 h1)]

def optInt : Option PV → Option (Option Int)
  | none => some none
  | some (.int _ i) => some (some i)
  | _ => none

def optR (g : G) (w : World) : Option PV → Option Value → Prop
  | none, v => v = none
  | some q, v => ∃ x, v = some x ∧ R g w q x
def optI : Option Int → Option Value → Prop
  | none, v => v = none
  | some n, v => ∃ k, v = some (.int k n)

theorem optVal_of {g w} {p : Option PV} {v : Option Value} {i : Option Int} (h : optInt p = some i) (hv : optR g w p v) : optI i v := by
  unfold optInt at h
  split at h
  · cases h; exact hv
  · cases h
    obtain ⟨x, rfl, hx⟩ := hv
    simp only [R] at hx
    exact ⟨_, by rw [hx]⟩
  · cases h

/-- the three bounds, where they lie in their ranges -/
theorem bounds_run {P : Program} {w : World} {isSlice : Bool} {len cap : Nat} {lo hi mx : Option Value} {l h : Int} {lo' hi' mx' : Option Int}
    (h1 : optI lo' lo) (h2 : optI hi' hi) (h3 : optI mx' mx) (hl : l = lo'.getD 0) (hh : h = hi'.getD len) (a1 : 0 ≤ l) (a2 : l ≤ h) (a3 : h ≤ len) (a4 : len ≤ cap)
    (hm : ∀ m, mx' = some m → m = h ∧ hi' ≠ none) :
    (Instr.sliceBounds isSlice len cap lo hi mx).run P w = .ok (l.toNat, h.toNat, (mx'.getD cap).toNat) w := by
  unfold Instr.sliceBounds
  cases mx' with
  | none =>
    simp only [optI] at h3
    subst h3
    simp only [bind_run, pure_run]
    cases hi' with
    | none =>
      simp only [optI] at h2
      subst h2
      simp only [Option.getD_none] at hh
      subst hh
      simp only [bind_run, pure_run]
      cases lo' with
      | none => simp only [optI] at h1; subst h1; subst hl; simp [bind_run, pure_run]
      | some n => obtain ⟨k, rfl⟩ := h1; subst hl; simp only [Option.getD_some] at *; simp only [bind_run, bound_run a1 a2, pure_run]; simp
    | some m =>
      obtain ⟨k, rfl⟩ := h2
      simp only [Option.getD_some] at hh
      subst hh
      have b2 : (Instr.sliceBound (.int k h) cap (if isSlice = true then .sliceAcap else .sliceAlen)).run P w = .ok h.toNat w := bound_run (by omega) (by omega)
      simp only [bind_run, b2]
      cases lo' with
      | none => simp only [optI] at h1; subst h1; subst hl; simp [bind_run, pure_run]
      | some n => obtain ⟨k, rfl⟩ := h1; simp only [Option.getD_some] at hl; subst hl; simp only [bind_run, bound_run a1 (show l ≤ (h.toNat : Int) by omega), pure_run]; simp
  | some m =>
    obtain ⟨k, rfl⟩ := h3
    obtain ⟨rfl, hne⟩ := hm m rfl
    have b3 : (Instr.sliceBound (.int k m) cap (if isSlice = true then .slice3Acap else .slice3Alen)).run P w = .ok m.toNat w := bound_run (by omega) (by omega)
    simp only [bind_run, b3]
    cases hi' with
    | none => exact absurd rfl hne
    | some n =>
      obtain ⟨k2, rfl⟩ := h2
      simp only [Option.getD_some] at hh
      subst hh
      simp only [bind_run, bound_run (show (0 : Int) ≤ m by omega) (show m ≤ (m.toNat : Int) by omega)]
      cases lo' with
      | none => simp only [optI] at h1; subst h1; subst hl; simp [bind_run, pure_run]
      | some n => obtain ⟨k, rfl⟩ := h1; simp only [Option.getD_some] at hl; subst hl; simp only [bind_run, bound_run a1 (show l ≤ (m.toNat : Int) by omega), pure_run]; simp

/-- the bounds of x[lo:hi:max], of a slice whose room is not known but where max is none: hi at most the length -/
def aSlice (P : Program) (t : TypeId) (x : PV) (lo hi mx : Option PV) (s : St) : Option PV :=
  match optInt lo, optInt hi, optInt mx with
  | some lo', some hi', some mx' =>
    match td P t, x with
    | .str, .str b =>
      if mx' = none ∧ 0 ≤ lo'.getD 0 ∧ lo'.getD 0 ≤ hi'.getD b.size ∧ hi'.getD b.size ≤ b.size then some (.str (b.extract (lo'.getD 0).toNat (hi'.getD b.size).toNat)) else none
    | .sl e, .sl k els =>
      if 0 < P.cellsOf e ∧ 0 ≤ lo'.getD 0 ∧ lo'.getD 0 ≤ hi'.getD els.length ∧ hi'.getD els.length ≤ els.length ∧ (lo'.getD 0 = 0 ∨ ∀ el ∈ els, el.ok = true ∧ el.cells.length = P.cellsOf e) then match mx' with
        | none => some (.sl (match k with | .nil => .nil | .clip => if hi'.getD els.length = els.length then .clip else .any | .any => .any | .tok t z => if lo'.getD 0 = 0 ∧ hi'.getD els.length = els.length then .tok t z else .any | .unk | .unc => .unk)
            ((els.drop (lo'.getD 0).toNat).take (hi'.getD els.length - lo'.getD 0).toNat))
        | some m => if hi' = some m then some (.sl (match k with | .nil => .nil | .unk | .unc => .unc | _ => .clip) ((els.drop (lo'.getD 0).toNat).take (m - lo'.getD 0).toNat)) else none
      else none
    | .sl e, .own id off len =>
      if 0 < P.cellsOf e ∧ 0 ≤ lo'.getD 0 ∧ lo'.getD 0 ≤ hi'.getD len ∧ hi'.getD len ≤ len ∧ mx' = none then match s.blk id with
        | some (.row ty _) => if P.cellsOf e = P.cellsOf ty then (if lo'.getD 0 = 0 then some (.own id off (hi'.getD len).toNat) else if lo'.getD 0 = len then some (.sl .any []) else some (.own id (off + (lo'.getD 0).toNat) (hi'.getD len - lo'.getD 0).toNat)) else none
        | _ => none
      else none
    | _, _ => none
  | _, _, _ => none

theorem flat_take (vs : List Value) (sz : Nat) (h : ∀ v ∈ vs, v.cells.size = sz) (n : Nat) : flat (vs.take n) = (flat vs).take (n * sz) := by
  induction vs generalizing n with
  | nil => simp [flat]
  | cons v vs ih =>
    cases n with
    | zero => simp [flat]
    | succ n =>
      have hv := h v (by simp)
      have : flat (v :: vs) = v.cells.toList ++ flat vs := rfl
      rw [List.take_succ_cons, this]
      have h2 : flat (v :: vs.take n) = v.cells.toList ++ flat (vs.take n) := rfl
      rw [h2, ih (fun u hu => h u (by simp [hu]))]
      have hlen : v.cells.toList.length = sz := by rw [Array.length_toList]; exact hv
      rw [Nat.succ_mul, Nat.add_comm, ← hlen, List.take_length_add_append]

theorem flat_drop (vs : List Value) (sz : Nat) (h : ∀ v ∈ vs, v.cells.size = sz) (n : Nat) : flat (vs.drop n) = (flat vs).drop (n * sz) := by
  induction vs generalizing n with
  | nil => simp [flat]
  | cons v vs ih =>
    cases n with
    | zero => simp [flat]
    | succ n =>
      have hv := h v (by simp)
      have : flat (v :: vs) = v.cells.toList ++ flat vs := rfl
      rw [List.drop_succ_cons, this, ih (fun u hu => h u (by simp [hu]))]
      have hlen : v.cells.toList.length = sz := by rw [Array.length_toList]; exact hv
      rw [Nat.succ_mul, Nat.add_comm, ← hlen, List.drop_length_add_append]

/-- the head of a part of a slice -/
theorem slHead_part {g : G} {w : World} {k k' : SK} {n : Nat} {vs : List Value} {b o cap sz l h cap' : Nat} (hn : n = vs.length) (h3 : 0 < sz) (h5 : 0 < n → g.free b (o + n * sz)) (h6 : cellsAt w b o (flat vs))
    (h7 : ∀ v ∈ vs, v.cells.size = sz) (hl : l ≤ h) (hh : h ≤ n) (hcap : h - l ≤ cap') (hk : k' ≠ .nil) (hclip : k' = .clip → cap' = h - l) (htok : ∀ t z, k' ≠ .tok t z) (hbk : k'.base = true) (b' o' : Nat) (hb : l < h → b' = b ∧ o' = o + l * sz) :
    slHead g w k' (h - l) ((vs.drop l).take (h - l)) (.slice (some ⟨b', o', none⟩) (h - l) cap') := by
  have hvs : ∀ v ∈ (vs.drop l).take (h - l), v.cells.size = sz := fun v hv => h7 v (List.mem_of_mem_drop (List.mem_of_mem_take hv))
  have main : ∃ b o cap sz, (Value.slice (some ⟨b', o', none⟩) (h - l) cap') = .slice (some ⟨b, o, none⟩) (h - l) cap ∧ (h - l) ≤ cap ∧ 0 < sz ∧ (k' = .clip → cap = h - l) ∧ (0 < h - l → g.free b (o + (h - l) * sz)) ∧
      cellsAt w b o (flat ((vs.drop l).take (h - l))) ∧ (∀ v ∈ (vs.drop l).take (h - l), v.cells.size = sz) ∧
      ∀ t z, k' = .tok t z → sz = z ∧ t < g.nxt ∧ ∀ b' L, g.toks t = some (b', L) → h - l ≤ L ∧ (h - l = L → b' = b ∧ g.lim b = some (o + L * sz) ∧ o + cap * sz ≤ csize w b) := by
    refine ⟨b', o', cap', sz, rfl, hcap, h3, hclip, fun hp => ?_, ?_, hvs, fun t z e => absurd e (htok t z)⟩
    · obtain ⟨rfl, rfl⟩ := hb (by omega)
      refine free_mono (h5 (by omega)) ?_
      have := Nat.mul_le_mul_right sz hh
      have e : l * sz + (h - l) * sz = h * sz := by rw [← Nat.add_mul]; congr 1; omega
      omega
    · by_cases hlt : l < h
      · obtain ⟨rfl, rfl⟩ := hb hlt
        rw [flat_take _ sz (fun v hv => h7 v (List.mem_of_mem_drop hv)), flat_drop _ sz h7]
        exact cellsAt_take (cellsAt_drop h6 _) _
      · have : h - l = 0 := by omega
        rw [this]
        intro j hj
        simp [flat] at hj
  rw [slHead_base hbk]
  cases k' with
  | nil => exact absurd rfl hk
  | clip => exact main
  | any => exact main
  | tok t z => exact absurd rfl (htok t z)
  | unk => simp [SK.base] at hbk
  | unc => simp [SK.base] at hbk

end Go.PM

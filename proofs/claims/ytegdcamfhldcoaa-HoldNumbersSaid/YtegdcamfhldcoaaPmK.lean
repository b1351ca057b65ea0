import Derived.Test.YtegdcamfhldcoaaPmJ
import Derived.Laws.Tables
set_option linter.unusedVariables false
set_option linter.unusedSimpArgs false
namespace Go.PM
open Go

/-! ## Composite values -/

def splaces (P : Program) (t : TypeId) : Option (List (Nat × Nat)) := match P.underlying t with
  | some (.struct fs) => fs.toList.mapM (fun f => (P.info? f.type).map fun i => (f.offset, i.size))
  | _ => none

def fillP (place : Nat → Option (Nat × Nat)) (cells : List PV) : List (Nat × PV) → Option (List PV)
  | [] => some cells
  | (i, v) :: rest => match place i with
    | none => none
    | some (off, size) => if v.ok = true ∧ v.cells.length = size ∧ off + size ≤ cells.length then fillP place (spl cells off v.cells) rest else none

def aBuild (P : Program) (t : TypeId) (parts : List (Nat × PV)) : Option PV :=
  match zpv P t with
  | some (.agg zs) => match td P t with
    | .struct _ => match splaces P t with
      | some pl => (fillP (pl[·]?) zs parts).map .agg
      | none => none
    | .arr _ e => if 0 < P.cellsOf e then (fillP (fun i => some (i * P.cellsOf e, P.cellsOf e)) zs parts).map .agg else none
    | _ => none
  | _ => none

theorem foldl_splV (off : Nat) : ∀ (xs : List Value) (cs : Array Value) (i : Nat), off + i + xs.length ≤ cs.size →
    ((xs.zipIdx i).foldl (fun cs (c, j) => cs.setIfInBounds (off + j) c) cs).toList = splV cs.toList (off + i) xs
  | [], cs, i, h => by simp [splV]
  | x :: xs, cs, i, h => by
    simp only [List.length_cons] at h
    rw [List.zipIdx_cons, List.foldl_cons, foldl_splV off xs _ (i + 1) (by simp; omega)]
    simp only [splV, Array.toList_setIfInBounds]
    apply List.ext_getElem?
    intro j
    simp only [List.getElem?_append, List.getElem?_take, List.getElem?_drop, List.getElem?_set, List.length_take, List.length_set, Array.length_toList, List.length_cons]
    by_cases h1 : j < off + i
    · have e1 : j < off + (i + 1) := by omega
      have e2 : j < min (off + (i + 1)) cs.size := by omega
      have e3 : j < min (off + i) cs.size := by omega
      have e4 : ¬ (off + i = j) := by omega
      simp [h1, e1, e2, e3, e4]
    · by_cases h2 : j = off + i
      · subst h2
        have e1 : off + i < off + (i + 1) := by omega
        have e2 : off + i < min (off + (i + 1)) cs.size := by omega
        have e3 : ¬ (off + i < min (off + i) cs.size) := by omega
        have e5 : off + i < cs.size := by omega
        have e6 : off + i - min (off + i) cs.size = 0 := by omega
        simp [e1, e2, e3, e5]
        rw [e6]; simp
      · have e2 : ¬ (j < min (off + (i + 1)) cs.size) := by omega
        have e3 : ¬ (j < min (off + i) cs.size) := by omega
        rw [if_neg e2, if_neg e3]
        have m1 : min (off + (i + 1)) cs.size = off + i + 1 := by omega
        have m2 : min (off + i) cs.size = off + i := by omega
        rw [m1, m2]
        by_cases h3 : j - (off + i + 1) < xs.length
        · rw [if_pos h3, if_pos (by omega)]
          rw [show j - (off + i) = (j - (off + i + 1)) + 1 by omega, List.getElem?_cons_succ]
        · rw [if_neg h3, if_neg (by omega), if_neg (by omega)]
          congr 1
          omega

theorem foldl_eq (off : Nat) (xs : Array Value) (cs : Array Value) (h : off + xs.size ≤ cs.size) :
    (xs.zipIdx.foldl (fun cs (c, j) => cs.setIfInBounds (off + j) c) cs).toList = splV cs.toList off xs.toList := by
  have := foldl_splV off xs.toList cs 0 (by rw [Array.length_toList]; omega)
  rw [Nat.add_zero] at this
  rw [← this, ← Array.foldl_toList]
  simp

theorem fill_run {g w} {place : Nat → Option (Nat × Nat)} : ∀ (parts : List (Nat × PV)) (vals : List (Nat × Value)) (zs : List PV) (cells : Array Value) (out : List PV),
    parts.map (·.1) = vals.map (·.1) → RA g w (parts.map (·.2)) (vals.map (·.2)) → RA g w zs cells.toList → (∀ x ∈ cells.toList, x.flat = true) → fillP place zs parts = some out →
    ∃ a : Array Value, Instr.fill place cells vals = some a ∧ RA g w out a.toList ∧ (∀ x ∈ a.toList, x.flat = true)
  | [], vals, zs, cells, out, h1, h2, h3, h4, h5 => by
    cases vals with
    | nil => simp [fillP] at h5; subst h5; exact ⟨cells, rfl, h3, h4⟩
    | cons x xs => simp at h1
  | (i, v) :: parts, vals, zs, cells, out, h1, h2, h3, h4, h5 => by
    cases vals with
    | nil => simp at h1
    | cons x vals =>
      obtain ⟨i', u⟩ := x
      simp only [List.map_cons, List.cons.injEq] at h1
      obtain ⟨rfl, h1⟩ := h1
      simp only [List.map_cons, RA] at h2
      obtain ⟨u', r, e, hu, h2⟩ := h2
      cases e
      unfold fillP at h5
      cases hp : place i with
      | none => rw [hp] at h5; cases h5
      | some os =>
        obtain ⟨off, size⟩ := os
        rw [hp] at h5
        simp only at h5
        split at h5
        · rename_i hc
          obtain ⟨c1, c2, c3⟩ := hc
          obtain ⟨d1, d2, d3⟩ := RA_cells hu c1
          have hl := RA_length h3
          have hl' : zs.length = cells.size := by rw [hl, Array.length_toList]
          unfold Instr.fill
          simp only [hp]
          have hcond : ¬ ((u.cells.size ≠ size || decide (off + u.cells.size > cells.size)) = true) := by
            simp; omega
          rw [if_neg hcond]
          have hfold := foldl_eq off u.cells cells (by omega)
          refine fill_run parts vals _ _ out h1 h2 ?_ ?_ h5
          · rw [hfold, spl_eq (by omega)]
            exact RA_splV h3 d1
          · rw [hfold]
            intro y hy
            simp only [splV, List.mem_append] at hy
            rcases hy with hy | hy | hy
            · exact h4 y (List.mem_of_mem_take hy)
            · exact d2 y hy
            · exact h4 y (List.mem_of_mem_drop hy)
        · cases h5

theorem aBuild_run {P : Program} {g w t v} {parts : List (Nat × PV)} {vals : Array (Nat × Value)} (h1 : parts.map (·.1) = vals.toList.map (·.1)) (h2 : RA g w (parts.map (·.2)) (vals.toList.map (·.2)))
    (h : aBuild P t parts = some v) : ∃ val, (Instr.build t vals).run P w = .ok val w ∧ R g w v val := by
  unfold aBuild at h
  split at h
  case h_2 => cases h
  rename_i zs hz
  obtain ⟨z, hzr, hzp, hzf, hzs, hpos, hzt, _⟩ := zero_run (P := P) (w := w) hz
  have hza : ∃ cells : Array Value, z = .agg cells ∧ zs = cells.toList.map pvScalar := by
    unfold pvOf at hzp
    split at hzp
    · rename_i cs; cases hzp; exact ⟨cs, rfl, rfl⟩
    · exfalso
      unfold pvScalar at hzp
      split at hzp <;> cases hzp
  obtain ⟨cells, rfl, rfl⟩ := hza
  have hflat : ∀ x ∈ cells.toList, x.flat = true := by simpa only [flatV, List.all_eq_true] using hzf
  have hzra : RA g w (cells.toList.map pvScalar) cells.toList := pvScalar_RA g w _
  have hinfo : ∃ it, P.info? t = some it ∧ it.zero = some (.agg cells) := by
    unfold zeroValue at hzr
    cases hi : P.info? t with
    | none => unfold Program.cellsOf at hpos; rw [hi] at hpos; simp at hpos
    | some it =>
      rw [bind_run, typeInfo_run hi] at hzr
      simp only at hzr
      cases hz' : it.zero with
      | none => rw [hz'] at hzr; simp [unsupported, Sem.run] at hzr
      | some z' => rw [hz'] at hzr; simp [pure_run] at hzr; subst hzr; exact ⟨it, rfl, hz'⟩
  obtain ⟨it, hi, hiz⟩ := hinfo
  split at h
  · -- a struct
    rename_i fs htd
    obtain ⟨fields, hu, _⟩ := td_struct htd
    cases hsp : splaces P t with
    | none => rw [hsp] at h; cases h
    | some pl =>
      rw [hsp] at h
      simp only at h
      cases hfl : fillP (fun x => pl[x]?) (cells.toList.map pvScalar) parts with
      | none => rw [hfl] at h; cases h
      | some out =>
        rw [hfl] at h
        cases h
        obtain ⟨a, ha, hr, hf⟩ := fill_run (g := g) (w := w) parts vals.toList _ cells out h1 h2 hzra hflat hfl
        refine ⟨.agg a, run_build w t vals a ?_, by simp only [R]; exact ⟨a, rfl, hf, hr⟩⟩
        unfold splaces at hsp
        rw [hu] at hsp
        unfold Program.built
        simp only [hi, hu, hiz, hsp]
        simpa [Value.cells] using ha
  · rename_i n e htd
    have hu := td_arr htd
    split at h
    · rename_i hpe
      cases hfl : fillP (fun i => some (i * P.cellsOf e, P.cellsOf e)) (cells.toList.map pvScalar) parts with
      | none => rw [hfl] at h; cases h
      | some out =>
        rw [hfl] at h
        cases h
        obtain ⟨a, ha, hr, hf⟩ := fill_run (g := g) (w := w) parts vals.toList _ cells out h1 h2 hzra hflat hfl
        obtain ⟨ie, hie, hsz⟩ := cells_info hpe
        refine ⟨.agg a, run_build w t vals a ?_, by simp only [R]; exact ⟨a, rfl, hf, hr⟩⟩
        unfold Program.built
        simp only [hi, hu, hiz, hie]
        rw [hsz]
        exact ha
    · cases h
  · cases h

/-! ## Picking, lengths, least and greatest -/

def pickv (c x y : PV) : Option PV :=
  match c with
  | .bool c => match x, y with
    | .bool a, .bool b => some (.bool (bif c then a else b))
    | .bool a, .gd g (.bool b) => if (c || g) = true then some (.bool (bif c then a else b)) else none
    | .gd g (.bool a), .bool b => if (!c || g) = true then some (.bool (bif c then a else b)) else none
    | x, y => some (bif c then x else y)
  | _ => none

theorem pickv_R {g w c x y v} {vc va vb : Value} (hc : R g w c vc) (hx : R g w x va) (hy : R g w y vb) (h : pickv c x y = some v) :
    ∃ b, vc = .bool b ∧ R g w v (if b then va else vb) := by
  unfold pickv at h
  cases c with
  | bool c =>
    simp only [R] at hc
    subst hc
    refine ⟨c, rfl, ?_⟩
    simp only at h
    split at h
    · cases h
      cases c
      · simpa using hy
      · simpa using hx
    · split at h
      · rename_i hg
        cases h
        cases c
        · simp only [R] at hy
          simp only [Bool.false_or] at hg
          simpa [R] using hy hg
        · simpa using hx
      · cases h
    · split at h
      · rename_i hg
        cases h
        cases c
        · simpa using hy
        · simp only [R] at hx
          simp only [Bool.not_true, Bool.false_or] at hg
          simpa [R] using hx hg
      · cases h
    · cases h
      cases c
      · simpa using hy
      · simpa using hx
  | _ => cases h

def aLen (P : Program) (t : TypeId) (x : PV) (s : St) : Option PV :=
  match td P t, x with
  | .str, .str b => some (.int .i64 b.size)
  | .sl _, .sl _ els => some (.int .i64 els.length)
  | .sl _, .own _ _ len => some (.int .i64 len)
  | .arr n _, _ => some (.int .i64 n)
  | .map _ _, .nilm => some (.int .i64 0)
  | .map _ _, .map id => match s.blk id with
    | some (.map es) => some (.int .i64 es.length)
    | _ => none
  | _, _ => none

theorem aLen_run {P : Program} {g s w t ty x a v} (h : Inv P g s w) (hx : R g w x a) (ha : aLen P t x s = some v) : ∃ val, (Builtin.len_ #[t] ty #[a]).run P w = .ok val w ∧ R g w v val := by
  unfold aLen at ha
  split at ha
  · rename_i htd; cases ha; simp only [R] at hx; subst hx
    refine ⟨_, ?_, by simp only [R]; rfl⟩
    simp only [Builtin.len_, List.getElem?_toArray, List.getElem?_cons_zero, bind_run, underlying_run (td_str htd), pure_run, goInt]
  · rename_i htd; cases ha
    obtain ⟨ad, cap, rfl⟩ := sl_len hx
    refine ⟨_, ?_, by simp only [R]; rfl⟩
    simp only [Builtin.len_, List.getElem?_toArray, List.getElem?_cons_zero, bind_run, underlying_run (td_slice htd), pure_run, goInt]
  · rename_i htd; cases ha
    simp only [R] at hx; obtain ⟨_, _, _, _, _, _, rfl, _⟩ := hx
    refine ⟨_, ?_, by simp only [R]; rfl⟩
    simp only [Builtin.len_, List.getElem?_toArray, List.getElem?_cons_zero, bind_run, underlying_run (td_slice htd), pure_run, goInt]
  · rename_i htd; cases ha
    refine ⟨_, ?_, by simp only [R]; rfl⟩
    simp only [Builtin.len_, List.getElem?_toArray, List.getElem?_cons_zero, bind_run, underlying_run (td_arr htd), pure_run, goInt]
  · rename_i htd; cases ha; simp only [R] at hx; subst hx
    refine ⟨_, ?_, by simp only [R]; rfl⟩
    simp only [Builtin.len_, List.getElem?_toArray, List.getElem?_cons_zero, bind_run, underlying_run (td_map htd), pure_run, goInt]
  · rename_i id htd
    split at ha
    · rename_i es hb
      cases ha
      simp only [R] at hx; obtain ⟨_, b, sz, hr, rfl⟩ := hx
      have hat := h.at' id
      rw [hb] at hat
      obtain ⟨_, _, b', hr', me, cl, hh, hk, hv⟩ := hat
      rw [hr] at hr'; cases hr'
      refine ⟨_, ?_, by simp only [R]; rfl⟩
      have hl := RA_length hk
      simp only [List.length_map] at hl
      simp only [Builtin.len_, List.getElem?_toArray, List.getElem?_cons_zero, bind_run, underlying_run (td_map htd), goInt, getObj, Sem.run, hh, pure_run]
      simp [hl]
    · cases ha
  · cases ha

def aMin : List PV → Option PV
  | [.int k a, .int k' b] => if k = k' then some (.int k (if b < a then b else a)) else none
  | _ => none
def aMax : List PV → Option PV
  | [.int k a, .int k' b] => if k = k' then some (.int k (if a < b then b else a)) else none
  | _ => none

theorem aMin_run {P : Program} {g w ts ty v} {xs : List PV} {as : Array Value} (hx : RA g w xs as.toList) (ha : aMin xs = some v) : ∃ val, (Builtin.min_ ts ty as).run P w = .ok val w ∧ R g w v val := by
  unfold aMin at ha
  split at ha
  · split at ha
    · rename_i hk
      subst hk
      cases ha
      simp only [RA, R] at hx
      obtain ⟨_, _, e, rfl, _, _, rfl, rfl, rfl⟩ := hx
      refine ⟨_, ?_, by simp only [R]; rfl⟩
      unfold Builtin.min_
      rw [e]
      rfl
    · cases ha
  · cases ha

theorem aMax_run {P : Program} {g w ts ty v} {xs : List PV} {as : Array Value} (hx : RA g w xs as.toList) (ha : aMax xs = some v) : ∃ val, (Builtin.max_ ts ty as).run P w = .ok val w ∧ R g w v val := by
  unfold aMax at ha
  split at ha
  · split at ha
    · rename_i hk
      subst hk
      cases ha
      simp only [RA, R] at hx
      obtain ⟨_, _, e, rfl, _, _, rfl, rfl, rfl⟩ := hx
      refine ⟨_, ?_, by simp only [R]; rfl⟩
      unfold Builtin.max_
      rw [e]
      rfl
    · cases ha
  · cases ha

/-! ## Interfaces -/

def aMakeIface (P : Program) (t : TypeId) (x : PV) : Option PV :=
  match td P t with
  | .iface | .other => none
  | _ => if x.ok then some (.iface t x) else none

theorem td_not_iface {P : Program} {t} (h : td P t ≠ .iface) (h' : td P t ≠ .other) : ∃ d, P.underlying t = some d ∧ ∀ m, d ≠ .interface m := by
  have key : ∀ x, td P t = x → x ≠ .iface → x ≠ .other → ∃ d, P.underlying t = some d ∧ ∀ m, d ≠ .interface m := by
    intro x hx h1 h2
    unfold td at hx
    split at hx <;> first | exact absurd hx.symm h1 | exact absurd hx.symm h2 | exact ⟨_, by assumption, fun m e => by cases e⟩
  exact key _ rfl h h'

theorem aMakeIface_run {P : Program} {g w t x a v} (hx : R g w x a) (ha : aMakeIface P t x = some v) : ∃ val, (Instr.makeInterface t a).run P w = .ok val w ∧ R g w v val := by
  unfold aMakeIface at ha
  split at ha
  · cases ha
  · cases ha
  · rename_i h1 h2
    split at ha
    · cases ha
      obtain ⟨d, hd, hn⟩ := td_not_iface h1 h2
      refine ⟨.iface t a, ?_, by simp only [R]; exact ⟨a, rfl, hx⟩⟩
      unfold Instr.makeInterface
      rw [bind_run, underlying_run hd]
      cases d <;> first | rfl | exact absurd rfl (hn _)
    · cases ha

def aTypeAssert (P : Program) (x : PV) (asserted : TypeId) (ok : Bool) : Option PV :=
  match x, td P asserted with
  | .iface _ _, .iface | .iface _ _, .other => none
  | .iface t p, _ => if t = asserted then some (if ok then .tuple [p, .bool true] else p) else none
  | _, _ => none

theorem aTypeAssert_run {P : Program} {g w x xt asserted ok a v} (hx : R g w x a) (ha : aTypeAssert P x asserted ok = some v) : ∃ val, (Instr.typeAssert a xt asserted ok).run P w = .ok val w ∧ R g w v val := by
  unfold aTypeAssert at ha
  split at ha
  · cases ha
  · cases ha
  · rename_i t p h1 h2
    split at ha
    · rename_i ht
      subst ht
      cases ha
      simp only [R] at hx
      obtain ⟨y, rfl, hy⟩ := hx
      obtain ⟨d, hd, hn⟩ := td_not_iface (P := P) (t := t) (by simpa using h1) (by simpa using h2)
      refine ⟨if ok then .tuple #[y, .bool true] else y, ?_, ?_⟩
      · unfold Instr.typeAssert
        rw [bind_run, underlying_run hd]
        cases d <;> first | exact absurd rfl (hn _) | (simp only [if_true]; cases ok <;> rfl)
      · cases ok
        · exact hy
        · simp only [if_true, R, RA]
          exact ⟨_, rfl, y, _, rfl, hy, _, _, rfl, rfl, rfl⟩
    · cases ha
  · cases ha

end Go.PM

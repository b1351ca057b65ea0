import Derived.Test.YtegdcamfhldcoaaPmO
set_option linter.unusedVariables false
set_option linter.unusedSimpArgs false
namespace Go.PM
open Go

/-! ## Slices as literals -/

theorem fill_seq {size : Nat} (hs : 0 < size) : ∀ (vals : List Value) (k : Nat) (cells : Array Value), (∀ v ∈ vals, v.cells.size = size) → (k + vals.length) * size = cells.size →
    ∃ a : Array Value, Instr.fill (fun i => some (i * size, size)) cells ((vals.zipIdx k).map fun p => (p.2, p.1)) = some a ∧ a.toList = cells.toList.take (k * size) ++ flat vals
  | [], k, cells, _, hc => by
    refine ⟨cells, rfl, ?_⟩
    simp only [List.length_nil, Nat.add_zero] at hc
    rw [hc, List.take_of_length_le (by simp)]
    simp [flat]
  | v :: vals, k, cells, hv, hc => by
    have h0 := hv v (by simp)
    simp only [List.length_cons] at hc
    have hmul : k * size + size ≤ cells.size := by
      rw [← hc, show k + (vals.length + 1) = (k + 1) + vals.length by omega, Nat.add_mul (k + 1), Nat.succ_mul]; omega
    simp only [List.zipIdx_cons, List.map_cons, Instr.fill]
    have hcond : ¬ ((v.cells.size ≠ size || decide (k * size + v.cells.size > cells.size)) = true) := by
      simp; omega
    rw [if_neg hcond]
    have hfold := foldl_eq (k * size) v.cells cells (by omega)
    have hsz : (v.cells.zipIdx.foldl (fun cs (c, j) => cs.setIfInBounds (k * size + j) c) cs0) = (v.cells.zipIdx.foldl (fun cs (c, j) => cs.setIfInBounds (k * size + j) c) cs0) := rfl
    have hlen : (v.cells.zipIdx.foldl (fun cs (c, j) => cs.setIfInBounds (k * size + j) c) cells).size = cells.size := by
      rw [← Array.length_toList, hfold, splV_length (by rw [Array.length_toList, Array.length_toList]; omega), Array.length_toList]
    obtain ⟨a, h1, h2⟩ := fill_seq hs vals (k + 1) _ (fun u hu => hv u (by simp [hu])) (by rw [hlen, ← hc]; congr 1; omega)
    refine ⟨a, h1, ?_⟩
    rw [h2, hfold]
    have : flat (v :: vals) = v.cells.toList ++ flat vals := rfl
    rw [this, Nat.succ_mul, splV, ← List.append_assoc, ← List.append_assoc]
    congr 1
    rw [List.take_append_of_le_length (by simp; omega), List.take_of_length_le (by simp; omega)]
where
  cs0 : Array Value := #[]

def seqParts (k : Nat) : List (Nat × Operand) → Bool
  | [] => true
  | (i, _) :: r => i == k && seqParts (k + 1) r

theorem seqParts_eq : ∀ (k : Nat) (parts : List (Nat × Operand)) (f : Operand → Value), seqParts k parts = true → parts.map (fun p => (p.1, f p.2)) = ((parts.map fun p => f p.2).zipIdx k).map fun p => (p.2, p.1)
  | k, [], f, _ => rfl
  | k, (i, x) :: r, f, h => by
    simp only [seqParts, Bool.and_eq_true, beq_iff_eq] at h
    simp only [List.map_cons, List.zipIdx_cons, List.cons.injEq, Prod.mk.injEq, and_true]
    exact ⟨h.1, seqParts_eq (k + 1) r f h.2⟩

theorem buildSlice_run {P : Program} {w : World} {t e : TypeId} {len : Nat} {parts : Array (Nat × Operand)} {f : Operand → Value} (htd : td P t = .sl e) (hz : (zpv P e).isSome = true) (hseq : seqParts 0 parts.toList = true) (hlen : parts.toList.length = len)
    (hmax : len * P.cellsOf e ≤ 16777216) (hv : ∀ p ∈ parts.toList, (f p.2).cells.size = P.cellsOf e) :
    (Instr.buildSlice t len (parts.map fun (i, x) => (i, f x))).run P w = .ok (.slice (some ⟨w.heap.size, 0, none⟩) len len) (World.newB w (.cells (flat (parts.toList.map fun p => f p.2)).toArray e (0, 0))) := by
  obtain ⟨z, hz⟩ := Option.isSome_iff_exists.1 hz
  obtain ⟨zv, hz1, hz2, hz3, hz4, hpos, hz6, hz7⟩ := zero_run (P := P) (w := w) hz
  unfold Instr.buildSlice
  rw [bind_run, underlying_run (td_slice htd)]
  simp only
  rw [bind_run, sizeOf_run hpos]
  simp only
  rw [if_neg (by omega)]
  have hsz : ∀ v ∈ parts.toList.map (fun p => f p.2), v.cells.size = P.cellsOf e := by
    intro v hv'
    obtain ⟨p, hp, rfl⟩ := List.mem_map.1 hv'
    exact hv p hp
  by_cases hl : len * P.cellsOf e = 0
  · have hl0 : len = 0 := by
      rcases Nat.mul_eq_zero.1 hl with h | h <;> omega
    have : parts = #[] := by
      apply Array.ext'
      simp only
      exact List.length_eq_zero_iff.1 (by omega)
    subst this
    subst hl0
    simp [hl, Instr.fill, bind_run, pure_run, newRow, flat, newObj, Sem.run, Sem.bind, World.newB]
    rw [show (Array.range 0) = #[] from rfl, Array.map_empty]
  · simp only [hl, if_false]
    obtain ⟨a, h1, h2⟩ := fill_seq hpos (parts.toList.map fun p => f p.2) 0 ((Array.range (len * P.cellsOf e)).map (zv.cells[· % zv.cells.size]!)) hsz (by simp [hlen])
    have hp : (parts.map fun (i, x) => (i, f x)).toList = (((parts.toList.map fun p => f p.2).zipIdx 0).map fun p => (p.2, p.1)) := by
      rw [Array.toList_map]
      exact seqParts_eq 0 parts.toList f hseq
    simp only [bind_run, hz1, pure_run, hp, h1]
    have ha : a = (flat (parts.toList.map fun p => f p.2)).toArray := by
      apply Array.ext'
      rw [h2]; simp
    rw [ha]
    rfl

/-- a literal's elements -/
def aBuildSlice (P : Program) (t : TypeId) (len : Nat) (parts : List (Nat × Operand)) (rv : Operand → PV) : Option (List PV) :=
  match td P t with
  | .sl e => if (zpv P e).isSome = true ∧ seqParts 0 parts = true ∧ parts.length = len ∧ len * P.cellsOf e ≤ 16777216 ∧ (∀ p ∈ parts, (rv p.2).ok = true ∧ (rv p.2).cells.length = P.cellsOf e) then some (parts.map fun p => rv p.2) else none
  | _ => none

theorem newClip_R {P : Program} {g s w els vs} {sz : Nat} {ty : TypeId} (h : Inv P g s w) (hr : RA g w els vs) (hv : ∀ v ∈ vs, v.cells.size = sz) (hsz : 0 < sz) :
    Inv P g s (World.newB w (.cells (flat vs).toArray ty (0, 0))) ∧ Ext g w g (World.newB w (.cells (flat vs).toArray ty (0, 0))) ∧
      R g (World.newB w (.cells (flat vs).toArray ty (0, 0))) (.sl .clip els) (.slice (some ⟨w.heap.size, 0, none⟩) els.length els.length) := by
  obtain ⟨h1, h2⟩ := newPlain_step h (.cells (flat vs).toArray ty (0, 0))
  refine ⟨h1, h2, ?_⟩
  have hl := RA_length hr
  have hnew := h.newfree (Nat.le_refl w.heap.size)
  simp only [R]
  refine ⟨vs, RA_ext h2 _ _ hr, ?_⟩
  rw [slHead_base rfl]
  refine ⟨w.heap.size, 0, els.length, sz, rfl, Nat.le_refl _, hsz, fun _ => rfl, fun hp => ⟨hnew.1, fun m hm => by rw [hnew.2] at hm; cases hm⟩, newB_cells w _ ty (0, 0) _ (by simp), hv, fun t z e => by cases e⟩

theorem aBuildSlice_run {P : Program} {g s w rv t len els} {parts : Array (Nat × Operand)} {a : Act} (h : Inv P g s w) (hrv : ∀ x, R g w (rv x) (a.eval x)) (hb : aBuildSlice P t len parts.toList rv = some els) :
    ∃ val w', (Instr.buildSlice t len (parts.map fun (i, x) => (i, a.eval x))).run P w = .ok val w' ∧ Inv P g s w' ∧ Ext g w g w' ∧ R g w' (.sl .clip els) val := by
  unfold aBuildSlice at hb
  split at hb
  case h_2 => cases hb
  rename_i e htd
  split at hb
  case isFalse => cases hb
  rename_i hc
  obtain ⟨hz, hseq, hlen, hmax, hall⟩ := hc
  cases hb
  obtain ⟨z, hz'⟩ := Option.isSome_iff_exists.1 hz
  obtain ⟨_, _, _, _, _, hpos, _⟩ := zero_run (P := P) (w := w) hz'
  have hvs : ∀ p ∈ parts.toList, (a.eval p.2).cells.size = P.cellsOf e := fun p hp => by
    obtain ⟨k1, k2⟩ := hall p hp
    obtain ⟨_, _, c3⟩ := RA_cells (hrv p.2) k1
    omega
  have hra : RA g w (parts.toList.map fun p => rv p.2) (parts.toList.map fun p => a.eval p.2) := by
    simpa [Function.comp_def] using RA_map hrv (parts.toList.map (·.2))
  obtain ⟨k1, k2, k3⟩ := newClip_R (ty := e) h hra (by
    intro v hv
    obtain ⟨p, hp, rfl⟩ := List.mem_map.1 hv
    exact hvs p hp) hpos
  refine ⟨_, _, buildSlice_run htd hz hseq hlen hmax hvs, k1, k2, ?_⟩
  simp only [List.length_map, hlen] at k3
  exact k3

section
variable {P : Program} {N : Nat} {k : List KI} {e : Env} {s : St} {rt : Env → St → Prop}

/-- a literal slice that nobody writes -/
theorem RunO.lit {ops : Array Oper} {d : Option Nat} {t ty : TypeId} {len : Nat} {parts : Array (Nat × Operand)} {pos : String} {af : Array Edge} {gd : Option (Nat × Bool)} {l : List Oper} {els : List PV}
    (hg : guard? ops ⟨d, .buildSlice t len parts, ty, pos, af, gd⟩ e = some true) (hb : aBuildSlice P t len parts.toList (ev e) = some els) (h : RunO P N ops l k (e.put d (.sl .clip els)) s rt) :
    RunO P N ops (⟨d, .buildSlice t len parts, ty, pos, af, gd⟩ :: l) k e s rt := by
  refine RunO.eff hg (fun g w a hI hE => ?_) h
  obtain ⟨val, w', r1, r2, r3, r4⟩ := aBuildSlice_run hI (fun x => ev_R hE x) hb
  refine ⟨val, w', g, .inl ?_, r2, r3, r4⟩
  unfold execOp
  simp only [bind_run, pure_run, r1]

theorem EnvOK.cons {g w e tmps i p} (h : EnvOK g w e tmps) (hp : R g w p (tmps.getD i undef)) : EnvOK g w ((i, p) :: e) tmps := by
  intro j
  simp only [Env.get]
  split
  · rename_i hj; subst hj; exact hp
  · exact h j

/-- a slot whose list is of no known kind: nil, or not -/
theorem Run.unk {c : Code} (i : Nat) {els : List PV} (hi : e.get i = .sl .unk els) (h1 : els = [] → Run P N (.code c :: k) ((i, .sl .nil []) :: e) s rt) (h2 : Run P N (.code c :: k) ((i, .sl .any els) :: e) s rt) :
    Run P N (.code c :: k) e s rt := by
  intro ok okc g w a hI hE hd hN
  have hv := hE i
  rw [hi] at hv
  rcases R_unk.1 hv with hv | hv
  · have := (R_nil.1 hv).2
    subst this
    exact h1 rfl ok okc g w a hI (hE.cons hv) hd hN
  · exact h2 ok okc g w a hI (hE.cons hv) hd hN

theorem RunO.unk {ops : Array Oper} {l : List Oper} (i : Nat) {els : List PV} (hi : e.get i = .sl .unk els) (h1 : els = [] → RunO P N ops l k ((i, .sl .nil []) :: e) s rt) (h2 : RunO P N ops l k ((i, .sl .any els) :: e) s rt) :
    RunO P N ops l k e s rt := by
  intro ok okk idx hidx g w a hI hE hd hN
  have hv := hE i
  rw [hi] at hv
  rcases R_unk.1 hv with hv | hv
  · have := (R_nil.1 hv).2
    subst this
    exact h1 rfl ok okk idx hidx g w a hI (hE.cons hv) hd hN
  · exact h2 ok okk idx hidx g w a hI (hE.cons hv) hd hN

/-- a slot's value, told less of -/
theorem RunO.less {ops : Array Oper} {l : List Oper} (i : Nat) (p : PV) (hp : p = (e.get i).weak) (h : RunO P N ops l k ((i, p) :: e) s rt) : RunO P N ops l k e s rt := by
  subst hp
  intro ok okk idx hidx g w a hI hE hd hN
  exact h ok okk idx hidx g w a hI (hE.cons (R_weak _ _ (hE i))) hd hN

/-- a call, with arguments of which less is told -/
theorem RunO.callw {ops : Array Oper} {d : Option Nat} {c : Call} {t : TypeId} {pos : String} {af : Array Edge} {gd : Option (Nat × Bool)} {l : List Oper} {f : FuncId} {args args' : List PV}
    (hg : guard? ops ⟨d, .call c, t, pos, af, gd⟩ e = some true) (ha : acall c e = some (f, args)) (hw : PV.weaks args = args') (hc : callable P f = true)
    (h : ACalls P f args' s fun r s' => RunO P N ops l k (e.put d r) s' rt) : RunO P N ops (⟨d, .call c, t, pos, af, gd⟩ :: l) k e s rt := by
  subst hw
  refine RunO.call_ hg (fun g w a hI hE => ?_) h
  obtain ⟨vs, h1, h2⟩ := acall_run (P := P) (o := ⟨d, .call c, t, pos, af, gd⟩) rfl hE ha hc
  exact ⟨vs, h1, RA_weak _ _ h2⟩

end

end Go.PM

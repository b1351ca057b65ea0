import Derived.Test.YtegdcamfhldcoaaPmX
set_option linter.unusedVariables false
set_option linter.unusedSimpArgs false
namespace Go.PM
open Go

/-! ## clear, on a row of one's own -/

theorem flat_replicate_get (v : Value) : ∀ (n i : Nat), i < n * v.cells.size → (flat (List.replicate n v))[i]? = v.cells.toList[i % v.cells.size]?
  | 0, i, h => by simp at h
  | n + 1, i, h => by
    rw [List.replicate_succ]
    show (v.cells.toList ++ flat (List.replicate n v))[i]? = _
    by_cases h1 : i < v.cells.size
    · rw [List.getElem?_append_left (by simpa using h1), Nat.mod_eq_of_lt h1]
    · rw [List.getElem?_append_right (by simpa using h1), Array.length_toList, flat_replicate_get v n (i - v.cells.size) (by rw [Nat.succ_mul] at h; omega), ← Nat.mod_eq_sub_mod (by omega)]

theorem zeroCells_flat (v : Value) (n : Nat) : (Builtin.zeroCells v.cells n).toList = flat (List.replicate n v) := by
  apply List.ext_getElem?
  intro i
  have hl : (flat (List.replicate n v)).length = n * v.cells.size := by
    rw [flat_length (sz := v.cells.size) (fun u hu => by rw [(List.mem_replicate.1 hu).2]), List.length_replicate]
  by_cases hi : i < n * v.cells.size
  · rw [flat_replicate_get v n i hi]
    have hs : 0 < v.cells.size := Nat.pos_of_ne_zero (by intro e; rw [e] at hi; simp at hi)
    have hm : i % v.cells.size < v.cells.size := Nat.mod_lt _ hs
    unfold Builtin.zeroCells
    rw [Array.getElem?_toList, Array.getElem?_eq_getElem (by simpa using hi), Array.getElem_map, Array.getElem_range, List.getElem?_eq_getElem (by simpa using hm)]
    rw [getElem!_pos v.cells _ hm]
    simp
  · rw [List.getElem?_eq_none (l := (Builtin.zeroCells v.cells n).toList) (by rw [Array.length_toList, size_zeroCells]; omega), List.getElem?_eq_none (by rw [hl]; omega)]

def aClear (P : Program) (e : TypeId) (id off len : Nat) (s : St) : Option St :=
  match s.blk id, zpv P e with
  | some (.row ty els), some z => if 0 < len ∧ P.cellsOf e = P.cellsOf ty ∧ off + len ≤ els.length then some (s.set id (some (.row ty (els.take off ++ List.replicate len z ++ els.drop (off + len))))) else none
  | _, _ => none

theorem RA_replicate {g w p v} (h : R g w p v) : ∀ n, RA g w (List.replicate n p) (List.replicate n v)
  | 0 => rfl
  | n + 1 => by
    rw [List.replicate_succ, List.replicate_succ]
    simp only [RA]
    exact ⟨v, _, rfl, h, RA_replicate h n⟩

theorem aClear_run {P : Program} {g s w t ty e id off len va s'} (h : Inv P g s w) (hx : R g w (.own id off len) va) (htd : td P t = .sl e) (ha : aClear P e id off len s = some s') :
    ∃ w', (Builtin.clear_ #[t] ty #[va]).run P w = .ok (.tuple #[]) w' ∧ Inv P g s' w' ∧ Ext g w g w' := by
  unfold aClear at ha
  split at ha
  case h_2 => cases ha
  rename_i tyr els z hbl hz
  split at ha
  case isFalse => cases ha
  rename_i hc
  obtain ⟨hl0, hce, hle⟩ := hc
  cases ha
  have hu := td_slice htd
  obtain ⟨zv, hz1, hz2, hz3, hz4, hpos, hz6, hz7⟩ := zero_run (P := P) (w := w) hz
  have hat := h.at' id
  rw [hbl] at hat
  obtain ⟨_, hlv, b, vs, hr, hrp, hrow⟩ := hat
  obtain ⟨a1, a2, a3, a4⟩ := hrow
  have hvl := RA_length a4
  simp only [R] at hx
  obtain ⟨_, b', sz', cap, hr', hcap, rfl, hcs⟩ := hx
  rw [hr] at hr'; cases hr'
  have hsz' : ∀ v ∈ vs, v.cells.size = P.cellsOf tyr := fun v hv => (a3 v hv).1
  have hflt : ∀ x ∈ zv.cells.toList, x.flat = true := by
    cases hzv : zv with
    | agg cs => rw [hzv] at hz3; simp only [flatV] at hz3; exact fun x hx => List.all_eq_true.1 hz3 x hx
    | tuple vs => exact absurd hzv (hz6 vs)
    | _ => intro x hx; simp [Value.cells] at hx; subst hx; rfl
  have hzr : R g w z zv := by rw [hz2]; exact pvOf_R g w zv (fun cs e x hx => hflt x (by rw [e]; simpa [Value.cells] using hx))
  have hfz : (flat (List.replicate len zv)).length = len * P.cellsOf tyr := by
    rw [flat_length (sz := P.cellsOf tyr) (fun u hu => by rw [(List.mem_replicate.1 hu).2, hz4, hce]), List.length_replicate]
  have hfit : off * P.cellsOf tyr + (flat (List.replicate len zv)).length ≤ csize w b := by
    rw [hfz, ← Nat.add_mul]
    exact Nat.le_trans (Nat.mul_le_mul_right _ (by omega)) hcs
  have hft : flat (vs.take off) = (flat vs).take (off * P.cellsOf tyr) := flat_take vs _ hsz' off
  have hfd : flat (vs.drop (off + len)) = (flat vs).drop ((off + len) * P.cellsOf tyr) := flat_drop vs _ hsz' (off + len)
  have hlt : (flat (vs.take off)).length = off * P.cellsOf tyr := by
    rw [flat_length (sz := P.cellsOf tyr) (fun v hv => hsz' v (List.mem_of_mem_take hv)), List.length_take, Nat.min_eq_left (by omega)]
  have hcells : cellsAt (putCells w b (off * P.cellsOf tyr) (flat (List.replicate len zv))) b 0 (flat (vs.take off ++ List.replicate len zv ++ vs.drop (off + len))) := by
    rw [flat_append, flat_append, cellsAt_append, cellsAt_append]
    refine ⟨⟨fun j hj => ?_, ?_⟩, fun j hj => ?_⟩
    · rw [putCells_cell_out _ _ _ _ _ _ (by omega)]
      have hq := cellsAt_take a2 (off * P.cellsOf tyr)
      rw [← hft] at hq
      exact hq j hj
    · rw [hlt, Nat.zero_add]
      exact putCells_cell_in _ _ _ _ hfit
    · rw [List.length_append, hlt, hfz, Nat.zero_add]
      rw [putCells_cell_out _ _ _ _ _ _ (by rw [hfz]; omega)]
      have hq := cellsAt_drop a2 ((off + len) * P.cellsOf tyr)
      rw [← hfd] at hq
      have := hq j hj
      rw [Nat.zero_add, Nat.add_mul] at this
      exact this
  have hcat : ∀ v ∈ vs.take off ++ List.replicate len zv ++ vs.drop (off + len), v.cells.size = P.cellsOf tyr ∧ ∀ x ∈ v.cells.toList, x.flat = true := by
    intro v hv
    rcases List.mem_append.1 hv with hv | hv
    · rcases List.mem_append.1 hv with hv | hv
      · exact a3 v (List.mem_of_mem_take hv)
      · rw [(List.mem_replicate.1 hv).2]; exact ⟨by rw [hz4, hce], hflt⟩
    · exact a3 v (List.mem_of_mem_drop hv)
  obtain ⟨k1, k2⟩ := rowStore_step (els' := els.take off ++ List.replicate len z ++ els.drop (off + len)) (vs' := vs.take off ++ List.replicate len zv ++ vs.drop (off + len)) (o := off * P.cellsOf tyr) (xs := flat (List.replicate len zv)) h hbl hr hcells hcat
    (RA_append (RA_append (RA_take _ a4) (RA_replicate hzr len)) (RA_drop _ a4))
  refine ⟨_, ?_, k1, k2⟩
  have hst := storeCells_run P b (flat (List.replicate len zv)) w (off * P.cellsOf tyr) 0 (by
    intro v hv
    simp only [flat, List.mem_flatMap] at hv
    obtain ⟨u, hu1, hu2⟩ := hv
    rw [(List.mem_replicate.1 hu1).2] at hu2
    exact hflt v hu2) a1 (by simpa using hfit)
  unfold Builtin.clear_
  obtain ⟨len', rfl⟩ : ∃ k, len = k + 1 := ⟨len - 1, by omega⟩
  simp only [List.getElem?_toArray, List.getElem?_cons_zero, bind_run, underlying_run hu, hz1, zeroCells_flat, hst, pure_run, Nat.add_zero]

section
variable {P : Program} {N : Nat} {k : List KI} {e e' : Env} {s : St} {rt : Env → St → Prop}

theorem RunO.clear {ops : Array Oper} {d : Option Nat} {x : Operand} {t ty : TypeId} {pos : String} {af : Array Edge} {gd : Option (Nat × Bool)} {l : List Oper} {el : TypeId} {id off len : Nat} {s' : St}
    (hg : guard? ops ⟨d, .call ⟨.builtin .clear, #[x], #[t]⟩, ty, pos, af, gd⟩ e = some true) (hx : ev e x = .own id off len) (htd : td P t = .sl el) (ha : aClear P el id off len s = some s')
    (h : RunO P N ops l k (e.put d (.tuple [])) s' rt) : RunO P N ops (⟨d, .call ⟨.builtin .clear, #[x], #[t]⟩, ty, pos, af, gd⟩ :: l) k e s rt := by
  refine RunO.eff hg (fun g w a hI hE => ?_) h
  have h1 := ev_R hE x
  rw [hx] at h1
  obtain ⟨w', r1, r2, r3⟩ := aClear_run (ty := ty) hI h1 htd ha
  refine ⟨.tuple #[], w', g, .inl ?_, r2, r3, by simp only [R]; exact ⟨#[], rfl, rfl⟩⟩
  unfold execOp
  simp only [resolve, bind_run, pure_run, invoke, builtin]
  have : Array.map a.eval #[x] = #[a.eval x] := by simp
  rw [this]
  unfold Go.invoke
  simp only [builtin, bind_run, r1, pure_run]
end
end Go.PM

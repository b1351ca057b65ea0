import Derived.Test.YtegdcamfhldcoaaPmY
set_option linter.unusedVariables false
set_option linter.unusedSimpArgs false
namespace Go.PM
open Go

/-! ## Regions that draw, with a tail that waits for all ahead -/

theorem tail_order {P : Program} {ops : Array Oper} {Q : Exit → Act → World → Prop} {n : Nat} (hcut : ∀ i j, n ≤ j → j < ops.size → i < j → ((masks ops.toList []).getD j 0).testBit i = true)
    (hedge : ∀ (j : Nat) (oj : Oper), ops[j]? = some oj → ∀ e ∈ oj.after, Region.binds .any e = true → e.on < j)
    (hmask : ∀ (L : Nat → Prop), DC ops L → ∀ (k : Nat) (o : Oper), ops[k]? = some o → (∀ e ∈ o.after, Region.binds .any e = true → L e.on) → ∀ b, ((masks ops.toList []).getD k 0).testBit b = true → L b) :
    ∀ (d fuel m : Nat) (listed : Array Bool) (a : Act) (w : World), m + d = ops.size → d ≤ fuel → n ≤ m → (∀ k, listed.getD k false = decide (k < m)) → listed.size = ops.size → DC ops (fun k => listed.getD k false = true) →
      wpOps P ops Q (List.range' m d) a w → wpAny P .any ops Q fuel listed a w := by
  intro d
  induction d with
  | zero =>
    intro fuel m listed a w hmd hf hnm hl hsz hdc h
    have hr : Region.ready .any ops listed = [] := by
      cases hr : Region.ready .any ops listed with
      | nil => rfl
      | cons x xs =>
        have hx : x ∈ Region.ready .any ops listed := by rw [hr]; simp
        obtain ⟨h0, o, ho, _⟩ := mem_ready.1 hx
        have hx' := (Array.getElem?_eq_some_iff.1 ho).1
        have := hl x
        rw [Array.getD_eq_getD_getElem?, Array.getElem?_eq_getElem (by omega)] at this h0
        simp only [Option.getD_some] at this h0
        rw [h0] at this
        simp at this; omega
    cases fuel with
    | zero => exact ⟨hr, h⟩
    | succ f =>
      refine ⟨fun _ => h, fun i hi => ?_⟩
      rw [hr] at hi; simp at hi
  | succ d ih =>
    intro fuel m listed a w hmd hf hnm hl hsz hdc h
    obtain ⟨f, rfl⟩ : ∃ f, fuel = f + 1 := ⟨fuel - 1, by omega⟩
    have hm : m < ops.size := by omega
    obtain ⟨om, hom⟩ : ∃ o, ops[m]? = some o := ⟨ops[m], by simp⟩
    have hgt : ∀ k, k < ops.size → listed.getD k true = listed.getD k false := fun k hk => by
      rw [Array.getD_eq_getD_getElem?, Array.getD_eq_getD_getElem?, Array.getElem?_eq_getElem (by omega)]; rfl
    have hmr : m ∈ Region.ready .any ops listed := mem_ready.2 ⟨by rw [hgt m hm, hl m]; simp, om, hom, fun e he hb => by rw [hl]; simpa using hedge m om hom e he hb⟩
    refine ⟨fun hr => ?_, fun i hi => ?_⟩
    · rw [hr] at hmr; simp at hmr
    obtain ⟨h0, o, ho, hedges⟩ := mem_ready.1 hi
    have hlt := (Array.getElem?_eq_some_iff.1 ho).1
    have hge : m ≤ i := by
      rw [hgt i hlt, hl i] at h0
      simpa using h0
    have him : i = m := by
      by_cases he : i = m
      · exact he
      · have : listed.getD m false = true := hmask _ hdc i o ho hedges m (hcut m i (by omega) hlt (by omega))
        rw [hl m] at this
        simp at this
    subst him
    rw [List.range'_succ, wpOps_cons] at h
    refine wpOp_mono (fun a' w' h' => ?_) h
    have hgd : ∀ k, (listed.setIfInBounds i true).getD k false = if k = i then true else listed.getD k false := by
      intro k
      by_cases e : k = i
      · subst e; rw [if_pos rfl]; simp [hsz, hlt]
      · rw [if_neg e]; exact getD_set_ne false (fun x => e x.symm)
    refine ih f (i + 1) _ a' w' (by omega) (by omega) (by omega) (fun k => ?_) (by simpa using hsz) ?_ h'
    · rw [hgd, hl k]
      by_cases e : k = i
      · subst e; simp
      · rw [if_neg e]
        congr 1
        exact propext ⟨fun x => by omega, fun x => by omega⟩
    · intro k ok hk hlk e he hb
      have hlk : (listed.setIfInBounds i true).getD k false = true := hlk
      show (listed.setIfInBounds i true).getD e.on false = true
      rw [hgd] at hlk ⊢
      split
      · rfl
      · by_cases e1 : k = i
        · subst e1
          rw [ho] at hk; cases hk
          exact hedges e he hb
        · rw [if_neg e1] at hlk
          exact hdc k ok hk hlk e he hb

/-- in whatever order up to n, behind it in the order of the text -/
theorem any_order_cut {P : Program} {ops : Array Oper} {ws : List Nat} {N : Nat} {e0 : Env} {Q : Exit → Act → World → Prop} {V : Nat → PV} {S : Nat → St} {E : Nat → Env} {g0 : G} {w0 : World} {n : Nat}
    (hnsz : n ≤ ops.size) (hcut : ∀ i j, n ≤ j → j < ops.size → i < j → ((masks ops.toList []).getD j 0).testBit i = true) (hok : drawOK ops ws = true) (hN : ∀ (i : Nat) (o : Oper), ops[i]? = some o → okOp N o = true)
    (hE0 : E 0 = e0) (hE : ∀ (i : Nat) (o : Oper), i < n → ops[i]? = some o → E (i + 1) = (E i).put o.dst (V i))
    (hS : ∀ (i : Nat) (o : Oper), i < n → ops[i]? = some o → i ∉ ws → S (i + 1) = S i)
    (hD : ∀ (i : Nat) (o : Oper), i < n → ops[i]? = some o → DOp P ops o (E i) (S i) (V i) (S (i + 1)))
    (hF : ∀ (i : Nat) (o : Oper), i < n → ops[i]? = some o → touch o.op = false → i ∉ ws → ∀ s, DOp P ops o (E i) s (V i) s)
    (hQ : ∀ g w (a : Act), Inv P g (S n) w → EnvOK g w (E n) a.tmps → Ext g0 w0 g w → a.defers = [] → a.tmps.size = N → wpOps P ops Q (List.range' n (ops.size - n)) a w) :
    ∀ (fuel : Nat) (listed : Array Bool) (g : G) (s : St) (w : World) (a : Act), listed.size = ops.size →
      ((List.range ops.size).filter fun k => !listed.getD k true).length ≤ fuel → DC ops (fun k => listed.getD k false = true) → (∀ k, n ≤ k → listed.getD k false = false) →
      Inv P g s w → Ext g0 w0 g w → a.defers = [] → a.tmps.size = N →
      (∀ j, R g w (match lastW (wslot ops j) (fun k => listed.getD k false) n with | none => e0.get j | some k => V k) (a.tmps.getD j undef)) →
      s = (match lastW (fun k => ws.contains k) (fun k => listed.getD k false) n with | none => S 0 | some k => S (k + 1)) →
      wpAny P .any ops Q fuel listed a w := by
  -- what drawOK tells
  have hpair : ∀ (i j : Nat) (oi oj : Oper), i < j → ops[i]? = some oi → ops[j]? = some oj → conf ops ws i j oi oj = true → ((masks ops.toList []).getD j 0).testBit i = true := by
    intro i j oi oj hij h1 h2 hc
    unfold drawOK at hok
    have := List.all_eq_true.1 hok j (List.mem_range.2 (Array.getElem?_eq_some_iff.1 h2).1)
    rw [h2] at this
    simp only [Bool.and_eq_true] at this
    have := List.all_eq_true.1 this.2 i (List.mem_range.2 hij)
    rw [h1] at this
    simp only [hc, Bool.not_true, Bool.false_or] at this
    exact this
  have hedge : ∀ (j : Nat) (oj : Oper), ops[j]? = some oj → ∀ e ∈ oj.after, Region.binds .any e = true → e.on < j := by
    intro j oj h2 e he hb
    unfold drawOK at hok
    have := List.all_eq_true.1 hok j (List.mem_range.2 (Array.getElem?_eq_some_iff.1 h2).1)
    rw [h2] at this
    simp only [Bool.and_eq_true] at this
    have := List.all_eq_true.1 this.1 e (by simpa using he)
    simpa [hb] using this
  have hmask : ∀ (L : Nat → Prop), DC ops L → ∀ (k : Nat) (o : Oper), ops[k]? = some o → (∀ e ∈ o.after, Region.binds .any e = true → L e.on) → ∀ b, ((masks ops.toList []).getD k 0).testBit b = true → L b :=
    fun L hdc => masks_spec hdc ops.toList [] (by simp) (fun j o h => by simpa using h) (fun k o h => by simp at h)
  -- the order of the text
  have hEget : ∀ i, i ≤ n → ∀ j, (E i).get j = (match lastW (wslot ops j) (fun _ => true) i with | none => e0.get j | some k => V k) := by
    intro i
    induction i with
    | zero => intro _ j; rw [hE0]; rfl
    | succ i ih =>
      intro hi j
      obtain ⟨o, ho⟩ : ∃ o, ops[i]? = some o := ⟨ops[i]'(by omega), by simp⟩
      rw [hE i o (by omega) ho]
      unfold lastW
      rw [wslot_eq ho, Bool.and_true]
      unfold writesSlot
      cases hd : o.dst with
      | none => simp only [Env.put]; rw [ih (by omega) j]; simp
      | some d =>
        simp only [Env.put, Env.get]
        by_cases hjd : j = d
        · subst hjd; simp
        · rw [if_neg hjd, ih (by omega) j]
          have : (some d == some j) = false := by simp; exact fun e => hjd e.symm
          rw [this]; simp
  have hSget : ∀ i, i ≤ n → S i = (match lastW (fun k => ws.contains k) (fun _ => true) i with | none => S 0 | some k => S (k + 1)) := by
    intro i
    induction i with
    | zero => intro _; rfl
    | succ i ih =>
      intro hi
      obtain ⟨o, ho⟩ : ∃ o, ops[i]? = some o := ⟨ops[i]'(by omega), by simp⟩
      unfold lastW
      by_cases hw : i ∈ ws
      · have : ws.contains i = true := by simpa using hw
        rw [this]; simp
      · have : ws.contains i = false := by simpa using hw
        rw [this, hS i o (by omega) ho hw, ih (by omega)]; simp
  intro fuel
  have fin : ∀ (fuel : Nat) (listed : Array Bool) (g : G) (s : St) (w : World) (a : Act), listed.size = ops.size →
      ((List.range ops.size).filter fun k => !listed.getD k true).length ≤ fuel → DC ops (fun k => listed.getD k false = true) → (∀ k, n ≤ k → listed.getD k false = false) →
      Inv P g s w → Ext g0 w0 g w → a.defers = [] → a.tmps.size = N →
      (∀ j, R g w (match lastW (wslot ops j) (fun k => listed.getD k false) n with | none => e0.get j | some k => V k) (a.tmps.getD j undef)) →
      s = (match lastW (fun k => ws.contains k) (fun k => listed.getD k false) n with | none => S 0 | some k => S (k + 1)) → (∀ k, k < n → listed.getD k false = true) →
      wpAny P .any ops Q fuel listed a w := by
    intro fuel listed g s w a hsz hcnt hdc hhi hI hX hd hn hslots hstore hall'
    refine tail_order (n := n) hcut hedge hmask (ops.size - n) fuel n listed a w (by omega) ?_ (Nat.le_refl _) ?_ hsz hdc ?_
    · refine Nat.le_trans ?_ hcnt
      have e1 : ((List.range ops.size).filter fun k => !listed.getD k true) = ((List.range ops.size).filter fun k => decide (n ≤ k)) := by
        apply List.filter_congr
        intro k hk
        have hk := List.mem_range.1 hk
        have h3 : listed.getD k true = listed.getD k false := by
          rw [Array.getD_eq_getD_getElem?, Array.getD_eq_getD_getElem?, Array.getElem?_eq_getElem (by omega)]; rfl
        rw [h3]
        by_cases hkn : k < n
        · rw [hall' k hkn]; simp; omega
        · rw [hhi k (by omega)]; simp; omega
      rw [e1]
      have e2 : ∀ m, ((List.range m).filter fun k => decide (n ≤ k)).length = m - n := by
        intro m
        induction m with
        | zero => simp
        | succ m ih =>
          rw [List.range_succ, List.filter_append, List.length_append, ih]
          by_cases h : n ≤ m
          · simp [h]; omega
          · simp [h]; omega
      rw [e2]; exact Nat.le_refl _
    · intro k
      by_cases hkn : k < n
      · rw [hall' k hkn]; simp [hkn]
      · rw [hhi k (by omega)]; simp [hkn]
    · refine hQ g w a ?_ ?_ hX hd hn
      · rw [hSget _ (Nat.le_refl _), ← lastW_congr (l := fun k => listed.getD k false) (fun k hk _ => hall' k hk), ← hstore]; exact hI
      · intro j
        rw [hEget _ (Nat.le_refl _) j, ← lastW_congr (l := fun k => listed.getD k false) (fun k hk _ => hall' k hk)]; exact hslots j
  induction fuel with
  | zero =>
    intro listed g s w a hsz hcnt hdc hhi hI hX hd hn hslots hstore
    refine fin 0 listed g s w a hsz hcnt hdc hhi hI hX hd hn hslots hstore ?_
    have hall : ∀ k, k < ops.size → listed.getD k true = true := by
      intro k hk
      have : (List.range ops.size).filter (fun k => !listed.getD k true) = [] := List.length_eq_zero_iff.1 (by omega)
      have := List.filter_eq_nil_iff.1 this k (List.mem_range.2 hk)
      simpa using this
    intro k hk
    have := hall k (by omega)
    rw [Array.getD_eq_getD_getElem?, Array.getElem?_eq_getElem (by omega)] at this ⊢
    exact this
  | succ fuel ih =>
    intro listed g s w a hsz hcnt hdc hhi hI hX hd hn hslots hstore
    by_cases hfull : ∀ k, k < n → listed.getD k false = true
    · exact fin _ listed g s w a hsz hcnt hdc hhi hI hX hd hn hslots hstore hfull
    refine ⟨?_, ?_⟩
    · intro hr
      exfalso
      apply hfull
      have hall : ∀ m k, k ≤ m → k < ops.size → listed.getD k false = true := by
        intro m
        induction m with
        | zero =>
          intro k hk hlt
          have : k = 0 := by omega
          subst this
          exact any_order.ready_all hr hedge hsz (fun i hi => by omega) hlt
        | succ m ihm =>
          intro k hk hlt
          exact any_order.ready_all hr hedge hsz (fun i hi => ihm i (by omega) (by omega)) hlt
      exact fun k hk => hall k k (Nat.le_refl _) (by omega)
    · intro i hi
      obtain ⟨h0, o, ho, hedges⟩ := mem_ready.1 hi
      have hlt := (Array.getElem?_eq_some_iff.1 ho).1
      have hnl : listed.getD i false = false := by
        rw [Array.getD_eq_getD_getElem?, Array.getElem?_eq_getElem (by omega)] at h0 ⊢
        exact h0
      have hanc := hmask _ hdc i o ho hedges
      have hin : i < n := by
        by_cases h : i < n
        · exact h
        · exfalso
          exact hfull fun k hk => hanc k (hcut k i (by omega) hlt (by omega))
      -- a cell that i looks at or writes: its writers among the listed are those ahead of i
      have before : ∀ (k : Nat) (ok : Oper), ops[k]? = some ok → k < i → conf ops ws k i ok o = true → listed.getD k false = true :=
        fun k ok hk hki hc => hanc k (hpair k i ok o hki hk ho hc)
      have behind : ∀ (k : Nat) (ok : Oper), ops[k]? = some ok → i < k → conf ops ws i k o ok = true → listed.getD k false = false := by
        intro k ok hk hki hc
        cases hlk : listed.getD k false with
        | false => rfl
        | true =>
          have this : listed.getD i false = true := hmask _ hdc k ok hk (hdc k ok hk hlk) i (hpair i k o ok hki ho hk hc)
          rw [hnl] at this; cases this
      have cell : ∀ p : Nat → Bool, (∀ (k : Nat) (ok : Oper), ops[k]? = some ok → k < i → p k = true → conf ops ws k i ok o = true) → (∀ (k : Nat) (ok : Oper), ops[k]? = some ok → i < k → p k = true → conf ops ws i k o ok = true) →
          lastW p (fun k => listed.getD k false) n = lastW p (fun _ => true) i ∧ ∀ k, i < k → k < n → (p k && listed.getD k false) = false := by
        intro p h1 h2
        have hb : ∀ k, i < k → k < n → (p k && listed.getD k false) = false := by
          intro k hk hkn
          cases hp : p k with
          | false => rfl
          | true =>
            obtain ⟨ok, hok'⟩ : ∃ o, ops[k]? = some o := ⟨ops[k]'(by omega), by simp⟩
            rw [behind k ok hok' hk (h2 k ok hok' hk hp)]; rfl
        refine ⟨?_, hb⟩
        rw [lastW_cut (i := i) (by omega) (fun k hk hkn => by
          by_cases e : k = i
          · subst e; rw [hnl]; simp
          · exact hb k (by omega) hkn)]
        refine lastW_congr fun k hk hp => ?_
        obtain ⟨ok, hok'⟩ : ∃ o, ops[k]? = some o := ⟨ops[k]'(by omega), by simp⟩
        exact before k ok hok' hk (h1 k ok hok' hk hp)
      -- its slots
      have hsl : ∀ j ∈ slotsOf ops o, R g w ((E i).get j) (a.tmps.getD j undef) := by
        intro j hj
        have := (cell (wslot ops j) (by
          intro k ok hk hki hp
          rw [wslot_eq hk] at hp
          simp only [writesSlot, beq_iff_eq] at hp
          unfold conf
          rw [hp]
          simp [hj]
        ) (by
          intro k ok hk hki hp
          rw [wslot_eq hk] at hp
          simp only [writesSlot, beq_iff_eq] at hp
          unfold conf
          rw [hp]
          simp [hj]
        )).1
        have h3 := hslots j
        rw [this] at h3
        rw [hEget i (by omega) j]
        exact h3
      -- the rest, behind it
      have rest : ∀ (s' : St) val w' g', s' = (match lastW (fun k => ws.contains k) (fun k => (listed.setIfInBounds i true).getD k false) n with | none => S 0 | some k => S (k + 1)) →
          Inv P g' s' w' → Ext g w g' w' → R g' w' (V i) val → wpAny P .any ops Q fuel (listed.setIfInBounds i true) (a.put o.dst val) w' := by
        intro s' val w' g' hs' hI' hX' hR'
        have hgd : ∀ k, (listed.setIfInBounds i true).getD k false = if k = i then true else listed.getD k false := by
          intro k
          by_cases e : k = i
          · subst e; rw [if_pos rfl]; simp [hsz, hlt]
          · rw [if_neg e]; exact getD_set_ne false (fun x => e x.symm)
        refine ih _ g' s' w' _ (by simpa using hsz) ?_ ?_ (fun k hk => by rw [hgd, if_neg (by omega)]; exact hhi k hk) hI' (hX.trans hX') (by rw [put_defers]; exact hd) (by rw [put_size]; exact hn) ?_ hs'
        · -- one less
          have hgt : ∀ k, (listed.setIfInBounds i true).getD k true = if k = i then true else listed.getD k true := by
            intro k
            by_cases e : k = i
            · subst e; rw [if_pos rfl]; simp [hsz, hlt]
            · rw [if_neg e]; exact getD_set_ne true (fun x => e x.symm)
          have hfil : (List.range ops.size).filter (fun k => !(listed.setIfInBounds i true).getD k true) = ((List.range ops.size).filter fun k => !listed.getD k true).filter (· != i) := by
            rw [List.filter_filter]
            apply List.filter_congr
            intro k _
            rw [hgt]
            by_cases e : k = i
            · subst e; simp
            · simp [e]
          rw [hfil, ← List.Nodup.erase_eq_filter (List.Pairwise.filter _ List.nodup_range)]
          have hmem : i ∈ (List.range ops.size).filter (fun k => !listed.getD k true) := by
            rw [List.mem_filter]
            exact ⟨List.mem_range.2 hlt, by rw [h0]; rfl⟩
          rw [List.length_erase_of_mem hmem]
          omega
        · intro k ok hk hlk e he hb
          show (listed.setIfInBounds i true).getD e.on false = true
          have hlk : (listed.setIfInBounds i true).getD k false = true := hlk
          rw [hgd] at hlk ⊢
          by_cases e1 : k = i
          · subst e1
            rw [ho] at hk; cases hk
            split
            · rfl
            · exact hedges e he hb
          · rw [if_neg e1] at hlk
            split
            · rfl
            · exact hdc k ok hk hlk e he hb
        · intro j
          -- a slot behind it
          have hokd := okOp_lt (hN i o ho)
          by_cases hw : writesSlot o j = true
          · have hdst : o.dst = some j := by simpa [writesSlot] using hw
            have := (cell (wslot ops j) (by
              intro k ok hk hki hp
              rw [wslot_eq hk] at hp
              simp only [writesSlot, beq_iff_eq] at hp
              unfold conf; rw [hp]; simp [hdst]) (by
              intro k ok hk hki hp
              rw [wslot_eq hk] at hp
              simp only [writesSlot, beq_iff_eq] at hp
              unfold conf; rw [hdst]; simp [hp])).2
            rw [lastW_at (i := i) hin (by rw [wslot_eq ho]; exact hw) (by rw [hgd]; simp) (fun k h1 h2 => by rw [hgd, if_neg (by omega)]; exact this k h1 h2)]
            simp only [Act.put, hdst]
            have hjN : j < a.tmps.size := by rw [hn]; exact hokd j hdst
            rw [Array.getD_eq_getD_getElem?, Array.getElem?_setIfInBounds]
            simp [hjN, hR']
          · have : lastW (wslot ops j) (fun k => (listed.setIfInBounds i true).getD k false) n = lastW (wslot ops j) (fun k => listed.getD k false) n := by
              refine lastW_congr fun k hk hp => ?_
              rw [hgd, if_neg]
              rintro rfl
              rw [wslot_eq ho] at hp
              exact hw hp
            rw [this]
            have h3 := R_ext hX' _ _ (hslots j)
            cases hdst : o.dst with
            | none => exact h3
            | some d =>
              have hjd : d ≠ j := by
                rintro rfl
                exact hw (by simp [writesSlot, hdst])
              simp only [Act.put]
              rw [Array.getD_eq_getD_getElem?, Array.getElem?_setIfInBounds, if_neg hjd, ← Array.getD_eq_getD_getElem?]
              exact h3
      have hgd' : ∀ k, (listed.setIfInBounds i true).getD k false = if k = i then true else listed.getD k false := by
        intro k
        by_cases e : k = i
        · subst e; rw [if_pos rfl]; simp [hsz, hlt]
        · rw [if_neg e]; exact getD_set_ne false (fun x => e x.symm)
      unfold wpOp
      rw [ho]
      simp only
      by_cases hfree : touch o.op = false ∧ i ∉ ws
      · -- whatever the store
        refine hF i o hin ho hfree.1 hfree.2 s g w a hI hsl _ _ fun val w' g' k1 k2 k3 => rest s val w' g' ?_ k1 k2 k3
        rw [hstore]
        have : lastW (fun k => ws.contains k) (fun k => (listed.setIfInBounds i true).getD k false) n = lastW (fun k => ws.contains k) (fun k => listed.getD k false) n := by
          refine lastW_congr fun k hk hp => ?_
          rw [hgd', if_neg]
          rintro rfl
          exact hfree.2 (by simpa using hp)
        rw [this]
      · -- the store is as in the order of the text
        have htw : touch o.op = true ∨ ws.contains i = true := by
          by_cases h1 : touch o.op = false
          · right
            have : ¬ (i ∉ ws) := fun h2 => hfree ⟨h1, h2⟩
            simpa using this
          · left; simpa using h1
        have hcs := cell (fun k => ws.contains k) (by
          intro k ok hk hki hp
          unfold conf
          rcases htw with h | h <;> simp only [hp, h, Bool.true_or, Bool.or_true, Bool.and_self]) (by
          intro k ok hk hki hp
          unfold conf
          rcases htw with h | h <;> simp only [hp, h, Bool.true_or, Bool.or_true, Bool.and_self])
        have hs : s = S i := by rw [hstore, hcs.1]; exact (hSget i (by omega)).symm
        subst hs
        refine hD i o hin ho g w a hI hsl _ _ fun val w' g' k1 k2 k3 => rest _ val w' g' ?_ k1 k2 k3
        by_cases hw : ws.contains i = true
        · rw [lastW_at (i := i) hin hw (by rw [hgd']; simp) (fun k h1 h2 => by rw [hgd', if_neg (by omega)]; exact hcs.2 k h1 h2)]
        · have hni : i ∉ ws := by simpa using hw
          have : lastW (fun k => ws.contains k) (fun k => (listed.setIfInBounds i true).getD k false) n = lastW (fun k => ws.contains k) (fun k => listed.getD k false) n := by
            refine lastW_congr fun k hk hp => ?_
            rw [hgd', if_neg]
            rintro rfl
            exact hni (by simpa using hp)
          rw [this, ← hstore]
          exact hS i o hin ho hni

def cutOK (ops : Array Oper) (n : Nat) : Bool :=
  let ms := masks ops.toList []
  (List.range ops.size).all fun j => decide (j < n) || (List.range j).all fun i => (ms.getD j 0).testBit i

theorem cutOK_spec {ops : Array Oper} {n : Nat} (h : cutOK ops n = true) : ∀ i j, n ≤ j → j < ops.size → i < j → ((masks ops.toList []).getD j 0).testBit i = true := by
  intro i j h1 h2 h3
  unfold cutOK at h
  have := List.all_eq_true.1 h j (List.mem_range.2 h2)
  simp only [Bool.or_eq_true, decide_eq_true_eq] at this
  rcases this with h' | h'
  · omega
  · exact List.all_eq_true.1 h' i (List.mem_range.2 h3)

section
variable {P : Program} {ops : Array Oper} {ws : List Nat} {e e' : Env} {s s' : St} {N : Nat} {k : List KI} {rt : Env → St → Prop}

theorem Det.lists' : ∀ {i l e s e' s'}, Det P ops ws i l e s e' s' → (∀ j (o : Oper), l[j]? = some o → ops[i + j]? = some o) →
    ∃ (V : Nat → PV) (S : Nat → St) (E : Nat → Env), E i = e ∧ S i = s ∧ E (i + l.length) = e' ∧ S (i + l.length) = s' ∧ ∀ k (o : Oper), i ≤ k → k < i + l.length → ops[k]? = some o →
      E (k + 1) = (E k).put o.dst (V k) ∧ (k ∉ ws → S (k + 1) = S k) ∧ DOp P ops o (E k) (S k) (V k) (S (k + 1)) ∧ (touch o.op = false → k ∉ ws → ∀ s, DOp P ops o (E k) s (V k) s) := by
  intro i l e s e' s' h
  induction h with
  | nil =>
    rename_i i e s
    intro hl
    refine ⟨fun _ => .junk, fun _ => s, fun _ => e, rfl, rfl, rfl, rfl, fun k o hk hk2 ho => ?_⟩
    simp at hk2; omega
  | cons h1 h2 h3 hd ih =>
    rename_i i o l e s v s1 e' s'
    intro hl
    obtain ⟨V, S, E, a1, a2, a3, a4, a5⟩ := ih (fun j o' => by
      have := hl (j + 1) o'
      rw [show i + 1 + j = i + (j + 1) by omega]
      simpa using this)
    have h0 : ops[i]? = some o := by have := (hl 0 o) (by simp); simpa using this
    refine ⟨fun k => if k = i then v else V k, fun k => if k = i then s else S k, fun k => if k = i then e else E k, if_pos rfl, if_pos rfl, ?_, ?_, ?_⟩
    · show (if i + (o :: l).length = i then e else E (i + (o :: l).length)) = e'
      rw [List.length_cons, if_neg (by omega), show i + (l.length + 1) = i + 1 + l.length by omega]; exact a3
    · show (if i + (o :: l).length = i then s else S (i + (o :: l).length)) = s'
      rw [List.length_cons, if_neg (by omega), show i + (l.length + 1) = i + 1 + l.length by omega]; exact a4
    · intro k o' hk hk2 ho'
      by_cases e1 : k = i
      · subst e1
        rw [h0] at ho'; cases ho'
        simp only [if_true, show ¬ (k + 1 = k) by omega, if_false]
        rw [a1, a2]
        exact ⟨rfl, h2, h1, h3⟩
      · simp only [e1, show ¬ (k + 1 = i) by omega, if_false]
        exact a5 k o' (by omega) (by simp only [List.length_cons] at hk2; omega) ho'

/-- up to n in whatever order, the rest as the text has it -/
theorem Run.drawCut {id : Nat} (n : Nat) (ws : List Nat) (hm : P.follows .mixedOrders = true) (hs : drawOK ops ws = true) (hc : cutOK ops n = true) (hd : DetC P ops ws 0 (ops.toList.take n) e s (fun e' s' => RunO P N ops (ops.toList.drop n) k e' s' rt)) :
    Run P N (.code (.region id ops true) :: k) e s rt := by
  obtain ⟨e', s', hd, h⟩ := hd
  intro ok
  simp only [okK, okC, Bool.and_eq_true] at ok
  intro _ g w a hI hE hdf hN
  obtain ⟨V, S, E, a1, a2, a3, a4, a5⟩ := hd.lists' (fun j o ho => by
    rw [List.getElem?_take] at ho
    split at ho
    · simpa using ho
    · cases ho)
  have hlen : (ops.toList.take n).length = min n ops.size := by simp
  simp only [Nat.zero_add, hlen] at a3 a4 a5
  have hmin : min n ops.size ≤ ops.size := Nat.min_le_right _ _
  refine wp_region_any hm ?_
  obtain ⟨hI1, hX1⟩ := drew_step hI (w.drawn + 1)
  have hnone : ∀ (p : Nat → Bool) (n : Nat), lastW p (fun k => (Array.replicate ops.size false).getD k false) n = none := by
    intro p n
    induction n with
    | zero => rfl
    | succ n ih =>
      unfold lastW
      have : (Array.replicate ops.size false).getD n false = false := by
        rw [Array.getD_eq_getD_getElem?]
        cases hx : (Array.replicate ops.size false)[n]? with
        | none => rfl
        | some b => have := Array.mem_of_getElem? hx; simp at this; rw [this.2]; rfl
      rw [this, ih]; simp
  have hrepl : ∀ k, (Array.replicate ops.size false).getD k false = false := by
    intro k
    rw [Array.getD_eq_getD_getElem?]
    cases hx : (Array.replicate ops.size false)[k]? with
    | none => rfl
    | some b => have := Array.mem_of_getElem? hx; simp at this; rw [this.2]; rfl
  have hcut : ∀ i j, min n ops.size ≤ j → j < ops.size → i < j → ((masks ops.toList []).getD j 0).testBit i = true :=
    fun i j h1 h2 h3 => cutOK_spec hc i j (by omega) h2 h3
  refine any_order_cut (ws := ws) (N := N) (e0 := e) (V := V) (S := S) (E := E) (g0 := g) (w0 := w) (n := min n ops.size) hmin hcut hs ?_ a1 (fun i o hi ho => (a5 i o (Nat.zero_le _) hi ho).1) (fun i o hi ho => (a5 i o (Nat.zero_le _) hi ho).2.1)
    (fun i o hi ho => (a5 i o (Nat.zero_le _) hi ho).2.2.1) (fun i o hi ho => (a5 i o (Nat.zero_le _) hi ho).2.2.2) ?_ ops.size _ g s _ a (by simp) ?_ ?_ (fun k _ => hrepl k) hI1 hX1 hdf hN ?_ ?_
  · intro i o ho
    exact List.all_eq_true.1 ok.1 o (by simpa using Array.mem_of_getElem? ho)
  · intro g' w' a' k1 k2 k3 k4 k5
    rw [a4] at k1
    rw [a3] at k2
    refine RunO.eff.wpOps_mono' (fun _ _ _ => Lift.trans k3) (h ?_ ok.2 _ ?_ g' w' a' k1 k2 k4 k5)
    · refine List.all_eq_true.2 fun o ho => List.all_eq_true.1 ok.1 o (List.mem_of_mem_drop ho)
    · apply List.ext_getElem?
      intro i
      simp only [List.getElem?_map, List.getElem?_drop, List.getElem?_range', Array.getElem?_toList]
      by_cases hi : i < ops.size - min n ops.size
      · rw [List.getElem?_range' hi]
        have : min n ops.size + 1 * i = n + i := by omega
        simp only [Option.map_some, this, Nat.add_comm]
        rw [Array.getElem?_eq_getElem (by omega)]
        rfl
      · rw [List.getElem?_eq_none (by simp; omega), Array.getElem?_eq_none (by omega)]
        rfl
  · refine Nat.le_trans (List.length_filter_le _ _) (by simp)
  · intro k o ho hk
    have hk : (Array.replicate ops.size false).getD k false = true := hk
    rw [hrepl] at hk; cases hk
  · intro j
    rw [hnone]
    exact R_ext hX1 _ _ (hE j)
  · rw [hnone]; exact a2.symm

theorem DetC.skip_ {o : Oper} {l : List Oper} {i : Nat} {K : Env → St → Prop} (hw : ∀ g w (a : Act), EnvOK g w (Env.keep (slotsOf ops o) e) a.tmps → Region.wanted o (yielded ops a.tmps) = false) (hd : DetC P ops ws (i + 1) l (e.put o.dst (.tuple [])) s K) : DetC P ops ws i (o :: l) e s K := by
  obtain ⟨e2, s2, h1, h2⟩ := hd
  have key : ∀ s, DOp P ops o e s (.tuple []) s := by
    intro s g w a hI hsl K Q hk
    rw [hw g w a (keep_ok hsl)]
    simp only [Bool.false_eq_true, if_false]
    exact hk undef w g hI (Ext.refl _ _) (by simp only [R, RA]; exact ⟨#[], rfl, rfl⟩)
  exact ⟨e2, s2, Det.cons (key s) (fun _ => rfl) (fun _ _ s => key s) h1, h2⟩

/-- a guard that is known to let it be done -/
theorem DetC.gdo {o : Oper} {l : List Oper} {i : Nat} {K : Env → St → Prop} {v : PV} (hg : guard? ops o (Env.keep (slotsOf ops o) e) = some true) (ha : dcore P o.op (ev (Env.keep (slotsOf ops o) e)) s = some v) (hd : DetC P ops ws (i + 1) l (e.put o.dst v) s K) : DetC P ops ws i (o :: l) e s K := by
  obtain ⟨e2, s2, h1, h2⟩ := hd
  have key : ∀ s, dcore P o.op (ev (Env.keep (slotsOf ops o) e)) s = some v → DOp P ops o e s v s := fun s ha => DOp.of_effect hg fun g w a hI hE => dcore_run hI (fun x => ev_R hE x) ha
  exact ⟨e2, s2, Det.cons (key s ha) (fun _ => rfl) (fun ht _ s2 => key s2 (by rw [dcore_touch (s' := s) ht]; exact ha)) h1, h2⟩

theorem DetC.gskip' {o : Oper} {l : List Oper} {i : Nat} {K : Env → St → Prop} (hg : guard? ops o (Env.keep (slotsOf ops o) e) = some false) (hd : DetC P ops ws (i + 1) l (e.put o.dst (.tuple [])) s K) : DetC P ops ws i (o :: l) e s K :=
  DetC.skip_ (fun g w a hE => guard_wanted hg hE) hd

theorem DetC.gskipU {o : Oper} {l : List Oper} {i : Nat} {K : Env → St → Prop} (hg : gundef ops o (Env.keep (slotsOf ops o) e) = true) (hd : DetC P ops ws (i + 1) l (e.put o.dst (.tuple [])) s K) : DetC P ops ws i (o :: l) e s K :=
  DetC.skip_ (fun g w a hE => gundef_wanted hg hE) hd

end
end Go.PM

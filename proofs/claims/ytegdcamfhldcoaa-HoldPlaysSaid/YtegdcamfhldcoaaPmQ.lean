import Derived.Test.YtegdcamfhldcoaaPmP
import Derived.Orders
set_option linter.unusedVariables false
set_option linter.unusedSimpArgs false
namespace Go.PM
open Go

/-! ## Regions that draw their order -/

def slotsOf (ops : Array Oper) (o : Oper) : List Nat :=
  (o.op.operands.toList.filterMap fun | .tmp t => some t | _ => none) ++ (match o.guard with | some (j, _) => (gslot ops j).toList | none => [])

/-- one operation, in whatever memory that has the store s, in whatever frame that has its slots -/
def DOp (P : Program) (ops : Array Oper) (o : Oper) (e : Env) (s : St) (v : PV) (s1 : St) : Prop :=
  ∀ g w (a : Act), Inv P g s w → (∀ j ∈ slotsOf ops o, R g w (e.get j) (a.tmps.getD j undef)) → ∀ (K : Act → World → Prop) (Q : Exit → Act → World → Prop),
    (∀ val w' g', Inv P g' s1 w' → Ext g w g' w' → R g' w' v val → K (a.put o.dst val) w') →
    (if Region.wanted o (yielded ops a.tmps) then o.wp P a w K Q ∨ (o.asks P a w ∧ LetsOut Q) else K (a.put o.dst undef) w)

/-- does what it gives hang on the store? -/
def touch : Op → Bool
  | .move _ | .assign _ | .pick .. | .build .. | .nilCheck _ | .binOp .. | .unOp .. | .convert .. | .makeInterface .. | .makeFunc .. | .fieldAddr .. | .field .. | .index .. | .extract .. | .typeAssert .. | .buildSlice .. => false
  | _ => true

/-- one behind the other, in the order of the text: the slots, the store at the end; ws: who changes the store -/
inductive Det (P : Program) (ops : Array Oper) (ws : List Nat) : Nat → List Oper → Env → St → Env → St → Prop
  | nil {i e s} : Det P ops ws i [] e s e s
  | cons {i o l e s v s1 e' s'} : DOp P ops o e s v s1 → (i ∉ ws → s1 = s) → (touch o.op = false → i ∉ ws → ∀ s, DOp P ops o e s v s) →
      Det P ops ws (i + 1) l (e.put o.dst v) s1 e' s' → Det P ops ws i (o :: l) e s e' s'

def bits (acc : List Nat) (o : Oper) : Nat := o.after.toList.foldl (fun m e => if Region.binds .any e then m ||| 2 ^ e.on ||| acc.getD e.on 0 else m) 0

/-- of each operation: whom it waits for, directly or not -/
def masks : List Oper → List Nat → List Nat
  | [], acc => acc
  | o :: l, acc => masks l (acc ++ [bits acc o])

def writesSlot (o : Oper) (j : Nat) : Bool := o.dst == some j

def conf (ops : Array Oper) (ws : List Nat) (i j : Nat) (oi oj : Oper) : Bool :=
  (match oi.dst with | some d => oj.dst == some d || (slotsOf ops oj).contains d | none => false) ||
  (match oj.dst with | some d => (slotsOf ops oi).contains d | none => false) ||
  (ws.contains i && (touch oj.op || ws.contains j)) || (ws.contains j && (touch oi.op || ws.contains i))

def drawOK (ops : Array Oper) (ws : List Nat) : Bool :=
  let ms := masks ops.toList []
  (List.range ops.size).all fun j => match ops[j]? with
    | none => false
    | some oj => (oj.after.toList.all fun e => !Region.binds .any e || decide (e.on < j)) &&
      (List.range j).all fun i => match ops[i]? with
        | none => false
        | some oi => !conf ops ws i j oi oj || (ms.getD j 0).testBit i

/-! ### masks tell true -/

def DC (ops : Array Oper) (L : Nat → Prop) : Prop := ∀ (k : Nat) (o : Oper), ops[k]? = some o → L k → ∀ e ∈ o.after, Region.binds .any e = true → L e.on

theorem bits_spec {acc : List Nat} {o : Oper} {L : Nat → Prop} (hacc : ∀ k, L k → ∀ b, (acc.getD k 0).testBit b = true → L b) (he : ∀ e ∈ o.after, Region.binds .any e = true → L e.on) :
    ∀ b, (bits acc o).testBit b = true → L b := by
  have key : ∀ (es : List Edge) (m : Nat), (∀ e ∈ es, Region.binds .any e = true → L e.on) → (∀ b, m.testBit b = true → L b) →
      ∀ b, (es.foldl (fun m e => if Region.binds .any e then m ||| 2 ^ e.on ||| acc.getD e.on 0 else m) m).testBit b = true → L b := by
    intro es
    induction es with
    | nil => exact fun m _ h => h
    | cons e es ih =>
      intro m h1 h2
      rw [List.foldl_cons]
      refine ih _ (fun x hx => h1 x (by simp [hx])) ?_
      intro b hb
      split at hb
      · rename_i hbind
        have hL := h1 e (by simp) hbind
        rw [Nat.testBit_or, Nat.testBit_or, Bool.or_eq_true, Bool.or_eq_true] at hb
        rcases hb with (hb | hb) | hb
        · exact h2 b hb
        · rw [Nat.testBit_two_pow] at hb
          have : e.on = b := by simpa using hb
          exact this ▸ hL
        · exact hacc e.on hL b hb
      · exact h2 b hb
  exact key o.after.toList 0 (fun e h => he e (by simpa using h)) (fun b h => by simp at h)

theorem masks_spec {ops : Array Oper} {L : Nat → Prop} (hdc : DC ops L) : ∀ (l : List Oper) (acc : List Nat), ((acc ++ l.map fun _ => 0).length = ops.size) → (∀ (j : Nat) (o : Oper), l[j]? = some o → ops[acc.length + j]? = some o) →
    (∀ (k : Nat) (o : Oper), k < acc.length → ops[k]? = some o → (∀ e ∈ o.after, Region.binds .any e = true → L e.on) → ∀ b, (acc.getD k 0).testBit b = true → L b) →
    ∀ (k : Nat) (o : Oper), ops[k]? = some o → (∀ e ∈ o.after, Region.binds .any e = true → L e.on) → ∀ b, ((masks l acc).getD k 0).testBit b = true → L b
  | [], acc, hlen, _, h, k, o, hk, he, b, hb => by
    refine h k o ?_ hk he b hb
    have := (Array.getElem?_eq_some_iff.1 hk).1
    have := hlen
    simp at this
    omega
  | o :: l, acc, hlen, hl, h, k, o', hk, he, b, hb => by
    refine masks_spec hdc l (acc ++ [bits acc o]) (by have := hlen; simp at this ⊢; omega) ?_ ?_ k o' hk he b hb
    · intro j x hx
      have := hl (j + 1) x (by simpa using hx)
      rw [← this]; congr 1; simp; omega
    · intro k x hk' hx hex b hb
      simp only [List.length_append, List.length_singleton] at hk'
      by_cases hlt : k < acc.length
      · rw [List.getD_eq_getElem?_getD, List.getElem?_append_left hlt, ← List.getD_eq_getElem?_getD] at hb
        exact h k x hlt hx hex b hb
      · have : k = acc.length := by omega
        subst this
        have h0 := hl 0 o (by simp)
        rw [Nat.add_zero, hx] at h0
        cases h0
        rw [List.getD_eq_getElem?_getD, List.getElem?_append_right (Nat.le_refl _)] at hb
        simp at hb
        refine bits_spec (L := L) ?_ hex b hb
        intro m hm b' hb'
        by_cases hm' : m < acc.length
        · cases hom : ops[m]? with
          | none =>
            have := hlen
            simp at this
            have := Array.getElem?_eq_none_iff.1 hom
            omega
          | some om => exact h m om hm' hom (hdc m om hom hm) b' hb'
        · rw [List.getD_eq_getElem?_getD, List.getElem?_eq_none (by omega)] at hb'
          simp at hb'

/-! ### who wrote last -/

def lastW (p l : Nat → Bool) : Nat → Option Nat
  | 0 => none
  | m + 1 => if p m && l m then some m else lastW p l m

theorem lastW_congr {p l l' : Nat → Bool} : ∀ {n : Nat}, (∀ k, k < n → p k = true → l k = l' k) → lastW p l n = lastW p l' n
  | 0, _ => rfl
  | n + 1, h => by
    unfold lastW
    have ih := lastW_congr (n := n) (p := p) (l := l) (l' := l') fun k hk => h k (by omega)
    cases hp : p n with
    | false => simp [ih]
    | true => rw [h n (by omega) hp, ih]

theorem lastW_cut {p l : Nat → Bool} {i : Nat} : ∀ {n : Nat}, i ≤ n → (∀ k, i ≤ k → k < n → (p k && l k) = false) → lastW p l n = lastW p l i
  | 0, h, _ => by have : i = 0 := by omega
                  subst this; rfl
  | n + 1, h, hk => by
    by_cases hi : i = n + 1
    · subst hi; rfl
    · rw [lastW, hk n (by omega) (by omega)]
      simp only [Bool.false_eq_true, if_false]
      exact lastW_cut (by omega) fun k h1 h2 => hk k h1 (by omega)

theorem lastW_at {p l : Nat → Bool} {i n : Nat} (hi : i < n) (hp : p i = true) (hl : l i = true) (h : ∀ k, i < k → k < n → (p k && l k) = false) : lastW p l n = some i := by
  rw [lastW_cut (i := i + 1) (by omega) (fun k h1 h2 => h k (by omega) h2)]
  simp [lastW, hp, hl]

def wslot (ops : Array Oper) (j k : Nat) : Bool := ((ops[k]?).map (writesSlot · j)).getD false

theorem wslot_eq {ops : Array Oper} {j k : Nat} {o : Oper} (h : ops[k]? = some o) : wslot ops j k = writesSlot o j := by simp [wslot, h]

/-- in whatever order: the slots, the store are as in the order of the text -/
theorem any_order {P : Program} {ops : Array Oper} {ws : List Nat} {N : Nat} {e0 : Env} {Q : Exit → Act → World → Prop} {V : Nat → PV} {S : Nat → St} {E : Nat → Env} {g0 : G} {w0 : World}
    (hok : drawOK ops ws = true) (hN : ∀ (i : Nat) (o : Oper), ops[i]? = some o → okOp N o = true)
    (hE0 : E 0 = e0) (hE : ∀ (i : Nat) (o : Oper), ops[i]? = some o → E (i + 1) = (E i).put o.dst (V i))
    (hS : ∀ (i : Nat) (o : Oper), ops[i]? = some o → i ∉ ws → S (i + 1) = S i)
    (hD : ∀ (i : Nat) (o : Oper), ops[i]? = some o → DOp P ops o (E i) (S i) (V i) (S (i + 1)))
    (hF : ∀ (i : Nat) (o : Oper), ops[i]? = some o → touch o.op = false → i ∉ ws → ∀ s, DOp P ops o (E i) s (V i) s)
    (hQ : ∀ g w (a : Act), Inv P g (S ops.size) w → EnvOK g w (E ops.size) a.tmps → Ext g0 w0 g w → a.defers = [] → a.tmps.size = N → Q .normal a w) :
    ∀ (fuel : Nat) (listed : Array Bool) (g : G) (s : St) (w : World) (a : Act), listed.size = ops.size →
      ((List.range ops.size).filter fun k => !listed.getD k true).length ≤ fuel → DC ops (fun k => listed.getD k false = true) →
      Inv P g s w → Ext g0 w0 g w → a.defers = [] → a.tmps.size = N →
      (∀ j, R g w (match lastW (wslot ops j) (fun k => listed.getD k false) ops.size with | none => e0.get j | some k => V k) (a.tmps.getD j undef)) →
      s = (match lastW (fun k => ws.contains k) (fun k => listed.getD k false) ops.size with | none => S 0 | some k => S (k + 1)) →
      wpAny P .any ops Q fuel listed a w := by
  -- what drawOK tells
  have hpair : ∀ (i j : Nat) (oi oj : Oper), i < j → ops[i]? = some oi → ops[j]? = some oj → conf ops ws i j oi oj = true → ((masks ops.toList []).getD j 0).testBit i = true := by
    intro i j oi oj hij h1 h2 hc
    unfold drawOK at hok
    have := List.all_eq_true.1 hok j (List.mem_range.2 (Array.getElem?_eq_some_iff.1 h2).1)
    rw [h2] at this
    simp only [Bool.and_eq_true] at this
    have := List.all_eq_true.1 this.2 i (List.mem_range.2 hij)
    rw [h1] at this
    simp only [hc, Bool.not_true, Bool.false_or] at this
    exact this
  have hedge : ∀ (j : Nat) (oj : Oper), ops[j]? = some oj → ∀ e ∈ oj.after, Region.binds .any e = true → e.on < j := by
    intro j oj h2 e he hb
    unfold drawOK at hok
    have := List.all_eq_true.1 hok j (List.mem_range.2 (Array.getElem?_eq_some_iff.1 h2).1)
    rw [h2] at this
    simp only [Bool.and_eq_true] at this
    have := List.all_eq_true.1 this.1 e (by simpa using he)
    simpa [hb] using this
  have hmask : ∀ (L : Nat → Prop), DC ops L → ∀ (k : Nat) (o : Oper), ops[k]? = some o → (∀ e ∈ o.after, Region.binds .any e = true → L e.on) → ∀ b, ((masks ops.toList []).getD k 0).testBit b = true → L b :=
    fun L hdc => masks_spec hdc ops.toList [] (by simp) (fun j o h => by simpa using h) (fun k o h => by simp at h)
  -- the order of the text
  have hEget : ∀ i, i ≤ ops.size → ∀ j, (E i).get j = (match lastW (wslot ops j) (fun _ => true) i with | none => e0.get j | some k => V k) := by
    intro i
    induction i with
    | zero => intro _ j; rw [hE0]; rfl
    | succ i ih =>
      intro hi j
      obtain ⟨o, ho⟩ : ∃ o, ops[i]? = some o := ⟨ops[i]'(by omega), by simp⟩
      rw [hE i o ho]
      unfold lastW
      rw [wslot_eq ho, Bool.and_true]
      unfold writesSlot
      cases hd : o.dst with
      | none => simp only [Env.put]; rw [ih (by omega) j]; simp
      | some d =>
        simp only [Env.put, Env.get]
        by_cases hjd : j = d
        · subst hjd; simp
        · rw [if_neg hjd, ih (by omega) j]
          have : (some d == some j) = false := by simp; exact fun e => hjd e.symm
          rw [this]; simp
  have hSget : ∀ i, i ≤ ops.size → S i = (match lastW (fun k => ws.contains k) (fun _ => true) i with | none => S 0 | some k => S (k + 1)) := by
    intro i
    induction i with
    | zero => intro _; rfl
    | succ i ih =>
      intro hi
      obtain ⟨o, ho⟩ : ∃ o, ops[i]? = some o := ⟨ops[i]'(by omega), by simp⟩
      unfold lastW
      by_cases hw : i ∈ ws
      · have : ws.contains i = true := by simpa using hw
        rw [this]; simp
      · have : ws.contains i = false := by simpa using hw
        rw [this, hS i o ho hw, ih (by omega)]; simp
  intro fuel
  induction fuel with
  | zero =>
    intro listed g s w a hsz hcnt hdc hI hX hd hn hslots hstore
    have hall : ∀ k, k < ops.size → listed.getD k true = true := by
      intro k hk
      have : (List.range ops.size).filter (fun k => !listed.getD k true) = [] := List.length_eq_zero_iff.1 (by omega)
      have := List.filter_eq_nil_iff.1 this k (List.mem_range.2 hk)
      simpa using this
    have hall' : ∀ k, k < ops.size → listed.getD k false = true := by
      intro k hk
      have := hall k hk
      rw [Array.getD_eq_getD_getElem?, Array.getElem?_eq_getElem (by omega)] at this ⊢
      exact this
    refine ⟨?_, ?_⟩
    · cases hr : Region.ready .any ops listed with
      | nil => rfl
      | cons x xs =>
        have hx : x ∈ Region.ready .any ops listed := by rw [hr]; simp
        obtain ⟨h0, o, ho, _⟩ := mem_ready.1 hx
        rw [hall x (Array.getElem?_eq_some_iff.1 ho).1] at h0
        cases h0
    · refine hQ g w a ?_ ?_ hX hd hn
      · rw [hSget _ (Nat.le_refl _), ← lastW_congr (l := fun k => listed.getD k false) (fun k hk _ => hall' k hk), ← hstore]; exact hI
      · intro j
        rw [hEget _ (Nat.le_refl _) j, ← lastW_congr (l := fun k => listed.getD k false) (fun k hk _ => hall' k hk)]; exact hslots j
  | succ fuel ih =>
    intro listed g s w a hsz hcnt hdc hI hX hd hn hslots hstore
    refine ⟨?_, ?_⟩
    · intro hr
      -- nobody is ready: all are listed
      have hall : ∀ m k, k ≤ m → k < ops.size → listed.getD k false = true := by
        intro m
        induction m with
        | zero =>
          intro k hk hlt
          have : k = 0 := by omega
          subst this
          exact ready_all hr hedge hsz (fun i hi => by omega) hlt
        | succ m ihm =>
          intro k hk hlt
          exact ready_all hr hedge hsz (fun i hi => ihm i (by omega) (by omega)) hlt
      have hall' : ∀ k, k < ops.size → listed.getD k false = true := fun k hk => hall k k (Nat.le_refl _) hk
      refine hQ g w a ?_ ?_ hX hd hn
      · rw [hSget _ (Nat.le_refl _), ← lastW_congr (l := fun k => listed.getD k false) (fun k hk _ => hall' k hk), ← hstore]; exact hI
      · intro j
        rw [hEget _ (Nat.le_refl _) j, ← lastW_congr (l := fun k => listed.getD k false) (fun k hk _ => hall' k hk)]; exact hslots j
    · intro i hi
      obtain ⟨h0, o, ho, hedges⟩ := mem_ready.1 hi
      have hlt := (Array.getElem?_eq_some_iff.1 ho).1
      have hnl : listed.getD i false = false := by
        rw [Array.getD_eq_getD_getElem?, Array.getElem?_eq_getElem (by omega)] at h0 ⊢
        exact h0
      have hanc := hmask _ hdc i o ho hedges
      -- a cell that i looks at or writes: its writers among the listed are those ahead of i
      have before : ∀ (k : Nat) (ok : Oper), ops[k]? = some ok → k < i → conf ops ws k i ok o = true → listed.getD k false = true :=
        fun k ok hk hki hc => hanc k (hpair k i ok o hki hk ho hc)
      have behind : ∀ (k : Nat) (ok : Oper), ops[k]? = some ok → i < k → conf ops ws i k o ok = true → listed.getD k false = false := by
        intro k ok hk hki hc
        cases hlk : listed.getD k false with
        | false => rfl
        | true =>
          have this : listed.getD i false = true := hmask _ hdc k ok hk (hdc k ok hk hlk) i (hpair i k o ok hki ho hk hc)
          rw [hnl] at this; cases this
      have cell : ∀ p : Nat → Bool, (∀ (k : Nat) (ok : Oper), ops[k]? = some ok → k < i → p k = true → conf ops ws k i ok o = true) → (∀ (k : Nat) (ok : Oper), ops[k]? = some ok → i < k → p k = true → conf ops ws i k o ok = true) →
          lastW p (fun k => listed.getD k false) ops.size = lastW p (fun _ => true) i ∧ ∀ k, i < k → k < ops.size → (p k && listed.getD k false) = false := by
        intro p h1 h2
        have hb : ∀ k, i < k → k < ops.size → (p k && listed.getD k false) = false := by
          intro k hk hkn
          cases hp : p k with
          | false => rfl
          | true =>
            obtain ⟨ok, hok'⟩ : ∃ o, ops[k]? = some o := ⟨ops[k]'(by omega), by simp⟩
            rw [behind k ok hok' hk (h2 k ok hok' hk hp)]; rfl
        refine ⟨?_, hb⟩
        rw [lastW_cut (i := i) (by omega) (fun k hk hkn => by
          by_cases e : k = i
          · subst e; rw [hnl]; simp
          · exact hb k (by omega) hkn)]
        refine lastW_congr fun k hk hp => ?_
        obtain ⟨ok, hok'⟩ : ∃ o, ops[k]? = some o := ⟨ops[k]'(by omega), by simp⟩
        exact before k ok hok' hk (h1 k ok hok' hk hp)
      -- its slots
      have hsl : ∀ j ∈ slotsOf ops o, R g w ((E i).get j) (a.tmps.getD j undef) := by
        intro j hj
        have := (cell (wslot ops j) (by
          intro k ok hk hki hp
          rw [wslot_eq hk] at hp
          simp only [writesSlot, beq_iff_eq] at hp
          unfold conf
          rw [hp]
          simp [hj]
        ) (by
          intro k ok hk hki hp
          rw [wslot_eq hk] at hp
          simp only [writesSlot, beq_iff_eq] at hp
          unfold conf
          rw [hp]
          simp [hj]
        )).1
        have h3 := hslots j
        rw [this] at h3
        rw [hEget i (by omega) j]
        exact h3
      -- the rest, behind it
      have rest : ∀ (s' : St) val w' g', s' = (match lastW (fun k => ws.contains k) (fun k => (listed.setIfInBounds i true).getD k false) ops.size with | none => S 0 | some k => S (k + 1)) →
          Inv P g' s' w' → Ext g w g' w' → R g' w' (V i) val → wpAny P .any ops Q fuel (listed.setIfInBounds i true) (a.put o.dst val) w' := by
        intro s' val w' g' hs' hI' hX' hR'
        have hgd : ∀ k, (listed.setIfInBounds i true).getD k false = if k = i then true else listed.getD k false := by
          intro k
          by_cases e : k = i
          · subst e; rw [if_pos rfl]; simp [hsz, hlt]
          · rw [if_neg e]; exact getD_set_ne false (fun x => e x.symm)
        refine ih _ g' s' w' _ (by simpa using hsz) ?_ ?_ hI' (hX.trans hX') (by rw [put_defers]; exact hd) (by rw [put_size]; exact hn) ?_ hs'
        · -- one less
          have hgt : ∀ k, (listed.setIfInBounds i true).getD k true = if k = i then true else listed.getD k true := by
            intro k
            by_cases e : k = i
            · subst e; rw [if_pos rfl]; simp [hsz, hlt]
            · rw [if_neg e]; exact getD_set_ne true (fun x => e x.symm)
          have hfil : (List.range ops.size).filter (fun k => !(listed.setIfInBounds i true).getD k true) = ((List.range ops.size).filter fun k => !listed.getD k true).filter (· != i) := by
            rw [List.filter_filter]
            apply List.filter_congr
            intro k _
            rw [hgt]
            by_cases e : k = i
            · subst e; simp
            · simp [e]
          rw [hfil, ← List.Nodup.erase_eq_filter (List.Pairwise.filter _ List.nodup_range)]
          have hmem : i ∈ (List.range ops.size).filter (fun k => !listed.getD k true) := by
            rw [List.mem_filter]
            exact ⟨List.mem_range.2 hlt, by rw [h0]; rfl⟩
          rw [List.length_erase_of_mem hmem]
          omega
        · intro k ok hk hlk e he hb
          show (listed.setIfInBounds i true).getD e.on false = true
          have hlk : (listed.setIfInBounds i true).getD k false = true := hlk
          rw [hgd] at hlk ⊢
          by_cases e1 : k = i
          · subst e1
            rw [ho] at hk; cases hk
            split
            · rfl
            · exact hedges e he hb
          · rw [if_neg e1] at hlk
            split
            · rfl
            · exact hdc k ok hk hlk e he hb
        · intro j
          -- a slot behind it
          have hokd := okOp_lt (hN i o ho)
          by_cases hw : writesSlot o j = true
          · have hdst : o.dst = some j := by simpa [writesSlot] using hw
            have := (cell (wslot ops j) (by
              intro k ok hk hki hp
              rw [wslot_eq hk] at hp
              simp only [writesSlot, beq_iff_eq] at hp
              unfold conf; rw [hp]; simp [hdst]) (by
              intro k ok hk hki hp
              rw [wslot_eq hk] at hp
              simp only [writesSlot, beq_iff_eq] at hp
              unfold conf; rw [hdst]; simp [hp])).2
            rw [lastW_at (i := i) hlt (by rw [wslot_eq ho]; exact hw) (by rw [hgd]; simp) (fun k h1 h2 => by rw [hgd, if_neg (by omega)]; exact this k h1 h2)]
            simp only [Act.put, hdst]
            have hjN : j < a.tmps.size := by rw [hn]; exact hokd j hdst
            rw [Array.getD_eq_getD_getElem?, Array.getElem?_setIfInBounds]
            simp [hjN, hR']
          · have : lastW (wslot ops j) (fun k => (listed.setIfInBounds i true).getD k false) ops.size = lastW (wslot ops j) (fun k => listed.getD k false) ops.size := by
              refine lastW_congr fun k hk hp => ?_
              rw [hgd, if_neg]
              rintro rfl
              rw [wslot_eq ho] at hp
              exact hw hp
            rw [this]
            have h3 := R_ext hX' _ _ (hslots j)
            cases hdst : o.dst with
            | none => exact h3
            | some d =>
              have hjd : d ≠ j := by
                rintro rfl
                exact hw (by simp [writesSlot, hdst])
              simp only [Act.put]
              rw [Array.getD_eq_getD_getElem?, Array.getElem?_setIfInBounds, if_neg hjd, ← Array.getD_eq_getD_getElem?]
              exact h3
      have hgd' : ∀ k, (listed.setIfInBounds i true).getD k false = if k = i then true else listed.getD k false := by
        intro k
        by_cases e : k = i
        · subst e; rw [if_pos rfl]; simp [hsz, hlt]
        · rw [if_neg e]; exact getD_set_ne false (fun x => e x.symm)
      unfold wpOp
      rw [ho]
      simp only
      by_cases hfree : touch o.op = false ∧ i ∉ ws
      · -- whatever the store
        refine hF i o ho hfree.1 hfree.2 s g w a hI hsl _ _ fun val w' g' k1 k2 k3 => rest s val w' g' ?_ k1 k2 k3
        rw [hstore]
        have : lastW (fun k => ws.contains k) (fun k => (listed.setIfInBounds i true).getD k false) ops.size = lastW (fun k => ws.contains k) (fun k => listed.getD k false) ops.size := by
          refine lastW_congr fun k hk hp => ?_
          rw [hgd', if_neg]
          rintro rfl
          exact hfree.2 (by simpa using hp)
        rw [this]
      · -- the store is as in the order of the text
        have htw : touch o.op = true ∨ ws.contains i = true := by
          by_cases h1 : touch o.op = false
          · right
            have : ¬ (i ∉ ws) := fun h2 => hfree ⟨h1, h2⟩
            simpa using this
          · left; simpa using h1
        have hcs := cell (fun k => ws.contains k) (by
          intro k ok hk hki hp
          unfold conf
          rcases htw with h | h <;> simp only [hp, h, Bool.true_or, Bool.or_true, Bool.and_self]) (by
          intro k ok hk hki hp
          unfold conf
          rcases htw with h | h <;> simp only [hp, h, Bool.true_or, Bool.or_true, Bool.and_self])
        have hs : s = S i := by rw [hstore, hcs.1]; exact (hSget i (by omega)).symm
        subst hs
        refine hD i o ho g w a hI hsl _ _ fun val w' g' k1 k2 k3 => rest _ val w' g' ?_ k1 k2 k3
        by_cases hw : ws.contains i = true
        · rw [lastW_at (i := i) hlt hw (by rw [hgd']; simp) (fun k h1 h2 => by rw [hgd', if_neg (by omega)]; exact hcs.2 k h1 h2)]
        · have hni : i ∉ ws := by simpa using hw
          have : lastW (fun k => ws.contains k) (fun k => (listed.setIfInBounds i true).getD k false) ops.size = lastW (fun k => ws.contains k) (fun k => listed.getD k false) ops.size := by
            refine lastW_congr fun k hk hp => ?_
            rw [hgd', if_neg]
            rintro rfl
            exact hni (by simpa using hp)
          rw [this, ← hstore]
          exact hS i o ho hni
where
  ready_all {ops : Array Oper} {listed : Array Bool} (hr : Region.ready .any ops listed = []) (hedge : ∀ (j : Nat) (oj : Oper), ops[j]? = some oj → ∀ e ∈ oj.after, Region.binds .any e = true → e.on < j) (hsz : listed.size = ops.size) {k : Nat}
      (hb : ∀ i, i < k → listed.getD i false = true) (hk : k < ops.size) : listed.getD k false = true := by
    obtain ⟨o, ho⟩ : ∃ o, ops[k]? = some o := ⟨ops[k]'(by omega), by simp⟩
    cases h : listed.getD k false with
    | true => rfl
    | false =>
      have h' : listed.getD k true = false := by
        rw [Array.getD_eq_getD_getElem?, Array.getElem?_eq_getElem (by omega)] at h ⊢
        exact h
      have : k ∈ Region.ready .any ops listed := mem_ready.2 ⟨h', o, ho, fun e he hbd => hb e.on (hedge k o ho e he hbd)⟩
      rw [hr] at this
      simp at this

end Go.PM

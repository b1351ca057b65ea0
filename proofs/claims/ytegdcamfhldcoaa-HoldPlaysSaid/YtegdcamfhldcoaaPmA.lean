import Derived.Calls
import Derived.Below
set_option linter.unusedVariables false
set_option linter.unusedSimpArgs false
namespace Go.PM
open Go

/-! ## Abstract values -/

inductive SK where
  | nil | clip | any | tok (t z : Nat)
  /-- nil, or any -/
  | unk
  /-- nil, or clip -/
  | unc
  deriving DecidableEq

inductive PV where
  | int (k : IntKind) (n : Int)
  | bool (b : Bool)
  | str (s : ByteArray)
  | nilp
  | ptr (id i j : Nat)
  | rptr (cs : List PV)
  | sl (k : SK) (els : List PV)
  | own (id off len : Nat)
  | agg (cs : List PV)
  | tuple (vs : List PV)
  | fn (f : Fn) (first cap : List PV)
  | nilf
  | iface (t : TypeId) (v : PV)
  | nili
  | map (id : Nat)
  | nilm
  | gd (b : Bool) (v : PV)
  | junk
  deriving Inhabited

def PV.cells : PV → List PV
  | .agg cs => cs
  | v => [v]

/-- not a tuple, not junk: may lie in memory -/
def PV.ok : PV → Bool
  | .tuple _ | .junk | .gd _ _ => false
  | _ => true

def _root_.Go.Value.flat : Value → Bool
  | .agg _ | .tuple _ => false
  | _ => true

structure G where
  nxt : Nat
  rows : Nat → Option (Nat × Nat)
  live : Nat → Bool
  toks : Nat → Option (Nat × Nat)
  lim : Nat → Option Nat

def G.isRow (g : G) (b : Nat) : Prop := ∃ id sz, g.rows id = some (b, sz) ∧ g.live id = true
def G.free (g : G) (b n : Nat) : Prop := ¬ g.isRow b ∧ ∀ m, g.lim b = some m → n ≤ m

def at_ (b o : Nat) : Addr := ⟨b, o, none⟩

def cellsAt (w : World) (b o : Nat) (vs : List Value) : Prop := ∀ j (h : j < vs.length), w.cell? ⟨b, o + j, none⟩ = some vs[j]

def flat (vs : List Value) : List Value := vs.flatMap fun v => v.cells.toList

def csize (w : World) (b : Nat) : Nat := ((w.shape? b).map (·.2)).getD 0

/-- the slice value's own facts -/
def slHead0 (g : G) (w : World) (k : SK) (n : Nat) (vs : List Value) (v : Value) : Prop :=
  match k with
  | .nil => v = .slice none 0 0 ∧ n = 0
  | k => ∃ b o cap sz, v = .slice (some ⟨b, o, none⟩) n cap ∧ n ≤ cap ∧ 0 < sz ∧ (k = .clip → cap = n) ∧ (0 < n → g.free b (o + n * sz)) ∧ cellsAt w b o (flat vs) ∧
      (∀ v ∈ vs, v.cells.size = sz) ∧
      ∀ t z, k = .tok t z → sz = z ∧ t < g.nxt ∧ ∀ b' L, g.toks t = some (b', L) → n ≤ L ∧ (n = L → b' = b ∧ g.lim b = some (o + L * sz) ∧ o + cap * sz ≤ csize w b)

def slHead (g : G) (w : World) (k : SK) (n : Nat) (vs : List Value) (v : Value) : Prop :=
  match k with
  | .unk => slHead0 g w .nil n vs v ∨ slHead0 g w .any n vs v
  | .unc => slHead0 g w .nil n vs v ∨ slHead0 g w .clip n vs v
  | k => slHead0 g w k n vs v

mutual
def R (g : G) (w : World) : PV → Value → Prop
  | .int k n, v => v = .int k n
  | .bool b, v => v = .bool b
  | .str s, v => v = .string s
  | .nilp, v => v = .pointer none
  | .ptr id i j, v => id < g.nxt ∧ ∃ b sz, g.rows id = some (b, sz) ∧ v = .pointer (some ⟨b, i * sz + j, none⟩)
  | .rptr cs, v => ∃ b o vs, v = .pointer (some ⟨b, o, none⟩) ∧ (0 < cs.length → g.free b (o + cs.length)) ∧ cellsAt w b o vs ∧ (∀ v ∈ vs, v.flat = true) ∧ RA g w cs vs
  | .sl k els, v => ∃ vs, RA g w els vs ∧ slHead g w k els.length vs v
  | .own id off len, v => id < g.nxt ∧ ∃ b sz cap, g.rows id = some (b, sz) ∧ len ≤ cap ∧ v = .slice (some ⟨b, off * sz, none⟩) len cap ∧ (off + cap) * sz ≤ csize w b
  | .agg cs, v => ∃ a : Array Value, v = .agg a ∧ (∀ v ∈ a.toList, v.flat = true) ∧ RA g w cs a.toList
  | .tuple cs, v => ∃ a : Array Value, v = .tuple a ∧ RA g w cs a.toList
  | .fn f first cap, v => ∃ x y : Array Value, v = .func f x y ∧ RA g w first x.toList ∧ RA g w cap y.toList
  | .nilf, v => v = .nilFunc
  | .iface t p, v => ∃ x, v = .iface t x ∧ R g w p x
  | .nili, v => v = .nilIface
  | .map id, v => id < g.nxt ∧ ∃ b sz, g.rows id = some (b, sz) ∧ v = .map (some b)
  | .nilm, v => v = .map none
  | .gd b p, v => b = true → R g w p v
  | .junk, _ => True
def RA (g : G) (w : World) : List PV → List Value → Prop
  | [], vs => vs = []
  | p :: ps, vs => ∃ v r, vs = v :: r ∧ R g w p v ∧ RA g w ps r
end

theorem RA_length {g w} : ∀ {ps vs}, RA g w ps vs → ps.length = vs.length
  | [], vs, h => by simp [RA] at h; simp [h]
  | p :: ps, vs, h => by
    simp only [RA] at h
    obtain ⟨v, r, rfl, _, h⟩ := h
    simp [RA_length h]

theorem RA_get {g w} : ∀ {ps vs}, RA g w ps vs → ∀ (i : Nat) (p : PV), ps[i]? = some p → ∃ v, vs[i]? = some v ∧ R g w p v
  | [], vs, h, i, p, hp => by simp at hp
  | q :: ps, vs, h, i, p, hp => by
    simp only [RA] at h
    obtain ⟨v, r, rfl, hv, h⟩ := h
    cases i with
    | zero => simp at hp; subst hp; exact ⟨v, by simp, hv⟩
    | succ i => simp at hp; obtain ⟨u, hu, hr⟩ := RA_get h i p hp; exact ⟨u, by simpa using hu, hr⟩

theorem RA_append {g w} : ∀ {ps qs vs us}, RA g w ps vs → RA g w qs us → RA g w (ps ++ qs) (vs ++ us)
  | [], qs, vs, us, h, k => by simp [RA] at h; subst h; simpa using k
  | p :: ps, qs, vs, us, h, k => by
    simp only [RA] at h
    obtain ⟨v, r, rfl, hv, h⟩ := h
    simp only [List.cons_append, RA]
    exact ⟨v, _, rfl, hv, RA_append h k⟩

theorem RA_take {g w} : ∀ {ps vs} (n : Nat), RA g w ps vs → RA g w (ps.take n) (vs.take n)
  | ps, vs, 0, _ => by simp [RA]
  | [], vs, n + 1, h => by simp [RA] at h; subst h; simp [RA]
  | p :: ps, vs, n + 1, h => by
    simp only [RA] at h
    obtain ⟨v, r, rfl, hv, h⟩ := h
    simp only [List.take_succ_cons, RA]
    exact ⟨v, _, rfl, hv, RA_take n h⟩

theorem RA_drop {g w} : ∀ {ps vs} (n : Nat), RA g w ps vs → RA g w (ps.drop n) (vs.drop n)
  | ps, vs, 0, h => by simpa using h
  | [], vs, n + 1, h => by simp [RA] at h; subst h; simp [RA]
  | p :: ps, vs, n + 1, h => by
    simp only [RA] at h
    obtain ⟨v, r, rfl, hv, h⟩ := h
    simpa using RA_drop n h

theorem RA_set {g w} : ∀ {ps vs} (i : Nat) {p v}, RA g w ps vs → R g w p v → RA g w (ps.set i p) (vs.set i v)
  | [], vs, i, p, v, h, _ => by simp [RA] at h; subst h; simp [RA]
  | q :: ps, vs, 0, p, v, h, k => by
    simp only [RA] at h
    obtain ⟨u, r, rfl, hu, h⟩ := h
    simp only [List.set_cons_zero, RA]
    exact ⟨v, _, rfl, k, h⟩
  | q :: ps, vs, i + 1, p, v, h, k => by
    simp only [RA] at h
    obtain ⟨u, r, rfl, hu, h⟩ := h
    simp only [List.set_cons_succ, RA]
    exact ⟨u, _, rfl, hu, RA_set i h k⟩

/-! ## What stays -/

structure Ext (g : G) (w : World) (g' : G) (w' : World) : Prop where
  os : w'.os = w.os
  tape : w'.tape = w.tape
  output : w'.output = w.output
  size : w.heap.size ≤ w'.heap.size
  nxt : g.nxt ≤ g'.nxt
  rd : ∀ b o v, g.free b (o + 1) → w.cell? ⟨b, o, none⟩ = some v → w'.cell? ⟨b, o, none⟩ = some v
  free : ∀ b n, b < w.heap.size → g.free b n → g'.free b n
  same : ∀ b, b < w.heap.size → ¬ g.isRow b → g.lim b = none → w'.heap[b]? = w.heap[b]?
  rows : ∀ id, id < g.nxt → g'.rows id = g.rows id
  csz : ∀ b, b < w.heap.size → csize w' b = csize w b
  toks : ∀ t, t < g.nxt → ∀ b' L', g'.toks t = some (b', L') → ∃ b L, g.toks t = some (b, L) ∧ (L < L' ∨ (L = L' ∧ b = b' ∧ g'.lim b = g.lim b))

theorem Ext.refl (g : G) (w : World) : Ext g w g w :=
  ⟨rfl, rfl, rfl, Nat.le_refl _, Nat.le_refl _, fun _ _ _ _ h => h, fun _ _ _ h => h, fun _ _ _ _ => rfl, fun _ _ => rfl, fun _ _ => rfl,
    fun _ _ b' L' h => ⟨b', L', h, .inr ⟨rfl, rfl, rfl⟩⟩⟩

theorem cell_lt {w : World} {b o v} (h : w.cell? ⟨b, o, none⟩ = some v) : b < w.heap.size := by
  unfold World.cell? at h
  simp only at h
  split at h
  · rename_i hh
    exact (Array.getElem?_eq_some_iff.1 hh).1
  · cases h

theorem cell_csize {w : World} {b o v} (h : w.cell? ⟨b, o, none⟩ = some v) : o < csize w b := by
  unfold World.cell? at h
  unfold csize World.shape?
  simp only at h
  split at h
  · rename_i c _ _ hh
    simp only [Option.map_some, Option.getD_some]
    exact (Array.getElem?_eq_some_iff.1 (by simpa using h)).1
  · cases h

theorem Ext.trans {g w g' w' g'' w''} (h : Ext g w g' w') (k : Ext g' w' g'' w'') : Ext g w g'' w'' where
  os := k.os.trans h.os
  tape := k.tape.trans h.tape
  output := k.output.trans h.output
  size := Nat.le_trans h.size k.size
  nxt := Nat.le_trans h.nxt k.nxt
  rd := fun b o v hf hc => k.rd b o v (h.free b _ (cell_lt hc) hf) (h.rd b o v hf hc)
  free := fun b n hb hf => k.free b n (Nat.lt_of_lt_of_le hb h.size) (h.free b n hb hf)
  same := fun b hb hr hl => by
    have hf : ∀ n, g.free b n := fun n => ⟨hr, fun m hm => by rw [hl] at hm; cases hm⟩
    have hr' : ¬ g'.isRow b := (h.free b 0 hb (hf 0)).1
    have hl' : g'.lim b = none := by
      cases hm : g'.lim b with
      | none => rfl
      | some m => exact absurd ((h.free b (m + 1) hb (hf _)).2 m hm) (by omega)
    rw [k.same b (Nat.lt_of_lt_of_le hb h.size) hr' hl', h.same b hb hr hl]
  rows := fun id hid => by rw [k.rows id (Nat.lt_of_lt_of_le hid h.nxt), h.rows id hid]
  csz := fun b hb => by rw [k.csz b (Nat.lt_of_lt_of_le hb h.size), h.csz b hb]
  toks := fun t ht b'' L'' e => by
    obtain ⟨b', L', e', r'⟩ := k.toks t (Nat.lt_of_lt_of_le ht h.nxt) b'' L'' e
    obtain ⟨b, L, e0, r⟩ := h.toks t ht b' L' e'
    refine ⟨b, L, e0, ?_⟩
    rcases r with r | ⟨rfl, rfl, r⟩
    · rcases r' with r' | ⟨rfl, rfl, r'⟩
      · exact .inl (Nat.lt_trans r r')
      · exact .inl r
    · rcases r' with r' | ⟨rfl, rfl, r'⟩
      · exact .inl r'
      · exact .inr ⟨rfl, rfl, r'.trans r⟩

theorem free_mono {g : G} {b n m : Nat} (h : g.free b n) (k : m ≤ n) : g.free b m := ⟨h.1, fun x hx => Nat.le_trans k (h.2 x hx)⟩

theorem cellsAt_ext {g w g' w'} (h : Ext g w g' w') {b o : Nat} {vs : List Value} (hf : 0 < vs.length → g.free b (o + vs.length)) (hc : cellsAt w b o vs) : cellsAt w' b o vs :=
  fun j hj => h.rd b (o + j) _ (free_mono (hf (by omega)) (by omega)) (hc j hj)

theorem flat_length {sz : Nat} : ∀ {vs : List Value}, (∀ v ∈ vs, v.cells.size = sz) → (flat vs).length = vs.length * sz
  | [], _ => by simp [flat]
  | v :: vs, h => by
    have := flat_length (vs := vs) (sz := sz) fun u hu => h u (by simp [hu])
    have hv := h v (by simp)
    simp only [flat, List.flatMap_cons, List.length_append, List.length_cons] at *
    rw [this, Array.length_toList, hv, Nat.add_mul]
    omega

theorem slHead0_ext {g w g' w'} (h : Ext g w g' w') {k n vs v} (hn : n = vs.length) (hs : slHead0 g w k n vs v) : slHead0 g' w' k n vs v := by
  have main : ∀ k : SK, (∃ b o cap sz, v = .slice (some ⟨b, o, none⟩) n cap ∧ n ≤ cap ∧ 0 < sz ∧ (k = .clip → cap = n) ∧ (0 < n → g.free b (o + n * sz)) ∧ cellsAt w b o (flat vs) ∧
      (∀ v ∈ vs, v.cells.size = sz) ∧
      ∀ t z, k = .tok t z → sz = z ∧ t < g.nxt ∧ ∀ b' L, g.toks t = some (b', L) → n ≤ L ∧ (n = L → b' = b ∧ g.lim b = some (o + L * sz) ∧ o + cap * sz ≤ csize w b)) →
      (∃ b o cap sz, v = .slice (some ⟨b, o, none⟩) n cap ∧ n ≤ cap ∧ 0 < sz ∧ (k = .clip → cap = n) ∧ (0 < n → g'.free b (o + n * sz)) ∧ cellsAt w' b o (flat vs) ∧
      (∀ v ∈ vs, v.cells.size = sz) ∧
      ∀ t z, k = .tok t z → sz = z ∧ t < g'.nxt ∧ ∀ b' L, g'.toks t = some (b', L) → n ≤ L ∧ (n = L → b' = b ∧ g'.lim b = some (o + L * sz) ∧ o + cap * sz ≤ csize w' b)) := by
    rintro k ⟨b, o, cap, sz, hv, hcap, hsz, hcl, hfr, hce, hvs, ht⟩
    have hlen : (flat vs).length = n * sz := by rw [flat_length hvs, hn]
    have hfree : 0 < (flat vs).length → g.free b (o + (flat vs).length) := by
      intro hp
      rw [hlen] at hp ⊢
      exact hfr (Nat.pos_of_mul_pos_right hp)
    refine ⟨b, o, cap, sz, hv, hcap, hsz, hcl, ?_, cellsAt_ext h hfree hce, hvs, ?_⟩
    · intro hp
      have hp' : 0 < (flat vs).length := by rw [hlen]; exact Nat.mul_pos hp hsz
      exact h.free b _ (cell_lt (hce 0 hp')) (hfr hp)
    · intro t z e
      obtain ⟨h0, h1, h2⟩ := ht t z e
      refine ⟨h0, Nat.lt_of_lt_of_le h1 h.nxt, fun b' L' e' => ?_⟩
      obtain ⟨b0, L0, e0, r⟩ := h.toks t h1 b' L' e'
      obtain ⟨hle, hlive⟩ := h2 b0 L0 e0
      rcases r with r | ⟨rfl, rfl, r⟩
      · exact ⟨by omega, fun e => by omega⟩
      · refine ⟨hle, fun e => ?_⟩
        obtain ⟨rfl, hl, hc⟩ := hlive e
        refine ⟨rfl, by rw [r]; exact hl, ?_⟩
        by_cases hb : b0 < w.heap.size
        · rw [h.csz b0 hb]; exact hc
        · have : csize w b0 = 0 := by unfold csize World.shape?; rw [Array.getElem?_eq_none (by omega)]; rfl
          rw [this] at hc
          omega
  cases k with
  | nil => exact hs
  | clip => exact main .clip hs
  | any => exact main .any hs
  | tok t z => exact main (.tok t z) hs
  | unk => exact main .unk hs
  | unc => exact main .unc hs

theorem slHead_ext {g w g' w'} (h : Ext g w g' w') {k n vs v} (hn : n = vs.length) (hs : slHead g w k n vs v) : slHead g' w' k n vs v := by
  cases k with
  | unk => exact hs.imp (slHead0_ext (k := .nil) h hn) (slHead0_ext (k := .any) h hn)
  | unc => exact hs.imp (slHead0_ext (k := .nil) h hn) (slHead0_ext (k := .clip) h hn)
  | nil => exact slHead0_ext (k := .nil) h hn hs
  | clip => exact slHead0_ext (k := .clip) h hn hs
  | any => exact slHead0_ext (k := .any) h hn hs
  | tok t z => exact slHead0_ext (k := .tok t z) h hn hs

mutual
theorem R_ext {g w g' w'} (h : Ext g w g' w') : ∀ (p : PV) (v : Value), R g w p v → R g' w' p v
  | .int k n, v, r => by simpa only [R] using r
  | .bool b, v, r => by simpa only [R] using r
  | .str s, v, r => by simpa only [R] using r
  | .nilp, v, r => by simpa only [R] using r
  | .ptr id i j, v, r => by
    simp only [R] at r ⊢
    obtain ⟨h1, b, sz, h2, h3⟩ := r
    exact ⟨Nat.lt_of_lt_of_le h1 h.nxt, b, sz, by rw [h.rows id h1]; exact h2, h3⟩
  | .rptr cs, v, r => by
    simp only [R] at r ⊢
    obtain ⟨b, o, vs, hv, hf, hc, hfl, hr⟩ := r
    have hl := RA_length hr
    exact ⟨b, o, vs, hv, fun hp => h.free b _ (cell_lt (hc 0 (by omega))) (hf hp), cellsAt_ext h (fun hp => by rw [← hl]; exact hf (by omega)) hc, hfl, RA_ext h cs vs hr⟩
  | .sl k els, v, r => by
    simp only [R] at r ⊢
    obtain ⟨vs, hr, hs⟩ := r
    exact ⟨vs, RA_ext h els vs hr, slHead_ext h (RA_length hr) hs⟩
  | .own id off len, v, r => by
    simp only [R] at r ⊢
    obtain ⟨h0, b, sz, cap, h1, h2, h3, h4⟩ := r
    refine ⟨Nat.lt_of_lt_of_le h0 h.nxt, b, sz, cap, by rw [h.rows id h0]; exact h1, h2, h3, ?_⟩
    by_cases hb : b < w.heap.size
    · rw [h.csz b hb]; exact h4
    · have : csize w b = 0 := by unfold csize World.shape?; rw [Array.getElem?_eq_none (by omega)]; rfl
      omega
  | .agg cs, v, r => by
    simp only [R] at r ⊢
    obtain ⟨a, h1, h2, h3⟩ := r
    exact ⟨a, h1, h2, RA_ext h cs _ h3⟩
  | .tuple cs, v, r => by
    simp only [R] at r ⊢
    obtain ⟨a, h1, h3⟩ := r
    exact ⟨a, h1, RA_ext h cs _ h3⟩
  | .fn f first cap, v, r => by
    simp only [R] at r ⊢
    obtain ⟨x, y, h1, h2, h3⟩ := r
    exact ⟨x, y, h1, RA_ext h first _ h2, RA_ext h cap _ h3⟩
  | .nilf, v, r => by simpa only [R] using r
  | .iface t p, v, r => by
    simp only [R] at r ⊢
    obtain ⟨x, h1, h2⟩ := r
    exact ⟨x, h1, R_ext h p x h2⟩
  | .nili, v, r => by simpa only [R] using r
  | .map id, v, r => by
    simp only [R] at r ⊢
    obtain ⟨h1, b, sz, h2, h3⟩ := r
    exact ⟨Nat.lt_of_lt_of_le h1 h.nxt, b, sz, by rw [h.rows id h1]; exact h2, h3⟩
  | .nilm, v, r => by simpa only [R] using r
  | .gd b p, v, r => by
    simp only [R] at r ⊢
    exact fun hb => R_ext h p v (r hb)
  | .junk, v, r => by simp only [R]
theorem RA_ext {g w g' w'} (h : Ext g w g' w') : ∀ (ps : List PV) (vs : List Value), RA g w ps vs → RA g' w' ps vs
  | [], vs, r => by simpa only [RA] using r
  | p :: ps, vs, r => by
    simp only [RA] at r ⊢
    obtain ⟨v, r', h1, h2, h3⟩ := r
    exact ⟨v, r', h1, R_ext h p v h2, RA_ext h ps r' h3⟩
end

end Go.PM

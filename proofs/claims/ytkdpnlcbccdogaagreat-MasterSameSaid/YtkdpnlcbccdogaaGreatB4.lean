import Derived.Test.YtkdpnlcbccdogaaGreatB3
import Derived.Test.YtkdpnlcbccdogaaGreatB1
import Derived.Test.YtkdpnlcbccdogaaGreatB2
set_option linter.unusedVariables false
set_option linter.unusedSimpArgs false
namespace Go.Proofs
open Go.PM
set_option maxHeartbeats 2000000
structure QAt (s0 : St) (tp : Nat) (T : Tp) (q : List PV) (S : St) : Prop where
 nx : s0.nxt + 2 ≤ S.nxt
 tape : S.blk tp = some (.row 34 [T.pv])
 zero : S.blk s0.nxt = some (.row 31 [.agg [.int .i64 (0), .int .i64 (0), .int .i64 (0), .int .i64 (0), .int .i64 (0), .sl .nil [], .sl .nil [], .int .u16 (0), .int .u16 (0)]])
 row : S.blk (s0.nxt + 1) = some (.row 31 [.agg q])
 rest : ∀ j, j < s0.nxt → j ≠ tp → S.blk j = s0.blk j
theorem QAt.first {s0 : St} {tp : Nat} {T : Tp} {q : List PV} {a : Option Blk} (h : tp < s0.nxt) {x : Blk} : QAt s0 tp T q ((((((s0.new (.row 31 [.agg [.int .i64 (0), .int .i64 (0), .int .i64 (0), .int .i64 (0), .int .i64 (0), .sl .nil [], .sl .nil [], .int .u16 (0), .int .u16 (0)]])).set tp a).new x).set (s0.nxt + 1) (some (.row 31 [.agg q]))).set tp (some (.row 34 [T.pv])))) := by
 refine ⟨Nat.le_refl _, blk_set_self _ _ _, ?_, ?_, fun j hj hne => ?_⟩
 · simp (disch := first | omega | (simp only [nxt_set, nxt_new] <;> omega)) only [blk_set_ne, blk_new_ne, blk_new_eq]
 · simp (disch := first | omega | (simp only [nxt_set, nxt_new] <;> omega)) only [blk_set_ne, blk_new_ne, blk_set_self]
 · simp (disch := first | omega | (simp only [nxt_set, nxt_new] <;> omega)) only [blk_set_ne, blk_new_ne]
theorem Y273 {p : Prop} (h : p := by rw [blk_set_ne Y19]; exact h.zero) : p := h
theorem Y274 {p : Prop} (h : p := by rw [blk_set_ne Y19]; exact h.row) : p := h
theorem QAt.tp' {s0 : St} {tp : Nat} {T T' : Tp} {q : List PV} {S : St} (h : QAt s0 tp T q S) (hl : tp < s0.nxt) : QAt s0 tp T' q (S.set tp (some (.row 34 [T'.pv]))) :=
 ⟨h.nx, blk_set_self _ _ _, Y273, Y274, fun j hj hne => by rw [blk_set_ne hne]; exact h.rest j hj hne⟩
theorem QAt.rw' {s0 : St} {tp : Nat} {T : Tp} {q q' : List PV} {S : St} (h : QAt s0 tp T q S) (hl : tp < s0.nxt) : QAt s0 tp T q' (S.set (s0.nxt + 1) (some (.row 31 [.agg q']))) :=
 ⟨h.nx, by rw [blk_set_ne Y19]; exact h.tape, Y273, blk_set_self _ _ _, fun j hj hne => by rw [blk_set_ne Y19]; exact h.rest j hj hne⟩
theorem QAt.nw {s0 : St} {tp : Nat} {T : Tp} {q : List PV} {S : St} (h : QAt s0 tp T q S) (hl : tp < s0.nxt) (x : Blk) : QAt s0 tp T q (S.new x) := by
 have := h.nx
 exact ⟨Nat.le_succ_of_le h.nx, by rw [blk_new_ne Y19]; exact h.tape, by rw [blk_new_ne Y19]; exact h.zero, by rw [blk_new_ne Y19]; exact h.row, fun j hj hne => by rw [blk_new_ne Y19]; exact h.rest j hj hne⟩
theorem QAt.tk {s0 : St} {tp : Nat} {T : Tp} {q : List PV} {S : St} (h : QAt s0 tp T q S) (hl : tp < s0.nxt) {i : Nat} (hi : s0.nxt + 2 ≤ i) (x : Option Blk) : QAt s0 tp T q (S.set i x) :=
 ⟨h.nx, by rw [blk_set_ne Y19]; exact h.tape, Y273, Y274, fun j hj hne => by rw [blk_set_ne Y19]; exact h.rest j hj hne⟩
theorem aAppend_nilL {P : Program} {e : TypeId} {α : Type} {f : α → PV} {ys : List α} {s : St} {z : Nat} (hy : ys ≠ []) (hc : P.cellsOf e = z) :
   aAppend P e .nil [] (ys.map f) s = some (.sl (.tok s.nxt z) (ys.map f), s.new (.tok ys.length)) := by
 subst hc
 unfold aAppend
 rw [if_neg (by simpa using hy)]
 simp
def fnL : List Int := [1, 2, 3, 4, 5, 6, 8, 15, 16, 17, 22, 23]
def subL : List Int := [0, 10, 11, 12, 13, 14, 2, 300]
def vL : List Int := [0, 0, 0, 777]
theorem Y160 {p : Prop} (h : p := by rw [List.getElem?_map, List.getElem?_eq_getElem this]; rfl) : p := h
theorem fnL_get {u : Nat} (h : u ≤ 11) : ∃ f, (fnL.map (PV.int .i64))[u]? = some (.int .i64 f) ∧ f ∈ fnL := by
 have : u < fnL.length := by show u < 12; omega
 exact ⟨fnL[u], Y160, List.getElem_mem _⟩
theorem subL_get {u : Nat} (h : u ≤ 7) : ∃ f, (subL.map (PV.int .i64))[u]? = some (.int .i64 f) ∧ U16 f := by
 have : u < subL.length := by show u < 8; omega
 refine ⟨subL[u], Y160, ?_⟩
 have h : ∀ x ∈ subL, U16 x := by unfold U16; decide
 exact h _ (List.getElem_mem _)
theorem vL_get {u : Nat} (h : u ≤ 3) : ∃ f, (vL.map (PV.int .u16))[u]? = some (.int .u16 f) ∧ U16 f := by
 have : u < vL.length := by show u < 4; omega
 refine ⟨vL[u], Y160, ?_⟩
 have h : ∀ x ∈ vL, U16 x := by unfold U16; decide
 exact h _ (List.getElem_mem _)
theorem right5 {A : Int} (hA : 0 ≤ A ∧ A ≤ 65535) (b : Bool) : rightF ⟨5, A, 0, 0, 0, [b], [], 0, 0⟩ = 0 :=
 right_of ⟨by show hasF 5 = true; decide, decide_eq_true Y81, decide_eq_true hA, Y51, Y51, Y51, rfl, rfl, by show 1 ≤ _; decide, Y105⟩
theorem right6 {A : Int} (hA : 0 ≤ A ∧ A ≤ 65535) (v : Int) : rightF ⟨6, A, 0, 0, 0, [], [v], 0, 0⟩ = 0 :=
 right_of ⟨by show hasF 6 = true; decide, decide_eq_true Y81, decide_eq_true hA, Y51, Y51, Y51, rfl, rfl, Y105, by show 1 ≤ _; decide⟩
theorem right8 {A : Int} (hA : 0 ≤ A ∧ A ≤ 65535) (v : Int) : rightF ⟨8, 0, 0, 0, A, [], [v], 0, 0⟩ = 0 :=
 right_of ⟨by show hasF 8 = true; decide, decide_eq_true Y81, Y51, Y51, decide_eq_true hA, Y51, rfl, rfl, Y105, by show 1 ≤ _; decide⟩
theorem right17 : rightF ⟨17, 0, 0, 0, 0, [], [], 0, 0⟩ = 0 := Y20
theorem right23 {A C B : Int} {W : List Int} (hA : 0 ≤ A ∧ A ≤ 65535) (hC : 0 ≤ C ∧ C ≤ 65535) (hB : 0 ≤ B ∧ B ≤ 65535) (hl : W.length ≤ 127) : rightF ⟨23, A, C, B, 0, [], W, 0, 0⟩ = 0 :=
 right_of ⟨by show hasF 23 = true; decide, decide_eq_true Y81, decide_eq_true hA, decide_eq_true hB, Y51, decide_eq_true hC, rfl, rfl, Y105, hl⟩
theorem req_okT {q : Req} (h1 : 0 ≤ q.fn ∧ q.fn ≤ 255) (h2 : U16 q.at_) (h3 : U16 q.count) (h4 : U16 q.wat) (h5 : U16 q.sub) (h6 : OkW q.vals) (h7 : U16 q.and_) (h8 : U16 q.or_) (h9 : q.bits.length ≤ 2000) (h10 : q.vals.length ≤ 2000) : q.ok := by
 have lt : ∀ {z : Int}, U16 z → I64 z := fun h => by unfold U16 at h; constructor <;> omega
 exact ⟨Y144, lt h2, lt h3, lt h4, lt h5, h6, h7, h8, Y19, Y19⟩
theorem keep_Functions {s : St} : ACalls Tryz.prog 21 [] s (fun r s' => r = .sl .unk (fnL.map (PV.int .i64)) ∧ s' = s) := by
 refine go Tryz.func21 (k := fun hwf H => ?_)
 refine rs (k := rg [] (k := rs (k := rr (k := rO (k := rh [0] (k := rR (k := rP (by simp only [Tryz.f21, go_sem]; rfl) hwf ⟨?_, rfl⟩)))))))
 rfl
attribute [local go_sem] weaks_bools set_set
theorem Y52 {p : Prop} (h : p := by simp only [decide_eq_true_eq, decide_eq_false_iff_not] at *; omega) : p := h
theorem Y53 {p : Prop} (h : p := by dsimp only; first | omega | (simp; done) | (simp <;> omega) | (simp at hr1 ⊢; omega)) : p := h
theorem Y54 {p : Prop} (h : p := by repeat' first | assumption | omega | apply QAt.rw' | apply QAt.tp' | apply QAt.nw | apply QAt.tk) : p := h
theorem Y161 {p : Prop} (h : p := by rw [Tryz.cz29]; first | done | rfl) : p := h
theorem Y55 {p : Prop} (h : p := by first | exact isEls_map (P := Tryz.prog) (e := 29) (f := (PV.int .u16)) (fun a => ⟨rfl, Y161⟩) _ | (intro p hp; cases hp)) : p := h
theorem Y106 {p : Prop} (h : p := by simp (disch := first | omega | (simp only [nxt_set, nxt_new] <;> omega)) only [blk_set_ne, blk_new_eq, nxt_set] <;> first | rfl | exact blk_new_eq) : p := h
theorem Y107 {p : Prop} (h : p := by intro q hq; rw [List.mem_singleton.1 hq]; simp only; rw [← hy6]; exact tape_Next hT3 hQ3.tape) : p := h
theorem Y108 {p : Prop} (h : p := by intro q hq; rw [List.mem_singleton.1 hq]; exact aAppend_tokL (f := (PV.int .u16)) (xs := L) (ys := [y6]) rfl Y81 (by rw [blk_set_ne Y19]; exact htb) rfl (by rw [Tryz.cz29])) : p := h
theorem Y162 {p : Prop} (h : p := by rw [u16_wrap]; omega) : p := h
theorem Y275 {p : Prop} (h : p := by rw [Tryz.cz4]; first | done | rfl) : p := h
theorem Y163 {p : Prop} (h : p := by first | exact isEls_map (P := Tryz.prog) (e := 4) (f := PV.bool) (fun a => ⟨rfl, Y275⟩) _ | (intro p hp; cases hp)) : p := h
theorem Y164 {p : Prop} (h : p := by simp at hr1 ⊢ <;> omega) : p := h
theorem Y165 {p : Prop} (h : p := by intro q hq; rw [List.mem_singleton.1 hq]; exact aAppend_nilL (f := (PV.int .u16)) (ys := [y6]) Y81 (by rw [Tryz.cz29])) : p := h
theorem Y166 {p : Prop} (h : p := by intro y hy; rcases List.mem_append.1 hy with hy | hy; exact hLo y hy; rw [List.mem_singleton.1 hy]; exact ⟨Y19, Y19⟩) : p := h
theorem Y220 {p : Prop} (h : p := by intro q hq; rw [List.mem_singleton.1 hq]; simp only; rw [← hy2]; exact tape_Next hT3 hQ3.tape) : p := h
theorem Y221 {p : Prop} (h : p := by rw [Tryz.by29]; simp <;> omega) : p := h
theorem Y276 {p : Prop} (h : p := by rw [blk_set_ne Y19, blk_set_self]) : p := h
theorem Y277 {p : Prop} (h : p := by intro y hy; rw [List.mem_singleton.1 hy]; exact ⟨Y19, Y19⟩) : p := h
set_option maxRecDepth 100000 in
theorem tape_RequestL {T : Tp} (hT : T.ok) {s : St} {tp : Nat} (hb : s.blk tp = some (.row 34 [T.pv])) : ACalls Tryz.prog 9 [.ptr tp 0 0] s (fun r s' => ∃ (q : Req) (T' : Tp), r = q.pv ∧ s' = s.set tp (some (.row 34 [T'.pv])) ∧ T'.ok ∧ q.ok ∧ rightF q = 0 ∧ q.bits.length ≤ 30 ∧ q.vals.length ≤ 30) := by
 refine go Tryz.func9 (k := fun hwf H => ?_)
 have hlt : tp < s.nxt := lt_blk hwf hb
 have hFt : (s.nxt = tp) = False := eq_false Y19
 have htF : (tp = s.nxt) = False := eq_false Y19
 have hRt : (s.nxt + 1 = tp) = False := eq_false Y19
 have htR : (tp = s.nxt + 1) = False := eq_false Y19
 have zU : U16 0 := Y21
 have zW : OkW [] := fun x hx => (List.not_mem_nil hx).elim
 have hv12 := T.val_bound (n := 12) Y20
 obtain ⟨u, hu, hue⟩ := T.val_nat (n := 12) Y20
 have hue : T.val 12 = (u : Int) := hue
 obtain ⟨f, hfu, hfm⟩ := fnL_get (u := u) Y19
 have hflen : (u < 12) = True := eq_true Y19
 have H := aj hFt (aj htF (aj hRt (aj htR H)))
 refine rs (k := rg [0, 2] (k := rs (k := ?_)))
 have H := aj hue (aj hfu (aj hflen H))
 refine rr (k := rC (h := keep_Functions) (k := ro (pre := [_]) (k := ?_)))
 refine RunO.callw au au au Y25 ((tape_Next hT (n := 12) (by simp only [go_sem, htF, ↓reduceIte]; exact hb)).mono ?_)
 rintro r s9 ⟨rfl, hs⟩
 subst s9
 refine rh [0, 2, 3] (k := rs (k := rr (k := ro (pre := [_]) (k := ?_))))
 refine RunO.callw au au au Y25 ((tape_Next (hT.nx 12) (n := 70) (by simp only [go_sem, htR, htF, ↓reduceIte])).mono ?_)
 rintro r s9 ⟨rfl, hs⟩
 subst s9
 refine rh [0, 2, 3, 4] (k := rs (k := rs (k := ?_)))
 refine Run.genS fun S hS => ?_
 obtain ⟨T2, hT2e⟩ : ∃ y, (T.nx 12).nx 70 = y := ⟨_, rfl⟩
 have hT2 : T2.ok := by rw [← hT2e]; exact (hT.nx 12).nx 70
 have hab := (T.nx 12).val_bound (n := 70) Y20
 obtain ⟨a, ha⟩ : ∃ y, (T.nx 12).val 70 = y := ⟨_, rfl⟩
 rw [ha] at hab
 rw [ha]
 have hU : U16 a := ⟨Y19, Y19⟩
 have hQ : QAt s tp T2 [.int .i64 (f), .int .i64 (0), .int .i64 (0), .int .i64 (0), .int .i64 (0), .sl .nil [], .sl .nil [], .int .u16 (0), .int .u16 (0)] S := by rw [hS, ← hT2e]; exact QAt.first hlt
 have hQr := hQ.row
 have hQz := hQ.zero
 clear hS
 have H := aj hQr (aj hQz H)
 refine rg [0, 2, 3, 4, 17] (k := ?_)
 refine Run.join (fun e s' => ∃ (T' : Tp) (q : Req) (kb kv : SK), e = [(2, .ptr s.nxt 0 0), (3, .ptr (s.nxt + 1) 0 0)] ∧ T'.ok ∧ q.ok ∧ (rightF q = 0 ∧ q.bits.length ≤ 30 ∧ q.vals.length ≤ 30) ∧ QAt s tp T' [.int .i64 q.fn, .int .i64 q.at_, .int .i64 q.count, .int .i64 q.wat, .int .i64 q.sub, .sl kb (q.bits.map PV.bool), .sl kv (q.vals.map (PV.int .u16)), .int .u16 q.and_, .int .u16 q.or_] s') ?_ ?_
 · rintro e SJ ⟨TJ, q, kb, kv, rfl, hTJ, hq, hr, hQJ⟩
   have hJr := hQJ.row
   have hJz := hQJ.zero
   have H := aj hJr (aj hJz H)
   refine rs (k := rg [2] (k := rR (k := ?_)))
   refine Ret.baseK (r' := q.pv) tp (.row 34 [TJ.pv]) hlt (by simp only [Tryz.f9, go_sem, ↓reduceIte] <;> rfl) (by simp only [Req.pv, PV.weak, PV.weaks, weaks_bools, weaks_u16]) (blw_req _ _) (by simp only [Blk.blw, PV.blws]; exact ⟨blw_tape _ _, trivial⟩) hwf (fun i hi => ?_) ⟨q, TJ, rfl, rfl, hTJ, hq, hr⟩
   rw [blk_set_ne Y19, blk_set]
   split
   · rename_i e; rw [e]; exact hQJ.tape
   · rename_i e; exact hQJ.rest i hi e
 intro hJb0
 refine rb (k := rs (k := rs (k := rg [0, 2, 3, 4, 17, 18] (k := rc (ht := fun hc0 => ?_) (hf := fun hc0 => ?_)))))
 refine rk (k := rc (ht := fun hc3 => ?_) (hf := fun hc3 => ?_))
 refine jO 1 ?_; rotate_left
 · exact Bool.noConfusion (hc0.symm.trans hc3)
 refine rs (k := rg [0, 2, 3, 4, 17, 18] (k := rc (ht := fun hc1 => ?_) (hf := fun hc1 => ?_)))
 refine rk (k := rc (ht := fun hc3 => ?_) (hf := fun hc3 => ?_))
 refine jO 1 ?_; rotate_left
 · exact Bool.noConfusion (hc1.symm.trans hc3)
 refine rs (k := rg [0, 2, 3, 4, 17, 18] (k := rc (ht := fun hc2 => ?_) (hf := fun hc2 => ?_)))
 refine rk (k := rc (ht := fun hc3 => ?_) (hf := fun hc3 => ?_))
 refine jO 1 ?_; rotate_left
 · exact Y204
 refine rg [0, 2, 3, 4, 17, 18] (k := rc (ht := fun hc3 => ?_) (hf := fun hc3 => ?_))
 refine jO 1 ?_; rotate_left
 · refine rs (k := rg [0, 2, 3, 4, 17, 28] (k := rc (ht := fun hc4 => ?_) (hf := fun hc4 => ?_)))
   · have hy2b := (T2).val_bound (n := 2) Y20
     obtain ⟨y2, hy2⟩ : ∃ y, (T2).val 2 = y := ⟨_, rfl⟩
     rw [hy2] at hy2b
     have H := aj hy2 H
     refine rr (k := ro (pre := [_, _]) (k := ?_))
     refine RunO.callw au au au Y25 ((tape_Next hT2 (n := 2) hQ.tape).mono ?_)
     rintro r s9 ⟨rfl, hs⟩
     subst s9
     refine ro (pre := [_]) (k := rO (k := rh [2, 3] (k := rB (k := ?_))))
     have hf5 : f = 5 := Y52
     subst hf5
     exact hJb0 _ _ ⟨T2.nx 2, ⟨5, a, 0, 0, 0, [decide (y2 = 1)], [], 0, 0⟩, .clip, .nil, rfl, hT2.nx 2, (req_okT Y81 hU zU zU zU zW zU zU Y81 Y81), ⟨(right5 Y19 _), Y53, Y53⟩, Y54⟩
   · refine rs (k := rg [0, 2, 3, 4, 17, 37] (k := rc (ht := fun hc5 => ?_) (hf := fun hc5 => ?_)))
     · have hy6b := (T2).val_bound (n := 65536) Y20
       obtain ⟨y6, hy6⟩ : ∃ y, (T2).val 65536 = y := ⟨_, rfl⟩
       rw [hy6] at hy6b
       have hw6 : IntKind.u16.wrap y6 = y6 := Y162
       have H := aj hy6 (aj hw6 H)
       refine rr (k := ro (pre := [_, _]) (k := ?_))
       refine RunO.callw au au au Y25 ((tape_Next hT2 (n := 65536) hQ.tape).mono ?_)
       rintro r s9 ⟨rfl, hs⟩
       subst s9
       refine ro (pre := [_]) (k := rO (k := rh [2, 3] (k := rB (k := ?_))))
       have hf5 : f = 6 := Y52
       subst hf5
       exact hJb0 _ _ ⟨T2.nx 65536, ⟨6, a, 0, 0, 0, [], [y6], 0, 0⟩, .nil, .clip, rfl, hT2.nx 65536, (req_okT Y81 hU zU zU zU (OkW.one (show U16 y6 from ⟨Y19, Y19⟩)) zU zU Y81 Y81), ⟨(right6 Y19 _), Y53, Y53⟩, Y54⟩
     · refine rs (k := rg [0, 2, 3, 4, 17, 46] (k := rc (ht := fun hc6 => ?_) (hf := fun hc6 => ?_)))
       · obtain ⟨x8, hx8, hx8e⟩ := T2.val_nat (n := 8) Y20
         have hx8e : T2.val 8 = (x8 : Int) := hx8e
         obtain ⟨sb, hsb, hsbU⟩ := subL_get (u := x8) Y19
         obtain ⟨x4, hx4, hx4e⟩ := (T2.nx 8).val_nat (n := 4) Y20
         have hx4e : (T2.nx 8).val 4 = (x4 : Int) := hx4e
         obtain ⟨vv, hvv, hvvU⟩ := vL_get (u := x4) Y19
         have hl8 : (x8 < 8) = True := eq_true Y19
         have hl4 : (x4 < 4) = True := eq_true Y19
         simp only [subL, vL, List.map_cons, List.map_nil] at hsb hvv
         have H := aj hx8e (aj hsb (aj hx4e (aj hvv (aj hl8 (aj hl4 H)))))
         refine rH 15 [2, 7, 12, 14] [[false, false, false, false], [true, false, false, false], [true, true, false, false], [true, true, true, false], [true, true, true, true]] [S, (S.set tp (some (.row 34 [(T2.nx 8).pv]))), ((S.set tp (some (.row 34 [(T2.nx 8).pv]))).set tp (some (.row 34 [((T2.nx 8).nx 4).pv]))), (((S.set tp (some (.row 34 [(T2.nx 8).pv]))).set tp (some (.row 34 [((T2.nx 8).nx 4).pv]))).set (s.nxt + 1) (some (.row 31 [.agg [.int .i64 (f), .int .i64 (0), .int .i64 (0), .int .i64 (0), .int .i64 (sb), .sl .nil [], .sl .nil [], .int .u16 (0), .int .u16 (0)]]))), ((((S.set tp (some (.row 34 [(T2.nx 8).pv]))).set tp (some (.row 34 [((T2.nx 8).nx 4).pv]))).set (s.nxt + 1) (some (.row 31 [.agg [.int .i64 (f), .int .i64 (0), .int .i64 (0), .int .i64 (0), .int .i64 (sb), .sl .nil [], .sl .nil [], .int .u16 (0), .int .u16 (0)]]))).set (s.nxt + 1) (some (.row 31 [.agg [.int .i64 (f), .int .i64 (0), .int .i64 (0), .int .i64 (0), .int .i64 (sb), .sl .nil [], .sl .clip [.int .u16 vv], .int .u16 (0), .int .u16 (0)]])))] Tryz.mixed (k := ?_)
         refine dP [0, 1, 2] (pre := [_, _]) (k := ?_)
         refine dX (v := .int .i64 x8) [(0, 1)] (h := by intro q hq; rw [List.mem_singleton.1 hq]; simp only; rw [← hx8e]; exact tape_Next hT2 hQ.tape) (k := ?_)
         refine dP [0, 1, 2, 3] (pre := [_, _, _, _]) (k := ?_)
         refine dX (v := .int .i64 x4) [(1, 2)] (h := by intro q hq; rw [List.mem_singleton.1 hq]; simp only; rw [← hx4e]; exact tape_Next (hT2.nx 8) (blk_set_self _ _ _)) (k := ?_)
         refine dP [1, 2, 3] (pre := [_, _, _, _]) (k := ?_)
         refine dE [(2, 3)] (k := ?_)
         refine dP [3] (pre := [_]) (k := ?_)
         refine dE [(3, 4)] (k := ?_)
         refine DetHC.nil ?_
         refine rl [2, 3] (k := rB (k := ?_))
         have hf5 : f = 8 := Y52
         subst hf5
         exact hJb0 _ _ ⟨(T2.nx 8).nx 4, ⟨8, 0, 0, 0, sb, [], [vv], 0, 0⟩, .nil, .clip, rfl, (hT2.nx 8).nx 4, (req_okT Y81 zU zU zU hsbU (OkW.one hvvU) zU zU Y81 Y81), ⟨(right8 (by unfold U16 at hsbU; omega) _), Y53, Y53⟩, Y54⟩
       · refine rs (k := rg [0, 2, 3, 4, 17, 61] (k := rc (ht := fun hc7 => ?_) (hf := fun hc7 => ?_)))
         · refine rs (k := ?_)
           have hf5 : f = 15 := Y52
           subst hf5
           have hy26b := (T2).val_bound (n := 26) Y20
           obtain ⟨y26, hy26⟩ : ∃ y, (T2).val 26 = y := ⟨_, rfl⟩
           rw [hy26] at hy26b
           have H := aj hy26 H
           refine rr (k := ro (pre := [_, _]) (k := ?_))
           refine RunO.callw au au au Y25 ((tape_Next hT2 (n := 26) hQ.tape).mono ?_)
           rintro r s9 ⟨rfl, hs⟩
           subst s9
           refine rh [0, 2, 3] (k := rs (k := rg [0, 2, 3, 5] (k := rb (k := ?_))))
           refine Run.loop (fun e s' => ∃ (T3 : Tp) (i : Nat) (L : List Bool) (k : SK), e = [(0, .ptr tp 0 0), (2, .ptr s.nxt 0 0), (3, .ptr (s.nxt + 1) 0 0), (5, .int .i64 (i : Int))] ∧ T3.ok ∧ QAt s tp T3 [.int .i64 (15), .int .i64 (a), .int .i64 (y26), .int .i64 (0), .int .i64 (0), .sl k (L.map PV.bool), .sl .nil [], .int .u16 (0), .int .u16 (0)] s' ∧ L.length = i ∧ (i : Int) ≤ y26 ∧ (k = .nil ∧ L = [] ∨ ∃ t, k = .tok t 1 ∧ s.nxt + 2 ≤ t ∧ s'.blk t = some (.tok L.length))) (fun e s' => y26.toNat - ivar e 5) ?_ ?_
           · exact ⟨T2.nx 26, 0, [], .nil, rfl, hT2.nx 26, Y54, rfl, Y19, .inl ⟨rfl, rfl⟩⟩
           rintro e S3 ⟨T3, i, L, k, rfl, hT3, hQ3, hr1, hr2, hk⟩
           have h3r := hQ3.row
           have h3t := hQ3.tape
           have h3n := hQ3.nx
           have hN1 : (s.nxt + 1 = S3.nxt) = False := eq_false Y19
           have hN2 : (tp = S3.nxt) = False := eq_false Y19
           have H := aj h3r (aj h3t (aj hN1 (aj hN2 H)))
           rcases hk with ⟨rfl, rfl⟩ | ⟨t, rfl, htn, htb⟩
           · simp only [List.length_nil] at hr1
             refine rs (k := rs (k := rg [0, 2, 3, 5, 71] (k := rc (ht := fun hc8 => ?_) (hf := fun hc8 => ?_))))
             · refine rk (k := rs (k := rb (k := ?_)))
               have hy2b := (T3).val_bound (n := 2) Y20
               obtain ⟨y2, hy2⟩ : ∃ y, (T3).val 2 = y := ⟨_, rfl⟩
               rw [hy2] at hy2b
               have hic : (i : Int) < y26 := of_decide_eq_true hc8
               refine rH 9 [3, 6, 8] [[false, false, false], [true, false, false], [true, true, false], [true, true, true]] [S3, (S3.set tp (some (.row 34 [(T3.nx 2).pv]))), ((S3.set tp (some (.row 34 [(T3.nx 2).pv]))).new (.tok [decide (y2 = 1)].length)), (((S3.set tp (some (.row 34 [(T3.nx 2).pv]))).new (.tok [decide (y2 = 1)].length)).set (s.nxt + 1) (some (.row 31 [.agg [.int .i64 (15), .int .i64 (a), .int .i64 (y26), .int .i64 (0), .int .i64 (0), .sl (.tok S3.nxt 1) ([decide (y2 = 1)].map PV.bool), .sl .nil [], .int .u16 (0), .int .u16 (0)]])))] Tryz.mixed (k := ?_)
               refine dP [0, 1] (pre := [_, _, _]) (k := ?_)
               refine dX (v := .int .i64 y2) [(0, 1)] (h := Y220) (k := ?_)
               refine dP [1] (pre := [_, _]) (k := ?_)
               refine DetHC.app (kx := .nil) (xs := []) (ys := [decide (y2 = 1)].map PV.bool) (v := .sl (.tok S3.nxt 1) ([decide (y2 = 1)].map PV.bool)) [(1, 2)] _ Y25 pq au au au Tryz.td27 (by rw [Tryz.zp4]; rfl) Y163 (isEls_map (P := Tryz.prog) (e := 4) (f := PV.bool) (fun a => ⟨rfl, Y275⟩) _) (by rw [Tryz.by4]; decide) (by rw [Tryz.by4]; simp <;> omega) (by intro q hq; rw [List.mem_singleton.1 hq]; exact aAppend_nilL (f := PV.bool) (ys := [decide (y2 = 1)]) Y81 (by rw [Tryz.cz4])) ?_
               refine dP [2] (pre := [_]) (k := ?_)
               refine dE [(2, 3)] (k := ?_)
               refine DetHC.nil ?_
               refine rl [0, 2, 3, 5] (k := rB (k := ?_))
               have hwi : IntKind.i64.wrap ((i : Int) + 1) = ((i + 1 : Nat) : Int) := Y27
               have H := aj hwi H
               refine rg [0, 2, 3, 5] (k := ?_)
               refine Run.lp ⟨⟨T3.nx 2, i + 1, [decide (y2 = 1)], (.tok S3.nxt 1), rfl, hT3.nx 2, Y54, Y164, Y19, .inr ⟨S3.nxt, rfl, hQ3.nx, Y106⟩⟩, ?_⟩
               simp only [ivar, ivar1, go_sem, ↓reduceIte, Nat.reduceEqDiff]
               omega
             · refine rX (k := rB (k := ?_))
               have hie : (0 : Int) = y26 := Y52
               rw [← hie] at hQ3
               refine rp [2, 3] (k := ?_)
               exact hJb0 _ _ ⟨T3, ⟨15, a, 0, 0, 0, [], [], 0, 0⟩, .nil, .nil, rfl, hT3, (req_okT Y81 hU zU zU zU zW zU zU Y81 Y81), ⟨(right15 (W := []) Y19 Y81), Y53, Y53⟩, Y54⟩
           · have hN3 : (s.nxt + 1 = t) = False := eq_false Y19
             have hN4 : (tp = t) = False := eq_false Y19
             have hN5 : (t = tp) = False := eq_false Y19
             have hN6 : (t = s.nxt + 1) = False := eq_false Y19
             have H := aj hN3 (aj hN4 (aj hN5 (aj hN6 H)))
             refine rs (k := rs (k := rg [0, 2, 3, 5, 71] (k := rc (ht := fun hc8 => ?_) (hf := fun hc8 => ?_))))
             · refine rk (k := rs (k := rb (k := ?_)))
               have hy2b := (T3).val_bound (n := 2) Y20
               obtain ⟨y2, hy2⟩ : ∃ y, (T3).val 2 = y := ⟨_, rfl⟩
               rw [hy2] at hy2b
               have hic : (i : Int) < y26 := of_decide_eq_true hc8
               refine rH 9 [3, 6, 8] [[false, false, false], [true, false, false], [true, true, false], [true, true, true]] [S3, (S3.set tp (some (.row 34 [(T3.nx 2).pv]))), ((S3.set tp (some (.row 34 [(T3.nx 2).pv]))).set t (some (.tok (L ++ [decide (y2 = 1)]).length))), (((S3.set tp (some (.row 34 [(T3.nx 2).pv]))).set t (some (.tok (L ++ [decide (y2 = 1)]).length))).set (s.nxt + 1) (some (.row 31 [.agg [.int .i64 (15), .int .i64 (a), .int .i64 (y26), .int .i64 (0), .int .i64 (0), .sl (.tok t 1) ((L ++ [decide (y2 = 1)]).map PV.bool), .sl .nil [], .int .u16 (0), .int .u16 (0)]])))] Tryz.mixed (k := ?_)
               refine dP [0, 1] (pre := [_, _, _]) (k := ?_)
               refine dX (v := .int .i64 y2) [(0, 1)] (h := Y220) (k := ?_)
               refine dP [1] (pre := [_, _]) (k := ?_)
               refine DetHC.app (kx := (.tok t 1)) (xs := L.map PV.bool) (ys := [decide (y2 = 1)].map PV.bool) (v := .sl (.tok t 1) ((L ++ [decide (y2 = 1)]).map PV.bool)) [(1, 2)] _ Y25 pq au au au Tryz.td27 (by rw [Tryz.zp4]; rfl) Y163 (isEls_map (P := Tryz.prog) (e := 4) (f := PV.bool) (fun a => ⟨rfl, Y275⟩) _) (by rw [Tryz.by4]; decide) (by rw [Tryz.by4]; simp <;> omega) (by intro q hq; rw [List.mem_singleton.1 hq]; exact aAppend_tokL (f := PV.bool) (xs := L) (ys := [decide (y2 = 1)]) rfl Y81 (by rw [blk_set_ne Y19]; exact htb) rfl (by rw [Tryz.cz4])) ?_
               refine dP [2] (pre := [_]) (k := ?_)
               refine dE [(2, 3)] (k := ?_)
               refine DetHC.nil ?_
               refine rl [0, 2, 3, 5] (k := rB (k := ?_))
               have hwi : IntKind.i64.wrap ((i : Int) + 1) = ((i + 1 : Nat) : Int) := Y27
               have H := aj hwi H
               refine rg [0, 2, 3, 5] (k := ?_)
               refine Run.lp ⟨⟨T3.nx 2, i + 1, (L ++ [decide (y2 = 1)]), (.tok t 1), rfl, hT3.nx 2, Y54, Y164, Y19, .inr ⟨t, rfl, htn, Y276⟩⟩, ?_⟩
               simp only [ivar, ivar1, go_sem, ↓reduceIte, Nat.reduceEqDiff]
               omega
             · refine rX (k := rB (k := ?_))
               have hie : ((L.length : Nat) : Int) = y26 := Y52
               rw [← hie] at hQ3
               refine rp [2, 3] (k := ?_)
               exact hJb0 _ _ ⟨T3, ⟨15, a, L.length, 0, 0, L, [], 0, 0⟩, _, .nil, rfl, hT3, (req_okT Y81 hU (show U16 ((L.length : Nat) : Int) from ⟨Y19, Y19⟩) zU zU zW zU zU (by simp <;> omega) Y81), ⟨(right15 Y19 Y19), Y53, Y53⟩, Y54⟩
         · refine rs (k := rg [0, 2, 3, 4, 17, 82] (k := rc (ht := fun hc9 => ?_) (hf := fun hc9 => ?_)))
           · refine rs (k := ?_)
             have hf5 : f = 16 := Y52
             subst hf5
             have hy26b := (T2).val_bound (n := 26) Y20
             obtain ⟨y26, hy26⟩ : ∃ y, (T2).val 26 = y := ⟨_, rfl⟩
             rw [hy26] at hy26b
             have H := aj hy26 H
             refine rr (k := ro (pre := [_, _]) (k := ?_))
             refine RunO.callw au au au Y25 ((tape_Next hT2 (n := 26) hQ.tape).mono ?_)
             rintro r s9 ⟨rfl, hs⟩
             subst s9
             refine rh [0, 2, 3] (k := rs (k := rg [0, 2, 3, 6] (k := rb (k := ?_))))
             refine Run.loop (fun e s' => ∃ (T3 : Tp) (i : Nat) (L : List Int) (k : SK), e = [(0, .ptr tp 0 0), (2, .ptr s.nxt 0 0), (3, .ptr (s.nxt + 1) 0 0), (6, .int .i64 (i : Int))] ∧ T3.ok ∧ QAt s tp T3 [.int .i64 (16), .int .i64 (a), .int .i64 (y26), .int .i64 (0), .int .i64 (0), .sl .nil [], .sl k (L.map (PV.int .u16)), .int .u16 (0), .int .u16 (0)] s' ∧ L.length = i ∧ (i : Int) ≤ y26 ∧ (k = .nil ∧ L = [] ∨ ∃ t, k = .tok t 1 ∧ s.nxt + 2 ≤ t ∧ s'.blk t = some (.tok L.length)) ∧ OkW L) (fun e s' => y26.toNat - ivar e 6) ?_ ?_
             · exact ⟨T2.nx 26, 0, [], .nil, rfl, hT2.nx 26, Y54, rfl, Y19, .inl ⟨rfl, rfl⟩, zW⟩
             rintro e S3 ⟨T3, i, L, k, rfl, hT3, hQ3, hr1, hr2, hk, hLo⟩
             have h3r := hQ3.row
             have h3t := hQ3.tape
             have h3n := hQ3.nx
             have hN1 : (s.nxt + 1 = S3.nxt) = False := eq_false Y19
             have hN2 : (tp = S3.nxt) = False := eq_false Y19
             have H := aj h3r (aj h3t (aj hN1 (aj hN2 H)))
             rcases hk with ⟨rfl, rfl⟩ | ⟨t, rfl, htn, htb⟩
             · simp only [List.length_nil] at hr1
               refine rs (k := rs (k := rg [0, 2, 3, 6, 92] (k := rc (ht := fun hc10 => ?_) (hf := fun hc10 => ?_))))
               · refine rk (k := rs (k := rb (k := ?_)))
                 have hy6b := (T3).val_bound (n := 65536) Y20
                 obtain ⟨y6, hy6⟩ : ∃ y, (T3).val 65536 = y := ⟨_, rfl⟩
                 rw [hy6] at hy6b
                 have hic : (i : Int) < y26 := of_decide_eq_true hc10
                 have hw6 : IntKind.u16.wrap y6 = y6 := Y162
                 have H := aj hw6 H
                 refine rH 9 [3, 6, 8] [[false, false, false], [true, false, false], [true, true, false], [true, true, true]] [S3, (S3.set tp (some (.row 34 [(T3.nx 65536).pv]))), ((S3.set tp (some (.row 34 [(T3.nx 65536).pv]))).new (.tok [y6].length)), (((S3.set tp (some (.row 34 [(T3.nx 65536).pv]))).new (.tok [y6].length)).set (s.nxt + 1) (some (.row 31 [.agg [.int .i64 (16), .int .i64 (a), .int .i64 (y26), .int .i64 (0), .int .i64 (0), .sl .nil [], .sl (.tok S3.nxt 1) ([y6].map (PV.int .u16)), .int .u16 (0), .int .u16 (0)]])))] Tryz.mixed (k := ?_)
                 refine dP [0, 1] (pre := [_, _, _]) (k := ?_)
                 refine dX (v := .int .i64 y6) [(0, 1)] (h := Y107) (k := ?_)
                 refine dP [1] (pre := [_, _]) (k := ?_)
                 refine DetHC.app (kx := .nil) (xs := []) (ys := [y6].map (PV.int .u16)) (v := .sl (.tok S3.nxt 1) ([y6].map (PV.int .u16))) [(1, 2)] _ Y25 pq au au au Tryz.td28 Y200 Y55 (isEls_map (P := Tryz.prog) (e := 29) (f := (PV.int .u16)) (fun a => ⟨rfl, Y161⟩) _) Y201 Y221 Y165 ?_
                 refine dP [2] (pre := [_]) (k := ?_)
                 refine dE [(2, 3)] (k := ?_)
                 refine DetHC.nil ?_
                 refine rl [0, 2, 3, 6] (k := rB (k := ?_))
                 have hwi : IntKind.i64.wrap ((i : Int) + 1) = ((i + 1 : Nat) : Int) := Y27
                 have H := aj hwi H
                 refine rg [0, 2, 3, 6] (k := ?_)
                 refine Run.lp ⟨⟨T3.nx 65536, i + 1, [y6], (.tok S3.nxt 1), rfl, hT3.nx 65536, Y54, Y164, Y19, .inr ⟨S3.nxt, rfl, hQ3.nx, Y106⟩, Y277⟩, ?_⟩
                 simp only [ivar, ivar1, go_sem, ↓reduceIte, Nat.reduceEqDiff]
                 omega
               · refine rX (k := rB (k := ?_))
                 have hie : (0 : Int) = y26 := Y52
                 rw [← hie] at hQ3
                 refine rp [2, 3] (k := ?_)
                 exact hJb0 _ _ ⟨T3, ⟨16, a, 0, 0, 0, [], [], 0, 0⟩, .nil, .nil, rfl, hT3, (req_okT Y81 hU zU zU zU zW zU zU Y81 Y81), ⟨(right16 (W := []) Y19 Y81), Y53, Y53⟩, Y54⟩
             · have hN3 : (s.nxt + 1 = t) = False := eq_false Y19
               have hN4 : (tp = t) = False := eq_false Y19
               have hN5 : (t = tp) = False := eq_false Y19
               have hN6 : (t = s.nxt + 1) = False := eq_false Y19
               have H := aj hN3 (aj hN4 (aj hN5 (aj hN6 H)))
               refine rs (k := rs (k := rg [0, 2, 3, 6, 92] (k := rc (ht := fun hc10 => ?_) (hf := fun hc10 => ?_))))
               · refine rk (k := rs (k := rb (k := ?_)))
                 have hy6b := (T3).val_bound (n := 65536) Y20
                 obtain ⟨y6, hy6⟩ : ∃ y, (T3).val 65536 = y := ⟨_, rfl⟩
                 rw [hy6] at hy6b
                 have hic : (i : Int) < y26 := of_decide_eq_true hc10
                 have hw6 : IntKind.u16.wrap y6 = y6 := Y162
                 have H := aj hw6 H
                 refine rH 9 [3, 6, 8] [[false, false, false], [true, false, false], [true, true, false], [true, true, true]] [S3, (S3.set tp (some (.row 34 [(T3.nx 65536).pv]))), ((S3.set tp (some (.row 34 [(T3.nx 65536).pv]))).set t (some (.tok (L ++ [y6]).length))), (((S3.set tp (some (.row 34 [(T3.nx 65536).pv]))).set t (some (.tok (L ++ [y6]).length))).set (s.nxt + 1) (some (.row 31 [.agg [.int .i64 (16), .int .i64 (a), .int .i64 (y26), .int .i64 (0), .int .i64 (0), .sl .nil [], .sl (.tok t 1) ((L ++ [y6]).map (PV.int .u16)), .int .u16 (0), .int .u16 (0)]])))] Tryz.mixed (k := ?_)
                 refine dP [0, 1] (pre := [_, _, _]) (k := ?_)
                 refine dX (v := .int .i64 y6) [(0, 1)] (h := Y107) (k := ?_)
                 refine dP [1] (pre := [_, _]) (k := ?_)
                 refine DetHC.app (kx := (.tok t 1)) (xs := L.map (PV.int .u16)) (ys := [y6].map (PV.int .u16)) (v := .sl (.tok t 1) ((L ++ [y6]).map (PV.int .u16))) [(1, 2)] _ Y25 pq au au au Tryz.td28 Y200 Y55 (isEls_map (P := Tryz.prog) (e := 29) (f := (PV.int .u16)) (fun a => ⟨rfl, Y161⟩) _) Y201 Y221 Y108 ?_
                 refine dP [2] (pre := [_]) (k := ?_)
                 refine dE [(2, 3)] (k := ?_)
                 refine DetHC.nil ?_
                 refine rl [0, 2, 3, 6] (k := rB (k := ?_))
                 have hwi : IntKind.i64.wrap ((i : Int) + 1) = ((i + 1 : Nat) : Int) := Y27
                 have H := aj hwi H
                 refine rg [0, 2, 3, 6] (k := ?_)
                 refine Run.lp ⟨⟨T3.nx 65536, i + 1, (L ++ [y6]), (.tok t 1), rfl, hT3.nx 65536, Y54, Y164, Y19, .inr ⟨t, rfl, htn, Y276⟩, Y166⟩, ?_⟩
                 simp only [ivar, ivar1, go_sem, ↓reduceIte, Nat.reduceEqDiff]
                 omega
               · refine rX (k := rB (k := ?_))
                 have hie : ((L.length : Nat) : Int) = y26 := Y52
                 rw [← hie] at hQ3
                 refine rp [2, 3] (k := ?_)
                 exact hJb0 _ _ ⟨T3, ⟨16, a, L.length, 0, 0, [], L, 0, 0⟩, .nil, _, rfl, hT3, (req_okT Y81 hU (show U16 ((L.length : Nat) : Int) from ⟨Y19, Y19⟩) zU zU hLo zU zU Y81 (by simp <;> omega)), ⟨(right16 Y19 Y19), Y53, Y53⟩, Y54⟩
           · refine rs (k := rg [0, 2, 3, 4, 17, 103] (k := rc (ht := fun hc11 => ?_) (hf := fun hc11 => ?_)))
             · have hcab := (T2).val_bound (n := 65536) Y20
               obtain ⟨ca, hca⟩ : ∃ y, (T2).val 65536 = y := ⟨_, rfl⟩
               rw [hca] at hcab
               have hcob := (T2.nx 65536).val_bound (n := 65536) Y20
               obtain ⟨co, hco⟩ : ∃ y, (T2.nx 65536).val 65536 = y := ⟨_, rfl⟩
               rw [hco] at hcob
               have hwa : IntKind.u16.wrap ca = ca := Y162
               have hwo : IntKind.u16.wrap co = co := Y162
               have H := aj hca (aj hco (aj hwa (aj hwo H)))
               refine rr (k := ro (pre := [_, _]) (k := ?_))
               refine RunO.callw au au au Y25 ((tape_Next hT2 (n := 65536) hQ.tape).mono ?_)
               rintro r s9 ⟨rfl, hs⟩
               subst s9
               refine ro (pre := [_, _]) (k := ?_)
               refine RunO.callw au au au Y25 ((tape_Next (hT2.nx 65536) (n := 65536) (blk_set_self _ _ _)).mono ?_)
               rintro r s9 ⟨rfl, hs⟩
               subst s9
               refine rh [2, 3] (k := rB (k := ?_))
               have hf5 : f = 22 := Y52
               subst hf5
               exact hJb0 _ _ ⟨(T2.nx 65536).nx 65536, ⟨22, a, 0, 0, 0, [], [], ca, co⟩, .nil, .nil, rfl, (hT2.nx 65536).nx 65536, (req_okT Y81 hU zU zU zU zW (show U16 ca from ⟨Y19, Y19⟩) (show U16 co from ⟨Y19, Y19⟩) Y81 Y81), ⟨(right22 Y19), Y53, Y53⟩, Y54⟩
             · refine rs (k := rg [0, 2, 3, 4, 115] (k := rc (ht := fun hc12 => ?_) (hf := fun hc12 => ?_)))
               · refine rs (k := ?_)
                 have hf5 : f = 23 := Y52
                 subst hf5
                 have hy20b := (T2).val_bound (n := 20) Y20
                 obtain ⟨y20, hy20⟩ : ∃ y, (T2).val 20 = y := ⟨_, rfl⟩
                 rw [hy20] at hy20b
                 have hy40b := (T2.nx 20).val_bound (n := 40) Y20
                 obtain ⟨y40, hy40⟩ : ∃ y, (T2.nx 20).val 40 = y := ⟨_, rfl⟩
                 rw [hy40] at hy40b
                 have hm0b := ((T2.nx 20).nx 40).val_bound (n := 20) Y20
                 obtain ⟨m0, hm0⟩ : ∃ y, ((T2.nx 20).nx 40).val 20 = y := ⟨_, rfl⟩
                 rw [hm0] at hm0b
                 have H := aj hy20 (aj hy40 (aj hm0 H))
                 refine rr (k := ro (pre := [_, _]) (k := ?_))
                 refine RunO.callw au au au Y25 ((tape_Next hT2 (n := 20) hQ.tape).mono ?_)
                 rintro r s9 ⟨rfl, hs⟩
                 subst s9
                 refine ro (pre := [_]) (k := ?_)
                 refine RunO.callw au au au Y25 ((tape_Next (hT2.nx 20) (n := 40) (blk_set_self _ _ _)).mono ?_)
                 rintro r s9 ⟨rfl, hs⟩
                 subst s9
                 refine rh [0, 2, 3] (k := rs (k := rr (k := ro (pre := [_]) (k := ?_))))
                 refine RunO.callw au au au Y25 ((tape_Next ((hT2.nx 20).nx 40) (n := 20) (by first | exact blk_set_self _ _ _ | (simp (disch := omega) only [blk_set_ne, blk_set_self]))).mono ?_)
                 rintro r s9 ⟨rfl, hs⟩
                 subst s9
                 refine rh [0, 2, 3, 7] (k := rb (k := ?_))
                 refine Run.loop (fun e s' => ∃ (T3 : Tp) (m : Int) (L : List Int) (k : SK), e = [(0, .ptr tp 0 0), (2, .ptr s.nxt 0 0), (3, .ptr (s.nxt + 1) 0 0), (7, .int .i64 m)] ∧ T3.ok ∧ QAt s tp T3 [.int .i64 (23), .int .i64 (a), .int .i64 (y20), .int .i64 (y40), .int .i64 (0), .sl .nil [], .sl k (L.map (PV.int .u16)), .int .u16 (0), .int .u16 (0)] s' ∧ L.length + m = m0 ∧ 0 ≤ m ∧ (k = .nil ∧ L = [] ∨ ∃ t, k = .tok t 1 ∧ s.nxt + 2 ≤ t ∧ s'.blk t = some (.tok L.length)) ∧ OkW L) (fun e s' => ivar1 e 7) ?_ ?_
                 · exact ⟨((T2.nx 20).nx 40).nx 20, m0, [], .nil, rfl, ((hT2.nx 20).nx 40).nx 20, Y54, Y81, Y19, .inl ⟨rfl, rfl⟩, zW⟩
                 rintro e S3 ⟨T3, m, L, k, rfl, hT3, hQ3, hr1, hr2, hk, hLo⟩
                 have h3r := hQ3.row
                 have h3t := hQ3.tape
                 have h3n := hQ3.nx
                 have hN1 : (s.nxt + 1 = S3.nxt) = False := eq_false Y19
                 have hN2 : (tp = S3.nxt) = False := eq_false Y19
                 have H := aj h3r (aj h3t (aj hN1 (aj hN2 H)))
                 rcases hk with ⟨rfl, rfl⟩ | ⟨t, rfl, htn, htb⟩
                 · simp only [List.length_nil] at hr1
                   refine rs (k := rs (k := rg [0, 2, 3, 7, 128] (k := rc (ht := fun hc13 => ?_) (hf := fun hc13 => ?_))))
                   · refine rk (k := rs (k := rb (k := ?_)))
                     have hy6b := (T3).val_bound (n := 65536) Y20
                     obtain ⟨y6, hy6⟩ : ∃ y, (T3).val 65536 = y := ⟨_, rfl⟩
                     rw [hy6] at hy6b
                     have hw6 : IntKind.u16.wrap y6 = y6 := Y162
                     have H := aj hw6 H
                     refine rH 9 [3, 6, 8] [[false, false, false], [true, false, false], [true, true, false], [true, true, true]] [S3, (S3.set tp (some (.row 34 [(T3.nx 65536).pv]))), ((S3.set tp (some (.row 34 [(T3.nx 65536).pv]))).new (.tok [y6].length)), (((S3.set tp (some (.row 34 [(T3.nx 65536).pv]))).new (.tok [y6].length)).set (s.nxt + 1) (some (.row 31 [.agg [.int .i64 (23), .int .i64 (a), .int .i64 (y20), .int .i64 (y40), .int .i64 (0), .sl .nil [], .sl (.tok S3.nxt 1) ([y6].map (PV.int .u16)), .int .u16 (0), .int .u16 (0)]])))] Tryz.mixed (k := ?_)
                     refine dP [0, 1] (pre := [_, _, _]) (k := ?_)
                     refine dX (v := .int .i64 y6) [(0, 1)] (h := Y107) (k := ?_)
                     refine dP [1] (pre := [_, _]) (k := ?_)
                     refine DetHC.app (kx := .nil) (xs := []) (ys := [y6].map (PV.int .u16)) (v := .sl (.tok S3.nxt 1) ([y6].map (PV.int .u16))) [(1, 2)] _ Y25 pq au au au Tryz.td28 Y200 Y55 (isEls_map (P := Tryz.prog) (e := 29) (f := (PV.int .u16)) (fun a => ⟨rfl, Y161⟩) _) Y201 Y221 Y165 ?_
                     refine dP [2] (pre := [_]) (k := ?_)
                     refine dE [(2, 3)] (k := ?_)
                     refine DetHC.nil ?_
                     refine rl [0, 2, 3, 7] (k := rB (k := ?_))
                     have hm1 : 0 < m := by have := of_decide_eq_true hc13; omega
                     have hwi : IntKind.i64.wrap (m - 1) = m - 1 := wrap_i64 Y19
                     have H := aj hwi H
                     refine rg [0, 2, 3, 7] (k := ?_)
                     refine Run.lp ⟨⟨T3.nx 65536, m - 1, [y6], (.tok S3.nxt 1), rfl, hT3.nx 65536, Y54, Y164, Y19, .inr ⟨S3.nxt, rfl, hQ3.nx, Y106⟩, Y277⟩, ?_⟩
                     simp only [ivar, ivar1, go_sem, ↓reduceIte, Nat.reduceEqDiff]
                     omega
                   · refine rX (k := rB (k := rp [2, 3] (k := ?_)))
                     exact hJb0 _ _ ⟨T3, ⟨23, a, y20, y40, 0, [], ([] : List Int), 0, 0⟩, .nil, _, rfl, hT3, (req_okT Y81 hU (show U16 y20 from ⟨Y19, Y19⟩) (show U16 y40 from ⟨Y19, Y19⟩) zU hLo zU zU Y81 (by simp <;> omega)), ⟨(right23 Y19 Y19 Y19 (by first | omega | (simp at hr1 ⊢ <;> omega))), Y53, Y53⟩, Y54⟩
                 · have hN3 : (s.nxt + 1 = t) = False := eq_false Y19
                   have hN4 : (tp = t) = False := eq_false Y19
                   have hN5 : (t = tp) = False := eq_false Y19
                   have hN6 : (t = s.nxt + 1) = False := eq_false Y19
                   have H := aj hN3 (aj hN4 (aj hN5 (aj hN6 H)))
                   refine rs (k := rs (k := rg [0, 2, 3, 7, 128] (k := rc (ht := fun hc13 => ?_) (hf := fun hc13 => ?_))))
                   · refine rk (k := rs (k := rb (k := ?_)))
                     have hy6b := (T3).val_bound (n := 65536) Y20
                     obtain ⟨y6, hy6⟩ : ∃ y, (T3).val 65536 = y := ⟨_, rfl⟩
                     rw [hy6] at hy6b
                     have hw6 : IntKind.u16.wrap y6 = y6 := Y162
                     have H := aj hw6 H
                     refine rH 9 [3, 6, 8] [[false, false, false], [true, false, false], [true, true, false], [true, true, true]] [S3, (S3.set tp (some (.row 34 [(T3.nx 65536).pv]))), ((S3.set tp (some (.row 34 [(T3.nx 65536).pv]))).set t (some (.tok (L ++ [y6]).length))), (((S3.set tp (some (.row 34 [(T3.nx 65536).pv]))).set t (some (.tok (L ++ [y6]).length))).set (s.nxt + 1) (some (.row 31 [.agg [.int .i64 (23), .int .i64 (a), .int .i64 (y20), .int .i64 (y40), .int .i64 (0), .sl .nil [], .sl (.tok t 1) ((L ++ [y6]).map (PV.int .u16)), .int .u16 (0), .int .u16 (0)]])))] Tryz.mixed (k := ?_)
                     refine dP [0, 1] (pre := [_, _, _]) (k := ?_)
                     refine dX (v := .int .i64 y6) [(0, 1)] (h := Y107) (k := ?_)
                     refine dP [1] (pre := [_, _]) (k := ?_)
                     refine DetHC.app (kx := (.tok t 1)) (xs := L.map (PV.int .u16)) (ys := [y6].map (PV.int .u16)) (v := .sl (.tok t 1) ((L ++ [y6]).map (PV.int .u16))) [(1, 2)] _ Y25 pq au au au Tryz.td28 Y200 Y55 (isEls_map (P := Tryz.prog) (e := 29) (f := (PV.int .u16)) (fun a => ⟨rfl, Y161⟩) _) Y201 Y221 Y108 ?_
                     refine dP [2] (pre := [_]) (k := ?_)
                     refine dE [(2, 3)] (k := ?_)
                     refine DetHC.nil ?_
                     refine rl [0, 2, 3, 7] (k := rB (k := ?_))
                     have hm1 : 0 < m := by have := of_decide_eq_true hc13; omega
                     have hwi : IntKind.i64.wrap (m - 1) = m - 1 := wrap_i64 Y19
                     have H := aj hwi H
                     refine rg [0, 2, 3, 7] (k := ?_)
                     refine Run.lp ⟨⟨T3.nx 65536, m - 1, (L ++ [y6]), (.tok t 1), rfl, hT3.nx 65536, Y54, Y164, Y19, .inr ⟨t, rfl, htn, Y276⟩, Y166⟩, ?_⟩
                     simp only [ivar, ivar1, go_sem, ↓reduceIte, Nat.reduceEqDiff]
                     omega
                   · refine rX (k := rB (k := rp [2, 3] (k := ?_)))
                     exact hJb0 _ _ ⟨T3, ⟨23, a, y20, y40, 0, [], L, 0, 0⟩, .nil, _, rfl, hT3, (req_okT Y81 hU (show U16 y20 from ⟨Y19, Y19⟩) (show U16 y40 from ⟨Y19, Y19⟩) zU hLo zU zU Y81 (by simp <;> omega)), ⟨(right23 Y19 Y19 Y19 (by first | omega | (simp at hr1 ⊢ <;> omega))), Y53, Y53⟩, Y54⟩
               · refine rk (k := rB (k := ?_))
                 have hf5 : f = 17 := by simp only [decide_eq_true_eq, decide_eq_false_iff_not] at *; simp only [fnL, List.mem_cons, List.not_mem_nil, or_false] at hfm; omega
                 subst hf5
                 refine rp [2, 3] (k := ?_)
                 exact hJb0 _ _ ⟨T2, ⟨17, 0, 0, 0, 0, [], [], 0, 0⟩, .nil, .nil, rfl, hT2, (req_okT Y81 zU zU zU zU zW zU zU Y81 Y81), ⟨right17, Y53, Y53⟩, Y54⟩
 any_goals
   refine jI 1 ?_
   have hy26b := (T2).val_bound (n := 26) Y20
   refine jO 2 ?_; rotate_left
 any_goals
   refine jI 2 ?_
   obtain ⟨y26, hy26⟩ : ∃ y, (T2).val 26 = y := ⟨_, rfl⟩
   refine jO 3 ?_; rotate_left
 any_goals
   refine jI 3 ?_
   rw [hy26] at hy26b
   refine jO 4 ?_; rotate_left
 any_goals
   refine jI 4 ?_
   have H := aj hy26 H
   refine jO 5 ?_; rotate_left
 any_goals
   refine jI 5 ?_
   refine rr (k := ro (pre := [_, _]) (k := ?_))
   refine jO 6 ?_; rotate_left
 any_goals
   refine jI 6 ?_
   refine RunO.callw au au au Y25 ((tape_Next hT2 (n := 26) hQ.tape).mono ?_)
   refine jO 7 ?_; rotate_left
 any_goals
   refine jI 7 ?_
   rintro r s9 ⟨rfl, hs⟩
   refine jO 8 ?_; rotate_left
 any_goals
   refine jI 8 ?_
   subst s9
   refine jO 9 ?_; rotate_left
 any_goals
   refine jI 9 ?_
   refine rh [2, 3] (k := rB (k := ?_))
   refine jO 10 ?_; rotate_left
 any_goals
   refine jI 10 ?_
   have hf4 : 1 ≤ f ∧ f ≤ 4 := Y52
   refine jO 11 ?_; rotate_left
 any_goals
   refine jI 11 ?_
   exact hJb0 _ _ ⟨T2.nx 26, ⟨f, a, y26, 0, 0, [], [], 0, 0⟩, .nil, .nil, rfl, hT2.nx 26, (req_okT (by simp <;> omega) hU (show U16 y26 from ⟨Y19, Y19⟩) zU zU zW zU zU Y81 Y81), ⟨(order_right Y19 Y19 Y19), Y53, Y53⟩, Y54⟩
end Go.Proofs
namespace Go.Proofs
open Go.PM
set_option maxHeartbeats 2000000
theorem has127 {q : Req} (hr : rightF q = 0) : 1 ≤ q.fn ∧ q.fn ≤ 127 := by
 have := has_cases (right0 hr).has
 omega
theorem body_fits {D : Dev} (hD : D.ok) {q : Req} (hq : q.ok) (hr : rightF q = 0) (hc : countF q = true) : Fits (bodyF D q).1 q := by
 have hR := right0 hr
 have wa := u16_word hR.wa
 have wsb := u16_word hR.ws
 have wc := u16_word hR.wc
 have hcc := (of_decide_eq_true hc).2
 have h127 := has127 hr
 have no : Fits (whereF q) q := fits_refuse h127 Y20
 have h3 := hD.c1; have h4 := hD.v0; have h5 := hD.v1
 have hv0 : U16 ((q.vals[0]?).getD 0) := head_ok hq.vals
 unfold bodyF
 by_cases e1 : q.fn = 1
 · rw [if_pos (.inl e1)] at hcc
   rw [if_pos e1]
   split
   · rename_i ht
     have := cutF_size D.c0 ht
     exact fits_bits (.inl e1) this Y19
   · exact no
 rw [if_neg e1]
 by_cases e2 : q.fn = 2
 · rw [if_pos (.inr e2)] at hcc
   rw [if_pos e2]
   split
   · rename_i ht
     have := cutF_size D.c1 (by rw [h3]; exact ht)
     exact fits_bits (.inr e2) this Y19
   · exact no
 rw [if_neg e2]
 rw [if_neg Y19] at hcc
 by_cases e3 : q.fn = 3
 · rw [if_pos (.inl e3)] at hcc
   rw [if_pos e3]
   split
   · rename_i ht
     have := cutF_size D.v1 (by rw [h5]; exact ht)
     exact fits_vals (.inl e3) (cutF_ok hD.w1 _ _) this Y19
   · exact no
 rw [if_neg e3]
 by_cases e4 : q.fn = 4
 · rw [if_pos (.inr e4)] at hcc
   rw [if_pos e4]
   split
   · rename_i ht
     have := cutF_size D.v0 (by rw [h4]; exact ht)
     exact fits_vals (.inr (.inl e4)) (cutF_ok hD.w0 _ _) this Y19
   · exact no
 rw [if_neg e4]
 rw [if_neg Y19] at hcc
 by_cases e5 : q.fn = 5 ∨ q.fn = 15
 · rw [if_pos e5]
   split
   · by_cases e15 : q.fn = 15
     · rw [if_pos e15]; exact fits_15 (.inl e15) wa wc
     · rw [if_neg e15]; exact fits_5 Y19 wa _
   · exact no
 rw [if_neg e5]
 by_cases e6 : q.fn = 6 ∨ q.fn = 16
 · rw [if_pos e6]
   split
   · by_cases e15 : q.fn = 16
     · rw [if_pos e15]; exact fits_15 (.inr e15) wa wc
     · rw [if_neg e15]; exact fits_6 Y19 wa hv0
   · exact no
 rw [if_neg e6]
 by_cases e8 : q.fn = 8
 · rw [if_pos e8]
   unfold diagF
   dsimp only
   split
   · exact fits_8 e8 wsb hv0
   · split
     · exact fits_8 e8 wsb hv0
     · split
       · split
         · exact fits_refuse h127 Y20
         · exact fits_8 e8 wsb (u16_wrap_ok _)
       · exact fits_refuse h127 Y20
 rw [if_neg e8]
 by_cases e17 : q.fn = 17
 · rw [if_pos e17]; exact fits_17 e17 _ _
 rw [if_neg e17]
 by_cases e22 : q.fn = 22
 · rw [if_pos e22]
   split
   · exact fits_22 e22 wa hq.and_ hq.or_
   · exact no
 rw [if_neg e22]
 have e23 : q.fn = 23 := by have := has_cases hR.has; omega
 rw [if_neg Y19, if_neg Y19, if_pos e23] at hcc
 split
 · rename_i ht
   have hl := there_len ht.2
   have := cutF_size (overF D.v1 q.wat.toNat q.vals) (a := q.at_) (m := q.count) (by rw [overF_len Y19, h5]; exact ht.1)
   exact fits_vals (.inr (.inr e23)) (cutF_ok (overF_ok hD.w1 hq.vals _) _ _) this Y19
 · exact no
theorem do_fits {D : Dev} (hD : D.ok) {q : Req} (hq : q.ok) (hr : rightF q = 0) : Fits (doF D q).1 q := by
 have h127 := has127 hr
 cases hc : countF q with
 | false =>
   have hh : ¬ hasF q.fn = false := by rw [(right0 hr).has]; decide
   unfold doF
   dsimp only
   rw [if_neg hh, if_pos (.inr hc)]
   exact fits_refuse h127 Y20
 | true =>
   rw [doF_base hr hc]
   have hb := body_fits (inc_ok hD) hq hr hc
   split
   · rename_i hne
     have hg := goodC hb.good hne
     exact fits_refuse h127 ⟨hg.1, hg.2.1⟩
   · exact hb
theorem pdu_write {D : Dev} {q : Req} (hq : q.ok) (hr : rightF q = 0) : pduF D (writeF q) = (repF (doF D q).1, (doF D q).2) := by
 unfold pduF
 rw [read_write hq hr]
 rfl
theorem and127 {a : Int} (h : U8 a) : ibits .and .u8 a 127 = a % 128 := by
 obtain ⟨n, rfl⟩ : ∃ n : Nat, a = n := ⟨a.toNat, (Int.toNat_of_nonneg h.1).symm⟩
 have hn : n < 256 := by unfold U8 at h; omega
 have : ∀ m : Fin 256, ibits .and .u8 ((m.val : Nat) : Int) 127 = ((m.val : Nat) : Int) % 128 := by decide +kernel
 exact this ⟨n, hn⟩
theorem lay_two {R : Rep} (h : goodF R = 0) : 2 ≤ (layF R).length := by
 unfold layF
 split
 · exact Nat.le_refl _
 · repeat' split
   all_goals simp only [List.length_cons, List.length_append, show ∀ n, (num2 n).length = 2 from fun _ => rfl]; omega
theorem fit_head {R : Rep} {q : Req} (h : Fits R q) (hq : 1 ≤ q.fn ∧ q.fn ≤ 127) : ∃ x l, repF R = x :: l ∧ 1 ≤ l.length ∧ x % 128 = q.fn := by
 unfold repF
 rw [if_pos h.good]
 have h2 := lay_two h.good
 have h3 := lay_head (R := R)
 have h4 := h.fn
 cases hl : layF R with
 | nil => rw [hl] at h2; simp at h2
 | cons x l =>
   rw [hl] at h2 h3
   simp only [List.length_cons] at h2
   refine ⟨x, l, rfl, Y19, ?_⟩
   have h3 : x = if ¬ R.code = 0 then R.fn + 128 else R.fn := h3
   rw [h3]
   split <;> omega
end Go.Proofs
namespace Go.Proofs
open Go.PM
set_option maxHeartbeats 2000000
theorem Y109 {p : Prop} (h : p := by simp only [PV.blw, PV.blws, and_true, true_and]; exact ⟨fun t z e => Y18, blws_u8 _ _⟩) : p := h
theorem rtu_Read {b : List Int} (hb : OkB b) (hl : b.length ≤ 140737488350000) {s : St} : ACalls Tryz.prog 41 [.sl .unk (b.map (PV.int .u8))] s (fun r s' => r = .tuple [.int .i64 (rtuF b).1.1, .sl .unk ((rtuF b).1.2.map (PV.int .u8)), .int .i64 (rtuF b).2] ∧ s' = s) := by
 refine go Tryz.func41 (k := fun hwf H => ?_)
 refine rs (k := rg [0] (k := rs (k := rr (k := ro (pre := [_]) (k := rC (h := crc_Open hb hl) (k := rh [0, 5, 6] (k := rs (k := rb (k := rs (k := rg [0, 5, 6, 12] (k := rc (ht := fun hc0 => ?_) (hf := fun hc0 => ?_))))))))))))
 refine jO 1 ?_; rotate_left
 refine rs (k := rg [5, 6, 16] (k := rc (ht := fun hc1 => ?_) (hf := fun hc1 => ?_)))
 refine jO 1 ?_; rotate_left
 refine rs (k := rg [5, 20] (k := rc (ht := fun hc2 => ?_) (hf := fun hc2 => ?_)))
 refine jO 1 ?_; rotate_left
 refine rs (k := ?_)
 obtain ⟨x, ho⟩ : ∃ x, openB b = some x := Option.isSome_iff_exists.1 (by simpa using hc2)
 have hxl : x.length = b.length - 2 := by
   unfold openB at ho
   split at ho
   · cases ho; rw [List.length_take]; omega
   · cases ho
 have hbl : 4 ≤ b.length := Y88
 have hxo := open_ok hb ho
 have hx0 : 0 < x.length := Y19
 obtain ⟨y, hy⟩ : ∃ y, x[0]? = some y := ⟨x[0], List.getElem?_eq_getElem hx0⟩
 have hyy : (x.map (PV.int .u8))[0]? = some (.int .u8 y) := by rw [List.getElem?_map, hy]; rfl
 have hxT : (0 < x.length) = True := eq_true hx0
 have hxT1 : ((1 : Int) ≤ (x.length : Int)) = True := eq_true Y19
 have hgd : (openB b).getD [] = x := by rw [ho]; rfl
 have hy8 : U8 y := hxo y (List.mem_of_getElem? hy)
 have hyw : IntKind.i64.wrap y = y := wrap_i64 (by unfold U8 at hy8; omega)
 have hh0 : hd0 x = y := by unfold hd0; rw [hy]; rfl
 have hln : ((x.length : Int) - 1).toNat = x.length - 1 := Y19
 have htk : ((x.map (PV.int .u8)).drop 1).take (x.length - 1) = (x.drop 1).map (PV.int .u8) := by rw [← List.map_drop, List.take_of_length_le (by rw [List.length_map, List.length_drop]; omega)]
 have h1n : Int.toNat 1 = 1 := rfl
 have H := aj hyy (aj hxT (aj hxT1 (aj hgd (aj hyw (aj hln (aj htk (aj h1n H)))))))
 refine rg [5, 23] (k := rc (ht := fun hc3 => ?_) (hf := fun hc3 => ?_))
 refine jO 1 ?_; rotate_left
 refine rk (k := rB (k := rs (k := ?_)))
 refine Run.drawC [] [2, 3, 4] Tryz.mixed Y25 ?_
 refine DetC.pre (pre := [_, _, _, _, _, _]) au ?_
 refine DetC.call au au au Y25 (clip_u8 (xs := x.drop 1)) ?_
 refine DetC.all au ?_
 refine re (k := rR (k := ?_))
 refine jO 2 ?_; rotate_left
 any_goals
   refine jI 1 ?_
   refine rs (k := rg [2, 3, 4] (k := rR (k := ?_)))
   refine jO 2 ?_; rotate_left
 any_goals
   refine jI 2 ?_
   refine Ret.pure (r' := .tuple [.int .i64 (rtuF b).1.1, .sl .unk ((rtuF b).1.2.map (PV.int .u8)), .int .i64 (rtuF b).2]) (by simp only [Tryz.f41, go_sem, ↓reduceIte] <;> rfl) ?_ Y109 hwf Y36 ⟨rfl, rfl⟩
   refine jO 3 ?_; rotate_left
 any_goals
   refine jI 3 ?_
   simp only [PV.weak, PV.weaks, weaks_u8]
   refine jO 4 ?_; rotate_left
 any_goals
   refine jI 4 ?_
   first
     | (have e : rtuF b = ((0, []), 13) := by unfold rtuF; rw [if_pos Y86]
        rw [e]; rfl)
     | (have e : rtuF b = ((0, []), 3) := by unfold rtuF; rw [if_neg Y88, if_pos Y83]
        rw [e]; rfl)
     | (have ho : openB b = none := by cases hq : openB b with | none => rfl | some x => rw [hq] at hc2; simp at hc2
        have e : rtuF b = ((0, []), 14) := by unfold rtuF; rw [if_neg Y88, if_neg Y87, ho]
        rw [e]; rfl)
     | (have h3 : hd0 x < 1 ∨ 247 < hd0 x := by rw [hh0]; simpa using hc3
        have e : rtuF b = ((0, []), 1) := by unfold rtuF; rw [if_neg Y19, if_neg Y87, ho]; exact if_pos h3
        rw [e]; rfl)
     | (have h3 : ¬ (hd0 x < 1 ∨ 247 < hd0 x) := by rw [hh0]; simp at hc3; omega
        have e : rtuF b = ((y, x.drop 1), 0) := by unfold rtuF; rw [if_neg Y19, if_neg Y87, ho]; exact (if_neg h3).trans (by rw [hh0])
        rw [e]; first | done | simp only [weaks_u8, List.map_drop] | rfl)
theorem Y110 {p : Prop} (h : p := by exact (fun i hi => by first | rfl | exact hlo i hi | (have h0 := ltn hi; have h1 := lte hi; simp only [go_sem, Nat.add_assoc, Nat.reduceAdd, ↓reduceIte, h0, h1]))) : p := h
theorem Y222 {p : Prop} (h : p := by simp only [Bool.or_eq_false_iff, decide_eq_false_iff_not] at hc0; rw [u8_wrap]; omega) : p := h
theorem Y223 {p : Prop} (h : p := by simp only [Bool.or_eq_false_iff, decide_eq_false_iff_not] at hc0; constructor <;> omega) : p := h
theorem ref5_Frame {a : Int} {b : List Int} (hb : OkB b) (hl : b.length ≤ 140737488350000) {s : St} : ACalls Tryz.prog 40 [.int .i64 a, .sl .unk (b.map (PV.int .u8))] s (fun r s' => r = .tuple [.sl .unk ((frameA a b).1.map (PV.int .u8)), .int .i64 (frameA a b).2] ∧ s' = s) := by
 refine go Tryz.func40 (k := fun hwf H => ?_)
 refine rs (k := rg [0, 1] (k := rs (k := rs (k := rg [0, 1, 11] (k := rc (ht := fun hc0 => ?_) (hf := fun hc0 => ?_))))))
 refine jO 1 ?_; rotate_left
 refine rk (k := rs (k := rs (k := rg [0, 1, 14] (k := rc (ht := fun hc1 => ?_) (hf := fun hc1 => ?_)))))
 refine jO 1 ?_; rotate_left
 refine rk (k := rs (k := rs (k := rg [0, 1, 17] (k := rc (ht := fun hc2 => ?_) (hf := fun hc2 => ?_)))))
 refine jO 1 ?_; rotate_left
 refine rk (k := rs (k := ?_))
 have haw : IntKind.u8.wrap a = a := Y222
 have hao : OkB (a :: b) := OkB.cons Y223 hb
 have H := aj haw H
 refine rr (k := ro (pre := [_, _]) (k := rO (k := ro (pre := [_]) (k := ?_))))
 refine RunO.growL (f := PV.int .u8) [a] b (a :: b) (ky := .unk) au au au rfl Tryz.td39 Y29 (fun a => ⟨rfl, Y30⟩) Y31 Y32 (fun k' S hlo hnx => ?_)
 refine rC (h := ref1_Seal (l := a :: b) hao Y137) (k := rh [4, 5] (k := rR (k := ?_)))
 refine jO 2 ?_; rotate_left
 any_goals
   refine jI 1 ?_
   refine rs (k := rg [4, 5] (k := rR (k := ?_)))
   refine jO 2 ?_; rotate_left
 any_goals
   refine jI 2 ?_
   refine Ret.pure (r' := .tuple [.sl .unk ((frameA a b).1.map (PV.int .u8)), .int .i64 (frameA a b).2]) (by simp only [Tryz.f40, go_sem, ↓reduceIte] <;> rfl) ?_ Y109 hwf Y110 ⟨rfl, rfl⟩
   refine jO 3 ?_; rotate_left
 any_goals
   refine jI 3 ?_
   simp only [PV.weak, PV.weaks, weaks_u8]
   refine jO 4 ?_; rotate_left
 any_goals
   refine jI 4 ?_
   simp only [Bool.or_eq_true, Bool.or_eq_false_iff, decide_eq_true_eq, decide_eq_false_iff_not] at *
   refine jO 5 ?_; rotate_left
 any_goals
   refine jI 5 ?_
   have hbn : b = [] ↔ (b.length : Int) = 0 := ⟨fun e => by rw [e]; rfl, fun e => List.length_eq_zero_iff.1 Y19⟩
   refine jO 6 ?_; rotate_left
 any_goals
   refine jI 6 ?_
   first
     | (have e : frameA a b = ([], 1) := by unfold frameA; rw [if_pos hc0]
        rw [e]; rfl)
     | (have e : frameA a b = ([], 13) := by unfold frameA; rw [if_neg Y19, if_pos (hbn.2 Y19)]
        rw [e]; rfl)
     | (have e : frameA a b = ([], 3) := by unfold frameA; rw [if_neg Y19, if_neg (fun h => absurd (hbn.1 h) Y19), if_pos Y19]
        rw [e]; rfl)
     | (have e : frameA a b = (sealB (a :: b), 0) := by unfold frameA; rw [if_neg Y19, if_neg (fun h => absurd (hbn.1 h) Y19), if_neg Y19]
        rw [e])
theorem rtu_Frame {a : Int} {b : List Int} (hb : OkB b) (hl : b.length ≤ 140737488350000) {s : St} : ACalls Tryz.prog 38 [.int .i64 a, .sl .unk (b.map (PV.int .u8))] s (fun r s' => r = .tuple [.sl .unk ((frameA a b).1.map (PV.int .u8)), .int .i64 (frameA a b).2] ∧ s' = s) := by
 refine go Tryz.func38 (k := fun hwf H => ?_)
 refine rs (k := rg [0, 1] (k := rs (k := rb (k := rs (k := rg [0, 1, 6] (k := rc (ht := fun hc0 => ?_) (hf := fun hc0 => ?_)))))))
 refine jO 1 ?_; rotate_left
 refine rs (k := rg [0, 1, 13] (k := rc (ht := fun hc1 => ?_) (hf := fun hc1 => ?_)))
 refine jO 1 ?_; rotate_left
 refine rs (k := rg [0, 1, 17] (k := rc (ht := fun hc2 => ?_) (hf := fun hc2 => ?_)))
 refine jO 1 ?_; rotate_left
 refine rk (k := rB (k := rs (k := ?_)))
 have haw : IntKind.u8.wrap a = a := Y222
 have hao : OkB (a :: b) := OkB.cons Y223 hb
 have H := aj haw H
 refine rr (k := ro (pre := [_, _]) (k := rO (k := ro (pre := [_]) (k := ?_))))
 refine RunO.growL (f := PV.int .u8) [a] b (a :: b) (ky := .unk) au au au rfl Tryz.td39 Y29 (fun a => ⟨rfl, Y30⟩) Y31 Y32 (fun k' S hlo hnx => ?_)
 refine rC (h := crc_Seal (l := a :: b) hao Y137) (k := rh [4, 5] (k := rR (k := ?_)))
 refine jO 2 ?_; rotate_left
 any_goals
   refine jI 1 ?_
   refine rs (k := rg [4, 5] (k := rR (k := ?_)))
   refine jO 2 ?_; rotate_left
 any_goals
   refine jI 2 ?_
   refine Ret.pure (r' := .tuple [.sl .unk ((frameA a b).1.map (PV.int .u8)), .int .i64 (frameA a b).2]) (by simp only [Tryz.f38, go_sem, ↓reduceIte] <;> rfl) ?_ Y109 hwf Y110 ⟨rfl, rfl⟩
   refine jO 3 ?_; rotate_left
 any_goals
   refine jI 3 ?_
   simp only [PV.weak, PV.weaks, weaks_u8]
   refine jO 4 ?_; rotate_left
 any_goals
   refine jI 4 ?_
   simp only [Bool.or_eq_true, Bool.or_eq_false_iff, decide_eq_true_eq, decide_eq_false_iff_not] at *
   refine jO 5 ?_; rotate_left
 any_goals
   refine jI 5 ?_
   have hbn : b = [] ↔ (b.length : Int) = 0 := ⟨fun e => by rw [e]; rfl, fun e => List.length_eq_zero_iff.1 Y19⟩
   refine jO 6 ?_; rotate_left
 any_goals
   refine jI 6 ?_
   first
     | (have e : frameA a b = ([], 1) := by unfold frameA; rw [if_pos hc0]
        rw [e]; rfl)
     | (have e : frameA a b = ([], 13) := by unfold frameA; rw [if_neg Y19, if_pos (hbn.2 Y19)]
        rw [e]; rfl)
     | (have e : frameA a b = ([], 3) := by unfold frameA; rw [if_neg Y19, if_neg (fun h => absurd (hbn.1 h) Y19), if_pos Y19]
        rw [e]; rfl)
     | (have e : frameA a b = (sealB (a :: b), 0) := by unfold frameA; rw [if_neg Y19, if_neg (fun h => absurd (hbn.1 h) Y19), if_neg Y19]
        rw [e])
attribute [local go_sem] weaks_bools Req.pv
theorem Y278 {p : Prop} (h : p := by unfold bytesF; split; exact writeF_ok hq ‹_›; exact OkB.nil) : p := h
theorem ref17_Frame {q : Req} (hq : q.ok) {s : St} : ACalls Tryz.prog 23 [q.pv] s (fun r s' => r = .sl .unk ((frameF (bytesF q)).map (PV.int .u8)) ∧ s' = s) := by
 refine go Tryz.func23 (k := fun hwf H => ?_)
 have hbo : OkB (bytesF q) := Y278
 have hbl : (bytesF q).length ≤ 140737488350000 := by
   unfold bytesF
   split
   · have := writeF_len ‹_›; omega
   · simp
 refine rs (k := rg [1] (k := rs (k := rr (k := ro (pre := [_]) (k := rC (h := ref3_Bytes hq) (k := rh [3, 4] (k := rs (k := rs (k := rg [3, 13] (k := rc (ht := fun hc0 => ?_) (hf := fun hc0 => ?_)))))))))))
 refine rs (k := rg [2] (k := rR (k := ?_)))
 refine jO 1 ?_; rotate_left
 refine rk (k := rs (k := rr (k := ro (pre := [_]) (k := rC (h := ref5_Frame (a := 17) hbo hbl) (k := rh [5] (k := rs (k := rg [2] (k := rR (k := ?_)))))))))
 refine jO 1 ?_; rotate_left
 any_goals
   refine jI 1 ?_
   refine Ret.pure (r' := .sl .unk ((frameF (bytesF q)).map (PV.int .u8))) (by simp only [Tryz.f23, go_sem, ↓reduceIte] <;> rfl) ?_ Y26 hwf Y36 ⟨rfl, rfl⟩
   refine jO 2 ?_; rotate_left
 any_goals
   refine jI 2 ?_
   simp only [PV.weak, PV.weaks, weaks_u8]
   refine jO 3 ?_; rotate_left
 any_goals
   refine jI 3 ?_
   first
     | (have h0 : ¬ rightF q = 0 := by simpa using hc0
        have e : bytesF q = [] := by unfold bytesF; rw [if_neg h0]
        rw [e]; rfl)
     | rfl
end Go.Proofs
namespace Go.Proofs
open Go.PM
set_option maxHeartbeats 2000000
def lnRow (d : Nat) (a0 a1 a2 a3 st : PV) : Blk := .row 59 [.agg [.ptr d 0 0, a0, a1, a2, a3, st]]
theorem line_New {d : Nat} {s : St} : ACalls Tryz.prog 7 [.ptr d 0 0] s (fun r s' => r = .ptr s.nxt 0 0 ∧ s' = s.new (lnRow d (.sl .nil []) (.sl .nil []) (.sl .nil []) (.sl .nil []) (.sl .nil []))) := by
 refine go Tryz.func7 (k := fun hwf H => ?_)
 refine rs (k := rg [0] (k := rs (k := rs (k := rg [0, 4] (k := rc (ht := fun hc0 => ?_) (hf := fun hc0 => ?_))))))
 · cases hc0
 · refine rk (k := rs (k := rg [2] (k := rR (k := ?_))))
   exact Ret.all (by simp only [Tryz.f7, go_sem, ↓reduceIte] <;> rfl) ⟨rfl, by unfold lnRow; rfl⟩
theorem line_is {t : Int} {s : St} : ACalls Tryz.prog 24 [.int .i64 t] s (fun r s' => r = .bool (decide (0 ≤ t) && decide (t < 4)) ∧ s' = s) := by
 refine go Tryz.func24 (k := fun hwf H => ?_)
 refine rs (k := rg [0] (k := rs (k := rg [2] (k := rR (k := rP (by simp only [Tryz.f24, go_sem]; rfl) hwf ⟨?_, rfl⟩)))))
 rfl
theorem Y279 {p : Prop} (h : p := by rw [Tryz.cz3]; first | done | rfl) : p := h
theorem Y167 {p : Prop} (h : p := by first | exact isEls_map (P := Tryz.prog) (e := 3) (f := PV.int .i64) (fun a => ⟨rfl, Y279⟩) _ | (intro p hp; cases hp)) : p := h
theorem line_Hurt0N {ln d : Nat} {a1 a2 a3 st : PV} {F : Int} (hF : 0 ≤ F ∧ F ≤ 4) {s : St} (hl : s.blk ln = some (lnRow d (.sl .nil []) a1 a2 a3 st)) : ACalls Tryz.prog 11 [.ptr ln 0 0, .int .i64 0, .int .i64 F] s (fun r s' => r = .bool true ∧ s' = ((s.new (.tok [F].length)).set ln (some (lnRow d (.sl (.tok s.nxt 1) ([F].map (PV.int .i64))) a1 a2 a3 st)))) := by
 refine go Tryz.func11 (k := fun hwf H => ?_)
 unfold lnRow at hl
 have hlt := lt_blk hwf hl
 have f0 : ((0 : Int) < ((4 : Nat) : Int)) = True := eq_true Y20
 have f1 : ((0 : Int) ≤ 0) = True := eq_true Y20
 have f2 : Int.toNat 0 = 0 := rfl
 have f3 : decide ((0 : Int) ≤ 0) = true := Y20
 have f4 : decide ((0 : Int) < 4) = true := Y20
 have H := aj f0 (aj f1 (aj f2 (aj f3 (aj f4 H))))
 have g1 : decide (F < 0) = false := decide_eq_false Y19
 have g2 : decide (4 < F) = false := decide_eq_false Y19
 have H := aj g1 (aj g2 H)
 have g3 : decide ((1000 : Int) ≤ 0) = false := Y20
 have H := aj g3 H
 have n1 : (ln = s.nxt) = False := eq_false Y19
 have H := aj n1 H
 have H := aj hl H
 refine rs (k := rg [0, 1, 2] (k := rs (k := rs (k := rr (k := ro (pre := [_]) (k := rC (h := (line_is (t := 0))) (k := rh [0, 1, 2, 27] (k := rc (ht := fun hc0 => ?_) (hf := fun hc0 => ?_)))))))))
 · cases hc0
 · refine rk (k := rs (k := rH 15 [10, 14] [[false, false], [true, false], [true, true]] [s, (s.new (.tok [F].length)), ((s.new (.tok [F].length)).set ln (some (.row 59 [.agg [.ptr d 0 0, .sl (.tok s.nxt 1) ([F].map (PV.int .i64)), a1, a2, a3, st]])))] Tryz.mixed (k := ?_)))
   refine dP [0, 1] (pre := [_, _, _, _, _, _, _, _, _, _]) (k := ?_)
   refine DetHC.app (kx := .nil) (xs := []) (ys := [F].map (PV.int .i64)) (v := .sl (.tok s.nxt 1) ([F].map (PV.int .i64))) [(0, 1)] _ Y25 pq au au au Tryz.td22 (by rw [Tryz.zp3]; rfl) Y167 (isEls_map (P := Tryz.prog) (e := 3) (f := PV.int .i64) (fun a => ⟨rfl, Y279⟩) _) (by rw [Tryz.by3]; decide) (by rw [Tryz.by3]; simp <;> omega) (by intro q hq; rw [List.mem_singleton.1 hq]; exact aAppend_nilL (f := PV.int .i64) (ys := [F]) Y81 (by rw [Tryz.cz3])) ?_
   refine dP [0, 1] (pre := [_, _, _]) (k := ?_)
   refine dE [(1, 2)] (k := ?_)
   refine DetHC.nil ?_
   refine rl [] (k := rs (k := rg [6] (k := rR (k := ?_))))
   exact Ret.all (by simp only [Tryz.f11, go_sem, ↓reduceIte] <;> rfl) ⟨rfl, by unfold lnRow; rfl⟩
theorem line_Hurt0T {ln d t : Nat} {a1 a2 a3 st : PV} {L : List Int} (hL : L.length < 1000) {F : Int} (hF : 0 ≤ F ∧ F ≤ 4) {s : St} (hl : s.blk ln = some (lnRow d (.sl (.tok t 1) (L.map (PV.int .i64))) a1 a2 a3 st)) (ht : s.blk t = some (.tok L.length)) (hne : t ≠ ln) : ACalls Tryz.prog 11 [.ptr ln 0 0, .int .i64 0, .int .i64 F] s (fun r s' => r = .bool true ∧ s' = ((s.set t (some (.tok (L ++ [F]).length))).set ln (some (lnRow d (.sl (.tok t 1) ((L ++ [F]).map (PV.int .i64))) a1 a2 a3 st)))) := by
 refine go Tryz.func11 (k := fun hwf H => ?_)
 unfold lnRow at hl
 have hlt := lt_blk hwf hl
 have f0 : ((0 : Int) < ((4 : Nat) : Int)) = True := eq_true Y20
 have f1 : ((0 : Int) ≤ 0) = True := eq_true Y20
 have f2 : Int.toNat 0 = 0 := rfl
 have f3 : decide ((0 : Int) ≤ 0) = true := Y20
 have f4 : decide ((0 : Int) < 4) = true := Y20
 have H := aj f0 (aj f1 (aj f2 (aj f3 (aj f4 H))))
 have g1 : decide (F < 0) = false := decide_eq_false Y19
 have g2 : decide (4 < F) = false := decide_eq_false Y19
 have H := aj g1 (aj g2 H)
 have g3 : decide ((1000 : Int) ≤ (L.length : Int)) = false := decide_eq_false Y19
 have H := aj g3 H
 have n1 : (ln = s.nxt) = False := eq_false Y19
 have H := aj n1 H
 have n2 : (ln = t) = False := eq_false Y19
 have n3 : (t = ln) = False := eq_false hne
 have H := aj n2 (aj n3 H)
 have H := aj hl H
 refine rs (k := rg [0, 1, 2] (k := rs (k := rs (k := rr (k := ro (pre := [_]) (k := rC (h := (line_is (t := 0))) (k := rh [0, 1, 2, 27] (k := rc (ht := fun hc0 => ?_) (hf := fun hc0 => ?_)))))))))
 · cases hc0
 · refine rk (k := rs (k := rH 15 [10, 14] [[false, false], [true, false], [true, true]] [s, (s.set t (some (.tok (L ++ [F]).length))), ((s.set t (some (.tok (L ++ [F]).length))).set ln (some (.row 59 [.agg [.ptr d 0 0, .sl (.tok t 1) ((L ++ [F]).map (PV.int .i64)), a1, a2, a3, st]])))] Tryz.mixed (k := ?_)))
   refine dP [0, 1] (pre := [_, _, _, _, _, _, _, _, _, _]) (k := ?_)
   refine DetHC.app (kx := .tok t 1) (xs := L.map (PV.int .i64)) (ys := [F].map (PV.int .i64)) (v := .sl (.tok t 1) ((L ++ [F]).map (PV.int .i64))) [(0, 1)] _ Y25 pq au au au Tryz.td22 (by rw [Tryz.zp3]; rfl) Y167 (isEls_map (P := Tryz.prog) (e := 3) (f := PV.int .i64) (fun a => ⟨rfl, Y279⟩) _) (by rw [Tryz.by3]; decide) (by rw [Tryz.by3]; simp <;> omega) (by intro q hq; rw [List.mem_singleton.1 hq]; exact aAppend_tokL (f := PV.int .i64) (xs := L) (ys := [F]) rfl Y81 ht rfl (by rw [Tryz.cz3])) ?_
   refine dP [0, 1] (pre := [_, _, _]) (k := ?_)
   refine dE [(1, 2)] (k := ?_)
   refine DetHC.nil ?_
   refine rl [] (k := rs (k := rg [6] (k := rR (k := ?_))))
   exact Ret.all (by simp only [Tryz.f11, go_sem, ↓reduceIte] <;> rfl) ⟨rfl, by unfold lnRow; rfl⟩
theorem line_take0 {ln d : Nat} {a1 a2 a3 st : PV} {k : SK} {s : St} (hl : s.blk ln = some (lnRow d (.sl k []) a1 a2 a3 st)) : ACalls Tryz.prog 44 [.ptr ln 0 0, .int .i64 0] s (fun r s' => r = .int .i64 0 ∧ s' = s) := by
 refine go Tryz.func44 (k := fun hwf H => ?_)
 unfold lnRow at hl
 have f0 : ((0 : Int) < ((4 : Nat) : Int)) = True := eq_true Y20
 have f1 : ((0 : Int) ≤ 0) = True := eq_true Y20
 have f2 : Int.toNat 0 = 0 := rfl
 have f3 : decide ((0 : Int) ≤ 0) = true := Y20
 have f4 : decide ((0 : Int) < 4) = true := Y20
 have H := aj f0 (aj f1 (aj f2 (aj f3 (aj f4 H))))
 have H := aj hl H
 refine rs (k := rg [0, 1] (k := rs (k := rs (k := rr (k := ro (pre := [_]) (k := rC (h := (line_is (t := 0))) (k := rh [0, 1, 18] (k := rc (ht := fun hc0 => ?_) (hf := fun hc0 => ?_)))))))))
 · refine rs (k := rg [4] (k := rR (k := ?_)))
   exact Ret.all (by simp only [Tryz.f44, go_sem, ↓reduceIte] <;> rfl) ⟨rfl, rfl⟩
 · cases hc0
end Go.Proofs
namespace Go.Proofs
open Go.PM
set_option maxHeartbeats 2000000
theorem crc_SealO {l : List Int} (hb : OkB l) (hl : l.length + 2 ≤ 140737488355328) {s : St} : ACalls Tryz.prog 55 [.sl .unk (l.map (PV.int .u8))] s (fun r s' => r = .own s.nxt 0 (l.length + 2) ∧ s' = s.new (.row 5 ((sealB l).map (PV.int .u8)))) := by
 refine go Tryz.func55 (k := fun hwf H => ?_)
 refine rs (k := rg [0] (k := rs (k := rr (k := ro (pre := [_]) (k := ?_)))))
 refine RunO.call au au Y25 ((crc_Of hb Y19).mono ?_)
 rintro r s1 ⟨rfl, hs⟩
 subst s1
 refine rh [0, 3] (k := rs (k := rr (k := ro (pre := [_]) (k := ?_))))
 refine RunO.call au au Y25 ((clip_u8 (xs := l)).mono ?_)
 rintro r s1 ⟨rfl, hs⟩
 subst s1
 refine ro (pre := [_, _, _, _, _]) (k := rO (k := ?_))
 refine RunO.appendFirst au au au Tryz.td39 Y29 (isEls_map (P := Tryz.prog) (e := 5) (f := PV.int .u8) (fun a => ⟨rfl, Y30⟩) _) (isEls_map (P := Tryz.prog) (e := 5) (f := PV.int .u8) (fun a => ⟨rfl, Y30⟩) [_, _]) Y31 Y32 (by unfold aAppendFirst; dsimp only; rw [if_pos Y81]) ?_
 refine rh [2] (k := rR (k := ?_))
 refine Ret.all (r := .own s.nxt 0 (l.length + 2)) (by simp only [Tryz.f55, go_sem, ↓reduceIte] <;> simp) ⟨rfl, ?_⟩
 congr 2
 simp [sealB, crc_hi, crc_hi']
theorem rtu_FrameO {b : List Int} (hb : OkB b) (h1 : b ≠ []) (h2 : b.length ≤ 253) {s : St} : ACalls Tryz.prog 38 [.int .i64 17, .sl .unk (b.map (PV.int .u8))] s (fun r s' => r = .tuple [.own (s.nxt + 1) 0 (b.length + 3), .int .i64 0] ∧ s' = (s.new (.tok (17 :: b).length)).new (.row 5 ((sealB (17 :: b)).map (PV.int .u8)))) := by
 refine go Tryz.func38 (k := fun hwf H => ?_)
 have g0 : decide ((17 : Int) < 1) = false := Y20
 have g1 : decide ((247 : Int) < 17) = false := Y20
 have hp : 0 < b.length := List.length_pos_iff.2 h1
 have g2 : decide ((b.length : Int) = 0) = false := decide_eq_false Y19
 have g3 : decide ((253 : Int) < (b.length : Int)) = false := decide_eq_false Y19
 have gw : IntKind.u8.wrap 17 = 17 := Y20
 have hao : OkB (17 :: b) := OkB.cons Y21 hb
 have H := aj g0 (aj g1 (aj g2 (aj g3 (aj gw H))))
 refine rs (k := rg [0, 1] (k := rs (k := rb (k := rs (k := rg [0, 1, 6] (k := rc (ht := fun hc0 => ?_) (hf := fun hc0 => ?_)))))))
 · cases hc0
 · refine rs (k := rg [0, 1, 13] (k := rc (ht := fun hc1 => ?_) (hf := fun hc1 => ?_)))
   · cases hc1
   · refine rs (k := rg [0, 1, 17] (k := rc (ht := fun hc2 => ?_) (hf := fun hc2 => ?_)))
     · cases hc2
     · refine rk (k := rB (k := rs (k := rr (k := ro (pre := [_, _]) (k := rO (k := ro (pre := [_]) (k := ?_)))))))
       refine RunO.append (v := .sl (.tok s.nxt 1) ((17 :: b).map (PV.int .u8))) (s' := s.new (.tok (17 :: b).length)) au au au Tryz.td39 Y29 (isEls_map (P := Tryz.prog) (e := 5) (f := PV.int .u8) (fun a => ⟨rfl, Y30⟩) [_]) (isEls_map (P := Tryz.prog) (e := 5) (f := PV.int .u8) (fun a => ⟨rfl, Y30⟩) b) Y31 Y32 (by unfold aAppend; rw [if_neg (by simpa using h1), Tryz.cz5]; simp [Nat.add_comm]) ?_
       refine RunO.callw au au au Y25 ((crc_SealO (l := 17 :: b) hao Y137).mono ?_)
       rintro r s1 ⟨rfl, rfl⟩
       refine rh [4, 5] (k := rR (k := ?_))
       exact Ret.all (by simp only [Tryz.f38, go_sem, ↓reduceIte] <;> rfl) ⟨by simp [nxt_new], rfl⟩
theorem line_frame {b : List Int} (hb : OkB b) (hl : b.length ≤ 140737488350000) {s : St} : ACalls Tryz.prog 100 [.sl .unk (b.map (PV.int .u8))] s (fun r s' => r = .sl .unk ((frameF b).map (PV.int .u8)) ∧ s' = s) := by
 refine go Tryz.func100 (k := fun hwf H => ?_)
 refine rs (k := rg [0] (k := rs (k := rr (k := ro (pre := [_]) (k := rC (h := rtu_Frame (a := 17) hb hl) (k := rh [3] (k := rs (k := rg [2] (k := rR (k := ?_))))))))))
 exact Ret.all (by simp only [Tryz.f100, go_sem, ↓reduceIte] <;> rfl) ⟨rfl, rfl⟩
theorem line_frameO {b : List Int} (hb : OkB b) (h1 : b ≠ []) (h2 : b.length ≤ 253) {s : St} : ACalls Tryz.prog 100 [.sl .unk (b.map (PV.int .u8))] s (fun r s' => r = .own (s.nxt + 1) 0 (b.length + 3) ∧ s' = (s.new (.tok (17 :: b).length)).new (.row 5 ((sealB (17 :: b)).map (PV.int .u8)))) := by
 refine go Tryz.func100 (k := fun hwf H => ?_)
 refine rs (k := rg [0] (k := rs (k := rr (k := ro (pre := [_]) (k := ?_)))))
 refine RunO.callw au au au Y25 ((rtu_FrameO hb h1 h2).mono ?_)
 rintro r s1 ⟨rfl, rfl⟩
 refine rh [3] (k := rs (k := rg [2] (k := rR (k := ?_))))
 exact Ret.all (by simp only [Tryz.f100, go_sem, ↓reduceIte] <;> rfl) ⟨rfl, rfl⟩
theorem pduF_len {D : Dev} (hD : D.ok) {p : List Int} (hp : OkB p) (hpl : p.length ≤ 253) : (pduF D p).1.length ≤ 140737488350000 := by
 have h : ∀ R : Rep, (repF R).length ≤ 300 := fun R => by
   unfold repF
   split
   · exact layF_len ‹_›
   · simp
 unfold pduF
 split
 · simp
 · dsimp only
   exact Nat.le_trans (h _) Y19
theorem refuse_mod (x : Int) : refuseP x 4 = refuseP (x % 128) 4 := by
 unfold refuseP
 rw [show x % 128 % 128 = x % 128 from Y19]
theorem line_fine {ln b : Nat} {a0 a1 a2 a3 st : PV} {D : Dev} {s : St} (hl : s.blk ln = some (lnRow (b + 5) a0 a1 a2 a3 st)) (hA : DevAt b D s) (hD : D.ok) {p : List Int} (hp : OkB p) (hpl : p.length ≤ 253) : ACalls Tryz.prog 64 [.ptr ln 0 0, .sl .unk (p.map (PV.int .u8))] s (fun r s' => r = .sl .unk ((lineF 0 D p).1.map (PV.int .u8)) ∧ s' = putDev b (lineF 0 D p).2 s) := by
 refine go Tryz.func64 (k := fun hwf H => ?_)
 unfold lnRow at hl
 obtain ⟨⟨x, D'⟩, hX⟩ : ∃ Z, pduF D p = Z := ⟨_, rfl⟩
 have hxo : OkB x := by have := pduF_okB hD hp Y19; rwa [hX] at this
 have hxl : x.length ≤ 140737488350000 := by have := pduF_len hD hp hpl; rw [hX] at this; exact this
 have hpd : ∀ s, DevAt b D s → ACalls Tryz.prog 101 [.ptr (b + 5) 0 0, .sl .unk (p.map (PV.int .u8))] s (fun r s' => r = .sl .unk (x.map (PV.int .u8)) ∧ s' = putDev b D' s) := fun s hA => by
   have := device_Pdu hA hD hp (s := s) Y19
   rwa [hX] at this
 have H := aj hl H
 refine rs (k := rg [0, 1] (k := rs (k := rr (k := ro (pre := [_, _, _, _, _]) (k := ?_)))))
 refine RunO.callw au au au Y25 ((hpd _ hA).mono ?_)
 rintro r s1 ⟨rfl, rfl⟩
 refine rC (h := line_frame hxo hxl) (k := rh [4] (k := rR (k := ?_)))
 exact Ret.all (by simp only [Tryz.f64, go_sem, ↓reduceIte] <;> rfl) ⟨by show _ = PV.sl .unk ((frameF (pduF D p).1).map _); rw [hX], by show _ = putDev b (pduF D p).2 s; rw [hX]⟩
theorem line_fineO {ln b : Nat} {a0 a1 a2 a3 st : PV} {D : Dev} {s : St} (hl : s.blk ln = some (lnRow (b + 5) a0 a1 a2 a3 st)) (hA : DevAt b D s) (hD : D.ok) {p : List Int} (hp : OkB p) (hpl : p.length ≤ 253) (h1 : (pduF D p).1 ≠ []) (h2 : (pduF D p).1.length ≤ 253) : ACalls Tryz.prog 64 [.ptr ln 0 0, .sl .unk (p.map (PV.int .u8))] s (fun r s' => r = .own (s.nxt + 1) 0 ((pduF D p).1.length + 3) ∧ s' = ((putDev b (pduF D p).2 s).new (.tok (17 :: (pduF D p).1).length)).new (.row 5 ((sealB (17 :: (pduF D p).1)).map (PV.int .u8)))) := by
 refine go Tryz.func64 (k := fun hwf H => ?_)
 unfold lnRow at hl
 obtain ⟨⟨x, D'⟩, hX⟩ : ∃ Z, pduF D p = Z := ⟨_, rfl⟩
 have hxo : OkB x := by have := pduF_okB hD hp Y19; rwa [hX] at this
 have hxl : x.length ≤ 140737488350000 := by have := pduF_len hD hp hpl; rw [hX] at this; exact this
 have hpd : ∀ s, DevAt b D s → ACalls Tryz.prog 101 [.ptr (b + 5) 0 0, .sl .unk (p.map (PV.int .u8))] s (fun r s' => r = .sl .unk (x.map (PV.int .u8)) ∧ s' = putDev b D' s) := fun s hA => by
   have := device_Pdu hA hD hp (s := s) Y19
   rwa [hX] at this
 rw [hX] at h1 h2 ⊢
 have H := aj hl H
 refine rs (k := rg [0, 1] (k := rs (k := rr (k := ro (pre := [_, _, _, _, _]) (k := ?_)))))
 refine RunO.callw au au au Y25 ((hpd _ hA).mono ?_)
 rintro r s1 ⟨rfl, rfl⟩
 refine RunO.callw au au au Y25 ((line_frameO hxo h1 h2).mono ?_)
 rintro r s1 ⟨rfl, rfl⟩
 refine rh [4] (k := rR (k := ?_))
 exact Ret.all (by simp only [Tryz.f64, go_sem, ↓reduceIte] <;> rfl) ⟨rfl, rfl⟩
theorem line_lost {ln b : Nat} {a0 a1 a2 a3 st : PV} {D : Dev} {s : St} (hl : s.blk ln = some (lnRow (b + 5) a0 a1 a2 a3 st)) (hA : DevAt b D s) (hD : D.ok) {p : List Int} (hp : OkB p) (hpl : p.length ≤ 253) : ACalls Tryz.prog 65 [.ptr ln 0 0, .sl .unk (p.map (PV.int .u8))] s (fun r s' => r = .sl .unk ((lineF 1 D p).1.map (PV.int .u8)) ∧ s' = putDev b (lineF 1 D p).2 s) := by
 refine go Tryz.func65 (k := fun hwf H => ?_)
 refine rs (k := rg [] (k := rs (k := rg [4] (k := rR (k := ?_)))))
 refine Ret.pure (r' := .sl .unk []) (by simp only [Tryz.f65, go_sem, ↓reduceIte] <;> rfl) rfl Y92 hwf (fun _ _ => rfl) ⟨rfl, (putDev_self hA).symm⟩
theorem line_mute {ln b : Nat} {a0 a1 a2 a3 st : PV} {D : Dev} {s : St} (hl : s.blk ln = some (lnRow (b + 5) a0 a1 a2 a3 st)) (hA : DevAt b D s) (hD : D.ok) {p : List Int} (hp : OkB p) (hpl : p.length ≤ 253) : ACalls Tryz.prog 66 [.ptr ln 0 0, .sl .unk (p.map (PV.int .u8))] s (fun r s' => r = .sl .unk ((lineF 2 D p).1.map (PV.int .u8)) ∧ s' = putDev b (lineF 2 D p).2 s) := by
 refine go Tryz.func66 (k := fun hwf H => ?_)
 refine rs (k := rg [0, 1] (k := rs (k := rr (k := ro (pre := [_, _]) (k := ?_)))))
 refine RunO.callw au au au Y25 ((line_fine hl hA hD hp hpl).mono ?_)
 rintro r s1 ⟨rfl, rfl⟩
 refine rl [] (k := rs (k := rg [4] (k := rR (k := ?_))))
 exact Ret.dev (lineF 2 D p).2 hA (r' := .sl .unk []) (by simp only [Tryz.f66, go_sem, ↓reduceIte] <;> rfl) rfl Y92 hwf (fun _ _ => rfl) ⟨rfl, rfl⟩
attribute [local go_sem] weaks_bools Rep.pv
theorem line_refuse {ln b : Nat} {a0 a1 a2 a3 st : PV} {D : Dev} {s : St} (hl : s.blk ln = some (lnRow (b + 5) a0 a1 a2 a3 st)) (hA : DevAt b D s) (hD : D.ok) {p : List Int} (hp : OkB p) (hpl : p.length ≤ 253) (hne : p ≠ []) : ACalls Tryz.prog 68 [.ptr ln 0 0, .sl .unk (p.map (PV.int .u8))] s (fun r s' => r = .sl .unk ((lineF 4 D p).1.map (PV.int .u8)) ∧ s' = putDev b (lineF 4 D p).2 s) := by
 refine go Tryz.func68 (k := fun hwf H => ?_)
 have hll : 0 < p.length := List.length_pos_iff.2 hne
 obtain ⟨x, hx⟩ : ∃ x, p[0]? = some x := ⟨p[0], List.getElem?_eq_getElem hll⟩
 have hxx : (p.map (PV.int .u8))[0]? = some (.int .u8 x) := Y145
 have hlT : (0 < p.length) = True := eq_true hll
 have hx8 : U8 x := hp x (List.mem_of_getElem? hx)
 have hx0 : (p[0]?).getD 0 = x := by rw [hx]; rfl
 have ha127 : ibits .and .u8 x 127 = x % 128 := u8_and127 hx8
 have hw : IntKind.i64.wrap (x % 128) = x % 128 := wrap_i64 Y19
 have hx64 : I64 (x % 128) := Y144
 have h4 : I64 4 := Y21
 have hrl : (repF (refuseP (x % 128) 4)).length ≤ 140737488350000 := by
   unfold repF
   split
   · exact Nat.le_trans (layF_len ‹_›) Y19
   · simp
 have H := aj hxx (aj hlT (aj ha127 (aj hw H)))
 refine rs (k := rg [1] (k := rs (k := rr (k := ro (pre := [_, _, _, _, _]) (k := rC (h := reply_Refuse (fn := x % 128) (code := 4) hx64 h4) (k := rC (h := reply_Bytes (refuseP_ok _ _)) (k := rh [5] (k := rs (k := rr (k := ro (pre := [_]) (k := rC (h := line_frame (repF_ok (refuseP_ok _ _)) hrl) (k := rh [4] (k := rR (k := ?_))))))))))))))
 exact Ret.all (by simp only [Tryz.f68, go_sem, ↓reduceIte] <;> rfl) ⟨by show _ = PV.sl .unk ((frameF (repF (refuseP ((p[0]?).getD 0) 4))).map _); rw [hx0, refuse_mod x], (putDev_self hA).symm⟩
end Go.Proofs
namespace Go.Proofs
open Go.PM
set_option maxHeartbeats 2000000
theorem line_brokenN {ln b : Nat} {a0 a1 a2 a3 st : PV} {D : Dev} {s : St} (hl : s.blk ln = some (lnRow (b + 5) a0 a1 a2 a3 st)) (hA : DevAt b D s) (hD : D.ok) {p : List Int} (hp : OkB p) (hpl : p.length ≤ 253) (hz : frameF (pduF D p).1 = []) : ACalls Tryz.prog 67 [.ptr ln 0 0, .sl .unk (p.map (PV.int .u8))] s (fun r s' => r = .sl .unk ((lineF 3 D p).1.map (PV.int .u8)) ∧ s' = putDev b (lineF 3 D p).2 s) := by
 refine go Tryz.func67 (k := fun hwf H => ?_)
 have hz2 : (lineF 0 D p).1 = [] := hz
 have hzl : (((lineF 0 D p).1.length : Nat) : Int) = 0 := by rw [hz2]; rfl
 have H := aj hzl H
 refine rs (k := rg [0, 1] (k := rs (k := rr (k := ro (pre := [_, _]) (k := ?_)))))
 refine RunO.callw au au au Y25 ((line_fine hl hA hD hp hpl).mono ?_)
 rintro r s1 ⟨rfl, rfl⟩
 refine rh [5] (k := rs (k := rs (k := rg [5, 6] (k := rs (k := rg [5, 6, 13] (k := rc (ht := fun hc0 => ?_) (hf := fun hc0 => ?_)))))))
 · cases hc0
 · refine rk (k := rs (k := rg [4] (k := rR (k := ?_))))
   exact Ret.all (by simp only [Tryz.f67, go_sem, ↓reduceIte] <;> rfl) ⟨by rw [hz2]; show _ = PV.sl .unk ((flipL (frameF (pduF D p).1)).map _); rw [hz]; rfl, rfl⟩
attribute [local go_sem] set_set putDev_hi putDev_nxt
theorem line_brokenO {ln b : Nat} {a0 a1 a2 a3 st : PV} {D : Dev} {s : St} (hl : s.blk ln = some (lnRow (b + 5) a0 a1 a2 a3 st)) (hA : DevAt b D s) (hD : D.ok) {p : List Int} (hp : OkB p) (hpl : p.length ≤ 253) (h1 : (pduF D p).1 ≠ []) (h2 : (pduF D p).1.length ≤ 253) : ACalls Tryz.prog 67 [.ptr ln 0 0, .sl .unk (p.map (PV.int .u8))] s (fun r s' => r = .sl .unk ((lineF 3 D p).1.map (PV.int .u8)) ∧ s' = putDev b (lineF 3 D p).2 s) := by
 refine go Tryz.func67 (k := fun hwf H => ?_)
 obtain ⟨Z, hZ⟩ : ∃ Z, Z = sealB (17 :: (pduF D p).1) := ⟨_, rfl⟩
 have hZl : Z.length = (pduF D p).1.length + 3 := by rw [hZ, sealB_len, List.length_cons]
 have hlt := hA.lt hwf
 obtain ⟨m, hm⟩ : ∃ m, m + 1 = Z.length := ⟨(pduF D p).1.length + 2, Y19⟩
 have hml : m < Z.length := Y19
 obtain ⟨z, hz⟩ : ∃ z, Z[m]'hml = z := ⟨_, rfl⟩
 have hzz : (Z.map (PV.int .u8))[m]? = some (.int .u8 z) := by rw [map_get hml, hz]
 have hT1 : ((0 : Int) < (((pduF D p).1.length + 3 : Nat) : Int)) = True := eq_true Y19
 have hw : IntKind.i64.wrap ((((pduF D p).1.length + 3 : Nat) : Int) - 1) = (m : Int) := Y27
 have hmT : (m < (pduF D p).1.length + 3) = True := eq_true Y19
 have hmT2 : ((m : Int) < (((pduF D p).1.length + 3 : Nat) : Int)) = True := eq_true Y19
 have hset : (Z.map (PV.int .u8)).set m (.int .u8 (ibits .xor .u8 z 1)) = (Z.set m (ibits .xor .u8 z 1)).map (PV.int .u8) := by rw [List.map_set]
 have hfl : Z.set m (ibits .xor .u8 z 1) = flipL (frameF (pduF D p).1) := by
   rw [frameF_eq h1 h2, ← hZ]
   unfold flipL
   rw [show Z.length - 1 = m from Y19, List.getElem?_eq_getElem hml, hz]; rfl
 have H := aj hzz (aj hT1 (aj hw (aj hmT (aj hmT2 (aj hset H)))))
 refine rs (k := rg [0, 1] (k := rs (k := rr (k := ro (pre := [_, _]) (k := ?_)))))
 refine RunO.callw au au au Y25 ((line_fineO hl hA hD hp hpl h1 h2).mono ?_)
 rintro r s1 ⟨rfl, rfl⟩
 rw [← hZ]
 refine rh [5] (k := rs (k := rs (k := rg [5, 6] (k := rs (k := rg [5, 6, 13] (k := rc (ht := fun hc0 => ?_) (hf := fun hc0 => ?_)))))))
 · refine rg [5] (k := rs (k := rr (k := ?_)))
   refine RunO.thaw 5 (s.nxt + 1) 2 (v := .sl .unk ((flipL (frameF (pduF D p).1)).map (PV.int .u8))) (by simp (disch := omega) only [go_sem, ↓reduceIte]; rw [← hfl]; exact frz_own_ints (t := 5) (by rw [List.length_set]; omega) Y81 (by simp (disch := first | omega | (simp only [nxt_set, nxt_new, putDev_nxt] <;> omega) | fail) only [go_sem, putDev_nxt, ↓reduceIte, H] <;> rfl)) (by simp only [PV.blw, blws_u8T]; exact ⟨fun t z e => Y18, trivial⟩) ?_
   refine ro (pre := [_]) (k := rh [4] (k := rR (k := ?_)))
   exact Ret.dev (lineF 3 D p).2 hA (r' := .sl .unk ((flipL (frameF (pduF D p).1)).map (PV.int .u8))) (by simp only [Tryz.f67, go_sem, ↓reduceIte] <;> rfl) (by simp only [PV.weak, weaks_u8]) Y26 hwf (fun i hi => by first | rfl | (have h0 := ltn hi; have h1 := lte hi; simp (disch := first | omega | (simp only [nxt_set, nxt_new, putDev_nxt] <;> omega) | fail) only [go_sem, putDev_nxt, Nat.add_assoc, Nat.reduceAdd, ↓reduceIte, h0, h1] <;> rfl)) ⟨rfl, rfl⟩
 · cases hc0
theorem line_broken {ln b : Nat} {a0 a1 a2 a3 st : PV} {D : Dev} {s : St} (hl : s.blk ln = some (lnRow (b + 5) a0 a1 a2 a3 st)) (hA : DevAt b D s) (hD : D.ok) {p : List Int} (hp : OkB p) (hpl : p.length ≤ 253) : ACalls Tryz.prog 67 [.ptr ln 0 0, .sl .unk (p.map (PV.int .u8))] s (fun r s' => r = .sl .unk ((lineF 3 D p).1.map (PV.int .u8)) ∧ s' = putDev b (lineF 3 D p).2 s) := by
 by_cases h1 : (pduF D p).1 = []
 · exact line_brokenN hl hA hD hp hpl (by rw [h1]; rfl)
 · by_cases h2 : (pduF D p).1.length ≤ 253
   · exact line_brokenO hl hA hD hp hpl h1 h2
   · refine line_brokenN hl hA hD hp hpl ?_
     unfold frameF frameA
     rw [if_neg Y20, if_neg h1, if_pos Y19]
theorem Y111 {p : Prop} (h : p := by simp only [Tryz.f43, go_sem, ↓reduceIte] <;> rfl) : p := h
theorem Y112 {p : Prop} (h : p := by simp only [PV.blw, PV.blws, and_true]; exact hln) : p := h
theorem line_does0 {ln : Nat} {s : St} (hln : ln < s.nxt) : ACalls Tryz.prog 43 [.ptr ln 0 0, .int .i64 0] s (fun r s' => r = .fn (.func 64) [.ptr ln 0 0] [] ∧ s' = s) := by
 refine go Tryz.func43 (k := fun hwf H => ?_)
 have f0 : ((0 : Int) < ((5 : Nat) : Int)) = True := eq_true Y20
 have f1 : ((0 : Int) ≤ 0) = True := eq_true Y20
 have f2 : Int.toNat 0 = 0 := rfl
 have H := aj f0 (aj f1 (aj f2 H))
 refine rs (k := rg [0, 1] (k := rs (k := rg [1, 5] (k := rs (k := rg [4] (k := rR (k := ?_)))))))
 exact Ret.pure (r' := .fn (.func 64) [.ptr ln 0 0] []) Y111 (by rfl) Y112 hwf Y36 ⟨rfl, rfl⟩
theorem line_does1 {ln : Nat} {s : St} (hln : ln < s.nxt) : ACalls Tryz.prog 43 [.ptr ln 0 0, .int .i64 1] s (fun r s' => r = .fn (.func 65) [.ptr ln 0 0] [] ∧ s' = s) := by
 refine go Tryz.func43 (k := fun hwf H => ?_)
 have f0 : ((1 : Int) < ((5 : Nat) : Int)) = True := eq_true Y20
 have f1 : ((0 : Int) ≤ 1) = True := eq_true Y20
 have f2 : Int.toNat 1 = 1 := rfl
 have H := aj f0 (aj f1 (aj f2 H))
 refine rs (k := rg [0, 1] (k := rs (k := rg [1, 5] (k := rs (k := rg [4] (k := rR (k := ?_)))))))
 exact Ret.pure (r' := .fn (.func 65) [.ptr ln 0 0] []) Y111 (by rfl) Y112 hwf Y36 ⟨rfl, rfl⟩
theorem line_does2 {ln : Nat} {s : St} (hln : ln < s.nxt) : ACalls Tryz.prog 43 [.ptr ln 0 0, .int .i64 2] s (fun r s' => r = .fn (.func 66) [.ptr ln 0 0] [] ∧ s' = s) := by
 refine go Tryz.func43 (k := fun hwf H => ?_)
 have f0 : ((2 : Int) < ((5 : Nat) : Int)) = True := eq_true Y20
 have f1 : ((0 : Int) ≤ 2) = True := eq_true Y20
 have f2 : Int.toNat 2 = 2 := rfl
 have H := aj f0 (aj f1 (aj f2 H))
 refine rs (k := rg [0, 1] (k := rs (k := rg [1, 5] (k := rs (k := rg [4] (k := rR (k := ?_)))))))
 exact Ret.pure (r' := .fn (.func 66) [.ptr ln 0 0] []) Y111 (by rfl) Y112 hwf Y36 ⟨rfl, rfl⟩
theorem line_does3 {ln : Nat} {s : St} (hln : ln < s.nxt) : ACalls Tryz.prog 43 [.ptr ln 0 0, .int .i64 3] s (fun r s' => r = .fn (.func 67) [.ptr ln 0 0] [] ∧ s' = s) := by
 refine go Tryz.func43 (k := fun hwf H => ?_)
 have f0 : ((3 : Int) < ((5 : Nat) : Int)) = True := eq_true Y20
 have f1 : ((0 : Int) ≤ 3) = True := eq_true Y20
 have f2 : Int.toNat 3 = 3 := rfl
 have H := aj f0 (aj f1 (aj f2 H))
 refine rs (k := rg [0, 1] (k := rs (k := rg [1, 5] (k := rs (k := rg [4] (k := rR (k := ?_)))))))
 exact Ret.pure (r' := .fn (.func 67) [.ptr ln 0 0] []) Y111 (by rfl) Y112 hwf Y36 ⟨rfl, rfl⟩
theorem line_does4 {ln : Nat} {s : St} (hln : ln < s.nxt) : ACalls Tryz.prog 43 [.ptr ln 0 0, .int .i64 4] s (fun r s' => r = .fn (.func 68) [.ptr ln 0 0] [] ∧ s' = s) := by
 refine go Tryz.func43 (k := fun hwf H => ?_)
 have f0 : ((4 : Int) < ((5 : Nat) : Int)) = True := eq_true Y20
 have f1 : ((0 : Int) ≤ 4) = True := eq_true Y20
 have f2 : Int.toNat 4 = 4 := rfl
 have H := aj f0 (aj f1 (aj f2 H))
 refine rs (k := rg [0, 1] (k := rs (k := rg [1, 5] (k := rs (k := rg [4] (k := rR (k := ?_)))))))
 exact Ret.pure (r' := .fn (.func 68) [.ptr ln 0 0] []) Y111 (by rfl) Y112 hwf Y36 ⟨rfl, rfl⟩
end Go.Proofs
namespace Go.Proofs
open Go.PM
set_option maxHeartbeats 2000000
theorem Ret.allW {P : Program} {fn : Func} {args : List PV} {s0 s : St} {Q : PV → St → Prop} {e : Env} {r r' : PV} (hr : retv P fn.results.toList e s = some r) (hr' : r' = r.weak) (h : Q r' s) : Ret P fn args s0 Q e s := by
 subst hr'
 exact ⟨r, hr, r.weak, s, h, fun g0 w0 g w _ hX hI v hv => ⟨g, hI, R_weak r v hv, hX⟩⟩
structure Snt where
 tick : Int
 tenant : Int
 data : List Int
def Snt.pv (x : Snt) : PV := .agg [.int .i64 x.tick, .int .i64 x.tenant, .sl .unk (x.data.map (PV.int .u8))]
theorem line_body {f : Int} (hf : 0 ≤ f ∧ f ≤ 4) : ∃ N : Nat, (∀ {ln : Nat} {s : St}, ln < s.nxt → ACalls Tryz.prog 43 [.ptr ln 0 0, .int .i64 f] s (fun r s' => r = .fn (.func N) [.ptr ln 0 0] [] ∧ s' = s)) ∧ callable Tryz.prog N = true ∧
   ∀ {ln b : Nat} {a0 a1 a2 a3 st : PV} {D : Dev} {s : St}, s.blk ln = some (lnRow (b + 5) a0 a1 a2 a3 st) → DevAt b D s → D.ok → ∀ {p : List Int}, OkB p → p.length ≤ 253 → p ≠ [] → ACalls Tryz.prog N [.ptr ln 0 0, .sl .unk (p.map (PV.int .u8))] s (fun r s' => r = .sl .unk ((lineF f D p).1.map (PV.int .u8)) ∧ s' = putDev b (lineF f D p).2 s) := by
 obtain rfl | rfl | rfl | rfl | rfl : f = 0 ∨ f = 1 ∨ f = 2 ∨ f = 3 ∨ f = 4 := Y19
 · exact ⟨64, fun h => line_does0 h, Y25, fun hl hA hD _ hp hpl _ => line_fine hl hA hD hp hpl⟩
 · exact ⟨65, fun h => line_does1 h, Y25, fun hl hA hD _ hp hpl _ => line_lost hl hA hD hp hpl⟩
 · exact ⟨66, fun h => line_does2 h, Y25, fun hl hA hD _ hp hpl _ => line_mute hl hA hD hp hpl⟩
 · exact ⟨67, fun h => line_does3 h, Y25, fun hl hA hD _ hp hpl _ => line_broken hl hA hD hp hpl⟩
 · exact ⟨68, fun h => line_does4 h, Y25, fun hl hA hD _ hp hpl hne => line_refuse hl hA hD hp hpl hne⟩
attribute [local go_sem] set_set putDev_hi putDev_nxt
attribute [local go_sem] set_set putDev_hi putDev_nxt
end Go.Proofs
namespace Go.Proofs
open Go.PM
set_option maxHeartbeats 2000000
structure ElsAt (c : Nat) (s0 s' : St) (kk : SK) (els ws : List PV) : Prop where
 wk : PV.weaks els = ws
 el : ∀ p ∈ els, p.ok = true ∧ p.cells.length = c
 fr : Fr s0 s'
 gr : Grows s' kk els.length c
 tk : ∀ t z, kk = .tok t z → s0.nxt ≤ t ∧ t < s'.nxt
theorem weaks_snocP {a b : List PV} : PV.weaks (a ++ b) = PV.weaks a ++ PV.weaks b := by
 induction a with
 | nil => rfl
 | cons x l ih => simp only [List.cons_append, PV.weaks, ih]
theorem ElsAt.snoc {c : Nat} {s0 s1 s2 s3 : St} {kk k' : SK} {els ws : List PV} {el w : PV} (h : ElsAt c s0 s1 kk els ws) (h1 : el.ok = true) (h2 : el.cells.length = c) (hw : el.weak = w) (h12 : s1.nxt ≤ s2.nxt) (f2 : Fr s0 s2)
   (hg : Grows s3 k' (els.length + [el].length) c) (htm : TMoves s2 s3 kk k') : ElsAt c s0 s3 k' (els ++ [el]) (ws ++ [w]) := by
 refine ⟨by rw [weaks_snocP, h.wk]; simp only [PV.weaks, hw], fun p hp => ?_, f2.tm htm (fun t z e => (h.tk t z e).1), by rw [List.length_append]; exact hg, fun t z e => ?_⟩
 · rcases List.mem_append.1 hp with hp | hp
   · exact h.el p hp
   · rw [List.mem_singleton.1 hp]; exact ⟨h1, h2⟩
 · have h9 := htm.nxt
   have h8 := f2.nxt
   rcases htm.fresh t z e with ⟨z', h'⟩ | ⟨h1, h2⟩
   · have := h.tk t z' h'; omega
   · omega
attribute [local go_sem] set_set
set_option maxRecDepth 100000 in
theorem line_Sent {ln d : Nat} {a0 a1 a2 a3 : PV} {k : SK} {l : List Snt} (hll : l.length ≤ 100000) (hld : ∀ x ∈ l, x.data.length ≤ 140737488350000) {s : St} (hl : s.blk ln = some (lnRow d a0 a1 a2 a3 (.sl k (l.map Snt.pv)))) : ACalls Tryz.prog 17 [.ptr ln 0 0] s (fun r s' => r = .sl .unk (l.map Snt.pv) ∧ s' = s) := by
 refine go Tryz.func17 (k := fun hwf H => ?_)
 unfold lnRow at hl
 have hlt := lt_blk hwf hl
 have n1 : (ln = s.nxt) = False := eq_false Y19
 have H := aj n1 H
 have H := aj hl H
 refine rs (k := rg [0] (k := rs (k := rr (k := ro (pre := [_, _, _, _, _]) (k := ?_)))))
 refine RunO.makeCap (n := l.length) au au au Tryz.td50 (by rw [Tryz.zp54]) Y19 (by rw [Tryz.by54]; omega) ?_
 refine rh [0, 3] (k := rs (k := rs (k := rg [3, 15, 16, 17] (k := rb (k := ?_)))))
 refine Run.loop (fun e s' => ∃ (i : Nat) (els : List PV) (kk : SK), e = [(3, .sl kk els), (15, .sl k (l.map Snt.pv)), (16, .int .i64 (l.length : Int)), (17, .int .i64 (i : Int))] ∧ i ≤ l.length ∧ els.length = i ∧ ElsAt 3 s s' kk els ((l.take i).map Snt.pv)) (fun e s' => l.length - ivar e 17) ?_ ?_
 · exact ⟨0, [], .tok s.nxt 3, rfl, Nat.zero_le _, rfl, rfl, (fun p hp => by cases hp), (Fr.refl hwf).new _, .inr (.inr ⟨s.nxt, rfl, blk_new_eq⟩), fun t z e => by cases e; exact ⟨Nat.le_refl _, Nat.lt_succ_self _⟩⟩
 rintro e s1 ⟨i, els, kk, rfl, hi, hel, hE⟩
 have hFn := hE.fr.nxt
 refine rs (k := rg [3, 15, 16, 17, 18] (k := rs (k := rc (ht := fun hc0 => ?_) (hf := fun hc0 => ?_))))
 · refine rk (k := rs (k := rb (k := rs (k := ?_))))
   have hil : i < l.length := Y86
   obtain ⟨x, hxe⟩ : ∃ z_, l[i]'hil = z_ := ⟨_, rfl⟩
   have hxx : (l.map Snt.pv)[i]? = some (.agg [.int .i64 x.tick, .int .i64 x.tenant, .sl .unk (x.data.map (PV.int .u8))]) := by rw [map_get hil, hxe]; rfl
   have hilT : (i < l.length) = True := eq_true hil
   have hxd : x.data.length ≤ 140737488350000 := hld x Y259
   have hw : IntKind.i64.wrap ((i : Int) + 1) = ((i + 1 : Nat) : Int) := Y27
   have H := aj hxx (aj hilT (aj hw H))
   refine rg [3, 5, 15, 16, 17] (k := rs (k := rr (k := ro (pre := [_, _]) (k := rC (h := clone_u8 (xs := x.data) Y19) (k := rC (h := clip_u8 (xs := x.data)) (k := rh [3, 5, 15, 16, 17] (k := rr (k := ro (pre := [_, _]) (k := rO (k := ?_))))))))))
   refine RunO.grow (xs := els) (ys := [_]) au au au Tryz.td50 (by rw [Tryz.zp54]; rfl) (by unfold isEls; rw [Tryz.cz54]; exact hE.el) (by intro p hp; rw [List.mem_singleton.1 hp, Tryz.cz54]; exact ⟨rfl, rfl⟩) (by rw [Tryz.by54]; decide) (by rw [Tryz.by54]; simp; omega) (by rw [Tryz.cz54]; exact hE.gr.mono fun t e => by have := hE.tk _ _ e; simp (disch := first | omega | (simp only [nxt_set, nxt_new] <;> omega) | fail) only [go_sem]) Y81 ?_
   intro k' s3 hgr' htm
   rw [Tryz.cz54] at hgr'
   refine rh [3, 15, 16, 17] (k := rB (k := rg [3, 15, 16, 17] (k := ?_)))
   refine Run.lp ⟨⟨i + 1, _, k', rfl, Y19, by rw [List.length_append, hel]; rfl, ?_⟩, ?_⟩
   · rw [take_get hil, hxe, List.map_append]
     exact hE.snoc rfl rfl (by simp only [PV.weak, PV.weaks, weaks_u8, Snt.pv]) (Nat.le_succ _) (hE.fr.new _) hgr' htm
   · exact Y33
 · refine rX (k := rs (k := rg [2] (k := rR (k := ?_))))
   have hi2 : i = l.length := Y88
   refine Ret.pure (r' := .sl .unk (l.map Snt.pv)) (by simp only [Tryz.f17, go_sem, ↓reduceIte] <;> rfl) (by rw [PV.weak, hE.wk, hi2, List.take_length]) (by simp only [PV.blw]; exact ⟨fun t z e => Y18, blws_map Snt.pv _ (fun a => by simp only [Snt.pv, PV.blw, PV.blws, and_true, true_and]; exact ⟨fun t z e => Y18, blws_u8 _ _⟩) _⟩) hwf hE.fr.blk ⟨rfl, rfl⟩
end Go.Proofs
namespace Go.Proofs
open Go.PM
set_option maxHeartbeats 2000000
def TkAt (s : St) (z : Nat) (els : List PV) (c : Nat) (x : PV) : Option Nat → Prop
 | none => x = .sl .nil [] ∧ els = []
 | some t => x = .sl (.tok t z) els ∧ s.blk t = some (.tok els.length) ∧ c ≤ t ∧ t < s.nxt
theorem TkAt.keep {s s' : St} {z : Nat} {els : List PV} {c : Nat} {x : PV} {n : Option Nat} (h : TkAt s z els c x n) (hb : ∀ t, n = some t → t < s.nxt → s'.blk t = s.blk t) (hx : s.nxt ≤ s'.nxt) : TkAt s' z els c x n := by
 cases n with
 | none => exact h
 | some t => exact ⟨h.1, by rw [hb t rfl h.2.2.2]; exact h.2.1, h.2.2.1, Nat.lt_of_lt_of_le h.2.2.2 hx⟩
structure LnAt (b ln c : Nat) (D : Dev) (F : List Int) (l : List Snt) (a1 a2 a3 : PV) (s : St) : Prop where
 row : ∃ x st n m, s.blk ln = some (lnRow (b + 5) x a1 a2 a3 st) ∧ TkAt s 1 (F.map (PV.int .i64)) c x n ∧ TkAt s 3 (l.map Snt.pv) c st m ∧ (n = none ∨ n ≠ m)
 dev : DevAt b D s
 lt : b + 5 < ln
 hc : ln < c
 nx : c ≤ s.nxt
structure Out (b ln c : Nat) (s s' : St) : Prop where
 nx : s.nxt ≤ s'.nxt
 same : ∀ j, j < s.nxt → (j < c ∨ ∀ L, s.blk j ≠ some (.tok L)) → j ≠ ln → ¬ (b ≤ j ∧ j ≤ b + 5) → s'.blk j = s.blk j
theorem Out.refl (b ln c : Nat) (s : St) : Out b ln c s s := ⟨Nat.le_refl _, fun _ _ _ _ _ => rfl⟩
theorem Out.trans {b ln c : Nat} {s s1 s2 : St} (h : Out b ln c s s1) (k : Out b ln c s1 s2) : Out b ln c s s2 := ⟨Nat.le_trans h.nx k.nx, fun j h1 h2 h3 h4 => (k.same j (Nat.lt_of_lt_of_le h1 h.nx) (by rw [h.same j h1 h2 h3 h4]; exact h2) h3 h4).trans (h.same j h1 h2 h3 h4)⟩
theorem LnAt.put {b ln c : Nat} {D D' : Dev} {F : List Int} {l : List Snt} {a1 a2 a3 : PV} {s : St} (h : LnAt b ln c D F l a1 a2 a3 s) (hl : D'.c0.length = D.c0.length) : LnAt b ln c D' F l a1 a2 a3 (putDev b D' s) ∧ Out b ln c s (putDev b D' s) := by
 have h1 := h.lt
 have h2 := h.hc
 obtain ⟨x, st, n, m, r1, r2, r3, r4⟩ := h.row
 refine ⟨⟨⟨x, st, n, m, by rw [putDev_hi Y19]; exact r1, ?_, ?_, r4⟩, DevAt.put h.dev hl, h1, h2, h.nx⟩, Nat.le_refl _, fun j _ _ _ h3 => ?_⟩
 · refine r2.keep (fun t e ht => ?_) (Nat.le_refl _)
   subst e
   have := r2.2.2.1
   exact putDev_hi Y19
 · refine r3.keep (fun t e ht => ?_) (Nat.le_refl _)
   subst e
   have := r3.2.2.1
   exact putDev_hi Y19
 · by_cases hj : j < b
   · exact putDev_lo Y19
   · exact putDev_hi Y19
theorem LnAt.nw {b ln c : Nat} {D : Dev} {F : List Int} {l : List Snt} {a1 a2 a3 : PV} {s : St} (h : LnAt b ln c D F l a1 a2 a3 s) (x : Blk) : LnAt b ln c D F l a1 a2 a3 (s.new x) := by
 have h1 := h.lt
 have h2 := h.hc
 have h3 := h.nx
 obtain ⟨y, st, n, m, r1, r2, r3, r4⟩ := h.row
 exact ⟨⟨y, st, n, m, by rw [blk_new_ne Y19]; exact r1, r2.keep (fun t e ht => blk_new_ne Y19) (Nat.le_succ _), r3.keep (fun t e ht => blk_new_ne Y19) (Nat.le_succ _), r4⟩, h.dev.nw Y19 _, h1, h2, Nat.le_succ_of_le h3⟩
theorem Y168 {p : Prop} (h : p := by rw [blk_set_ne Y19]; exact r1) : p := h
theorem LnAt.hi {b ln c r : Nat} {D : Dev} {F : List Int} {l : List Snt} {a1 a2 a3 : PV} {s : St} (h : LnAt b ln c D F l a1 a2 a3 s) (hr : c ≤ r) (hb : ∀ L, s.blk r ≠ some (.tok L)) (x : Option Blk) : LnAt b ln c D F l a1 a2 a3 (s.set r x) := by
 have h1 := h.lt
 have h2 := h.hc
 obtain ⟨y, st, n, m, r1, r2, r3, r4⟩ := h.row
 refine ⟨⟨y, st, n, m, Y168, r2.keep (fun t e ht => ?_) (Nat.le_refl _), r3.keep (fun t e ht => ?_) (Nat.le_refl _), r4⟩, h.dev.sv Y19 _, h1, h2, h.nx⟩
 · subst e
   exact blk_set_ne (by rintro rfl; exact hb _ r2.2.1)
 · subst e
   exact blk_set_ne (by rintro rfl; exact hb _ r3.2.1)
theorem Out.nw {b ln c : Nat} {s s' : St} (h : Out b ln c s s') (x : Blk) : Out b ln c s (s'.new x) :=
 ⟨Nat.le_succ_of_le h.nx, fun j q1 q2 q3 q4 => by rw [blk_new_ne (by have := h.nx; omega)]; exact h.same j q1 q2 q3 q4⟩
theorem Out.hi {b ln c r : Nat} {s s' : St} (h : Out b ln c s s') (hr : s.nxt ≤ r) (x : Option Blk) : Out b ln c s (s'.set r x) :=
 ⟨h.nx, fun j q1 q2 q3 q4 => by rw [blk_set_ne Y19]; exact h.same j q1 q2 q3 q4⟩
theorem LnAt.newF {b ln c : Nat} {D : Dev} {F : List Int} {l : List Snt} {a1 a2 a3 st : PV} {m : Option Nat} {s : St} (hd : DevAt b D s) (h1 : b + 5 < ln) (h2 : ln < c) (h3 : c ≤ s.nxt) (hm : TkAt s 3 (l.map Snt.pv) c st m) :
   LnAt b ln c D F l a1 a2 a3 ((s.new (.tok F.length)).set ln (some (lnRow (b + 5) (.sl (.tok s.nxt 1) (F.map (PV.int .i64))) a1 a2 a3 st))) ∧ Out b ln c s ((s.new (.tok F.length)).set ln (some (lnRow (b + 5) (.sl (.tok s.nxt 1) (F.map (PV.int .i64))) a1 a2 a3 st))) := by
 refine ⟨⟨⟨_, st, some s.nxt, m, blk_set_self _ _ _, ⟨rfl, ?_, h3, Nat.lt_succ_self _⟩, hm.keep (fun t e ht => ?_) (Nat.le_succ _), .inr ?_⟩, (hd.nw Y19 _).sv Y19 _, h1, h2, Nat.le_succ_of_le h3⟩, Nat.le_succ _, fun j q1 _ q2 _ => ?_⟩
 · rw [blk_set_ne Y19, List.length_map]; exact blk_new_eq
 · subst e
   have := hm.2.2.1
   rw [blk_set_ne Y19, blk_new_ne Y19]
 · rintro rfl
   have := hm.2.2.2
   omega
 · rw [blk_set_ne q2, blk_new_ne Y19]
theorem Y224 {p : Prop} (h : p := by rintro rfl; rcases qt with h | h; omega; exact h _ hb) : p := h
theorem Y280 {p : Prop} (h : p := by
 subst e
 have := hm.2.2.1
 rw [blk_set_ne Y19, blk_set_ne (fun e => hne (by rw [e]))]) : p := h
theorem LnAt.setF {b ln c t : Nat} {D : Dev} {F : List Int} {l : List Snt} {a1 a2 a3 st : PV} {m : Option Nat} {s : St} (hd : DevAt b D s) (h1 : b + 5 < ln) (h2 : ln < c) (h3 : c ≤ s.nxt) (ht : c ≤ t) (htx : t < s.nxt) {L0 : Nat} (hb : s.blk t = some (.tok L0)) (hm : TkAt s 3 (l.map Snt.pv) c st m) (hne : some t ≠ m) :
   LnAt b ln c D F l a1 a2 a3 ((s.set t (some (.tok F.length))).set ln (some (lnRow (b + 5) (.sl (.tok t 1) (F.map (PV.int .i64))) a1 a2 a3 st))) ∧ Out b ln c s ((s.set t (some (.tok F.length))).set ln (some (lnRow (b + 5) (.sl (.tok t 1) (F.map (PV.int .i64))) a1 a2 a3 st))) := by
 refine ⟨⟨⟨_, st, some t, m, blk_set_self _ _ _, ⟨rfl, ?_, ht, htx⟩, hm.keep (fun t' e ht' => ?_) (Nat.le_refl _), .inr hne⟩, (hd.sv Y19 _).sv Y19 _, h1, h2, h3⟩, Nat.le_refl _, fun j q1 qt q2 _ => ?_⟩
 · rw [blk_set_ne Y19, List.length_map]; exact blk_set_self _ _ _
 · exact Y280
 · rw [blk_set_ne q2, blk_set_ne Y224]
theorem LnAt.newS {b ln c : Nat} {D : Dev} {F : List Int} {l : List Snt} {a1 a2 a3 x : PV} {n : Option Nat} {s : St} (hd : DevAt b D s) (h1 : b + 5 < ln) (h2 : ln < c) (h3 : c ≤ s.nxt) (hm : TkAt s 1 (F.map (PV.int .i64)) c x n) :
   LnAt b ln c D F l a1 a2 a3 ((s.new (.tok l.length)).set ln (some (lnRow (b + 5) x a1 a2 a3 (.sl (.tok s.nxt 3) (l.map Snt.pv))))) ∧ Out b ln c s ((s.new (.tok l.length)).set ln (some (lnRow (b + 5) x a1 a2 a3 (.sl (.tok s.nxt 3) (l.map Snt.pv))))) := by
 refine ⟨⟨⟨x, _, n, some s.nxt, blk_set_self _ _ _, hm.keep (fun t e ht => ?_) (Nat.le_succ _), ⟨rfl, ?_, h3, Nat.lt_succ_self _⟩, .inr ?_⟩, (hd.nw Y19 _).sv Y19 _, h1, h2, Nat.le_succ_of_le h3⟩, Nat.le_succ _, fun j q1 _ q2 _ => ?_⟩
 · subst e
   have := hm.2.2.1
   rw [blk_set_ne Y19, blk_new_ne Y19]
 · rw [blk_set_ne Y19, List.length_map]; exact blk_new_eq
 · rintro rfl
   have := hm.2.2.2
   omega
 · rw [blk_set_ne q2, blk_new_ne Y19]
theorem LnAt.setS {b ln c t : Nat} {D : Dev} {F : List Int} {l : List Snt} {a1 a2 a3 x : PV} {n : Option Nat} {s : St} (hd : DevAt b D s) (h1 : b + 5 < ln) (h2 : ln < c) (h3 : c ≤ s.nxt) (ht : c ≤ t) (htx : t < s.nxt) {L0 : Nat} (hb : s.blk t = some (.tok L0)) (hm : TkAt s 1 (F.map (PV.int .i64)) c x n) (hne : n ≠ some t) :
   LnAt b ln c D F l a1 a2 a3 ((s.set t (some (.tok l.length))).set ln (some (lnRow (b + 5) x a1 a2 a3 (.sl (.tok t 3) (l.map Snt.pv))))) ∧ Out b ln c s ((s.set t (some (.tok l.length))).set ln (some (lnRow (b + 5) x a1 a2 a3 (.sl (.tok t 3) (l.map Snt.pv))))) := by
 refine ⟨⟨⟨x, _, n, some t, blk_set_self _ _ _, hm.keep (fun t' e ht' => ?_) (Nat.le_refl _), ⟨rfl, ?_, ht, htx⟩, .inr hne⟩, (hd.sv Y19 _).sv Y19 _, h1, h2, h3⟩, Nat.le_refl _, fun j q1 qt q2 _ => ?_⟩
 · exact Y280
 · rw [blk_set_ne Y19, List.length_map]; exact blk_set_self _ _ _
 · rw [blk_set_ne q2, blk_set_ne Y224]
theorem LnAt.cutF {b ln c t k : Nat} {D : Dev} {F : List Int} {l : List Snt} {a1 a2 a3 st : PV} {m : Option Nat} {s : St} (hd : DevAt b D s) (h1 : b + 5 < ln) (h2 : ln < c) (h3 : c ≤ s.nxt) (ht : c ≤ t) (htx : t < s.nxt) {L0 : Nat} (hb : s.blk t = some (.tok L0)) (hm : TkAt s 3 (l.map Snt.pv) c st m) (hne : some t ≠ m) (hk : k = F.length) :
   LnAt b ln c D F l a1 a2 a3 (((s.set t none).new (.tok k)).set ln (some (lnRow (b + 5) (.sl (.tok s.nxt 1) (F.map (PV.int .i64))) a1 a2 a3 st))) ∧ Out b ln c s (((s.set t none).new (.tok k)).set ln (some (lnRow (b + 5) (.sl (.tok s.nxt 1) (F.map (PV.int .i64))) a1 a2 a3 st))) := by
 subst hk
 have ho : Out b ln c s (s.set t none) := ⟨Nat.le_refl _, fun j q1 qt q2 _ => blk_set_ne Y224⟩
 have hm' : TkAt (s.set t none) 3 (l.map Snt.pv) c st m := hm.keep (fun t' e ht' => blk_set_ne (fun e' => hne (by rw [e, e']))) (Nat.le_refl _)
 obtain ⟨k1, k2⟩ := LnAt.newF (F := F) (a1 := a1) (a2 := a2) (a3 := a3) (hd.sv Y19 none) h1 h2 h3 hm'
 exact ⟨k1, ho.trans k2⟩
attribute [local go_sem] set_set putDev_hi putDev_nxt
theorem Y56 {p : Prop} (h : p := by first | exact isEls_map (P := Tryz.prog) (e := 54) (f := Snt.pv) (fun a => ⟨rfl, by rw [Tryz.cz54]; first | done | rfl⟩) _ | (intro p hp; cases hp)) : p := h
theorem Y169 {p : Prop} (h : p := by simp only [Tryz.f27, go_sem, ↓reduceIte] <;> rfl) : p := h
theorem Y225 {p : Prop} (h : p := by simp only [go_sem, List.map_cons, List.map_nil, Snt.pv, ↓reduceIte, Nat.reduceEqDiff, H] <;> rfl) : p := h
set_option maxRecDepth 100000 in
theorem line_SendXN {ln b : Nat} {a0 a1 a2 a3 c0 c1 c2 c3 st9 : PV} {S9 : St} {D : Dev} {tn tick f : Int} (hf : 0 ≤ f ∧ f ≤ 4) {fr : List Int} (hfo : OkB fr) (hfl : fr.length ≤ 140737488350000) {s : St} (hl : s.blk ln = some (lnRow (b + 5) a0 a1 a2 a3 (.sl .nil []))) (hA : DevAt b D s) (hD : D.ok) (hbl : b + 5 < ln) 
   (htake : ACalls Tryz.prog 44 [.ptr ln 0 0, .int .i64 tn] ((s.new (.tok [(⟨tick, tn, fr⟩ : Snt)].length)).set ln (some (lnRow (b + 5) a0 a1 a2 a3 (.sl (.tok s.nxt 3) ([(⟨tick, tn, fr⟩ : Snt)].map Snt.pv))))) (fun r s' => r = .int .i64 f ∧ s' = S9)) (hl9 : S9.blk ln = some (lnRow (b + 5) c0 c1 c2 c3 st9)) (hA9 : DevAt b D S9) (hx9 : ln < S9.nxt) :
   ACalls Tryz.prog 27 [.ptr ln 0 0, .int .i64 tn, .int .i64 tick, .sl .unk (fr.map (PV.int .u8))] s (fun r s' => r = .sl .unk ((sendF f D fr).1.map (PV.int .u8)) ∧ s' = putDev b (sendF f D fr).2 S9) := by
 refine go Tryz.func27 (k := fun hwf H => ?_)
 unfold lnRow at hl
 have hlt := lt_blk hwf hl
 obtain ⟨Nf, hdoes, hcal, hbody⟩ := line_body hf
 have n1 : (ln = s.nxt) = False := eq_false Y19
 have hfl2 : fr.length * 1 ≤ 140737488355328 := Y19
 have H := aj n1 H
 have H := aj hl H
 refine rs (k := rg [0, 1, 2, 3] (k := rs (k := rH 15 [11, 14] [[false, false], [true, false], [true, true]] [s, (s.new (.tok [(⟨tick, tn, fr⟩ : Snt)].length)), ((s.new (.tok [(⟨tick, tn, fr⟩ : Snt)].length)).set ln (some (.row 59 [.agg [.ptr (b + 5) 0 0, a0, a1, a2, a3, .sl (.tok s.nxt 3) ([(⟨tick, tn, fr⟩ : Snt)].map Snt.pv)]])))] Tryz.mixed (k := ?_))))
 refine dP [0, 1] (pre := [_, _, _, _, _, _, _, _]) (k := ?_)
 refine dC [0] (h := fun s _ => clone_u8 (xs := fr) hfl2) (k := ?_)
 refine dP [0] (pre := [_, _]) (k := ?_)
 refine DetHC.app (kx := .nil) (xs := []) (ys := [(⟨tick, tn, fr⟩ : Snt)].map Snt.pv) (v := .sl (.tok s.nxt 3) ([(⟨tick, tn, fr⟩ : Snt)].map Snt.pv)) [(0, 1)] _ Y25 pq au au Y225 Tryz.td50 (by rw [Tryz.zp54]; rfl) Y56 Y56 (by rw [Tryz.by54]; decide) (by rw [Tryz.by54]; simp <;> omega) (by intro q hq; rw [List.mem_singleton.1 hq]; exact aAppend_nilL (f := Snt.pv) (ys := [(⟨tick, tn, fr⟩ : Snt)]) Y81 (by rw [Tryz.cz54])) ?_
 refine dP [1] (pre := [_, _]) (k := ?_)
 refine dE [(1, 2)] (k := ?_)
 refine DetHC.nil ?_
 refine rl [0, 1, 3] (k := rs (k := rr (k := ro (pre := [_, _, _]) (k := ?_))))
 refine RunO.callw au au au Y25 ((htake).mono ?_)
 rintro r s1 ⟨rfl, hs⟩
 subst s1
 refine rC (h := hdoes hx9) (k := rh [3, 9] (k := rs (k := rr (k := ro (pre := [_]) (k := rC (h := rtu_Read hfo hfl) (k := rh [9, 10, 11, 12] (k := rs (k := rs (k := rg [9, 11, 43] (k := rc (ht := fun hc0 => ?_) (hf := fun hc0 => ?_)))))))))))
 refine rs (k := rg [8] (k := rR (k := ?_)))
 refine jO 1 ?_; rotate_left
 refine rk (k := rs (k := ?_))
 have hrt : (rtuF fr).2 = 0 ∧ (rtuF fr).1.1 = 17 := Y90
 have hpd := rtu_pdu hrt.1
 have hso : sendF f D fr = lineF f D (rtuF fr).1.2 := if_pos hrt
 refine rr (k := ro (pre := [_, _]) (k := ?_))
 refine RunO.callw au au au hcal ((hbody hl9 hA9 hD (rtu_ok hfo) hpd.2.1 hpd.1).mono ?_)
 rintro r s1 ⟨rfl, hs⟩
 subst s1
 refine rC (h := clip_u8 (xs := (lineF f D (rtuF fr).1.2).1)) (k := rh [8] (k := rR (k := ?_)))
 refine jO 1 ?_; rotate_left
 any_goals
   refine jI 1 ?_
   first
     | (have hso : sendF f D fr = ([], D) := if_neg (by rintro ⟨e1, e2⟩; rw [e1, e2] at hc0; cases hc0)
        refine Ret.allW (r' := .sl .unk []) Y169 (by rfl) ⟨by rw [hso]; rfl, ?_⟩
        rw [hso]
        exact (putDev_self hA9).symm)
     | (refine Ret.allW (r' := .sl .unk ((sendF f D fr).1.map (PV.int .u8))) Y169 ?_ ⟨rfl, ?_⟩
        · rw [hso]; simp only [PV.weak, weaks_u8]
        · rw [hso] <;> rfl)
attribute [local go_sem] set_set putDev_hi putDev_nxt
set_option maxRecDepth 100000 in
theorem line_SendXT {ln b t : Nat} {a0 a1 a2 a3 c0 c1 c2 c3 st9 : PV} {S9 : St} {D : Dev} {tn tick f : Int} (hf : 0 ≤ f ∧ f ≤ 4) {fr : List Int} (hfo : OkB fr) (hfl : fr.length ≤ 140737488350000) {l : List Snt} (hL : l.length ≤ 100000) {s : St} (hl : s.blk ln = some (lnRow (b + 5) a0 a1 a2 a3 (.sl (.tok t 3) (l.map Snt.pv)))) (hA : DevAt b D s) (hD : D.ok) (hbl : b + 5 < ln) (ht : s.blk t = some (.tok l.length)) (hne : t ≠ ln) (hbt : b + 5 < t) 
   (htake : ACalls Tryz.prog 44 [.ptr ln 0 0, .int .i64 tn] ((s.set t (some (.tok (l ++ [(⟨tick, tn, fr⟩ : Snt)]).length))).set ln (some (lnRow (b + 5) a0 a1 a2 a3 (.sl (.tok t 3) ((l ++ [(⟨tick, tn, fr⟩ : Snt)]).map Snt.pv))))) (fun r s' => r = .int .i64 f ∧ s' = S9)) (hl9 : S9.blk ln = some (lnRow (b + 5) c0 c1 c2 c3 st9)) (hA9 : DevAt b D S9) (hx9 : ln < S9.nxt) :
   ACalls Tryz.prog 27 [.ptr ln 0 0, .int .i64 tn, .int .i64 tick, .sl .unk (fr.map (PV.int .u8))] s (fun r s' => r = .sl .unk ((sendF f D fr).1.map (PV.int .u8)) ∧ s' = putDev b (sendF f D fr).2 S9) := by
 refine go Tryz.func27 (k := fun hwf H => ?_)
 unfold lnRow at hl
 have hlt := lt_blk hwf hl
 obtain ⟨Nf, hdoes, hcal, hbody⟩ := line_body hf
 have n1 : (ln = s.nxt) = False := eq_false Y19
 have hfl2 : fr.length * 1 ≤ 140737488355328 := Y19
 have H := aj n1 H
 have htl := lt_blk hwf ht
 have n2 : (ln = t) = False := eq_false Y19
 have n3 : (t = ln) = False := eq_false Y19
 have H := aj n2 (aj n3 H)
 have H := aj hl H
 refine rs (k := rg [0, 1, 2, 3] (k := rs (k := rH 15 [11, 14] [[false, false], [true, false], [true, true]] [s, (s.set t (some (.tok (l ++ [(⟨tick, tn, fr⟩ : Snt)]).length))), ((s.set t (some (.tok (l ++ [(⟨tick, tn, fr⟩ : Snt)]).length))).set ln (some (.row 59 [.agg [.ptr (b + 5) 0 0, a0, a1, a2, a3, .sl (.tok t 3) ((l ++ [(⟨tick, tn, fr⟩ : Snt)]).map Snt.pv)]])))] Tryz.mixed (k := ?_))))
 refine dP [0, 1] (pre := [_, _, _, _, _, _, _, _]) (k := ?_)
 refine dC [0] (h := fun s _ => clone_u8 (xs := fr) hfl2) (k := ?_)
 refine dP [0] (pre := [_, _]) (k := ?_)
 refine DetHC.app (kx := .tok t 3) (xs := l.map Snt.pv) (ys := [(⟨tick, tn, fr⟩ : Snt)].map Snt.pv) (v := .sl (.tok t 3) ((l ++ [(⟨tick, tn, fr⟩ : Snt)]).map Snt.pv)) [(0, 1)] _ Y25 pq au au Y225 Tryz.td50 (by rw [Tryz.zp54]; rfl) Y56 Y56 (by rw [Tryz.by54]; decide) (by rw [Tryz.by54]; simp <;> omega) (by intro q hq; rw [List.mem_singleton.1 hq]; exact aAppend_tokL (f := Snt.pv) (xs := l) (ys := [(⟨tick, tn, fr⟩ : Snt)]) rfl Y81 ht rfl (by rw [Tryz.cz54])) ?_
 refine dP [1] (pre := [_, _]) (k := ?_)
 refine dE [(1, 2)] (k := ?_)
 refine DetHC.nil ?_
 refine rl [0, 1, 3] (k := rs (k := rr (k := ro (pre := [_, _, _]) (k := ?_))))
 refine RunO.callw au au au Y25 ((htake).mono ?_)
 rintro r s1 ⟨rfl, hs⟩
 subst s1
 refine rC (h := hdoes hx9) (k := rh [3, 9] (k := rs (k := rr (k := ro (pre := [_]) (k := rC (h := rtu_Read hfo hfl) (k := rh [9, 10, 11, 12] (k := rs (k := rs (k := rg [9, 11, 43] (k := rc (ht := fun hc0 => ?_) (hf := fun hc0 => ?_)))))))))))
 refine rs (k := rg [8] (k := rR (k := ?_)))
 refine jO 1 ?_; rotate_left
 refine rk (k := rs (k := ?_))
 have hrt : (rtuF fr).2 = 0 ∧ (rtuF fr).1.1 = 17 := Y90
 have hpd := rtu_pdu hrt.1
 have hso : sendF f D fr = lineF f D (rtuF fr).1.2 := if_pos hrt
 refine rr (k := ro (pre := [_, _]) (k := ?_))
 refine RunO.callw au au au hcal ((hbody hl9 hA9 hD (rtu_ok hfo) hpd.2.1 hpd.1).mono ?_)
 rintro r s1 ⟨rfl, hs⟩
 subst s1
 refine rC (h := clip_u8 (xs := (lineF f D (rtuF fr).1.2).1)) (k := rh [8] (k := rR (k := ?_)))
 refine jO 1 ?_; rotate_left
 any_goals
   refine jI 1 ?_
   first
     | (have hso : sendF f D fr = ([], D) := if_neg (by rintro ⟨e1, e2⟩; rw [e1, e2] at hc0; cases hc0)
        refine Ret.allW (r' := .sl .unk []) Y169 (by rfl) ⟨by rw [hso]; rfl, ?_⟩
        rw [hso]
        exact (putDev_self hA9).symm)
     | (refine Ret.allW (r' := .sl .unk ((sendF f D fr).1.map (PV.int .u8))) Y169 ?_ ⟨rfl, ?_⟩
        · rw [hso]; simp only [PV.weak, weaks_u8]
        · rw [hso] <;> rfl)
theorem line_take0C {ln d t : Nat} {a1 a2 a3 st : PV} {x : Int} {L : List Int} (hL : L.length < 1000) {s : St} (hl : s.blk ln = some (lnRow d (.sl (.tok t 1) ((x :: L).map (PV.int .i64))) a1 a2 a3 st)) (ht : s.blk t = some (.tok (x :: L).length)) (hne : t ≠ ln) : ACalls Tryz.prog 44 [.ptr ln 0 0, .int .i64 0] s (fun r s' => r = .int .i64 x ∧ s' = (((s.set t none).new (.tok L.length)).set ln (some (lnRow d (.sl (.tok s.nxt 1) (L.map (PV.int .i64))) a1 a2 a3 st)))) := by
 refine go Tryz.func44 (k := fun hwf H => ?_)
 unfold lnRow at hl
 have hlt := lt_blk hwf hl
 have htl := lt_blk hwf ht
 have f0 : ((0 : Int) < ((4 : Nat) : Int)) = True := eq_true Y20
 have f1 : ((0 : Int) ≤ 0) = True := eq_true Y20
 have f2 : Int.toNat 0 = 0 := rfl
 have f3 : decide ((0 : Int) ≤ 0) = true := Y20
 have f4 : decide ((0 : Int) < 4) = true := Y20
 have H := aj f0 (aj f1 (aj f2 (aj f3 (aj f4 H))))
 have g0 : decide (((L.length + 1 : Nat) : Int) = 0) = false := decide_eq_false Y19
 have n1 : (ln = s.nxt) = False := eq_false Y19
 have n2 : (ln = t) = False := eq_false (fun e => hne e.symm)
 have g4 : (0 < L.length + 1) = True := eq_true Y19
 have h1n : Int.toNat 1 = 1 := rfl
 have h10 : ((1 : Int) = 0) = False := eq_false Y20
 have H := aj g0 (aj n1 (aj n2 (aj g4 (aj h1n (aj h10 H)))))
 have H := aj hl H
 refine rs (k := rg [0, 1] (k := rs (k := rs (k := rr (k := ro (pre := [_]) (k := rC (h := (line_is (t := 0))) (k := rh [0, 1, 18] (k := rc (ht := fun hc0 => ?_) (hf := fun hc0 => ?_)))))))))
 · cases hc0
 · refine rk (k := rs (k := rg [0, 1, 5] (k := rs (k := rH 13 [8, 12] [[false, false], [true, false], [true, true]] [s, ((s.set t none).new (.tok L.length)), (((s.set t none).new (.tok L.length)).set ln (some (.row 59 [.agg [.ptr d 0 0, .sl (.tok s.nxt 1) (L.map (PV.int .i64)), a1, a2, a3, st]])))] Tryz.mixed (k := ?_)))))
   refine dP [0, 1] (pre := [_, _, _, _, _, _, _, _]) (k := ?_)
   refine DetHC.cut (tk := t) (lo := 1) (el := 3) (xs := (x :: L).map (PV.int .i64)) (v := .sl (.tok s.nxt 1) (L.map (PV.int .i64))) [(0, 1)] _ Y25 pq au au au Tryz.td22 Tryz.cz3 Y20 Y20 Y81 (by intro q hq; rw [List.mem_singleton.1 hq]; exact ⟨by rw [List.length_map]; exact ht, rfl, by rw [List.length_map]; rfl⟩) ?_
   refine dP [0, 1] (pre := [_, _, _]) (k := ?_)
   refine dE [(1, 2)] (k := ?_)
   refine DetHC.nil ?_
   refine rl [5] (k := rs (k := rg [4] (k := rR (k := ?_))))
   exact Ret.all (by simp only [Tryz.f44, go_sem, ↓reduceIte] <;> rfl) ⟨rfl, by unfold lnRow; rfl⟩
theorem line_HurtX {b ln c : Nat} {D : Dev} {F : List Int} {l : List Snt} {a1 a2 a3 : PV} {s : St} (h : LnAt b ln c D F l a1 a2 a3 s) {f : Int} (hf : 0 ≤ f ∧ f ≤ 4) (hF : F.length < 1000) :
   ACalls Tryz.prog 11 [.ptr ln 0 0, .int .i64 0, .int .i64 f] s (fun r s' => r = .bool true ∧ LnAt b ln c D (F ++ [f]) l a1 a2 a3 s' ∧ Out b ln c s s') := by
 obtain ⟨x, st, n, m, r1, r2, r3, r4⟩ := h.row
 have h1 := h.hc
 cases n with
 | none =>
   obtain ⟨rfl, e⟩ := r2
   have e : F = [] := by cases F with | nil => rfl | cons _ _ => simp at e
   subst e
   exact (line_Hurt0N hf r1).mono fun r s' ⟨q1, q2⟩ => ⟨q1, by rw [q2]; exact LnAt.newF h.dev h.lt h.hc h.nx r3⟩
 | some t =>
   obtain ⟨rfl, q2, q3, q4⟩ := r2
   rw [List.length_map] at q2
   exact (line_Hurt0T hF hf r1 q2 Y19).mono fun r s' ⟨k1, k2⟩ => ⟨k1, by rw [k2]; exact LnAt.setF h.dev h.lt h.hc h.nx q3 q4 q2 r3 (r4.resolve_left Y81)⟩
theorem new_set {s : St} {r : Nat} (hr : r < s.nxt) (v : Option Blk) (x : Blk) : (s.set r v).new x = (s.new x).set r v := by
 refine St.eq_of rfl fun i => ?_
 rw [blk_new, blk_set, blk_set, blk_new]
 show (if i = s.nxt then _ else _) = _
 by_cases h1 : i = s.nxt
 · rw [if_pos h1, if_neg Y19, if_pos h1]
 · rw [if_neg h1, if_neg h1]
theorem set_same {s : St} {r : Nat} {v : Option Blk} (h : s.blk r = v) : s.set r v = s := by
 refine St.eq_of rfl fun i => ?_
 rw [blk_set]
 split
 · rename_i e; rw [e]; exact h.symm
 · rfl
theorem line_takeV {b ln c r : Nat} {D : Dev} {F : List Int} {l : List Snt} {a1 a2 a3 : PV} {s : St} (h : LnAt b ln c D F l a1 a2 a3 s) (hF : F.length ≤ 1000) (hr : c ≤ r) (hrx : r < s.nxt) (hrb : s.blk r = some .res) :
   ∃ S9, (∀ v, ACalls Tryz.prog 44 [.ptr ln 0 0, .int .i64 0] (s.set r v) (fun x s' => x = .int .i64 (F.headD 0) ∧ s' = S9.set r v)) ∧ LnAt b ln c D F.tail l a1 a2 a3 S9 ∧ Out b ln c s S9 ∧ S9.blk r = some .res := by
 obtain ⟨x, st, n, m, r1, r2, r3, r4⟩ := h.row
 have h1 := h.hc
 cases F with
 | nil =>
   refine ⟨s, fun v => ?_, h, Out.refl _ _ _ _, hrb⟩
   have r1' : (s.set r v).blk ln = some (lnRow (b + 5) x a1 a2 a3 st) := Y168
   cases n with
   | none =>
     obtain ⟨rfl, _⟩ := r2
     exact line_take0 r1'
   | some t =>
     obtain ⟨rfl, _⟩ := r2
     exact line_take0 r1'
 | cons f L =>
   cases n with
   | none => exact absurd r2.2 Y81
   | some t =>
     obtain ⟨rfl, q2, q3, q4⟩ := r2
     rw [List.length_map] at q2
     have htr : t ≠ r := by rintro rfl; rw [hrb] at q2; cases q2
     obtain ⟨k1, k2⟩ := LnAt.cutF (F := L) (a1 := a1) (a2 := a2) (a3 := a3) h.dev h.lt h.hc h.nx q3 q4 q2 r3 (r4.resolve_left Y81) rfl
     refine ⟨_, fun v => ?_, k1, k2, by rw [blk_set_ne Y19, blk_new_ne (by show r ≠ s.nxt; omega), blk_set_ne (Ne.symm htr)]; exact hrb⟩
     have r1' : (s.set r v).blk ln = some (lnRow (b + 5) (.sl (.tok t 1) ((f :: L).map (PV.int .i64))) a1 a2 a3 st) := Y168
     refine (line_take0C (t := t) (x := f) (L := L) (by simp at hF; omega) r1' (by rw [blk_set_ne htr]; exact q2) Y19).mono fun y s' ⟨e1, e2⟩ => ⟨e1, ?_⟩
     rw [e2, set_comm _ (Ne.symm htr), new_set (by show r < s.nxt; omega), set_comm _ (show r ≠ ln from Y19)]
     first | done | rfl
theorem line_SendV {b ln c r : Nat} {D : Dev} {F : List Int} {l : List Snt} {a1 a2 a3 : PV} {s : St} (h : LnAt b ln c D F l a1 a2 a3 s) (hD : D.ok) (hF : F.length ≤ 1000) (hf : 0 ≤ F.headD 0 ∧ F.headD 0 ≤ 4) (hl : l.length ≤ 100000) {fr : List Int} (hfo : OkB fr) (hfl : fr.length ≤ 140737488350000) {tick : Int}
   (hr : c ≤ r) (hrx : r < s.nxt) (hrb : s.blk r = some .res) {B : List Int} {D' : Dev} (hs : sendF (F.headD 0) D fr = (B, D')) (hlen : D'.c0.length = D.c0.length) :
   ∃ S9, (∀ v, ACalls Tryz.prog 27 [.ptr ln 0 0, .int .i64 0, .int .i64 tick, .sl .unk (fr.map (PV.int .u8))] (s.set r v) (fun x s' => x = .sl .unk (B.map (PV.int .u8)) ∧ s' = S9.set r v)) ∧ LnAt b ln c D' F.tail (l ++ [⟨tick, 0, fr⟩]) a1 a2 a3 S9 ∧ Out b ln c s S9 ∧ S9.blk r = some .res := by
 have e1 : (sendF (F.headD 0) D fr).1 = B := by rw [hs]
 have e2 : (sendF (F.headD 0) D fr).2 = D' := by rw [hs]
 obtain ⟨x, st, n, m, r1, r2, r3, r4⟩ := h.row
 have h1 := h.hc
 have h2 := h.nx
 have h3 := h.lt
 have hdv : ∀ v, DevAt b D (s.set r v) := fun v => h.dev.sv Y19 _
 cases m with
 | none =>
   obtain ⟨rfl, e⟩ := r3
   have e : l = [] := by cases l with | nil => rfl | cons _ _ => simp at e
   subst e
   obtain ⟨k1, k2⟩ := LnAt.newS (l := [⟨tick, 0, fr⟩]) (a1 := a1) (a2 := a2) (a3 := a3) h.dev h.lt h.hc h.nx r2
   obtain ⟨S9, t1, t2, t3, t4⟩ := line_takeV k1 hF hr (Nat.lt_succ_of_lt hrx) (by rw [blk_set_ne Y19, blk_new_ne Y19]; exact hrb)
   obtain ⟨x9, st9, n9, m9, w1, _⟩ := t2.row
   have h9 := t2.nx
   obtain ⟨p1, p2⟩ := t2.put (D' := D') hlen
   refine ⟨_, fun v => ?_, p1, (k2.trans t3).trans p2, by rw [putDev_hi Y19]; exact t4⟩
   have ht := t1 v
   rw [← set_comm _ (show r ≠ ln from Y19), ← new_set hrx] at ht
   refine (line_SendXN hf hfo hfl Y168 (hdv v) hD h.lt ht (by rw [blk_set_ne Y19]; exact w1) (t2.dev.sv Y19 _) (by show ln < S9.nxt; omega)).mono fun y s' ⟨q1, q2⟩ => ⟨by rw [q1, e1], ?_⟩
   rw [q2, e2]
   exact putDev_set Y19 v
 | some t =>
   obtain ⟨rfl, q2, q3, q4⟩ := r3
   rw [List.length_map] at q2
   have htr : t ≠ r := by rintro rfl; rw [hrb] at q2; cases q2
   have hne : n ≠ some t := by rcases r4 with e | e; rw [e]; simp; exact e
   obtain ⟨k1, k2⟩ := LnAt.setS (l := l ++ [⟨tick, 0, fr⟩]) (a1 := a1) (a2 := a2) (a3 := a3) h.dev h.lt h.hc h.nx q3 q4 q2 r2 hne
   obtain ⟨S9, t1, t2, t3, t4⟩ := line_takeV k1 hF hr hrx (by rw [blk_set_ne Y19, blk_set_ne (Ne.symm htr)]; exact hrb)
   obtain ⟨x9, st9, n9, m9, w1, _⟩ := t2.row
   have h9 := t2.nx
   obtain ⟨p1, p2⟩ := t2.put (D' := D') hlen
   refine ⟨_, fun v => ?_, p1, (k2.trans t3).trans p2, by rw [putDev_hi Y19]; exact t4⟩
   have ht := t1 v
   rw [← set_comm _ (show r ≠ ln from Y19), ← set_comm _ (Ne.symm htr)] at ht
   refine (line_SendXT hf hfo hfl hl Y168 (hdv v) hD h.lt (by rw [blk_set_ne htr]; exact q2) Y19 Y19 ht (by rw [blk_set_ne Y19]; exact w1) (t2.dev.sv Y19 _) (by show ln < S9.nxt; omega)).mono fun y s' ⟨z1, z2⟩ => ⟨by rw [z1, e1], ?_⟩
   rw [z2, e2]
   exact putDev_set Y19 v
theorem line_SentX {b ln c : Nat} {D : Dev} {F : List Int} {l : List Snt} {a1 a2 a3 : PV} {s : St} (h : LnAt b ln c D F l a1 a2 a3 s) (hll : l.length ≤ 100000) (hld : ∀ x ∈ l, x.data.length ≤ 140737488350000) : ACalls Tryz.prog 17 [.ptr ln 0 0] s (fun r s' => r = .sl .unk (l.map Snt.pv) ∧ s' = s) := by
 obtain ⟨x, st, n, m, r1, r2, r3, _⟩ := h.row
 cases m with
 | none =>
   obtain ⟨rfl, e⟩ := r3
   have e : l = [] := by cases l with | nil => rfl | cons _ _ => simp at e
   subst e
   exact line_Sent (k := .nil) (l := []) hll hld r1
 | some t =>
   obtain ⟨rfl, _⟩ := r3
   exact line_Sent hll hld r1
end Go.Proofs
namespace Go.Proofs
open Go.PM
set_option maxHeartbeats 2000000
theorem over_twice {α : Type} {l x : List α} {a : Nat} (h : a + x.length ≤ l.length) : overF (overF l a x) a x = overF l a x := by
 unfold overF
 have h1 : (l.take a).length = a := by rw [List.length_take]; omega
 have e1 : (l.take a ++ x ++ l.drop (a + x.length)).take a = l.take a := by rw [List.append_assoc, List.take_left' h1]
 have e2 : (l.take a ++ x ++ l.drop (a + x.length)).drop (a + x.length) = l.drop (a + x.length) := List.drop_left' (by rw [List.length_append, h1])
 rw [e1, e2]
theorem Y226 {p : Prop} (h : p := by show thereF (overF D.c0 q.at_.toNat q.bits).length _ _ = true; rw [overF_len Y19]; exact t2) : p := h
theorem same_do {D : Dev} (hD : D.ok) {q : Req} (hq : q.ok) (hr : rightF q = 0) (h8 : q.fn ≠ 8) : (doF (doF D q).2 q).1 = (doF D q).1 := by
 cases hc : countF q with
 | false =>
   have hh : ¬ hasF q.fn = false := by rw [(right0 hr).has]; decide
   have e : ∀ D, (doF D q).1 = refuseP q.fn 3 := fun D => by
     unfold doF
     dsimp only
     rw [if_neg hh, if_pos (.inr hc)]
     rfl
   rw [e, e]
 | true =>
   by_cases hb : thereF D.c0.length (askF q).1.1 (askF q).1.2 = false ∨ thereF D.c0.length (askF q).2.1 (askF q).2.2 = false
   · have e : ∀ E : Dev, E.c0.length = D.c0.length → (doF E q).1 = (refD D q.fn 2).1 := fun E hE => by rw [do_bad hc (by rw [hE]; exact hb)]; rfl
     have l2 : (doF D q).2.c0.length = D.c0.length := by rw [do_bad hc hb]; rfl
     rw [e _ l2, e D rfl]
   have t1 : thereF D.c0.length (askF q).1.1 (askF q).1.2 = true := by
     cases h : thereF D.c0.length (askF q).1.1 (askF q).1.2 with
     | true => rfl
     | false => exact absurd (.inl h) hb
   have t2 : thereF D.c0.length (askF q).2.1 (askF q).2.2 = true := by
     cases h : thereF D.c0.length (askF q).2.1 (askF q).2.2 with
     | true => rfl
     | false => exact absurd (.inr h) hb
   have h5 := hD.v1
   rcases has_cases (right0 hr).has with e | e | e | e | e | e | e | e | e | e | e | e
   · rw [ask_r Y19] at t1
     dsimp only at t1
     rw [do_1 hc e t1]; show (doF D.up q).1 = _; rw [do_1 (D := D.up) hc e t1] <;> rfl
   · rw [ask_r Y19] at t1
     dsimp only at t1
     rw [do_2 hc e t1]; show (doF D.up q).1 = _; rw [do_2 (D := D.up) hc e t1] <;> rfl
   · rw [ask_r Y19] at t1
     dsimp only at t1
     rw [do_3 hc e t1]; show (doF D.up q).1 = _; rw [do_3 (D := D.up) hc e t1] <;> rfl
   · rw [ask_r Y19] at t1
     dsimp only at t1
     rw [do_4 hc e t1]; show (doF D.up q).1 = _; rw [do_4 (D := D.up) hc e t1] <;> rfl
   · rw [ask_1 Y19] at t2
     dsimp only at t2
     rw [← nb_5 hr e] at t2
     have hl := there_len t2
     rw [do_5 hc e t2]
     show (doF { D.up with c0 := overF D.c0 q.at_.toNat q.bits } q).1 = _; rw [do_5 (D := { D.up with c0 := overF D.c0 q.at_.toNat q.bits }) hc e Y226] <;> rfl
   · rw [ask_1 Y19] at t2
     dsimp only at t2
     rw [← nv_6 hr (.inl e)] at t2
     rw [do_6 hc e t2]
     show (doF { D.up with v1 := overF D.v1 q.at_.toNat q.vals } q).1 = _; rw [do_6 (D := { D.up with v1 := overF D.v1 q.at_.toNat q.vals }) hc e t2] <;> rfl
   · exact absurd e h8
   · rw [ask_n Y19] at t2
     dsimp only at t2
     rw [← nb_15 hr e] at t2
     have hl := there_len t2
     rw [do_15 hc e t2]
     show (doF { D.up with c0 := overF D.c0 q.at_.toNat q.bits } q).1 = _; rw [do_15 (D := { D.up with c0 := overF D.c0 q.at_.toNat q.bits }) hc e Y226] <;> rfl
   · rw [ask_n Y19] at t2
     dsimp only at t2
     rw [← nv_16 hr e] at t2
     rw [do_16 hc e t2]
     show (doF { D.up with v1 := overF D.v1 q.at_.toNat q.vals } q).1 = _; rw [do_16 (D := { D.up with v1 := overF D.v1 q.at_.toNat q.vals }) hc e t2] <;> rfl
   · rw [do_17 (D := D) hc e]; show (doF D.up q).1 = _; rw [do_17 (D := D.up) hc e]; rfl
   · rw [ask_22 e] at t1
     dsimp only at t1
     rw [do_22 hc e t1]
     show (doF { D.up with v1 := overF D.v1 q.at_.toNat [maskF ((D.v1[q.at_.toNat]?).getD 0) q] } q).1 = _; rw [do_22 (D := { D.up with v1 := overF D.v1 q.at_.toNat [maskF ((D.v1[q.at_.toNat]?).getD 0) q] }) hc e t1] <;> rfl
   · rw [ask_23 e] at t1 t2
     dsimp only at t1 t2
     have hl := there_len t2
     rw [do_23 hc e t1 t2]
     have k := congrArg Prod.fst (do_23 (D := { D.up with v1 := overF D.v1 q.wat.toNat q.vals }) hc e t1 t2)
     refine Eq.trans k ?_
     show (⟨q.fn, 0, 0, 0, 0, [], cutF (overF (overF D.v1 q.wat.toNat q.vals) q.wat.toNat q.vals) q.at_ q.count, 0, 0, []⟩ : Rep) = _
     rw [over_twice Y19]
def triesF (q : Req) : Nat → List Int → Dev → Rep × Nat × Dev × List Int
 | 0, F, D => (refuseP q.fn 11, 0, D, F)
 | k + 1, F, D => if F.headD 0 = 0 then ((doF D q).1, 0, (doF D q).2, F.tail) else if F.headD 0 = 4 then (refuseP q.fn 4, 0, D, F.tail)
   else ((triesF q k F.tail (if F.headD 0 = 1 then D else (doF D q).2)).1, (triesF q k F.tail (if F.headD 0 = 1 then D else (doF D q).2)).2.1 + 1, (triesF q k F.tail (if F.headD 0 = 1 then D else (doF D q).2)).2.2)
structure Tried (q : Req) (D : Dev) (f : Int) (B : List Int) (D' : Dev) (g : Option Rep) : Prop where
 snd : sendF f D (frameF (bytesF q)) = (B, D')
 ok : D'.ok
 len : D'.c0.length = D.c0.length
 b : OkB B
 bl : B.length ≤ 256
 g : (g = none ∧ ¬ (rtuF B).2 = 0 ∧ ¬ f = 0 ∧ ¬ f = 4 ∧ D' = if f = 1 then D else (doF D q).2) ∨ (∃ R, g = some R ∧ Fits R q ∧ R.ok ∧ B = frameF (repF R) ∧ (repF R).length ≤ 253 ∧ (f = 0 ∧ R = (doF D q).1 ∧ D' = (doF D q).2 ∨ f = 4 ∧ R = refuseP q.fn 4 ∧ D' = D))
theorem right_bytes {q : Req} (hr : rightF q = 0) : bytesF q = writeF q := if_pos hr
theorem pack_len2 (l : List Bool) : (packB l).length ≤ (l.length + 7) / 8 := by
 have := packB_len l
 omega
theorem do_len {D : Dev} (hD : D.ok) {q : Req} (hq : q.ok) (hr : rightF q = 0) : (repF (doF D q).1).length ≤ 253 := by
 have hf := do_fits hD hq hr
 have hcc : (doF D q).1.code = 0 → countF q = true := fun h0 => by
   cases hc : countF q with
   | true => rfl
   | false =>
     exfalso
     have hh : ¬ hasF q.fn = false := by rw [(right0 hr).has]; decide
     unfold doF at h0
     dsimp only at h0
     rw [if_neg hh, if_pos (.inr hc)] at h0
     exact absurd h0 (by show ¬ (3 : Int) % 256 = 0; decide)
 obtain ⟨R, hR⟩ : ∃ R, (doF D q).1 = R := ⟨_, rfl⟩
 rw [hR] at hf hcc ⊢
 have hfn := hf.fn
 have e2 : ∀ n, (num2 n).length = 2 := fun _ => rfl
 have fl : ∀ l : List Int, (l.flatMap num2).length = 2 * l.length := fun l => by
   induction l with
   | nil => rfl
   | cons x l ih => rw [List.flatMap_cons, List.length_append, ih, e2, List.length_cons]; omega
 unfold repF
 rw [if_pos hf.good]
 unfold layF
 by_cases hc : R.code = 0
 · rw [if_neg (fun n => n hc)]
   have hcnt := hf.cnt hc
   have hg := good0 hf.good hc
   have hk := (of_decide_eq_true (hcc hc)).2
   have h6 := hg.v6
   have hmd := hg.md
   simp only [List.length_cons]
   split
   · rename_i e
     rw [if_pos Y19] at hk
     have hb : (R.bits.length : Int) = q.count := Y19
     have := pack_len2 R.bits
     simp only [List.length_cons]; omega
   split
   · rename_i n1 e
     rw [if_neg Y19] at hk
     have hv : (R.vals.length : Int) = q.count := Y19
     have hq125 : q.count ≤ 125 := by
       by_cases e34 : q.fn = 3 ∨ q.fn = 4
       · rw [if_pos e34] at hk; exact hk.2
       · rw [if_neg e34, if_neg Y19, if_neg Y19, if_pos Y19] at hk; exact hk.2.1
     simp only [List.length_cons, fl]; omega
   repeat' split
   all_goals simp only [List.length_append, List.length_cons, e2, fl]
   all_goals first | omega | (have := h6 Y19; omega)
 · rw [if_pos hc]; show 2 ≤ 253; decide
theorem req_len {q : Req} (hr : rightF q = 0) (hb : q.bits.length ≤ 30) (hv : q.vals.length ≤ 30) : (writeF q).length ≤ 253 := by
 have e2 : ∀ n, (num2 n).length = 2 := fun _ => rfl
 have fl : ∀ l : List Int, (l.flatMap num2).length = 2 * l.length := fun l => by
   induction l with
   | nil => rfl
   | cons x l ih => rw [List.flatMap_cons, List.length_append, ih, e2, List.length_cons]; omega
 have := pack_len2 q.bits
 unfold writeF
 repeat' split
 all_goals simp only [List.length_append, List.length_cons, List.length_nil, e2, fl]
 all_goals omega
theorem try_law {q : Req} (hq : q.ok) (hr : rightF q = 0) {D : Dev} (hD : D.ok) {f : Int} (hf : 0 ≤ f ∧ f ≤ 4) (hln : (writeF q).length ≤ 253) : ∃ B D' g, Tried q D f B D' g := by
 have hne : writeF q ≠ [] := List.cons_ne_nil _ _
 have e : ∀ f, sendF f D (frameF (bytesF q)) = lineF f D (writeF q) := fun f => by
   rw [right_bytes hr]
   unfold sendF
   rw [rtu_frame hne hln]
   exact if_pos ⟨rfl, rfl⟩
 have hp := pdu_write (D := D) hq hr
 have hdk := doF_ok hD hq
 have hft := do_fits hD hq hr
 have h127 := has127 hr
 have hbo : OkB (repF (doF D q).1) := repF_ok (doF_rep hD hq)
 have hbl : (repF (doF D q).1).length ≤ 253 := do_len hD hq hr
 have hbn : repF (doF D q).1 ≠ [] := by
   obtain ⟨x, l, h, _⟩ := fit_head hft h127
   rw [h]; exact List.cons_ne_nil _ _
 obtain rfl | rfl | rfl | rfl | rfl : f = 0 ∨ f = 1 ∨ f = 2 ∨ f = 3 ∨ f = 4 := Y19
 · exact ⟨frameF (repF (doF D q).1), (doF D q).2, some (doF D q).1, by rw [e]; show (frameF (pduF _ _).1, (pduF _ _).2) = _; rw [hp], hdk.1, hdk.2, frameF_ok hbo, frameF_len _, .inr ⟨_, rfl, hft, doF_rep hD hq, rfl, hbl, .inl ⟨rfl, rfl, rfl⟩⟩⟩
 · exact ⟨[], D, none, by rw [e]; rfl, hD, rfl, OkB.nil, Y20, .inl ⟨rfl, Y20, Y20, Y20, rfl⟩⟩
 · exact ⟨[], (doF D q).2, none, by rw [e]; show ([], (pduF _ _).2) = _; rw [hp], hdk.1, hdk.2, OkB.nil, Y20, .inl ⟨rfl, Y20, Y20, Y20, rfl⟩⟩
 · exact ⟨flipL (frameF (repF (doF D q).1)), (doF D q).2, none, by rw [e]; show (flipL (frameF (pduF _ _).1), (pduF _ _).2) = _; rw [hp], hdk.1, hdk.2, flip_ok (frameF_ok hbo), by rw [flip_len]; exact frameF_len _, .inl ⟨rfl, by rw [rtu_broken hbo hbn hbl]; decide, Y20, Y20, rfl⟩⟩
 · have hfr : Fits (refuseP q.fn 4) q := fits_refuse h127 Y20
   obtain ⟨x, l, hx, _⟩ := fit_head hfr h127
   have hlen : (repF (refuseP q.fn 4)).length ≤ 253 := by
     unfold repF
     rw [if_pos hfr.good]
     unfold layF
     rw [if_pos (by show ¬ (4 : Int) % 256 = 0; decide)]
     show 2 ≤ 253
     decide
   exact ⟨frameF (repF (refuseP q.fn 4)), D, some (refuseP q.fn 4), by rw [e]; rfl, hD, rfl, frameF_ok (repF_ok (refuseP_ok _ _)), frameF_len _, .inr ⟨_, rfl, hfr, refuseP_ok _ _, rfl, hlen, .inr ⟨rfl, rfl, rfl⟩⟩⟩
end Go.Proofs
namespace Go.Proofs
open Go.PM
set_option maxHeartbeats 2000000
theorem reply_num {b : List Int} (hb : OkB b) (hl : b.length ≤ 140737488351232) {i : Int} {a : Int} (ha : 1 + 2 * i = a) (hi : 0 ≤ i ∧ i ≤ 100) {s : St} : ACalls Tryz.prog 97 [.sl .unk (b.map (PV.int .u8)), .int .i64 i] s (fun r s' => r = .int .i64 (num1 b a) ∧ s' = s) := by
 refine go Tryz.func97 (k := fun hwf H => ?_)
 have hw1 : IntKind.i64.wrap (2 * i) = 2 * i := wrap_i64 Y19
 have hw2 : IntKind.i64.wrap (1 + 2 * i) = a := by rw [wrap_i64 Y19, ha]
 have H := aj hw1 (aj hw2 H)
 refine rs (k := rg [0, 1] (k := rs (k := rr (k := ro (pre := [_, _, _, _]) (k := rC (h := octet_Get hb (a := a) Y144 Y19) (k := rh [5] (k := rs (k := rg [4] (k := rR (k := rP (by simp only [Tryz.f97, go_sem]; rfl) hwf ⟨?_, rfl⟩))))))))))
 rfl
attribute [local go_sem] weaks_bools Req.pv Rep.pv
set_option maxRecDepth 100000 in
theorem reply_guess {b : List Int} (hb : OkB b) (hl : b.length ≤ 10000000) {x : Int} (hx : b[0]? = some x) {q : Req} (hq : I64 q.count) {s : St} : ACalls Tryz.prog 60 [.sl .unk (b.map (PV.int .u8)), q.pv] s (fun r s' => r = (gessF b q).pv ∧ s' = s) := by
 refine go Tryz.func60 (k := fun hwf H => ?_)
 have hlt : 0 < b.length := by cases b with | nil => cases hx | cons _ _ => simp
 have hxx : (b.map (PV.int .u8))[0]? = some (.int .u8 x) := Y145
 have hlT : (0 < b.length) = True := eq_true hlt
 have hx8 : U8 x := hb x (List.mem_of_getElem? hx)
 have hxw : IntKind.i64.wrap x = x := wrap_i64 Y146
 have hxs : IntKind.i64.wrap (x - 128) = x - 128 := wrap_i64 Y146
 have hn3 : IntKind.u16.wrap (num1 b 3) = num1 b 3 := Y264
 have hn5 : IntKind.u16.wrap (num1 b 5) = num1 b 5 := Y265
 have hg0 : (b[0]?).getD 0 = x := by rw [hx]; rfl
 have hbl : b.length ≤ 140737488351232 := Y19
 have H := aj hxx (aj hlT (aj hxw (aj hxs (aj hn3 (aj hn5 H)))))
 refine rs (k := rg [0, 3, 4] (k := rs (k := rg [0, 3, 4] (k := rs (k := rs (k := rg [0, 3, 4, 13] (k := rc (ht := fun hc0 => ?_) (hf := fun hc0 => ?_))))))))
 refine rs (k := rg [0, 4] (k := rs (k := rs (k := rg [0, 4, 20] (k := rc (ht := fun hc1 => ?_) (hf := fun hc1 => ?_))))))
 have hl1 : 1 < b.length := Y83
 obtain ⟨y, hy⟩ : ∃ y, b[1]? = some y := ⟨b[1], List.getElem?_eq_getElem hl1⟩
 have hyy : (b.map (PV.int .u8))[Int.toNat 1]? = some (.int .u8 y) := by show (b.map (PV.int .u8))[1]? = _; rw [List.getElem?_map, hy]; rfl
 have hlT1 : ((1 : Int) < (b.length : Int)) = True := eq_true Y19
 have hy8 : U8 y := hb y (List.mem_of_getElem? hy)
 have hyw : IntKind.i64.wrap y = y := wrap_i64 (by unfold U8 at hy8; omega)
 have hy0 : (b[1]?).getD 0 = y := by rw [hy]; rfl
 have H := aj hyy (aj hlT1 (aj hyw H))
 refine rg [4] (k := rs (k := rg [4] (k := rR (k := ?_))))
 refine jO 1 ?_; rotate_left
 refine rk (k := rs (k := rg [4] (k := rR (k := ?_))))
 refine jO 1 ?_; rotate_left
 refine rk (k := rs (k := ?_))
 obtain ⟨m, hm, hmle, hmd⟩ : ∃ m : Nat, (if (2 : Int) < (b.length : Int) then (2 : Int) else (b.length : Int)) = (m : Int) ∧ m ≤ b.length ∧ b.drop m = b.drop 2 := by
   by_cases h : (2 : Int) < (b.length : Int)
   · exact ⟨2, by rw [if_pos h]; rfl, Y19, rfl⟩
   · exact ⟨b.length, by rw [if_neg h], Nat.le_refl _, by rw [List.drop_eq_nil_of_le (Nat.le_refl _), List.drop_eq_nil_of_le Y19]⟩
 have hd1 : ((m : Int) ≤ (b.length : Int)) = True := eq_true Y19
 have hd2 : ((0 : Int) ≤ (m : Int)) = True := eq_true Y19
 have htk : ((b.length : Int) - (m : Int)).toNat = b.length - m := Y19
 have hlm : ((b.map (PV.int .u8)).drop m).take (b.length - m) = ((b.drop 2).map (PV.int .u8)) := by rw [← hmd, List.map_drop, List.take_of_length_le Y81]
 have H := aj hm (aj hd1 (aj hd2 (aj htk (aj hlm H))))
 refine rg [0, 3, 4, 5] (k := rs (k := rs (k := rg [0, 3, 4, 5, 33] (k := rb (k := rs (k := rs (k := rg [0, 3, 4, 5, 33, 34] (k := rc (ht := fun hc2 => ?_) (hf := fun hc2 => ?_)))))))))
 refine rk (k := rc (ht := fun hc3 => ?_) (hf := fun hc3 => ?_))
 refine jO 2 ?_; rotate_left
 · exact Y204
 refine rg [0, 3, 4, 5, 33, 34] (k := rc (ht := fun hc3 => ?_) (hf := fun hc3 => ?_))
 refine jO 2 ?_; rotate_left
 refine rs (k := rs (k := rg [0, 4, 5, 33, 45] (k := rc (ht := fun hc4 => ?_) (hf := fun hc4 => ?_))))
 refine rk (k := rc (ht := fun hc6 => ?_) (hf := fun hc6 => ?_))
 refine jO 3 ?_; rotate_left
 · exact Bool.noConfusion (hc4.symm.trans hc6)
 refine rs (k := rg [0, 4, 5, 33, 45] (k := rc (ht := fun hc5 => ?_) (hf := fun hc5 => ?_)))
 refine rk (k := rc (ht := fun hc6 => ?_) (hf := fun hc6 => ?_))
 refine jO 3 ?_; rotate_left
 · exact Bool.noConfusion (hc5.symm.trans hc6)
 refine rg [0, 4, 5, 33, 45] (k := rc (ht := fun hc6 => ?_) (hf := fun hc6 => ?_))
 refine jO 3 ?_; rotate_left
 refine rs (k := rg [0, 4, 5, 33, 55] (k := rc (ht := fun hc7 => ?_) (hf := fun hc7 => ?_)))
 refine jO 4 ?_; rotate_left
 refine rs (k := rg [0, 4, 5, 33, 65] (k := rc (ht := fun hc8 => ?_) (hf := fun hc8 => ?_)))
 refine jO 4 ?_; rotate_left
 refine rs (k := rg [0, 4, 5, 33, 75] (k := rc (ht := fun hc9 => ?_) (hf := fun hc9 => ?_)))
 refine jO 4 ?_; rotate_left
 refine rs (k := rs (k := rg [0, 4, 5, 33, 85] (k := rc (ht := fun hc10 => ?_) (hf := fun hc10 => ?_))))
 refine rk (k := rc (ht := fun hc11 => ?_) (hf := fun hc11 => ?_))
 refine jO 5 ?_; rotate_left
 · exact Bool.noConfusion (hc10.symm.trans hc11)
 refine rg [0, 4, 5, 33, 85] (k := rc (ht := fun hc11 => ?_) (hf := fun hc11 => ?_))
 refine jO 5 ?_; rotate_left
 refine rs (k := rg [0, 4, 5, 33, 94] (k := rc (ht := fun hc12 => ?_) (hf := fun hc12 => ?_)))
 refine rr (k := ro (pre := [_]) (k := rC (h := reply_num (b := b) hb hbl (i := 0) (a := 1) Y20 Y20) (k := ro (pre := [_]) (k := rC (h := reply_num (b := b) hb hbl (i := 1) (a := 3) Y20 Y20) (k := ro (pre := [_, _]) (k := rC (h := reply_num (b := b) hb hbl (i := 2) (a := 5) Y20 Y20) (k := rh [4] (k := rB (k := rs (k := rr (k := ?_)))))))))))
 refine rh [4] (k := rR (k := ?_))
 refine jO 1 ?_; rotate_left
 refine rs (k := rg [4, 5, 107] (k := rc (ht := fun hc13 => ?_) (hf := fun hc13 => ?_)))
 refine rr (k := ro (pre := [_]) (k := rC (h := clone_u8 (xs := b.drop 2) Y137) (k := rh [4] (k := rB (k := rs (k := rg [4] (k := rR (k := ?_))))))))
 refine jO 1 ?_; rotate_left
 refine rk (k := rB (k := rs (k := rg [4] (k := rR (k := ?_)))))
 refine jO 1 ?_; rotate_left
 any_goals
   refine jI 4 ?_
   refine rr (k := ro (pre := [_]) (k := rC (h := reply_num (b := b) hb hbl (i := 0) (a := 1) Y20 Y20) (k := ro (pre := [_]) (k := rC (h := reply_num (b := b) hb hbl (i := 1) (a := 3) Y20 Y20) (k := ro (pre := [_]) (k := rO (k := rh [4] (k := rB (k := rs (k := rg [4] (k := rR (k := ?_))))))))))))
   refine jO 1 ?_; rotate_left
 any_goals
   refine jI 5 ?_
   refine rr (k := ro (pre := [_]) (k := rC (h := reply_num (b := b) hb hbl (i := 0) (a := 1) Y20 Y20) (k := ro (pre := [_]) (k := rC (h := reply_num (b := b) hb hbl (i := 1) (a := 3) Y20 Y20) (k := rh [4] (k := rB (k := rs (k := rg [4] (k := rR (k := ?_))))))))))
   refine jO 1 ?_; rotate_left
 any_goals
   refine jI 2 ?_
   refine rr (k := ro (pre := [_, _, _]) (k := rC (h := octet_Open (b := b.drop 2) (hb.drop 2) Y137 hq (.inr Y137)) (k := rh [4] (k := rB (k := rs (k := rg [4] (k := rR (k := ?_))))))))
   refine jO 1 ?_; rotate_left
 any_goals
   refine jI 3 ?_
   refine rr (k := ro (pre := [_]) (k := rC (h := octet_Words (b := b.drop 2) (hb.drop 2) Y137) (k := rh [4] (k := rB (k := rs (k := rg [4] (k := rR (k := ?_))))))))
   refine jO 1 ?_; rotate_left
 any_goals
   refine jI 1 ?_
   refine Ret.pure (r' := (gessF b q).pv) (by simp only [Tryz.f60, go_sem, ↓reduceIte] <;> rfl) ?_ (blw_rep _ _) hwf Y36 ⟨rfl, rfl⟩
   refine jO 6 ?_; rotate_left
 any_goals
   refine jI 6 ?_
   simp only [PV.weak, PV.weaks, weaks_u16, weaks_bools, weaks_u8]
   refine jO 7 ?_; rotate_left
 any_goals
   refine jI 7 ?_
   clear hxx hlT hxw hxs hn3 hn5 H hwf hb hl hbl hx8 hx
   refine jO 8 ?_; rotate_left
 any_goals
   refine jI 8 ?_
   simp only [decide_eq_true_eq, decide_eq_false_iff_not] at *
   refine jO 9 ?_; rotate_left
 any_goals
   refine jI 9 ?_
   first
     | (exfalso; omega)
     | (simp only [gessF, hg0, Rep.pv, hy0, if_pos hc0, if_pos hl1]; rfl)
     | (simp only [gessF, hg0, Rep.pv]; simp [*, wordsO]; done)
     | (have n0 : ¬ 128 ≤ x := by omega
        simp only [gessF, hg0, Rep.pv]; simp [*, wordsO]; done)
     | (have n1 : 1 < b.length := by omega
        simp only [gessF, hg0, Rep.pv]; simp [*, wordsO]; done)
     | (have n1 : ¬ 1 < b.length := by omega
        simp only [gessF, hg0, Rep.pv]; simp [*, wordsO]; done)
     | skip
attribute [local go_sem] weaks_bools Req.pv Rep.pv
set_option maxRecDepth 100000 in
theorem reply_asked {R : Rep} {q : Req} (hA : R.code = 0 → ¬ (R.fn ≤ 2 ∧ ¬ (R.bits.length : Int) = q.count ∨ (R.fn = 3 ∨ R.fn = 4 ∨ R.fn = 23) ∧ ¬ (R.vals.length : Int) = q.count)) {s : St} : ACalls Tryz.prog 63 [R.pv, q.pv] s (fun r s' => r = .bool true ∧ s' = s) := by
 refine go Tryz.func63 (k := fun hwf H => ?_)
 refine rs (k := rg [2, 3] (k := rs (k := rs (k := rg [2, 3, 7] (k := rc (ht := fun hc0 => ?_) (hf := fun hc0 => ?_))))))
 refine jO 1 ?_; rotate_left
 refine rk (k := rs (k := rs (k := rg [2, 3, 9] (k := rb (k := rs (k := rs (k := rg [2, 3, 9, 10] (k := rc (ht := fun hc1 => ?_) (hf := fun hc1 => ?_)))))))))
 refine rk (k := rc (ht := fun hc2 => ?_) (hf := fun hc2 => ?_))
 refine jO 1 ?_; rotate_left
 · exact Y205
 refine rg [2, 3, 9, 10] (k := rc (ht := fun hc2 => ?_) (hf := fun hc2 => ?_))
 refine jO 1 ?_; rotate_left
 refine rs (k := rs (k := rg [2, 3, 9, 19] (k := rc (ht := fun hc3 => ?_) (hf := fun hc3 => ?_))))
 refine rk (k := rc (ht := fun hc5 => ?_) (hf := fun hc5 => ?_))
 refine jO 1 ?_; rotate_left
 · exact Bool.noConfusion (hc3.symm.trans hc5)
 refine rs (k := rg [2, 3, 9, 19] (k := rc (ht := fun hc4 => ?_) (hf := fun hc4 => ?_)))
 refine rk (k := rc (ht := fun hc5 => ?_) (hf := fun hc5 => ?_))
 refine jO 1 ?_; rotate_left
 · exact Bool.noConfusion (hc4.symm.trans hc5)
 refine rg [2, 3, 19] (k := rc (ht := fun hc5 => ?_) (hf := fun hc5 => ?_))
 refine jO 1 ?_; rotate_left
 refine rk (k := rB (k := rs (k := rg [4] (k := rR (k := rP (by simp only [Tryz.f63, go_sem]; rfl) hwf ⟨?_, rfl⟩)))))
 refine jO 2 ?_; rotate_left
 any_goals
   refine jI 1 ?_
   refine rs (k := rg [4] (k := rR (k := rP (by simp only [Tryz.f63, go_sem]; rfl) hwf ⟨?_, rfl⟩)))
   refine jO 2 ?_; rotate_left
 any_goals
   refine jI 2 ?_
   refine congrArg PV.bool ?_
   refine jO 3 ?_; rotate_left
 any_goals
   refine jI 3 ?_
   first
     | rfl
     | (simp only [Bool.not_eq_true', Bool.not_eq_false', Bool.or_eq_true, Bool.or_eq_false_iff, decide_eq_true_eq, decide_eq_false_iff_not] at *
        have := hA Y19
        first
        | omega
        | (clear H; omega))
attribute [local go_sem] weaks_bools Req.pv
theorem Y113 {p : Prop} (h : p := by simp only [PV.blw, PV.blws, and_true, true_and]; exact blw_rep _ _) : p := h
theorem Y170 {p : Prop} (h : p := by simp only [PV.weak, PV.weaks, Rep.pv, weaks_u16, weaks_bools, weaks_u8]) : p := h
set_option maxRecDepth 100000 in
theorem reply_ReadFits {R : Rep} {q : Req} (hf : Fits R q) (h127 : 1 ≤ q.fn ∧ q.fn ≤ 127) (hR : R.ok) (hq : q.ok) {s : St} : ACalls Tryz.prog 42 [.sl .unk ((repF R).map (PV.int .u8)), q.pv] s (fun r s' => r = .tuple [R.pv, .int .i64 0] ∧ s' = s) := by
 refine go Tryz.func42 (k := fun hwf H => ?_)
 have hgd := hf.good
 have hbe : repF R = layF R := if_pos hgd
 have hgs : gessF (repF R) q = R := by rw [hbe]; exact gess_lay hf h127 hR.vals
 have hbo : OkB (repF R) := repF_ok hR
 have hbl : (repF R).length ≤ 300 := by rw [hbe]; exact layF_len hgd
 obtain ⟨x, l, hxl, _, _⟩ := fit_head hf h127
 have hx0 : (repF R)[0]? = some x := by rw [hxl]; rfl
 have hxh : x = if ¬ R.code = 0 then R.fn + 128 else R.fn := by have := lay_head (R := R); rw [← hbe, hx0] at this; exact this
 have hfn := hf.fn
 have hlt : 0 < (repF R).length := by rw [hxl]; simp
 have hxx : ((repF R).map (PV.int .u8))[0]? = some (.int .u8 x) := by rw [List.getElem?_map, hx0]; rfl
 have hlT : (0 < (repF R).length) = True := eq_true hlt
 have hx8 : U8 x := hbo x (List.mem_of_getElem? hx0)
 have hxw : IntKind.i64.wrap x = x := wrap_i64 Y146
 have hxs : IntKind.i64.wrap (x - 128) = x - 128 := wrap_i64 Y146
 have hl0 : decide (((repF R).length : Int) = 0) = false := decide_eq_false Y19
 have hf0 : decide (q.fn < 0) = false := decide_eq_false Y19
 have hgz : decide (goodF R = 0) = true := decide_eq_true hgd
 have hbl2 : (repF R).length < 140737488355328 := Y19
 have H := aj hxx (aj hlT (aj hxw (aj hxs (aj hl0 (aj hf0 (aj hgz H))))))
 refine rs (k := rg [0, 3, 4] (k := rs (k := rb (k := rs (k := rg [0, 3, 4, 9] (k := rc (ht := fun hc0 => ?_) (hf := fun hc0 => ?_)))))))
 · cases hc0
 refine rs (k := ?_)
 refine Run.drawC [] [0, 3, 4, 14] Tryz.mixed Y25 ?_
 refine DetC.pre (pre := [_, _, _, _]) au ?_
 refine DetC.gdo au au ?_
 refine DetC.gdo au au ?_
 refine DetC.gdo au au ?_
 refine DetC.gdo au au ?_
 refine DetC.gdo au au ?_
 refine DetC.gdo au au ?_
 refine DetC.gdo au au ?_
 refine DetC.gdo au au ?_
 rcases hd11 : (!decide (x = q.fn)) with _ | _
 have H := aj hd11 H
 refine DetC.gskip' au ?_
 refine DetC.gskip' au ?_
 refine DetC.gskip' au ?_
 refine DetC.gskip' au ?_
 refine DetC.gskip' au ?_
 refine DetC.gskip' au ?_
 refine DetC.gskip' au ?_
 refine DetC.gskip' au ?_
 refine jO 1 ?_; rotate_left
 have H := aj hd11 H
 have hx1 : decide (x - 128 = q.fn) = true := decide_eq_true (by have h0 : ¬ x = q.fn := (by simpa using hd11); split at hxh <;> omega)
 have H := aj hx1 H
 refine DetC.gdo au au ?_
 refine DetC.gdo au au ?_
 refine DetC.gdo au au ?_
 refine DetC.gdo au au ?_
 refine DetC.gdo au au ?_
 refine DetC.gdo au au ?_
 refine DetC.gdo au au ?_
 refine DetC.gdo au au ?_
 refine jO 1 ?_; rotate_left
 any_goals
   refine jI 1 ?_
   refine DetC.gdo au au ?_
   refine jO 2 ?_; rotate_left
 any_goals
   refine jI 2 ?_
   refine DetC.all au ?_
   refine jO 3 ?_; rotate_left
 any_goals
   refine jI 3 ?_
   refine re (k := rc (ht := fun hc1 => ?_) (hf := fun hc1 => ?_))
   · cases hc1
   refine jO 4 ?_; rotate_left
 any_goals
   refine jI 4 ?_
   refine rk (k := rB (k := rs (k := rr (k := ro (pre := [_, _]) (k := ?_)))))
   refine jO 5 ?_; rotate_left
 any_goals
   refine jI 5 ?_
   refine RunO.callw au au au Y25 ((reply_guess hbo Y19 hx0 hq.count).mono ?_)
   refine jO 6 ?_; rotate_left
 any_goals
   refine jI 6 ?_
   rintro r s9 ⟨rfl, hs⟩
   refine jO 7 ?_; rotate_left
 any_goals
   refine jI 7 ?_
   subst s9
   refine jO 8 ?_; rotate_left
 any_goals
   refine jI 8 ?_
   rw [hgs]
   refine jO 9 ?_; rotate_left
 any_goals
   refine jI 9 ?_
   refine rh [0, 3, 4, 6] (k := rs (k := rs (k := rr (k := ro (pre := [_]) (k := rC (h := reply_Bytes hR) (k := rh [0, 3, 4, 6, 7, 8] (k := rs (k := rr (k := ro (pre := [_, _, _]) (k := rg1 (k := rg1 (k := rC (h := equal_u8 (xs := repF R) (ys := repF R) hbl2) (k := rg1 (k := ro (pre := [_, _]) (k := rg1 (k := rg1 (k := rC (h := reply_asked hf.cnt) (k := rg1 (k := ?_)))))))))))))))))))
   refine jO 10 ?_; rotate_left
 any_goals
   refine jI 10 ?_
   refine rh [4, 6, 59] (k := rc (ht := fun hc2 => ?_) (hf := fun hc2 => ?_))
   · cases hc2
   refine jO 11 ?_; rotate_left
 any_goals
   refine jI 11 ?_
   refine rk (k := rs (k := rg [4, 5] (k := rR (k := ?_))))
   refine jO 12 ?_; rotate_left
 any_goals
   refine jI 12 ?_
   exact Ret.pure (r' := .tuple [R.pv, .int .i64 0]) (by simp only [Tryz.f42, go_sem, ↓reduceIte] <;> rfl) Y170 Y113 hwf Y36 ⟨rfl, rfl⟩
end Go.Proofs
namespace Go.Proofs
open Go.PM
set_option maxHeartbeats 2000000
attribute [local go_sem] weaks_bools Req.pv
theorem master_Frame {q : Req} (hq : q.ok) {s : St} : ACalls Tryz.prog 19 [q.pv] s (fun r s' => r = .sl .unk ((frameF (bytesF q)).map (PV.int .u8)) ∧ s' = s) := by
 refine go Tryz.func19 (k := fun hwf H => ?_)
 have hbo : OkB (bytesF q) := Y278
 have hbl : (bytesF q).length ≤ 140737488350000 := by
   unfold bytesF
   split
   · have := writeF_len ‹_›; omega
   · simp
 refine rs (k := rg [1] (k := rs (k := rr (k := ro (pre := [_]) (k := rC (h := pdu_Bytes hq) (k := rh [3] (k := rs (k := rr (k := ro (pre := [_]) (k := rC (h := rtu_Frame (a := 17) hbo hbl) (k := rh [5] (k := rs (k := rg [2] (k := rR (k := ?_)))))))))))))))
 refine Ret.pure (r' := .sl .unk ((frameF (bytesF q)).map (PV.int .u8))) (by simp only [Tryz.f19, go_sem, ↓reduceIte] <;> rfl) ?_ Y26 hwf Y36 ⟨rfl, rfl⟩
 simp only [PV.weak, weaks_u8]
 rfl
attribute [local go_sem] weaks_bools Req.pv Rep.pv
theorem Y227 {p : Prop} (h : p := by simp only [PV.weak, PV.weaks, Rep.pv, zeroP, List.map_nil, weaks_u16, weaks_bools, weaks_u8] <;> rfl) : p := h
theorem master_goodN {B : List Int} (hB : OkB B) (hl : B.length ≤ 256) {q : Req} (h : ¬ (rtuF B).2 = 0) {s : St} : ACalls Tryz.prog 26 [.sl .unk (B.map (PV.int .u8)), q.pv] s (fun r s' => r = .tuple [zeroP.pv, .bool false] ∧ s' = s) := by
 refine go Tryz.func26 (k := fun hwf H => ?_)
 have h0 : decide ((rtuF B).2 = 0) = false := decide_eq_false h
 have H := aj h0 H
 refine rs (k := rg [0, 3, 4] (k := rs (k := rr (k := ro (pre := [_]) (k := rC (h := rtu_Read hB Y19) (k := rh [3, 4, 6, 7, 8] (k := rs (k := rs (k := rr (k := ro (pre := [_, _, _]) (k := rg0 (k := rg0 (k := rh [3, 4, 7, 22] (k := rc (ht := fun hc0 => ?_) (hf := fun hc0 => ?_)))))))))))))))
 · refine rs (k := rg [4, 5] (k := rR (k := ?_)))
   exact Ret.pure (r' := .tuple [zeroP.pv, .bool false]) (by simp only [Tryz.f26, go_sem, ↓reduceIte] <;> rfl) Y227 Y113 hwf Y36 ⟨rfl, rfl⟩
 · cases hc0
attribute [local go_sem] weaks_bools Req.pv Rep.pv
theorem master_goodY {R : Rep} {q : Req} (hf : Fits R q) (h127 : 1 ≤ q.fn ∧ q.fn ≤ 127) (hR : R.ok) (hq : q.ok) (hl : (repF R).length ≤ 253) {s : St} : ACalls Tryz.prog 26 [.sl .unk ((frameF (repF R)).map (PV.int .u8)), q.pv] s (fun r s' => r = .tuple [R.pv, .bool true] ∧ s' = s) := by
 refine go Tryz.func26 (k := fun hwf H => ?_)
 have hbn : repF R ≠ [] := by
   obtain ⟨x, l, h, _⟩ := fit_head hf h127
   rw [h]; exact List.cons_ne_nil _ _
 have hrt : rtuF (frameF (repF R)) = ((17, repF R), 0) := rtu_frame hbn hl
 have hB : OkB (frameF (repF R)) := frameF_ok (repF_ok hR)
 have hBl := frameF_len (repF R)
 refine rs (k := rg [0, 3, 4] (k := rs (k := rr (k := ro (pre := [_]) (k := ?_)))))
 refine RunO.callw au au au Y25 ((rtu_Read hB Y19).mono ?_)
 rintro r s9 ⟨rfl, hs⟩
 subst s9
 rw [hrt]
 refine rh [3, 4, 6, 7, 8] (k := rs (k := rs (k := rr (k := ro (pre := [_, _, _]) (k := rg1 (k := rg1 (k := rh [3, 4, 7, 22] (k := rc (ht := fun hc0 => ?_) (hf := fun hc0 => ?_)))))))))
 · cases hc0
 · refine rk (k := rs (k := rr (k := ro (pre := [_, _]) (k := rC (h := reply_ReadFits hf h127 hR hq) (k := rh [4, 9, 10] (k := rs (k := rg [4, 5] (k := rR (k := ?_)))))))))
   exact Ret.pure (r' := .tuple [R.pv, .bool true]) (by simp only [Tryz.f26, go_sem, ↓reduceIte] <;> rfl) Y227 Y113 hwf Y36 ⟨rfl, rfl⟩
theorem master_good {q : Req} (h127 : 1 ≤ q.fn ∧ q.fn ≤ 127) (hq : q.ok) {D D' : Dev} {f : Int} {B : List Int} {g : Option Rep} (h : Tried q D f B D' g) {s : St} : ACalls Tryz.prog 26 [.sl .unk (B.map (PV.int .u8)), q.pv] s (fun r s' => r = .tuple [(g.getD zeroP).pv, .bool g.isSome] ∧ s' = s) := by
 rcases h.g with ⟨rfl, h1, _⟩ | ⟨R, rfl, h1, h2, h4, h3, _⟩
 · exact master_goodN h.b h.bl h1
 · rw [h4]
   exact master_goodY h1 h127 h2 hq h3
def sentF (fr : List Int) (tick : Int) (i k : Nat) : List Snt := (List.range' i k).map fun (j : Nat) => ⟨tick + 4 * (j : Int), 0, fr⟩
theorem sentF_snoc (fr : List Int) (tick : Int) (k : Nat) : sentF fr tick 0 (k + 1) = sentF fr tick 0 k ++ [⟨tick + 4 * (k : Int), 0, fr⟩] := by
 unfold sentF
 rw [List.range'_concat, List.map_append, Nat.zero_add, Nat.one_mul]
 rfl
structure Trying (q : Req) (F0 : List Int) (D0 : Dev) (i : Nat) (F : List Int) (D : Dev) : Prop where
 le : i ≤ 3
 ok : D.ok
 ff : ∀ f ∈ F, 0 ≤ f ∧ f ≤ 4
 ln : F.length ≤ 1000
 rep : (triesF q 3 F0 D0).1 = (triesF q (3 - i) F D).1
 bad : (triesF q 3 F0 D0).2.1 = (triesF q (3 - i) F D).2.1 + i
 dev : (triesF q 3 F0 D0).2.2 = (triesF q (3 - i) F D).2.2
 len : D.c0.length = D0.c0.length
theorem headD_ff {F : List Int} (h : ∀ f ∈ F, 0 ≤ f ∧ f ≤ 4) : 0 ≤ F.headD 0 ∧ F.headD 0 ≤ 4 := by
 cases F with
 | nil => decide
 | cons f L => exact h f Y81
theorem Trying.next {q : Req} {F0 : List Int} {D0 : Dev} {i : Nat} {F : List Int} {D : Dev} (h : Trying q F0 D0 i F D) (hi : i < 3) {B : List Int} {D' : Dev} {g : Option Rep} (ht : Tried q D (F.headD 0) B D' g) :
   (g = none → Trying q F0 D0 (i + 1) F.tail D') ∧ (∀ R, g = some R → (triesF q 3 F0 D0) = (R, i, D', F.tail)) := by
 obtain ⟨k, hk⟩ : ∃ k, 3 - i = k + 1 := ⟨2 - i, Y19⟩
 have h1 := h.rep
 have h2 := h.bad
 have h3 := h.dev
 rw [hk] at h1 h2 h3
 have hff : ∀ f ∈ F.tail, 0 ≤ f ∧ f ≤ 4 := fun f hf => h.ff f (List.mem_of_mem_tail hf)
 have hln : F.tail.length ≤ 1000 := by rw [List.length_tail]; have := h.ln; omega
 rcases ht.g with ⟨rfl, _, e0, e4, hD'⟩ | ⟨R, rfl, _, _, _, _, hc⟩
 · refine ⟨fun _ => ?_, fun R e => Y18⟩
   have e : triesF q (k + 1) F D = ((triesF q k F.tail D').1, (triesF q k F.tail D').2.1 + 1, (triesF q k F.tail D').2.2) := by
     show (if F.headD 0 = 0 then _ else if F.headD 0 = 4 then _ else _) = _
     rw [if_neg e0, if_neg e4, ← hD']
   rw [e] at h1 h2 h3
   have hk2 : 3 - (i + 1) = k := Y19
   exact ⟨Y19, ht.ok, hff, hln, by rw [hk2]; exact h1, by rw [hk2]; rw [h2]; dsimp only; omega, by rw [hk2]; exact h3, ht.len.trans h.len⟩
 · refine ⟨fun e => Y18, fun R' e => ?_⟩
   cases e
   have e : triesF q (k + 1) F D = (R, 0, D', F.tail) := by
     show (if F.headD 0 = 0 then _ else if F.headD 0 = 4 then _ else _) = _
     rcases hc with ⟨c1, c2, c3⟩ | ⟨c1, c2, c3⟩
     · rw [if_pos c1, c2, c3]
     · rw [if_neg (by rw [c1]; decide), if_pos c1, c2, c3]
   rw [e] at h1 h2 h3
   exact Prod.ext h1 (Prod.ext (by rw [h2]; dsimp only; omega) h3)
attribute [local go_sem] weaks_bools set_set Rep.pv
theorem Y228 {p : Prop} (h : p := by simp (disch := first | omega | (simp only [nxt_set, nxt_new] <;> omega) | fail) only [go_sem] <;> rfl) : p := h
theorem Y229 {p : Prop} (h : p := by simp only [Tryz.f13, go_sem, ↓reduceIte] <;> rfl) : p := h
set_option maxRecDepth 100000 in
theorem master_Ask {b ln c : Nat} {D : Dev} {F : List Int} {l : List Snt} {a1 a2 a3 : PV} {s : St} (h : LnAt b ln c D F l a1 a2 a3 s) (hD : D.ok) (hF : F.length ≤ 1000) (hff : ∀ f ∈ F, 0 ≤ f ∧ f ≤ 4) (hl : l.length ≤ 90000) {q : Req} (hq : q.ok) (hr : rightF q = 0) (hln : (writeF q).length ≤ 253) {tick : Int} (ht : 0 ≤ tick ∧ tick ≤ 1099511627776) :
   ACalls Tryz.prog 13 [.ptr ln 0 0, .int .i64 0, .int .i64 tick, q.pv] s (fun r s' => r = .tuple [(triesF q 3 F D).1.pv, .int .i64 (triesF q 3 F D).2.1] ∧ LnAt b ln c (triesF q 3 F D).2.2.1 (triesF q 3 F D).2.2.2 (l ++ sentF (frameF (bytesF q)) tick 0 (min ((triesF q 3 F D).2.1 + 1) 3)) a1 a2 a3 s' ∧ Out b ln c s s') := by
 refine go Tryz.func13 (k := fun hwf H => ?_)
 have hne : writeF q ≠ [] := List.cons_ne_nil _ _
 have hbw : bytesF q = writeF q := right_bytes hr
 have hfo : OkB (frameF (bytesF q)) := frameF_ok (by rw [hbw]; exact writeF_ok hq hr)
 have hfl := frameF_len (bytesF q)
 have hfp : 0 < (frameF (bytesF q)).length := by rw [hbw, frameF_eq hne hln, sealB_len]; omega
 obtain ⟨fr, hfr⟩ : ∃ y, frameF (bytesF q) = y := ⟨_, rfl⟩
 rw [hfr] at hfo hfl hfp
 have h127 := has127 hr
 have hz : decide ((fr.length : Int) = 0) = false := decide_eq_false Y19
 have hc1 := h.hc
 have hc2 := h.nx
 have hc3 := h.lt
 have H := aj hz H
 refine rs (k := rg [0, 1, 2, 7, 8] (k := rs (k := rr (k := ro (pre := [_]) (k := ?_)))))
 refine RunO.callw au au au Y25 ((master_Frame hq).mono ?_)
 rintro r s9 ⟨rfl, hs⟩
 subst s9
 rw [hfr]
 refine rh [0, 1, 2, 7, 8, 10] (k := rs (k := rs (k := rr (k := ro (pre := [_, _, _]) (k := rg1 (k := rg1 (k := rg1 (k := rh [0, 1, 2, 7, 8, 10, 22] (k := rc (ht := fun hc0 => ?_) (hf := fun hc0 => ?_))))))))))
 · cases hc0
 · have hc := hc0
   refine rk (k := rs (k := rs (k := rg [0, 1, 2, 7, 8, 10, 26] (k := rb (k := ?_)))))
   refine Run.loop (fun e s' => ∃ (i : Nat) (D1 : Dev) (F1 : List Int) (l1 : List Snt), e = [(0, .ptr ln 0 0), (1, .int .i64 0), (2, .int .i64 tick), (7, .ptr s.nxt 0 0), (8, .ptr (s.nxt + 1) 0 0), (10, .sl .unk (fr.map (PV.int .u8))), (26, .int .i64 (i : Int))] ∧ Trying q F D i F1 D1 ∧ l1 = l ++ sentF fr tick 0 i ∧ LnAt b ln c D1 F1 l1 a1 a2 a3 s' ∧ Out b ln c s s' ∧ s.nxt + 2 ≤ s'.nxt ∧ s'.blk s.nxt = some (.row 31 [q.pv]) ∧ s'.blk (s.nxt + 1) = some (.row 41 [.agg [.int .i64 0, .int .i64 0, .int .i64 0, .int .i64 0, .int .i64 0, .sl .nil [], .sl .nil [], .int .u16 0, .int .u16 0, .sl .nil []]])) (fun e s' => 3 - ivar e 26) ?_ ?_
   · exact ⟨0, D, F, _, rfl, ⟨Y20, hD, hff, hF, rfl, rfl, rfl, rfl⟩, (List.append_nil _).symm, (h.nw _).nw _, (Out.refl _ _ _ _).nw _ |>.nw _, Nat.le_refl _, Y228, Y228⟩
   rintro e S0 ⟨i, D1, F1, l1, rfl, hTr, hl1, hL, hO, hx0, hq0, hz0⟩
   have hll1 : l1.length = l.length + i := by rw [hl1, List.length_append]; simp [sentF]
   have hi3' := hTr.le
   have H := aj hq0 (aj hz0 H)
   refine rs (k := rg [0, 1, 2, 7, 8, 10, 26, 27] (k := rs (k := rc (ht := fun hc1 => ?_) (hf := fun hc1 => ?_))))
   · have hc := hc1
     refine rk (k := rs (k := rb (k := rs (k := rg [0, 1, 2, 7, 8, 10, 11, 26] (k := rs (k := ?_))))))
     have hi3 : i < 3 := Y83
     obtain ⟨B, D', g, hT⟩ := try_law hq hr hTr.ok (headD_ff hTr.ff) hln
     have hN := hTr.next hi3 hT
     have hsd := hT.snd
     rw [hfr] at hsd
     have hw4 : IntKind.i64.wrap ((i : Int) * 4) = (i : Int) * 4 := wrap_i64 Y19
     have hwt : IntKind.i64.wrap (tick + (i : Int) * 4) = tick + 4 * (i : Int) := Y27
     have hwi : IntKind.i64.wrap ((i : Int) + 1) = ((i + 1 : Nat) : Int) := Y27
     refine Run.reserve ?_
     obtain ⟨r9, hr9⟩ : ∃ r, r = S0.nxt := ⟨_, rfl⟩
     obtain ⟨S, hS⟩ : ∃ S, S = S0.new .res := ⟨_, rfl⟩
     have hSr : S.blk r9 = some .res := by rw [hS, hr9]; exact blk_new_eq
     have hSx : S.nxt = r9 + 1 := by rw [hS, hr9]; rfl
     have hSL : LnAt b ln c D1 F1 l1 a1 a2 a3 S := by rw [hS]; exact hL.nw _
     have hSO : Out b ln c s S := by rw [hS]; exact hO.nw _
     have hSq : S.blk s.nxt = some (.row 31 [q.pv]) := by rw [hS, blk_new_ne Y19]; exact hq0
     have hSz : S.blk (s.nxt + 1) = some (.row 41 [.agg [.int .i64 0, .int .i64 0, .int .i64 0, .int .i64 0, .int .i64 0, .sl .nil [], .sl .nil [], .int .u16 0, .int .u16 0, .sl .nil []]]) := by rw [hS, blk_new_ne Y19]; exact hz0
     rw [← hS]
     clear hS
     obtain ⟨S9, hsnd, hL9, hO9, hr99⟩ := line_SendV (r := r9) (tick := tick + 4 * (i : Int)) hSL hTr.ok hTr.ln (headD_ff hTr.ff) Y19 hfo Y19 Y19 Y19 hSr hsd hT.len
     have h9x := hO9.nx
     have h9q : S9.blk s.nxt = some (.row 31 [q.pv]) := by rw [hO9.same _ Y19 (.inr fun L => by rw [hSq]; intro e; cases e) Y19 Y19]; exact hSq
     have h9z : S9.blk (s.nxt + 1) = some (.row 41 [.agg [.int .i64 0, .int .i64 0, .int .i64 0, .int .i64 0, .int .i64 0, .sl .nil [], .sl .nil [], .int .u16 0, .int .u16 0, .sl .nil []]]) := by rw [hO9.same _ Y19 (.inr fun L => by rw [hSz]; intro e; cases e) Y19 Y19]; exact hSz
     have hsn0 := hsnd (some .res)
     rw [set_same hSr, set_same hr99] at hsn0
     have nr1 : (s.nxt = r9) = False := eq_false Y19
     have nr2 : (s.nxt + 1 = r9) = False := eq_false Y19
     have nr3 : (r9 = s.nxt + 1) = False := eq_false Y19
     have H := aj hw4 (aj hwt (aj hwi (aj hSq (aj hSz (aj h9q (aj h9z (aj nr1 (aj nr2 (aj nr3 H)))))))))
     refine rH 16 [7, 13, 14] [[false, false, false], [true, false, false], [false, true, false], [true, true, false], [true, true, true]] [S, S9, (S.set r9 (some (.row 41 [.agg [.int .i64 0, .int .i64 0, .int .i64 0, .int .i64 0, .int .i64 0, .sl .nil [], .sl .nil [], .int .u16 0, .int .u16 0, .sl .nil []]]))), (S9.set r9 (some (.row 41 [.agg [.int .i64 0, .int .i64 0, .int .i64 0, .int .i64 0, .int .i64 0, .sl .nil [], .sl .nil [], .int .u16 0, .int .u16 0, .sl .nil []]]))), (S9.set r9 (some (.row 41 [(g.getD zeroP).pv])))] Tryz.mixed (k := ?_)
     refine dP [0, 2] (pre := [_, _, _, _, _, _, _]) (k := ?_)
     refine dX (v := .sl .unk (B.map (PV.int .u8))) [(0, 1), (2, 3)] (h := by intro q hq; simp only [List.mem_cons, List.not_mem_nil, or_false] at hq; rcases hq with rfl | rfl; exact hsn0; exact hsnd _) (k := ?_)
     refine dP [0, 1, 2, 3] (pre := [_]) (k := ?_)
     refine dC [1, 3] (h := fun s _ => master_good h127 hq hT) (k := ?_)
     refine dP [1, 3, 4] (pre := [_, _, _]) (k := ?_)
     refine DetHC.resAlloc (id := r9) [(0, 2), (1, 3)] _ Y25 pq au rfl (by rw [Tryz.zp41] <;> rfl) (by intro q hq; simp only [List.mem_cons, List.not_mem_nil, or_false] at hq; rcases hq with rfl | rfl <;> exact ⟨by assumption, rfl⟩) ?_
     refine dE [(3, 4)] (k := ?_)
     refine dA [4] (k := rl [0, 1, 2, 7, 8, 10, 11, 12, 13, 26] (k := rs (k := rg [0, 1, 2, 7, 8, 10, 11, 12, 26, 42] (k := rc (ht := fun hc2 => ?_) (hf := fun hc2 => ?_)))))
     · have hc := hc2
       refine rs (k := rg [8, 9] (k := rR (k := ?_)))
       obtain ⟨R, hgR⟩ : ∃ R, g = some R := by cases g with | none => simp at hc2 | some R => exact ⟨R, rfl⟩
       have hN2 := hN.2 R hgR
       have hm3 : min (i + 1) 3 = i + 1 := Y19
       have n9 : ∀ L, S9.blk r9 ≠ some (.tok L) := fun L => by rw [hr99]; intro e; cases e
       refine Ret.allW (r' := .tuple [R.pv, .int .i64 (i : Int)]) Y229 (by rw [hgR]; simp only [Option.getD_some, PV.weak, PV.weaks, Rep.pv, weaks_u16, weaks_bools, weaks_u8]) ⟨by rw [hN2], ?_, ?_⟩
       · rw [hN2]
         dsimp only
         rw [hm3, sentF_snoc, ← List.append_assoc, ← hl1]
         exact (hL9.hi Y19 n9 _).hi Y19 (fun L => by rw [blk_set_ne Y19, h9z]; intro e; cases e) _
       · exact ((hSO.trans hO9).hi Y19 _).hi Y19 _
     · have hc := hc2
       refine rk (k := rB (k := rg [0, 1, 2, 7, 8, 10, 26] (k := ?_)))
       have hgn : g = none := by cases g with | none => rfl | some R => simp at hc2
       refine Run.lp ⟨⟨i + 1, D', F1.tail, _, rfl, hN.1 hgn, by rw [sentF_snoc, ← List.append_assoc, ← hl1], (hL9.hi Y19 (fun L => by rw [hr99]; intro e; cases e) _), ((hSO.trans hO9).hi Y19 _), by show s.nxt + 2 ≤ S9.nxt; omega, ?_, ?_⟩, ?_⟩
       · rw [blk_set_ne Y19]; exact h9q
       · rw [blk_set_ne Y19]; exact h9z
       · exact Y33
   · have hc := hc1
     refine rX (k := rs (k := rr (k := ro (pre := [_, _]) (k := rC (h := reply_Refuse hq.fn Y21) (k := rh [8, 9] (k := rR (k := ?_)))))))
     obtain rfl : i = 3 := Y87
     have k1 : (triesF q 3 F D).1 = refuseP q.fn 11 := hTr.rep
     have k2 : (triesF q 3 F D).2.1 = 0 + 3 := hTr.bad
     have k3 : (triesF q 3 F D).2.2 = (D1, F1) := hTr.dev
     refine Ret.allW (r' := .tuple [(refuseP q.fn 11).pv, .int .i64 3]) Y229 Y170 ⟨by rw [k1, k2]; rfl, ?_, ?_⟩
     · rw [k2, k3]
       dsimp only
       rw [show min (0 + 3 + 1) 3 = 3 from rfl, ← hl1]
       exact hL.hi Y19 (fun L => by rw [hz0]; intro e; cases e) _
     · exact hO.hi Y19 _
end Go.Proofs
namespace Go.Proofs
open Go.PM
set_option maxHeartbeats 2000000
attribute [local go_sem] weaks_bools set_set Req.pv Rep.pv
theorem Y57 {p : Prop} (h : p := by
 refine rs (k := rr (k := ro (pre := [_, _]) (k := rC (h := reply_Refuse hq.fn Y21) (k := rh [8, 9] (k := rR (k := ?_))))))
 exact Ret.pure (r' := .tuple [(refuseP q.fn 3).pv, .int .i64 0]) Y229 Y170 Y113 hwf Y36 ⟨rfl, rfl⟩) : p := h
set_option maxRecDepth 100000 in
theorem master_AskNil {q : Req} (hq : q.ok) {s : St} : ACalls Tryz.prog 13 [.nilp, .int .i64 0, .int .i64 0, q.pv] s (fun r s' => r = .tuple [(refuseP q.fn 3).pv, .int .i64 0] ∧ s' = s) := by
 refine go Tryz.func13 (k := fun hwf H => ?_)
 refine rs (k := rg [0, 1, 2, 7, 8] (k := rs (k := rr (k := ro (pre := [_]) (k := ?_)))))
 refine RunO.callw au au au Y25 ((master_Frame hq).mono ?_)
 rintro r s9 ⟨rfl, hs⟩
 subst s9
 refine rh [0, 1, 2, 7, 8, 10] (k := rs (k := rs (k := rr (k := ro (pre := [_, _, _]) (k := rg0 (k := rg0 (k := rg0 (k := rh [0, 1, 2, 7, 8, 10, 22] (k := rc (ht := fun hc0 => ?_) (hf := fun hc0 => ?_))))))))))
 · exact Y57
 · cases hc0
attribute [local go_sem] weaks_bools set_set Req.pv Rep.pv
set_option maxRecDepth 100000 in
theorem master_AskBad {q : Req} (hq : q.ok) (hb : frameF (bytesF q) = []) {ln : Nat} {s : St} : ACalls Tryz.prog 13 [.ptr ln 0 0, .int .i64 0, .int .i64 0, q.pv] s (fun r s' => r = .tuple [(refuseP q.fn 3).pv, .int .i64 0] ∧ s' = s) := by
 refine go Tryz.func13 (k := fun hwf H => ?_)
 refine rs (k := rg [0, 1, 2, 7, 8] (k := rs (k := rr (k := ro (pre := [_]) (k := ?_)))))
 refine RunO.callw au au au Y25 ((master_Frame hq).mono ?_)
 rintro r s9 ⟨rfl, hs⟩
 subst s9
 rw [hb]
 refine rh [0, 1, 2, 7, 8, 10] (k := rs (k := rs (k := rr (k := ro (pre := [_, _, _]) (k := rg1 (k := rg1 (k := rg1 (k := rh [0, 1, 2, 7, 8, 10, 22] (k := rc (ht := fun hc0 => ?_) (hf := fun hc0 => ?_))))))))))
 · exact Y57
 · cases hc0
def k17F : List Int := frameF [6, 0, 1, 0, 9]
def k17E (D : Dev) : Dev := { D.up with v1 := overF D.v1 1 [9] }
theorem k17_do {D : Dev} (h : D.c0.length = 8) : doF D (⟨6, 1, 0, 0, 0, [], [9], 0, 0⟩ : Req) = ((⟨6, 0, 1, 0, 0, [], [9], 0, 0, []⟩ : Rep), k17E D) := by
 have h1 : countF (⟨6, 1, 0, 0, 0, [], [9], 0, 0⟩ : Req) = true := Y20
 exact do_6 (D := D) (q := (⟨6, 1, 0, 0, 0, [], [9], 0, 0⟩ : Req)) h1 rfl (by rw [h]; decide)
theorem k17_ok {D : Dev} (hD : D.ok) (h : D.c0.length = 8) : (k17E D).ok ∧ (k17E D).c0.length = 8 := by
 have hq : ((⟨6, 1, 0, 0, 0, [], [9], 0, 0⟩ : Req) : Req).ok := req_okT Y20 Y21 Y21 Y21 Y21 (OkW.one Y21) Y21 Y21 Y20 Y20
 have := doF_ok hD hq
 rw [k17_do h] at this
 exact ⟨this.1, by rw [← h]; exact this.2⟩
theorem k17F_ok : OkB k17F ∧ k17F.length ≤ 140737488350000 := ⟨frameF_ok (by intro x hx; simp only [List.mem_cons, List.not_mem_nil, or_false] at hx; rcases hx with rfl | rfl | rfl | rfl | rfl <;> constructor <;> decide), Nat.le_trans (frameF_len _) Y20⟩
theorem Out.row {b ln c j t : Nat} {vs : List PV} {s s' : St} (h : Out b ln c s s') (hb : s.blk j = some (.row t vs)) (hj : j < s.nxt) (h2 : ln < j) (h3 : b + 5 < j) : s'.blk j = some (.row t vs) := by
 rw [h.same j hj (.inr fun L => by rw [hb]; intro e; cases e) Y19 Y19]; exact hb
structure K18 (s0 : St) (D : Dev) (F : List Int) (l : List Snt) (S : St) : Prop where
 ln : LnAt s0.nxt (s0.nxt + 6) (s0.nxt + 8) D F l (.sl .nil []) (.sl .nil []) (.sl .nil []) S
 q : S.blk (s0.nxt + 7) = some (.row 31 [.agg [.int .i64 6, .int .i64 1, .int .i64 0, .int .i64 0, .int .i64 0, .sl .nil [], .sl .clip [.int .u16 9], .int .u16 0, .int .u16 0]])
 low : ∀ j, j < s0.nxt → S.blk j = s0.blk j
theorem K18.out {s0 S S' : St} {D D' : Dev} {F F' : List Int} {l l' : List Snt} (h : K18 s0 D F l S) (h1 : LnAt s0.nxt (s0.nxt + 6) (s0.nxt + 8) D' F' l' (.sl .nil []) (.sl .nil []) (.sl .nil []) S') (h2 : Out s0.nxt (s0.nxt + 6) (s0.nxt + 8) S S') : K18 s0 D' F' l' S' := by
 have hn := h.ln.nx
 exact ⟨h1, h2.row h.q Y19 Y19 Y19, fun j hj => by rw [h2.same j Y19 (.inl Y19) Y19 Y19]; exact h.low j hj⟩
theorem K18.nw {s0 S : St} {D : Dev} {F : List Int} {l : List Snt} (h : K18 s0 D F l S) (x : Blk) : K18 s0 D F l (S.new x) := by
 have hn := h.ln.nx
 exact ⟨h.ln.nw _, by rw [blk_new_ne Y19]; exact h.q, fun j hj => by rw [blk_new_ne Y19]; exact h.low j hj⟩
theorem K18.al {s0 S : St} {D : Dev} {F : List Int} {l : List Snt} (h : K18 s0 D F l S) {t t' : Nat} {vs vs' : List PV} : K18 s0 D F l ((S.new (.row t vs)).set S.nxt (some (.row t' vs'))) := by
 have hn := h.ln.nx
 have h' := h.nw (.row t vs)
 exact ⟨h'.ln.hi Y19 (fun L => by rw [blk_new_eq]; intro e; cases e) _, by rw [blk_set_ne Y19]; exact h'.q, fun j hj => by rw [blk_set_ne Y19]; exact h'.low j hj⟩
theorem row_nw {S : St} {j : Nat} {b x : Blk} (h : S.blk j = some b) (hj : j < S.nxt) : (S.new x).blk j = some b := by
 rw [blk_new_ne Y19]; exact h
theorem k18_do {D : Dev} (hD : D.ok) (h : D.c0.length = 8) : ∃ E, doF D (⟨6, 1, 0, 0, 0, [], [9], 0, 0⟩ : Req) = ((⟨6, 0, 1, 0, 0, [], [9], 0, 0, []⟩ : Rep), E) ∧ E.ok ∧ E.c0.length = 8 :=
 ⟨_, k17_do h, (k17_ok hD h).1, (k17_ok hD h).2⟩
theorem k18_t1 {D : Dev} (hD : D.ok) (h : D.c0.length = 8) : ∃ E, triesF (⟨6, 1, 0, 0, 0, [], [9], 0, 0⟩ : Req) 3 [1, 2] D = ((⟨6, 0, 1, 0, 0, [], [9], 0, 0, []⟩ : Rep), 2, E, []) ∧ E.ok ∧ E.c0.length = 8 := by
 obtain ⟨E1, a1, a2, a3⟩ := k18_do hD h
 obtain ⟨E2, b1, b2, b3⟩ := k18_do a2 a3
 refine ⟨E2, ?_, b2, b3⟩
 have c1 : triesF (⟨6, 1, 0, 0, 0, [], [9], 0, 0⟩ : Req) 1 [] E1 = ((⟨6, 0, 1, 0, 0, [], [9], 0, 0, []⟩ : Rep), 0, E2, []) := by
   show ((doF E1 (⟨6, 1, 0, 0, 0, [], [9], 0, 0⟩ : Req)).1, 0, (doF E1 (⟨6, 1, 0, 0, 0, [], [9], 0, 0⟩ : Req)).2, []) = _
   rw [b1]
 have c2 : triesF (⟨6, 1, 0, 0, 0, [], [9], 0, 0⟩ : Req) 2 [2] D = ((⟨6, 0, 1, 0, 0, [], [9], 0, 0, []⟩ : Rep), 1, E2, []) := by
   show ((triesF (⟨6, 1, 0, 0, 0, [], [9], 0, 0⟩ : Req) 1 [] (doF D (⟨6, 1, 0, 0, 0, [], [9], 0, 0⟩ : Req)).2).1, (triesF (⟨6, 1, 0, 0, 0, [], [9], 0, 0⟩ : Req) 1 [] (doF D (⟨6, 1, 0, 0, 0, [], [9], 0, 0⟩ : Req)).2).2.1 + 1, (triesF (⟨6, 1, 0, 0, 0, [], [9], 0, 0⟩ : Req) 1 [] (doF D (⟨6, 1, 0, 0, 0, [], [9], 0, 0⟩ : Req)).2).2.2) = _
   rw [a1, c1]
 show ((triesF (⟨6, 1, 0, 0, 0, [], [9], 0, 0⟩ : Req) 2 [2] D).1, (triesF (⟨6, 1, 0, 0, 0, [], [9], 0, 0⟩ : Req) 2 [2] D).2.1 + 1, (triesF (⟨6, 1, 0, 0, 0, [], [9], 0, 0⟩ : Req) 2 [2] D).2.2) = _
 rw [c2]
theorem k18_t2 {D : Dev} (hD : D.ok) (h : D.c0.length = 8) : ∃ E, triesF (⟨6, 1, 0, 0, 0, [], [9], 0, 0⟩ : Req) 3 [3, 3, 3] D = (refuseP 6 11, 3, E, []) ∧ E.ok ∧ E.c0.length = 8 := by
 obtain ⟨E1, a1, a2, a3⟩ := k18_do hD h
 obtain ⟨E2, b1, b2, b3⟩ := k18_do a2 a3
 obtain ⟨E3, c1, c2, c3⟩ := k18_do b2 b3
 refine ⟨E3, ?_, c2, c3⟩
 have d1 : triesF (⟨6, 1, 0, 0, 0, [], [9], 0, 0⟩ : Req) 1 [3] E2 = (refuseP 6 11, 1, E3, []) := by
   show (refuseP 6 11, 0 + 1, (doF E2 (⟨6, 1, 0, 0, 0, [], [9], 0, 0⟩ : Req)).2, []) = _
   rw [c1]
 have d2 : triesF (⟨6, 1, 0, 0, 0, [], [9], 0, 0⟩ : Req) 2 [3, 3] E1 = (refuseP 6 11, 2, E3, []) := by
   show ((triesF (⟨6, 1, 0, 0, 0, [], [9], 0, 0⟩ : Req) 1 [3] (doF E1 (⟨6, 1, 0, 0, 0, [], [9], 0, 0⟩ : Req)).2).1, (triesF (⟨6, 1, 0, 0, 0, [], [9], 0, 0⟩ : Req) 1 [3] (doF E1 (⟨6, 1, 0, 0, 0, [], [9], 0, 0⟩ : Req)).2).2.1 + 1, (triesF (⟨6, 1, 0, 0, 0, [], [9], 0, 0⟩ : Req) 1 [3] (doF E1 (⟨6, 1, 0, 0, 0, [], [9], 0, 0⟩ : Req)).2).2.2) = _
   rw [b1, d1]
 show ((triesF (⟨6, 1, 0, 0, 0, [], [9], 0, 0⟩ : Req) 2 [3, 3] (doF D (⟨6, 1, 0, 0, 0, [], [9], 0, 0⟩ : Req)).2).1, (triesF (⟨6, 1, 0, 0, 0, [], [9], 0, 0⟩ : Req) 2 [3, 3] (doF D (⟨6, 1, 0, 0, 0, [], [9], 0, 0⟩ : Req)).2).2.1 + 1, (triesF (⟨6, 1, 0, 0, 0, [], [9], 0, 0⟩ : Req) 2 [3, 3] (doF D (⟨6, 1, 0, 0, 0, [], [9], 0, 0⟩ : Req)).2).2.2) = _
 rw [a1, d2]
theorem k18_t3 {D : Dev} : triesF (⟨6, 1, 0, 0, 0, [], [9], 0, 0⟩ : Req) 3 [4] D = (refuseP 6 4, 0, D, []) := rfl
def k18L : List Snt := [⟨100, 0, k17F⟩, ⟨104, 0, k17F⟩, ⟨108, 0, k17F⟩, ⟨200, 0, k17F⟩, ⟨204, 0, k17F⟩, ⟨208, 0, k17F⟩, ⟨300, 0, k17F⟩]
attribute [local go_sem] set_set weaks_bools Req.pv Rep.pv
theorem Y171 {p : Prop} (h : p := by rw [hS]; exact blk_new_eq) : p := h
set_option maxRecDepth 100000 in
theorem law18_known {s : St} : ACalls Tryz.prog 10 [] s (fun r s' => r = .bool true ∧ s' = s) := by
 refine go Tryz.func10 (k := fun hwf H => ?_)
 have hq6 : ((⟨6, 1, 0, 0, 0, [], [9], 0, 0⟩ : Req)).ok := req_okT Y20 Y21 Y21 Y21 Y21 (OkW.one Y21) Y21 Y21 Y20 Y20
 have hq9 : ((⟨9, 0, 0, 0, 0, [], [], 0, 0⟩ : Req)).ok := req_okT Y20 Y21 Y21 Y21 Y21 (fun x hx => (List.not_mem_nil hx).elim) Y21 Y21 Y20 Y20
 have hqz : ((⟨0, 0, 0, 0, 0, [], [], 0, 0⟩ : Req)).ok := req_okT Y20 Y21 Y21 Y21 Y21 (fun x hx => (List.not_mem_nil hx).elim) Y21 Y21 Y20 Y20
 have hr6 : rightF (⟨6, 1, 0, 0, 0, [], [9], 0, 0⟩ : Req) = 0 := Y20
 have hln6 : (writeF (⟨6, 1, 0, 0, 0, [], [9], 0, 0⟩ : Req)).length ≤ 253 := Y20
 have hbF : frameF (bytesF (⟨6, 1, 0, 0, 0, [], [9], 0, 0⟩ : Req)) = k17F := by
   unfold k17F
   rw [show bytesF (⟨6, 1, 0, 0, 0, [], [9], 0, 0⟩ : Req) = [6, 0, 1, 0, 9] from Y20]
 have hb9 : frameF (bytesF (⟨9, 0, 0, 0, 0, [], [], 0, 0⟩ : Req)) = [] := by rw [show bytesF (⟨9, 0, 0, 0, 0, [], [], 0, 0⟩ : Req) = [] from Y20]; rfl
 have hbz : frameF (bytesF (⟨0, 0, 0, 0, 0, [], [], 0, 0⟩ : Req)) = [] := by rw [show bytesF (⟨0, 0, 0, 0, 0, [], [], 0, 0⟩ : Req) = [] from Y20]; rfl
 have o0 : (Dev.zero 8).ok := Dev.zero_ok Y20 Y20
 have l0 : (Dev.zero 8).c0.length = 8 := Y20
 refine rs (k := rg [] (k := rs (k := rr (k := ?_))))
 refine RunO.callw au au au Y25 ((device_New (n := 8) Y20 Y20).mono ?_)
 rintro r s1 ⟨rfl, hA0, hlo0, hnx0⟩
 have H := aj hnx0 H
 refine RunO.callw au au au Y25 ((line_New).mono ?_)
 rintro r s2 ⟨rfl, hs⟩
 have hr2 : s2.blk (s.nxt + 6) = some (lnRow (s.nxt + 5) (.sl .nil []) (.sl .nil []) (.sl .nil []) (.sl .nil []) (.sl .nil [])) := by rw [hs, ← hnx0]; exact blk_new_eq
 have hx2 : s2.nxt = s.nxt + 7 := by rw [hs]; simp only [nxt_new, hnx0]
 have hA2 : DevAt s.nxt (Dev.zero 8) s2 := by rw [hs]; exact hA0.nw Y19 _
 have hlo2 : ∀ j, j < s.nxt → s2.blk j = s.blk j := fun j hj => by rw [hs, blk_new_ne Y19]; exact hlo0 j hj
 clear hs
 have H := aj hx2 H
 refine rh [1] (k := rs (k := rs (k := rg [1, 18] (k := rc (ht := fun hc0 => ?_) (hf := fun hc0 => ?_)))))
 · cases hc0
 · refine rk (k := rs (k := rr (k := rO (k := rh [1, 2] (k := rs (k := ?_))))))
   refine Run.genS fun S0 hS => ?_
   have hK0 : K18 s (Dev.zero 8) [] [] S0 := by
     rw [hS]
     exact ⟨⟨⟨.sl .nil [], .sl .nil [], none, none, by rw [blk_set_ne Y19, blk_new_ne Y19]; exact hr2, ⟨rfl, rfl⟩, ⟨rfl, rfl⟩, .inl rfl⟩, (hA2.nw Y19 _).sv Y19 _, Y19, Y19, by show s.nxt + 8 ≤ s2.nxt + 1; omega⟩, blk_set_self _ _ _, fun j hj => by rw [blk_set_ne Y19, blk_new_ne Y19]; exact hlo2 j hj⟩
   clear hS
   refine rr (k := ro (pre := [_]) (k := ?_))
   refine RunO.callw au au au Y25 ((line_HurtX hK0.ln (f := 1) Y20 Y20).mono ?_)
   rintro r S1 ⟨rfl, hL1, hO1⟩
   have hK1 := hK0.out hL1 hO1
   refine rl [1, 2] (k := rs (k := rr (k := ro (pre := [_]) (k := ?_))))
   refine RunO.callw au au au Y25 ((line_HurtX hK1.ln (f := 2) Y20 Y20).mono ?_)
   rintro r S2 ⟨rfl, hL2, hO2⟩
   have hK2 := hK1.out hL2 hO2
   have H := aj hK2.q H
   refine rl [1, 2] (k := rs (k := rr (k := ro (pre := [_, _]) (k := ?_))))
   refine RunO.callw au au au Y25 ((master_Ask hK2.ln o0 Y20 Y20 Y20 hq6 hr6 hln6 (tick := 100) Y21).mono ?_)
   rintro r S3 ⟨rfl, hL3, hO3⟩
   obtain ⟨D3, e3, o3, l3⟩ := k18_t1 o0 l0
   rw [show ([] : List Int) ++ [1] ++ [2] = [1, 2] from rfl, e3] at hL3 ⊢
   rw [hbF] at hL3
   dsimp only at hL3 ⊢
   have hK3 := hK2.out hL3 hO3
   have hn3 := hK3.ln.nx
   refine rh [1, 2, 3, 4] (k := rs (k := rs (k := rg [1, 2, 3, 4, 5] (k := rb (k := ?_)))))
   refine Run.loop (fun e s' => ∃ (i : Nat), e = [(1, .ptr (s.nxt + 6) 0 0), (2, .ptr (s.nxt + 7) 0 0), (3, .ptr S3.nxt 0 0), (4, .int .i64 2), (5, .int .i64 (i : Int))] ∧ i ≤ 3 ∧ K18 s D3 (List.replicate i 3) ([] ++ sentF k17F 100 0 (min (2 + 1) 3)) s' ∧ s'.blk S3.nxt = some (.row 41 [(⟨6, 0, 1, 0, 0, [], [9], 0, 0, []⟩ : Rep).pv]) ∧ S3.nxt < s'.nxt) (fun e s' => 3 - ivar e 5) ?_ ?_
   · exact ⟨0, rfl, Y20, hK3.nw _, blk_new_eq, Nat.lt_succ_self _⟩
   rintro e S ⟨i, rfl, hi, hK, ha, hp⟩
   refine rs (k := rs (k := ?_))
   have hw : i < 3 → IntKind.i64.wrap ((i : Int) + 1) = ((i + 1 : Nat) : Int) := fun h => Y27
   refine rg [1, 2, 3, 4, 5, 32] (k := rc (ht := fun hc1 => ?_) (hf := fun hc1 => ?_))
   · refine rk (k := rs (k := rb (k := ?_)))
     have hi3 : i < 3 := Y83
     have hw1 := hw hi3
     have H := aj hw1 H
     refine rr (k := ro (pre := [_]) (k := ?_))
     refine RunO.callw au au au Y25 ((line_HurtX hK.ln (f := 3) Y20 (by rw [List.length_replicate]; omega)).mono ?_)
     rintro r S4 ⟨rfl, hL4, hO4⟩
     have hK4 := hK.out hL4 hO4
     have a4 := hO4.row ha hp Y19 Y19
     have hx4 := hO4.nx
     refine rl [1, 2, 3, 4, 5] (k := rB (k := rg [1, 2, 3, 4, 5] (k := ?_)))
     refine Run.lp ⟨⟨i + 1, rfl, Y19, by rw [List.replicate_succ']; exact hK4, a4, Y19⟩, ?_⟩
     simp only [ivar, go_sem, ↓reduceIte, Nat.reduceEqDiff]
     omega
   · refine rX (k := rs (k := ?_))
     obtain rfl : i = 3 := Y87
     have hKq := hK.q
     have H := aj hKq H
     refine rr (k := ro (pre := [_, _]) (k := ?_))
     refine RunO.callw au au au Y25 ((master_Ask hK.ln o3 Y20 Y20 Y20 hq6 hr6 hln6 (tick := 200) Y21).mono ?_)
     rintro r S5 ⟨rfl, hL5, hO5⟩
     obtain ⟨D5, e5, o5, l5⟩ := k18_t2 o3 l3
     rw [show List.replicate 3 (3 : Int) = [3, 3, 3] from rfl, e5] at hL5 ⊢
     rw [hbF] at hL5
     dsimp only at hL5 ⊢
     have hK5 := hK.out hL5 hO5
     have a5 := hO5.row ha hp Y19 Y19
     have hn5 := hK5.ln.nx
     have hx5 := hO5.nx
     refine rh [1, 2, 3, 4, 6, 7] (k := rs (k := ?_))
     refine Run.genS fun Sn5 hS => ?_
     have hKn5 : K18 s D5 [] ([] ++ sentF k17F 100 0 (min (2 + 1) 3) ++ sentF k17F 200 0 (min (3 + 1) 3)) Sn5 := by rw [hS]; exact hK5.nw _
     have an5 : Sn5.blk S3.nxt = some (.row 41 [(⟨6, 0, 1, 0, 0, [], [9], 0, 0, []⟩ : Rep).pv]) := by rw [hS]; exact row_nw a5 Y19
     have bn5 : Sn5.blk S5.nxt = some (.row 41 [(refuseP 6 11).pv]) := Y171
     have hxn5 : Sn5.nxt = S5.nxt + 1 := Y219
     clear hS
     refine rr (k := ro (pre := [_]) (k := ?_))
     refine RunO.callw au au au Y25 ((line_HurtX hKn5.ln (f := 4) Y20 Y20).mono ?_)
     rintro r S6 ⟨rfl, hL6, hO6⟩
     have hK6 := hKn5.out hL6 hO6
     have a6 := hO6.row an5 Y19 Y19 Y19
     have b6 := hO6.row bn5 Y19 Y19 Y19
     have hx6 := hO6.nx
     have H := aj hK6.q H
     refine rl [1, 2, 3, 4, 6, 7] (k := rs (k := rr (k := ro (pre := [_, _]) (k := ?_))))
     refine RunO.callw au au au Y25 ((master_Ask hK6.ln o5 Y20 Y20 Y20 hq6 hr6 hln6 (tick := 300) Y21).mono ?_)
     rintro r S7 ⟨rfl, hL7, hO7⟩
     rw [show ([] : List Int) ++ [4] = [4] from rfl, k18_t3] at hL7 ⊢
     rw [hbF] at hL7
     dsimp only at hL7 ⊢
     have hK7 := hK6.out hL7 hO7
     have a7 := hO7.row a6 Y19 Y19 Y19
     have b7 := hO7.row b6 Y19 Y19 Y19
     have hx7 := hO7.nx
     have H := aj hK7.q (aj a7 (aj b7 H))
     refine rh [1, 2, 3, 4, 6, 7, 8, 9] (k := rs (k := ?_))
     refine Run.genS fun S8 hS => ?_
     have hK8 : K18 s D5 [] ([] ++ sentF k17F 100 0 (min (2 + 1) 3) ++ sentF k17F 200 0 (min (3 + 1) 3) ++ sentF k17F 300 0 (min (0 + 1) 3)) S8 := by rw [hS]; exact hK7.nw _
     have a8 : S8.blk S3.nxt = some (.row 41 [(⟨6, 0, 1, 0, 0, [], [9], 0, 0, []⟩ : Rep).pv]) := by rw [hS]; exact row_nw a7 Y19
     have b8 : S8.blk S5.nxt = some (.row 41 [(refuseP 6 11).pv]) := by rw [hS]; exact row_nw b7 Y19
     have c8 : S8.blk S7.nxt = some (.row 41 [(refuseP 6 4).pv]) := Y171
     have hx8 : S8.nxt = S7.nxt + 1 := Y219
     have q8 := hK8.q
     clear hS
     have H := aj q8 (aj a8 (aj b8 (aj c8 H)))
     refine rr (k := ro (pre := [_]) (k := rC (h := master_AskNil hq6) (k := rh [1, 2, 3, 4, 6, 7, 8, 9, 10, 11] (k := rs (k := ?_)))))
     refine Run.genS fun S9 hS => ?_
     have hK9 : K18 s D5 [] ([] ++ sentF k17F 100 0 (min (2 + 1) 3) ++ sentF k17F 200 0 (min (3 + 1) 3) ++ sentF k17F 300 0 (min (0 + 1) 3)) S9 := by rw [hS]; exact hK8.nw _
     have a9 : S9.blk S3.nxt = some (.row 41 [(⟨6, 0, 1, 0, 0, [], [9], 0, 0, []⟩ : Rep).pv]) := by rw [hS]; exact row_nw a8 Y19
     have b9 : S9.blk S5.nxt = some (.row 41 [(refuseP 6 11).pv]) := by rw [hS]; exact row_nw b8 Y19
     have c9 : S9.blk S7.nxt = some (.row 41 [(refuseP 6 4).pv]) := by rw [hS]; exact row_nw c8 Y19
     have d9 : S9.blk S8.nxt = some (.row 41 [(refuseP 6 3).pv]) := Y171
     have hx9 : S9.nxt = S8.nxt + 1 := Y219
     have q9 := hK9.q
     clear hS
     have H := aj q9 (aj a9 (aj b9 (aj c9 (aj d9 H))))
     refine rr (k := ro (pre := [_, _]) (k := rC (h := master_AskBad hq9 hb9) (k := rh [1, 2, 3, 4, 6, 7, 8, 9, 10, 11, 12, 13] (k := rs (k := ?_)))))
     refine Run.genS fun S10 hS => ?_
     have hK10 : K18 s D5 [] ([] ++ sentF k17F 100 0 (min (2 + 1) 3) ++ sentF k17F 200 0 (min (3 + 1) 3) ++ sentF k17F 300 0 (min (0 + 1) 3)) S10 := by rw [hS]; exact hK9.nw _
     have a10 : S10.blk S3.nxt = some (.row 41 [(⟨6, 0, 1, 0, 0, [], [9], 0, 0, []⟩ : Rep).pv]) := by rw [hS]; exact row_nw a9 Y19
     have b10 : S10.blk S5.nxt = some (.row 41 [(refuseP 6 11).pv]) := by rw [hS]; exact row_nw b9 Y19
     have c10 : S10.blk S7.nxt = some (.row 41 [(refuseP 6 4).pv]) := by rw [hS]; exact row_nw c9 Y19
     have d10 : S10.blk S8.nxt = some (.row 41 [(refuseP 6 3).pv]) := by rw [hS]; exact row_nw d9 Y19
     have e10 : S10.blk S9.nxt = some (.row 41 [(refuseP 9 3).pv]) := Y171
     have hx10 : S10.nxt = S9.nxt + 1 := Y219
     have q10 := hK10.q
     clear hS
     have H := aj q10 (aj a10 (aj b10 (aj c10 (aj d10 (aj e10 H)))))
     refine rr (k := ro (pre := [_]) (k := ?_))
     refine RunO.callw au au au Y25 ((line_SentX hK10.ln Y20 (by intro x hx; simp only [List.mem_append, sentF, List.mem_map] at hx; rcases hx with ((hx | ⟨_, _, rfl⟩) | ⟨_, _, rfl⟩) | ⟨_, _, rfl⟩; cases hx; all_goals exact k17F_ok.2)).mono ?_)
     rintro r s9 ⟨rfl, hs⟩
     subst s9
     rw [show ([] ++ sentF k17F 100 0 (min (2 + 1) 3) ++ sentF k17F 200 0 (min (3 + 1) 3) ++ sentF k17F 300 0 (min (0 + 1) 3) : List Snt) = k18L from rfl]
     refine rh [2, 3, 4, 6, 7, 8, 9, 10, 11, 12, 13, 14] (k := rs (k := ?_))
     have hbs : ∀ l : List UInt8, (l == l) = true := fun l => beq_self_eq_true l
     have hal : decide ((⟨6, 0, 1, 0, 0, [], [9], 0, 0, []⟩ : Rep) = (⟨6, 0, 1, 0, 0, [], [9], 0, 0, []⟩ : Rep)) = true := Y20
     have hR6 : ((⟨6, 0, 1, 0, 0, [], [9], 0, 0, []⟩ : Rep)).ok := by have := (k17_do (D := Dev.zero 8) l0); have h2 := doF_rep o0 hq6; rw [this] at h2; exact h2
     have H := aj hbs (aj hal (aj hbz H))
     refine Run.drawC [] [0] Tryz.mixed Y25 ?_
     refine DetC.pre (pre := [_, _, _]) au ?_
     refine DetC.call au au au Y25 (ref3_Alike (a := (⟨6, 0, 1, 0, 0, [], [9], 0, 0, []⟩ : Rep)) (b := (⟨6, 0, 1, 0, 0, [], [9], 0, 0, []⟩ : Rep)) hR6 hR6) ?_
     refine DetC.pre (pre := [_]) au ?_
     refine DetC.gdo au au ?_
     refine DetC.gdo au au ?_
     refine DetC.pre (pre := [_, _]) au ?_
     refine DetC.gdo au au ?_
     refine DetC.gdo au au ?_
     refine DetC.gdo au au ?_
     refine DetC.pre (pre := [_, _]) au ?_
     refine DetC.gdo au au ?_
     refine DetC.gdo au au ?_
     refine DetC.pre (pre := [_, _]) au ?_
     refine DetC.gdo au au ?_
     refine DetC.gdo au au ?_
     refine DetC.gdo au au ?_
     refine DetC.pre (pre := [_, _]) au ?_
     refine DetC.gdo au au ?_
     refine DetC.gdo au au ?_
     refine DetC.pre (pre := [_, _]) au ?_
     refine DetC.gdo au au ?_
     refine DetC.gdo au au ?_
     refine DetC.gdo au au ?_
     refine DetC.pre (pre := [_, _]) au ?_
     refine DetC.gdo au au ?_
     refine DetC.gdo au au ?_
     refine DetC.pre (pre := [_, _]) au ?_
     refine DetC.gdo au au ?_
     refine DetC.gdo au au ?_
     refine DetC.gdo au au ?_
     refine DetC.pre (pre := [_, _]) au ?_
     refine DetC.gdo au au ?_
     refine DetC.gdo au au ?_
     refine DetC.pre (pre := [_, _]) au ?_
     refine DetC.gdo au au ?_
     refine DetC.gdo au au ?_
     refine DetC.gdo au au ?_
     refine DetC.pre (pre := [_, _]) au ?_
     refine DetC.gdo au au ?_
     refine DetC.gdo au au ?_
     refine DetC.gdo au au ?_
     refine DetC.gdo au au ?_
     refine DetC.gdo au au ?_
     refine DetC.pre (pre := [_, _]) au ?_
     refine DetC.gdo au au ?_
     refine DetC.gdo au au ?_
     refine DetC.gdo au au ?_
     refine DetC.gdo au au ?_
     refine DetC.gdo au au ?_
     refine DetC.pre (pre := [_, _]) au ?_
     refine DetC.gdo au au ?_
     refine DetC.call au au au Y25 (master_Frame hq6) ?_
     refine DetC.gdo au au ?_
     refine DetC.gdo au au ?_
     refine DetC.call au au au Y25 (ref17_Frame hq6) ?_
     refine DetC.gdo au au ?_
     refine DetC.gdo au au ?_
     refine DetC.pre (pre := [_, _]) au ?_
     refine DetC.gdo au au ?_
     refine DetC.call au au au Y25 (master_Frame hqz) ?_
     refine DetC.gdo au au ?_
     refine DetC.gdo au au ?_
     refine DetC.all au ?_
     refine re (k := rR (k := ?_))
     exact Ret.pure (r' := .bool true) (by simp only [Tryz.f10, go_sem, ↓reduceIte] <;> rfl) rfl Y255 hwf (fun i hi => hK10.low i hi) ⟨rfl, rfl⟩
end Go.Proofs
namespace Go.Proofs
open Go.PM
set_option maxHeartbeats 2000000
theorem triesF_same {q : Req} (hq : q.ok) (hr : rightF q = 0) (h8 : q.fn ≠ 8) : ∀ (k : Nat) (F : List Int) (D : Dev), D.ok → F.length < k → (∀ f ∈ F, 1 ≤ f ∧ f ≤ 3) → (triesF q k F D).1 = (doF D q).1 ∧ (triesF q k F D).2.1 = F.length
 | 0, F, D, _, h, _ => Y19
 | k + 1, [], D, _, _, _ => ⟨rfl, rfl⟩
 | k + 1, f :: L, D, hD, hk, hF => by
   have h1 := hF f Y81
   unfold triesF
   rw [if_neg (by show ¬ f = 0; omega), if_neg (by show ¬ f = 4; omega)]
   have hD2 : (if f = 1 then D else (doF D q).2).ok := by split; exact hD; exact (doF_ok hD hq).1
   obtain ⟨i1, i2⟩ := triesF_same hq hr h8 k L (if f = 1 then D else (doF D q).2) hD2 (by simp at hk; omega) (fun g hg => hF g (by simp [hg]))
   refine ⟨i1.trans ?_, congrArg (· + 1) i2⟩
   split
   · rfl
   · exact same_do hD hq hr h8
structure K2 (s0 : St) (F : List Int) (S : St) : Prop where
 ln : LnAt s0.nxt (s0.nxt + 6) (s0.nxt + 14) (Dev.zero 60) F [] (.sl .nil []) (.sl .nil []) (.sl .nil []) S
 row : S.blk (s0.nxt + 13) = some (lnRow (s0.nxt + 7 + 5) (.sl .nil []) (.sl .nil []) (.sl .nil []) (.sl .nil []) (.sl .nil []))
 dev : DevAt (s0.nxt + 7) (Dev.zero 60) S
 low : ∀ j, j < s0.nxt → S.blk j = s0.blk j
theorem dev_eqv {b : Nat} {D : Dev} {s s' : St} (h : DevAt b D s) (e : ∀ j, b ≤ j → j ≤ b + 5 → s'.blk j = s.blk j) : DevAt b D s' :=
 ⟨by rw [e _ Y19 Y19]; exact h.st, by rw [e _ Y19 Y19]; exact h.c0, by rw [e _ Y19 Y19]; exact h.c1, by rw [e _ Y19 Y19]; exact h.v0, by rw [e _ Y19 Y19]; exact h.v1, by rw [e _ Y19 Y19]; exact h.dv⟩
theorem K2.out {s0 S S' : St} {F : List Int} (h : K2 s0 F S) (h2 : Out s0.nxt (s0.nxt + 6) (s0.nxt + 14) S S') :
   S'.blk (s0.nxt + 13) = some (lnRow (s0.nxt + 7 + 5) (.sl .nil []) (.sl .nil []) (.sl .nil []) (.sl .nil []) (.sl .nil [])) ∧ DevAt (s0.nxt + 7) (Dev.zero 60) S' ∧ ∀ j, j < s0.nxt → S'.blk j = s0.blk j := by
 have hn := h.ln.nx
 exact ⟨by rw [h2.same _ Y19 (.inl Y19) Y19 Y19]; exact h.row, dev_eqv h.dev fun j q1 q2 => h2.same j Y19 (.inl Y19) Y19 Y19, fun j hj => by rw [h2.same j Y19 (.inl Y19) Y19 Y19]; exact h.low j hj⟩
theorem K2.nw {s0 S : St} {F : List Int} (h : K2 s0 F S) (x : Blk) : K2 s0 F (S.new x) := by
 have hn := h.ln.nx
 exact ⟨h.ln.nw _, by rw [blk_new_ne Y19]; exact h.row, h.dev.nw Y19 _, fun j hj => by rw [blk_new_ne Y19]; exact h.low j hj⟩
theorem K2.hi {s0 S : St} {F : List Int} (h : K2 s0 F S) {i : Nat} (hi : s0.nxt + 14 ≤ i) (hb : ∀ L, S.blk i ≠ some (.tok L)) (x : Option Blk) : K2 s0 F (S.set i x) :=
 ⟨h.ln.hi hi hb _, Y274, h.dev.sv Y19 _, fun j hj => by rw [blk_set_ne Y19]; exact h.low j hj⟩
attribute [local go_sem] set_set weaks_bools Req.pv Rep.pv
set_option maxRecDepth 100000 in
theorem law18_Same {tl : List Int} (htl : tl.length * 8 ≤ 140737488351232) {a b n : Int} {s : St} : ACalls Tryz.prog 3 [.sl .unk (tl.map (PV.int .i64)), .int .i64 a, .int .i64 b, .int .i64 n] s (fun r s' => r = .bool true ∧ s' = s) := by
 refine go Tryz.func3 (k := fun hwf H => ?_)
 have o0 : (Dev.zero 60).ok := Dev.zero_ok Y20 Y20
 have hmk := ibits_and_mask n 2 Y20
 have hmk : ibits .and .i64 n 3 = n % 4 := hmk
 have hT0 : Tp.ok ⟨tl, 0⟩ := ⟨htl, Nat.zero_le _⟩
 obtain ⟨k, hke⟩ : ∃ y : Nat, n % 4 = (y : Int) := ⟨(n % 4).toNat, Y19⟩
 rw [hke] at hmk
 have hk3 : k ≤ 3 := Y19
 obtain ⟨e2, he2⟩ : ∃ y : Nat, min k 2 = y := ⟨_, rfl⟩
 have H := aj hmk H
 refine rs (k := rg [0, 1, 2, 3] (k := rs (k := rr (k := ?_))))
 refine RunO.callw au au au Y25 ((device_New (n := 60) Y20 Y20).mono ?_)
 rintro r s1 ⟨rfl, hA1, hlo1, hx1⟩
 have H := aj hx1 H
 refine RunO.callw au au au Y25 ((line_New).mono ?_)
 rintro r s2 ⟨rfl, hs⟩
 have hr2 : s2.blk (s.nxt + 6) = some (lnRow (s.nxt + 5) (.sl .nil []) (.sl .nil []) (.sl .nil []) (.sl .nil []) (.sl .nil [])) := by rw [hs, ← hx1]; exact blk_new_eq
 have hx2 : s2.nxt = s.nxt + 7 := by rw [hs]; simp only [nxt_new, hx1]
 have hA2 : DevAt s.nxt (Dev.zero 60) s2 := by rw [hs]; exact hA1.nw Y19 _
 have hlo2 : ∀ j, j < s.nxt → s2.blk j = s.blk j := fun j hj => by rw [hs, blk_new_ne Y19]; exact hlo1 j hj
 clear hs
 have H := aj hx2 H
 refine RunO.callw au au au Y25 ((device_New (n := 60) Y20 Y20).mono ?_)
 rintro r s3 ⟨rfl, hA3, hlo3, hx3⟩
 rw [hx2] at hA3 hlo3 hx3 ⊢
 have hx3 : s3.nxt = s.nxt + 13 := Y19
 have H := aj hx3 H
 refine RunO.callw au au au Y25 ((line_New).mono ?_)
 rintro r s4 ⟨rfl, hs⟩
 have hr4 : s4.blk (s.nxt + 13) = some (lnRow (s.nxt + 7 + 5) (.sl .nil []) (.sl .nil []) (.sl .nil []) (.sl .nil []) (.sl .nil [])) := by rw [hs, ← hx3]; exact blk_new_eq
 have hx4 : s4.nxt = s.nxt + 14 := by rw [hs]; simp only [nxt_new, hx3]
 have he4 : ∀ j, j < s.nxt + 13 → s4.blk j = s3.blk j := fun j hj => by rw [hs, blk_new_ne Y19]
 clear hs
 have H := aj hx4 H
 refine rh [0, 1, 2, 3, 9, 10] (k := rs (k := rs (k := rr (k := ro (pre := [_, _, _]) (k := rg1 (k := rg1 (k := rh [0, 1, 2, 3, 9, 10, 26] (k := rc (ht := fun hc0 => ?_) (hf := fun hc0 => ?_)))))))))
 · cases hc0
 · refine rk (k := rs (k := ?_))
   have hK4 : K2 s [] s4 := by
     refine ⟨⟨⟨_, _, none, none, by rw [he4 _ Y19, hlo3 _ Y19]; exact hr2, ⟨rfl, rfl⟩, ⟨rfl, rfl⟩, .inl rfl⟩, ?_, Y19, Y19, Y19⟩, hr4, ?_, ?_⟩
     · exact dev_eqv hA2 fun j h1 h2 => by rw [he4 _ Y19, hlo3 _ Y19]
     · exact dev_eqv hA3 fun j h1 h2 => he4 _ Y19
     · exact fun j hj => by rw [he4 _ Y19, hlo3 _ Y19]; exact hlo2 j hj
   have hbT : (s4.new (.row 34 [Tp.pv ⟨tl, 0⟩])).blk s4.nxt = some (.row 34 [Tp.pv ⟨tl, 0⟩]) := blk_new_eq
   refine rr (k := ro (pre := [_, _, _]) (k := ?_))
   refine RunO.callw au au au Y25 ((tape_RequestL (T := ⟨tl, 0⟩) hT0 hbT).mono ?_)
   rintro r S3 ⟨q, T2, rfl, hs, hT2, hqo, hqr, hqb, hqv⟩
   have hK3 : K2 s [] S3 := by rw [hs]; exact (hK4.nw _).hi Y19 (fun L => by rw [hbT]; intro e; cases e) _
   have hx3' : S3.nxt = s.nxt + 15 := by rw [hs]; show s4.nxt + 1 = _; omega
   have hln := req_len hqr hqb hqv
   clear hs
   refine rh [1, 2, 3, 9, 10, 11] (k := rs (k := rs (k := ?_)))
   refine Run.genS fun S4 hS => ?_
   have hK5 : K2 s [] S4 := by rw [hS]; exact hK3.nw _
   have hq5 : S4.blk S3.nxt = some (.row 31 [q.pv]) := Y171
   have hx5 : S4.nxt = S3.nxt + 1 := Y219
   clear hS
   have H := aj hq5 H
   refine rg [1, 2, 3, 9, 10, 11, 33] (k := rc (ht := fun hc1 => ?_) (hf := fun hc1 => ?_))
   · refine rs (k := rr (k := ?_))
     refine RunO.callw au au au Y25 ((law18_known).mono ?_)
     rintro r s9 ⟨rfl, hs⟩
     subst s9
     refine rh [8] (k := rR (k := ?_))
     exact Ret.pure (r' := .bool true) (by simp only [Tryz.f3, go_sem, ↓reduceIte] <;> rfl) rfl Y255 hwf (fun i hi => hK5.low i hi) ⟨rfl, rfl⟩
   · refine rk (k := rs (k := rs (k := ?_)))
     have hq8 : q.fn ≠ 8 := of_decide_eq_false hc1
     refine rg [1, 2, 3, 9, 10, 11, 12] (k := rb (k := ?_))
     refine Run.loop (fun e s' => ∃ (i : Nat) (F : List Int), e = [(1, .int .i64 a), (2, .int .i64 b), (3, .int .i64 n), (9, .ptr (s.nxt + 6) 0 0), (10, .ptr (s.nxt + 13) 0 0), (11, .ptr S3.nxt 0 0), (12, .int .i64 (i : Int))] ∧ i ≤ e2 ∧ F.length = i ∧ (∀ f ∈ F, 1 ≤ f ∧ f ≤ 3) ∧ K2 s F s' ∧ s'.blk S3.nxt = some (.row 31 [q.pv]) ∧ S3.nxt < s'.nxt) (fun e s' => 3 - ivar e 12) ?_ ?_
     · exact ⟨0, [], rfl, Nat.zero_le _, rfl, fun f hf => (by cases hf), hK5, hq5, Y19⟩
     rintro e S0 ⟨i, F, rfl, hi, hFl, hff, hK, hq0, hqx⟩
     have hx0 := hK.ln.nx
     have H := aj hq0 H
     refine rs (k := rs (k := rg [1, 2, 3, 9, 10, 11, 12, 42] (k := rc (ht := fun hc2 => ?_) (hf := fun hc2 => ?_))))
     · refine rk (k := rs (k := rb (k := ?_)))
       have hc3 : i < k ∧ (i : Int) < 2 := by simpa using hc2
       obtain ⟨hik, hi2'⟩ := hc3
       have hi2 : i < 2 := Y19
       obtain ⟨x, hxx⟩ : ∃ x, ([PV.int .i64 a, PV.int .i64 b] : List PV)[i]? = some (.int .i64 x) := by
         obtain rfl | rfl : i = 0 ∨ i = 1 := Y19
         · exact ⟨a, rfl⟩
         · exact ⟨b, rfl⟩
       have hiT : (i < 2) = True := eq_true hi2
       have hwb := withinI_bound (n := x) (lo := 0) (hi := 2) Y20
       obtain ⟨w, hwe⟩ : ∃ w : Nat, withinI x 0 2 = (w : Int) := ⟨(withinI x 0 2).toNat, Y19⟩
       rw [hwe] at hwb
       have hw3 : (w < 3) = True := eq_true Y19
       have hww : ([PV.int .i64 1, PV.int .i64 2, PV.int .i64 3] : List PV)[w]? = some (.int .i64 ((w : Int) + 1)) := by
         obtain rfl | rfl | rfl : w = 0 ∨ w = 1 ∨ w = 2 := Y19
         all_goals rfl
       have hw : IntKind.i64.wrap ((i : Int) + 1) = ((i + 1 : Nat) : Int) := Y27
       have H := aj hxx (aj hiT (aj hwe (aj hw3 (aj hww (aj hw H)))))
       refine rr (k := ro (pre := [_]) (k := rO (k := ro (pre := [_, _]) (k := rO (k := ro (pre := [_, _, _]) (k := rC (h := within_ (lo := 0) (hi := 2) Y20 Y20 Y20) (k := ro (pre := [_, _]) (k := ?_))))))))
       refine RunO.callw au au au Y25 ((line_HurtX hK.ln (f := (w : Int) + 1) Y19 Y19).mono ?_)
       rintro r S1 ⟨rfl, hL1, hO1⟩
       have hx1 := hL1.nx
       obtain ⟨g1, g2, g3⟩ := hK.out hO1
       have hK1 : K2 s _ S1 := ⟨hL1, g1, g2, g3⟩
       have q1 := hO1.row hq0 hqx Y19 Y19
       have hx9 := hO1.nx
       refine rl [1, 2, 3, 9, 10, 11, 12] (k := rB (k := rg [1, 2, 3, 9, 10, 11, 12] (k := ?_)))
       refine Run.lp ⟨⟨i + 1, F ++ [(w : Int) + 1], rfl, Y19, by rw [List.length_append, hFl]; rfl, fun g hg => ?_, hK1, q1, Y19⟩, ?_⟩
       · rcases List.mem_append.1 hg with hg | hg
         · exact hff g hg
         · rw [List.mem_singleton.1 hg]; omega
       · exact Y33
     · refine rX (k := rs (k := ?_))
       have hc3 : i < k → (2 : Int) ≤ (i : Int) := by simpa using hc2
       have hie : i = e2 := Y19
       rw [hie] at hFl
       have hFe := hFl
       refine rr (k := ro (pre := [_, _]) (k := ?_))
       refine RunO.callw au au au Y25 ((master_Ask hK.ln o0 Y19 (fun f hf => by have := hff f hf; omega) Y20 hqo hqr hln (tick := 9) Y21).mono ?_)
       rintro r S5 ⟨rfl, hL5, hO5⟩
       obtain ⟨g1, g2, g3⟩ := hK.out hO5
       have hlw := triesF_same hqo hqr hq8 3 F (Dev.zero 60) o0 Y19 hff
       rw [hlw.1, hlw.2, hFe]
       obtain ⟨R, hRe⟩ : ∃ y, (doF (Dev.zero 60) q).1 = y := ⟨_, rfl⟩
       have hRo : R.ok := by rw [← hRe]; exact doF_rep o0 hqo
       rw [hRe]
       have q5 := hO5.row hq0 hqx Y19 Y19
       have hx5 := hO5.nx
       clear hL5
       refine rh [3, 10, 11, 13, 14] (k := rs (k := ?_))
       refine Run.genS fun S6 hS => ?_
       have r6 : S6.blk S5.nxt = some (.row 41 [R.pv]) := Y171
       have hq6 : S6.blk S3.nxt = some (.row 31 [q.pv]) := by rw [hS]; exact row_nw q5 Y19
       have hL6 : LnAt (s.nxt + 7) (s.nxt + 13) (s.nxt + 14) (Dev.zero 60) [] [] (.sl .nil []) (.sl .nil []) (.sl .nil []) S6 := by
         rw [hS]
         exact ⟨⟨_, _, none, none, by rw [blk_new_ne Y19]; exact g1, ⟨rfl, rfl⟩, ⟨rfl, rfl⟩, .inl rfl⟩, g2.nw Y19 _, Y19, Y19, by show _ ≤ S5.nxt + 1; omega⟩
       have low6 : ∀ j, j < s.nxt → S6.blk j = s.blk j := fun j hj => by rw [hS, blk_new_ne Y19]; exact g3 j hj
       have hx6 : S6.nxt = S5.nxt + 1 := Y219
       clear hS
       have H := aj hq6 H
       refine rr (k := ro (pre := [_, _]) (k := ?_))
       refine RunO.callw au au au Y25 ((master_Ask hL6 o0 Y20 (fun f hf => (by cases hf)) Y20 hqo hqr hln (tick := 9) Y21).mono ?_)
       rintro r S7 ⟨rfl, hL7, hO7⟩
       have r7 := hO7.row r6 Y19 Y19 Y19
       have low7 : ∀ j, j < s.nxt → S7.blk j = s.blk j := fun j hj => by rw [hO7.same j Y19 (.inl Y19) Y19 Y19]; exact low6 j hj
       have hx7 := hO7.nx
       rw [show (triesF q 3 [] (Dev.zero 60)).1 = R from hRe, show (triesF q 3 [] (Dev.zero 60)).2.1 = 0 from rfl]
       clear hL7
       have nr : (S5.nxt = S7.nxt) = False := eq_false Y19
       have H := aj r7 (aj nr H)
       refine rh [3, 13, 14, 15, 16] (k := rs (k := ?_))
       have hal : decide (R = R) = true := decide_eq_true rfl
       have hd0 : decide (((0 : Nat) : Int) = 0) = true := Y20
       have hm1 : (if (2 : Int) < (k : Int) then (2 : Int) else (k : Int)) = (e2 : Int) := by split <;> omega
       have hm2 : (if (k : Int) < 2 then (k : Int) else (2 : Int)) = (e2 : Int) := by split <;> omega
       have H := aj hal (aj hd0 (aj hm1 (aj hm2 H)))
       refine rr (k := ro (pre := [_, _]) (k := rC (h := ref3_Alike hRo hRo) (k := ro (pre := [_]) (k := rg1 (k := rg1 (k := ro (pre := [_, _]) (k := rg1 (k := rg1 (k := rg1 (k := rg1 (k := rg1 (k := ro (pre := [_, _]) (k := ?_)))))))))))))
       refine RunO.callw au au au Y25 ((law18_known).mono ?_)
       rintro r s9 ⟨rfl, hs⟩
       subst s9
       refine rh [8] (k := rR (k := ?_))
       exact Ret.pure (r' := .bool true) (by simp only [Tryz.f3, go_sem, ↓reduceIte] <;> rfl) rfl Y255 hwf (fun i hi => by rw [blk_new_ne Y19]; exact low7 i hi) ⟨rfl, rfl⟩
end Go.Proofs

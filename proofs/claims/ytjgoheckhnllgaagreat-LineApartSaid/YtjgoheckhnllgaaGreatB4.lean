import Derived.Test.YtjgoheckhnllgaaGreatB3
import Derived.Test.YtjgoheckhnllgaaGreatB1
import Derived.Test.YtjgoheckhnllgaaGreatB2
set_option linter.unusedVariables false
set_option linter.unusedSimpArgs false
namespace Go.Proofs
open Go.PM
set_option maxHeartbeats 2000000
structure QAt (s0 : St) (tp : Nat) (T : Tp) (q : List PV) (S : St) : Prop where
 nx : s0.nxt + 2 ≤ S.nxt
 tape : S.blk tp = some (.row 39 [T.pv])
 zero : S.blk s0.nxt = some (.row 44 [.agg [.int .i64 (0), .int .i64 (0), .int .i64 (0), .int .i64 (0), .int .i64 (0), .sl .nil [], .sl .nil [], .int .u16 (0), .int .u16 (0)]])
 row : S.blk (s0.nxt + 1) = some (.row 44 [.agg q])
 rest : ∀ j, j < s0.nxt → j ≠ tp → S.blk j = s0.blk j
theorem QAt.first {s0 : St} {tp : Nat} {T : Tp} {q : List PV} {a : Option Blk} (h : tp < s0.nxt) {x : Blk} : QAt s0 tp T q ((((((s0.new (.row 44 [.agg [.int .i64 (0), .int .i64 (0), .int .i64 (0), .int .i64 (0), .int .i64 (0), .sl .nil [], .sl .nil [], .int .u16 (0), .int .u16 (0)]])).set tp a).new x).set (s0.nxt + 1) (some (.row 44 [.agg q]))).set tp (some (.row 39 [T.pv])))) := by
 refine ⟨Nat.le_refl _, blk_set_self _ _ _, ?_, ?_, fun j hj hne => ?_⟩
 · simp (disch := first | omega | (simp only [nxt_set, nxt_new] <;> omega)) only [blk_set_ne, blk_new_ne, blk_new_eq]
 · simp (disch := first | omega | (simp only [nxt_set, nxt_new] <;> omega)) only [blk_set_ne, blk_new_ne, blk_set_self]
 · simp (disch := first | omega | (simp only [nxt_set, nxt_new] <;> omega)) only [blk_set_ne, blk_new_ne]
theorem Y263 {p : Prop} (h : p := by rw [blk_set_ne Y19]; exact h.zero) : p := h
theorem QAt.tp' {s0 : St} {tp : Nat} {T T' : Tp} {q : List PV} {S : St} (h : QAt s0 tp T q S) (hl : tp < s0.nxt) : QAt s0 tp T' q (S.set tp (some (.row 39 [T'.pv]))) :=
 ⟨h.nx, blk_set_self _ _ _, Y263, by rw [blk_set_ne Y19]; exact h.row, fun j hj hne => by rw [blk_set_ne hne]; exact h.rest j hj hne⟩
theorem Y154 {p : Prop} (h : p := by rw [blk_set_ne Y19]; exact h.tape) : p := h
theorem QAt.rw' {s0 : St} {tp : Nat} {T : Tp} {q q' : List PV} {S : St} (h : QAt s0 tp T q S) (hl : tp < s0.nxt) : QAt s0 tp T q' (S.set (s0.nxt + 1) (some (.row 44 [.agg q']))) :=
 ⟨h.nx, Y154, Y263, blk_set_self _ _ _, fun j hj hne => by rw [blk_set_ne Y19]; exact h.rest j hj hne⟩
theorem QAt.nw {s0 : St} {tp : Nat} {T : Tp} {q : List PV} {S : St} (h : QAt s0 tp T q S) (hl : tp < s0.nxt) (x : Blk) : QAt s0 tp T q (S.new x) := by
 have := h.nx
 exact ⟨Nat.le_succ_of_le h.nx, by rw [blk_new_ne Y19]; exact h.tape, by rw [blk_new_ne Y19]; exact h.zero, by rw [blk_new_ne Y19]; exact h.row, fun j hj hne => by rw [blk_new_ne Y19]; exact h.rest j hj hne⟩
theorem QAt.tk {s0 : St} {tp : Nat} {T : Tp} {q : List PV} {S : St} (h : QAt s0 tp T q S) (hl : tp < s0.nxt) {i : Nat} (hi : s0.nxt + 2 ≤ i) (x : Option Blk) : QAt s0 tp T q (S.set i x) :=
 ⟨h.nx, Y154, Y263, by rw [blk_set_ne Y19]; exact h.row, fun j hj hne => by rw [blk_set_ne Y19]; exact h.rest j hj hne⟩
theorem aAppend_nilL {P : Program} {e : TypeId} {α : Type} {f : α → PV} {ys : List α} {s : St} {z : Nat} (hy : ys ≠ []) (hc : P.cellsOf e = z) :
   aAppend P e .nil [] (ys.map f) s = some (.sl (.tok s.nxt z) (ys.map f), s.new (.tok ys.length)) := by
 subst hc
 unfold aAppend
 rw [if_neg (by simpa using hy)]
 simp
def fnL : List Int := [1, 2, 3, 4, 5, 6, 8, 15, 16, 17, 22, 23]
def subL : List Int := [0, 10, 11, 12, 13, 14, 2, 300]
def vL : List Int := [0, 0, 0, 777]
theorem Y155 {p : Prop} (h : p := by rw [List.getElem?_map, List.getElem?_eq_getElem this]; rfl) : p := h
theorem fnL_get {u : Nat} (h : u ≤ 11) : ∃ f, (fnL.map (PV.int .i64))[u]? = some (.int .i64 f) ∧ f ∈ fnL := by
 have : u < fnL.length := by show u < 12; omega
 exact ⟨fnL[u], Y155, List.getElem_mem _⟩
theorem subL_get {u : Nat} (h : u ≤ 7) : ∃ f, (subL.map (PV.int .i64))[u]? = some (.int .i64 f) ∧ U16 f := by
 have : u < subL.length := by show u < 8; omega
 refine ⟨subL[u], Y155, ?_⟩
 have h : ∀ x ∈ subL, U16 x := by unfold U16; decide
 exact h _ (List.getElem_mem _)
theorem vL_get {u : Nat} (h : u ≤ 3) : ∃ f, (vL.map (PV.int .u16))[u]? = some (.int .u16 f) ∧ U16 f := by
 have : u < vL.length := by show u < 4; omega
 refine ⟨vL[u], Y155, ?_⟩
 have h : ∀ x ∈ vL, U16 x := by unfold U16; decide
 exact h _ (List.getElem_mem _)
theorem right5 {A : Int} (hA : 0 ≤ A ∧ A ≤ 65535) (b : Bool) : rightF ⟨5, A, 0, 0, 0, [b], [], 0, 0⟩ = 0 :=
 right_of ⟨by show hasF 5 = true; decide, decide_eq_true Y82, decide_eq_true hA, Y50, Y50, Y50, rfl, rfl, by show 1 ≤ _; decide, Y105⟩
theorem right6 {A : Int} (hA : 0 ≤ A ∧ A ≤ 65535) (v : Int) : rightF ⟨6, A, 0, 0, 0, [], [v], 0, 0⟩ = 0 :=
 right_of ⟨by show hasF 6 = true; decide, decide_eq_true Y82, decide_eq_true hA, Y50, Y50, Y50, rfl, rfl, Y105, by show 1 ≤ _; decide⟩
theorem right8 {A : Int} (hA : 0 ≤ A ∧ A ≤ 65535) (v : Int) : rightF ⟨8, 0, 0, 0, A, [], [v], 0, 0⟩ = 0 :=
 right_of ⟨by show hasF 8 = true; decide, decide_eq_true Y82, Y50, Y50, decide_eq_true hA, Y50, rfl, rfl, Y105, by show 1 ≤ _; decide⟩
theorem right17 : rightF ⟨17, 0, 0, 0, 0, [], [], 0, 0⟩ = 0 := Y20
theorem right23 {A C B : Int} {W : List Int} (hA : 0 ≤ A ∧ A ≤ 65535) (hC : 0 ≤ C ∧ C ≤ 65535) (hB : 0 ≤ B ∧ B ≤ 65535) (hl : W.length ≤ 127) : rightF ⟨23, A, C, B, 0, [], W, 0, 0⟩ = 0 :=
 right_of ⟨by show hasF 23 = true; decide, decide_eq_true Y82, decide_eq_true hA, decide_eq_true hB, Y50, decide_eq_true hC, rfl, rfl, Y105, hl⟩
theorem req_okT {q : Req} (h1 : 0 ≤ q.fn ∧ q.fn ≤ 255) (h2 : U16 q.at_) (h3 : U16 q.count) (h4 : U16 q.wat) (h5 : U16 q.sub) (h6 : OkW q.vals) (h7 : U16 q.and_) (h8 : U16 q.or_) (h9 : q.bits.length ≤ 2000) (h10 : q.vals.length ≤ 2000) : q.ok := by
 have lt : ∀ {z : Int}, U16 z → I64 z := fun h => by unfold U16 at h; constructor <;> omega
 exact ⟨Y206, lt h2, lt h3, lt h4, lt h5, h6, h7, h8, Y19, Y19⟩
theorem keep_Functions {s : St} : ACalls Tryz.prog 31 [] s (fun r s' => r = .sl .unk (fnL.map (PV.int .i64)) ∧ s' = s) := by
 refine go Tryz.func31 (k := fun hwf H => ?_)
 refine rs (k := rg [] (k := rs (k := rr (k := rO (k := rh [0] (k := rR (k := rP (by simp only [Tryz.f31, go_sem]; rfl) hwf ⟨?_, rfl⟩)))))))
 rfl
attribute [local go_sem] weaks_bools set_set
theorem Y51 {p : Prop} (h : p := by simp only [decide_eq_true_eq, decide_eq_false_iff_not] at *; omega) : p := h
theorem Y52 {p : Prop} (h : p := by repeat' first | assumption | omega | apply QAt.rw' | apply QAt.tp' | apply QAt.nw | apply QAt.tk) : p := h
theorem Y156 {p : Prop} (h : p := by rw [Tryz.cz42]; first | done | rfl) : p := h
theorem Y53 {p : Prop} (h : p := by first | exact isEls_map (P := Tryz.prog) (e := 42) (f := (PV.int .u16)) (fun a => ⟨rfl, Y156⟩) _ | (intro p hp; cases hp)) : p := h
theorem Y107 {p : Prop} (h : p := by simp (disch := first | omega | (simp only [nxt_set, nxt_new] <;> omega)) only [blk_set_ne, blk_new_eq, nxt_set] <;> first | rfl | exact blk_new_eq) : p := h
theorem Y108 {p : Prop} (h : p := by intro q hq; rw [List.mem_singleton.1 hq]; simp only; rw [← hy6]; exact tape_Next hT3 hQ3.tape) : p := h
theorem Y109 {p : Prop} (h : p := by intro q hq; rw [List.mem_singleton.1 hq]; exact aAppend_tokL (f := (PV.int .u16)) (xs := L) (ys := [y6]) rfl Y82 (by rw [blk_set_ne Y19]; exact htb) rfl (by rw [Tryz.cz42])) : p := h
theorem Y157 {p : Prop} (h : p := by rw [u16_wrap]; omega) : p := h
theorem Y264 {p : Prop} (h : p := by rw [Tryz.cz4]; first | done | rfl) : p := h
theorem Y158 {p : Prop} (h : p := by first | exact isEls_map (P := Tryz.prog) (e := 4) (f := PV.bool) (fun a => ⟨rfl, Y264⟩) _ | (intro p hp; cases hp)) : p := h
theorem Y159 {p : Prop} (h : p := by simp at hr1 ⊢ <;> omega) : p := h
theorem Y160 {p : Prop} (h : p := by intro q hq; rw [List.mem_singleton.1 hq]; exact aAppend_nilL (f := (PV.int .u16)) (ys := [y6]) Y82 (by rw [Tryz.cz42])) : p := h
theorem Y161 {p : Prop} (h : p := by intro y hy; rcases List.mem_append.1 hy with hy | hy; exact hLo y hy; rw [List.mem_singleton.1 hy]; exact ⟨Y19, Y19⟩) : p := h
theorem Y221 {p : Prop} (h : p := by intro q hq; rw [List.mem_singleton.1 hq]; simp only; rw [← hy2]; exact tape_Next hT3 hQ3.tape) : p := h
theorem Y222 {p : Prop} (h : p := by rw [Tryz.by42]; simp <;> omega) : p := h
theorem Y265 {p : Prop} (h : p := by rw [blk_set_ne Y19, blk_set_self]) : p := h
theorem Y266 {p : Prop} (h : p := by intro y hy; rw [List.mem_singleton.1 hy]; exact ⟨Y19, Y19⟩) : p := h
set_option maxRecDepth 100000 in
theorem tape_Request {T : Tp} (hT : T.ok) {s : St} {tp : Nat} (hb : s.blk tp = some (.row 39 [T.pv])) : ACalls Tryz.prog 15 [.ptr tp 0 0] s (fun r s' => ∃ (q : Req) (T' : Tp), r = q.pv ∧ s' = s.set tp (some (.row 39 [T'.pv])) ∧ T'.ok ∧ q.ok ∧ rightF q = 0) := by
 refine go Tryz.func15 (k := fun hwf H => ?_)
 have hlt : tp < s.nxt := lt_blk hwf hb
 have hFt : (s.nxt = tp) = False := eq_false Y19
 have htF : (tp = s.nxt) = False := eq_false Y19
 have hRt : (s.nxt + 1 = tp) = False := eq_false Y19
 have htR : (tp = s.nxt + 1) = False := eq_false Y19
 have zU : U16 0 := Y21
 have zW : OkW [] := fun x hx => (List.not_mem_nil hx).elim
 have hv12 := T.val_bound (n := 12) Y20
 obtain ⟨u, hu, hue⟩ := T.val_nat (n := 12) Y20
 have hue : T.val 12 = (u : Int) := hue
 obtain ⟨f, hfu, hfm⟩ := fnL_get (u := u) Y19
 have hflen : (u < 12) = True := eq_true Y19
 have H := aj hFt (aj htF (aj hRt (aj htR H)))
 refine rs (k := rg [0, 2] (k := rs (k := ?_)))
 have H := aj hue (aj hfu (aj hflen H))
 refine rr (k := rC (h := keep_Functions) (k := ro (pre := [_]) (k := ?_)))
 refine RunO.callw au au au Y24 ((tape_Next hT (n := 12) (by simp only [go_sem, htF, ↓reduceIte]; exact hb)).mono ?_)
 rintro r s9 ⟨rfl, hs⟩
 subst s9
 refine rh [0, 2, 3] (k := rs (k := rr (k := ro (pre := [_]) (k := ?_))))
 refine RunO.callw au au au Y24 ((tape_Next (hT.nx 12) (n := 70) (by simp only [go_sem, htR, htF, ↓reduceIte])).mono ?_)
 rintro r s9 ⟨rfl, hs⟩
 subst s9
 refine rh [0, 2, 3, 4] (k := rs (k := rs (k := ?_)))
 refine Run.genS fun S hS => ?_
 obtain ⟨T2, hT2e⟩ : ∃ y, (T.nx 12).nx 70 = y := ⟨_, rfl⟩
 have hT2 : T2.ok := by rw [← hT2e]; exact (hT.nx 12).nx 70
 have hab := (T.nx 12).val_bound (n := 70) Y20
 obtain ⟨a, ha⟩ : ∃ y, (T.nx 12).val 70 = y := ⟨_, rfl⟩
 rw [ha] at hab
 rw [ha]
 have hU : U16 a := ⟨Y19, Y19⟩
 have hQ : QAt s tp T2 [.int .i64 (f), .int .i64 (0), .int .i64 (0), .int .i64 (0), .int .i64 (0), .sl .nil [], .sl .nil [], .int .u16 (0), .int .u16 (0)] S := by rw [hS, ← hT2e]; exact QAt.first hlt
 have hQr := hQ.row
 have hQz := hQ.zero
 clear hS
 have H := aj hQr (aj hQz H)
 refine rg [0, 2, 3, 4, 17] (k := ?_)
 refine Run.join (fun e s' => ∃ (T' : Tp) (q : Req) (kb kv : SK), e = [(2, .ptr s.nxt 0 0), (3, .ptr (s.nxt + 1) 0 0)] ∧ T'.ok ∧ q.ok ∧ rightF q = 0 ∧ QAt s tp T' [.int .i64 q.fn, .int .i64 q.at_, .int .i64 q.count, .int .i64 q.wat, .int .i64 q.sub, .sl kb (q.bits.map PV.bool), .sl kv (q.vals.map (PV.int .u16)), .int .u16 q.and_, .int .u16 q.or_] s') ?_ ?_
 · rintro e SJ ⟨TJ, q, kb, kv, rfl, hTJ, hq, hr, hQJ⟩
   have hJr := hQJ.row
   have hJz := hQJ.zero
   have H := aj hJr (aj hJz H)
   refine rs (k := rg [2] (k := rR (k := ?_)))
   refine Ret.baseK (r' := q.pv) tp (.row 39 [TJ.pv]) hlt (by simp only [Tryz.f15, go_sem, ↓reduceIte] <;> rfl) (by simp only [Req.pv, PV.weak, PV.weaks, weaks_bools, weaks_u16]) (blw_req _ _) (by simp only [Blk.blw, PV.blws]; exact ⟨blw_tape _ _, trivial⟩) hwf (fun i hi => ?_) ⟨q, TJ, rfl, rfl, hTJ, hq, hr⟩
   rw [blk_set_ne Y19, blk_set]
   split
   · rename_i e; rw [e]; exact hQJ.tape
   · rename_i e; exact hQJ.rest i hi e
 intro hJb0
 refine rb (k := rs (k := rs (k := rg [0, 2, 3, 4, 17, 18] (k := rc (ht := fun hc0 => ?_) (hf := fun hc0 => ?_)))))
 refine rk (k := rc (ht := fun hc3 => ?_) (hf := fun hc3 => ?_))
 refine jO 1 ?_; rotate_left
 · exact Bool.noConfusion (hc0.symm.trans hc3)
 refine rs (k := rg [0, 2, 3, 4, 17, 18] (k := rc (ht := fun hc1 => ?_) (hf := fun hc1 => ?_)))
 refine rk (k := rc (ht := fun hc3 => ?_) (hf := fun hc3 => ?_))
 refine jO 1 ?_; rotate_left
 · exact Bool.noConfusion (hc1.symm.trans hc3)
 refine rs (k := rg [0, 2, 3, 4, 17, 18] (k := rc (ht := fun hc2 => ?_) (hf := fun hc2 => ?_)))
 refine rk (k := rc (ht := fun hc3 => ?_) (hf := fun hc3 => ?_))
 refine jO 1 ?_; rotate_left
 · exact Y254
 refine rg [0, 2, 3, 4, 17, 18] (k := rc (ht := fun hc3 => ?_) (hf := fun hc3 => ?_))
 refine jO 1 ?_; rotate_left
 · refine rs (k := rg [0, 2, 3, 4, 17, 28] (k := rc (ht := fun hc4 => ?_) (hf := fun hc4 => ?_)))
   · have hy2b := (T2).val_bound (n := 2) Y20
     obtain ⟨y2, hy2⟩ : ∃ y, (T2).val 2 = y := ⟨_, rfl⟩
     rw [hy2] at hy2b
     have H := aj hy2 H
     refine rr (k := ro (pre := [_, _]) (k := ?_))
     refine RunO.callw au au au Y24 ((tape_Next hT2 (n := 2) hQ.tape).mono ?_)
     rintro r s9 ⟨rfl, hs⟩
     subst s9
     refine ro (pre := [_]) (k := rO (k := rh [2, 3] (k := rB (k := ?_))))
     have hf5 : f = 5 := Y51
     subst hf5
     exact hJb0 _ _ ⟨T2.nx 2, ⟨5, a, 0, 0, 0, [decide (y2 = 1)], [], 0, 0⟩, .clip, .nil, rfl, hT2.nx 2, (req_okT Y82 hU zU zU zU zW zU zU Y82 Y82), (right5 Y19 _), Y52⟩
   · refine rs (k := rg [0, 2, 3, 4, 17, 37] (k := rc (ht := fun hc5 => ?_) (hf := fun hc5 => ?_)))
     · have hy6b := (T2).val_bound (n := 65536) Y20
       obtain ⟨y6, hy6⟩ : ∃ y, (T2).val 65536 = y := ⟨_, rfl⟩
       rw [hy6] at hy6b
       have hw6 : IntKind.u16.wrap y6 = y6 := Y157
       have H := aj hy6 (aj hw6 H)
       refine rr (k := ro (pre := [_, _]) (k := ?_))
       refine RunO.callw au au au Y24 ((tape_Next hT2 (n := 65536) hQ.tape).mono ?_)
       rintro r s9 ⟨rfl, hs⟩
       subst s9
       refine ro (pre := [_]) (k := rO (k := rh [2, 3] (k := rB (k := ?_))))
       have hf5 : f = 6 := Y51
       subst hf5
       exact hJb0 _ _ ⟨T2.nx 65536, ⟨6, a, 0, 0, 0, [], [y6], 0, 0⟩, .nil, .clip, rfl, hT2.nx 65536, (req_okT Y82 hU zU zU zU (OkW.one (show U16 y6 from ⟨Y19, Y19⟩)) zU zU Y82 Y82), (right6 Y19 _), Y52⟩
     · refine rs (k := rg [0, 2, 3, 4, 17, 46] (k := rc (ht := fun hc6 => ?_) (hf := fun hc6 => ?_)))
       · obtain ⟨x8, hx8, hx8e⟩ := T2.val_nat (n := 8) Y20
         have hx8e : T2.val 8 = (x8 : Int) := hx8e
         obtain ⟨sb, hsb, hsbU⟩ := subL_get (u := x8) Y19
         obtain ⟨x4, hx4, hx4e⟩ := (T2.nx 8).val_nat (n := 4) Y20
         have hx4e : (T2.nx 8).val 4 = (x4 : Int) := hx4e
         obtain ⟨vv, hvv, hvvU⟩ := vL_get (u := x4) Y19
         have hl8 : (x8 < 8) = True := eq_true Y19
         have hl4 : (x4 < 4) = True := eq_true Y19
         simp only [subL, vL, List.map_cons, List.map_nil] at hsb hvv
         have H := aj hx8e (aj hsb (aj hx4e (aj hvv (aj hl8 (aj hl4 H)))))
         refine rH 15 [2, 7, 12, 14] [[false, false, false, false], [true, false, false, false], [true, true, false, false], [true, true, true, false], [true, true, true, true]] [S, (S.set tp (some (.row 39 [(T2.nx 8).pv]))), ((S.set tp (some (.row 39 [(T2.nx 8).pv]))).set tp (some (.row 39 [((T2.nx 8).nx 4).pv]))), (((S.set tp (some (.row 39 [(T2.nx 8).pv]))).set tp (some (.row 39 [((T2.nx 8).nx 4).pv]))).set (s.nxt + 1) (some (.row 44 [.agg [.int .i64 (f), .int .i64 (0), .int .i64 (0), .int .i64 (0), .int .i64 (sb), .sl .nil [], .sl .nil [], .int .u16 (0), .int .u16 (0)]]))), ((((S.set tp (some (.row 39 [(T2.nx 8).pv]))).set tp (some (.row 39 [((T2.nx 8).nx 4).pv]))).set (s.nxt + 1) (some (.row 44 [.agg [.int .i64 (f), .int .i64 (0), .int .i64 (0), .int .i64 (0), .int .i64 (sb), .sl .nil [], .sl .nil [], .int .u16 (0), .int .u16 (0)]]))).set (s.nxt + 1) (some (.row 44 [.agg [.int .i64 (f), .int .i64 (0), .int .i64 (0), .int .i64 (0), .int .i64 (sb), .sl .nil [], .sl .clip [.int .u16 vv], .int .u16 (0), .int .u16 (0)]])))] Tryz.mixed (k := ?_)
         refine dP [0, 1, 2] (pre := [_, _]) (k := ?_)
         refine dX (v := .int .i64 x8) [(0, 1)] (h := by intro q hq; rw [List.mem_singleton.1 hq]; simp only; rw [← hx8e]; exact tape_Next hT2 hQ.tape) (k := ?_)
         refine dP [0, 1, 2, 3] (pre := [_, _, _, _]) (k := ?_)
         refine dX (v := .int .i64 x4) [(1, 2)] (h := by intro q hq; rw [List.mem_singleton.1 hq]; simp only; rw [← hx4e]; exact tape_Next (hT2.nx 8) (blk_set_self _ _ _)) (k := ?_)
         refine dP [1, 2, 3] (pre := [_, _, _, _]) (k := ?_)
         refine dE [(2, 3)] (k := ?_)
         refine dP [3] (pre := [_]) (k := ?_)
         refine dE [(3, 4)] (k := ?_)
         refine DetHC.nil ?_
         refine rl [2, 3] (k := rB (k := ?_))
         have hf5 : f = 8 := Y51
         subst hf5
         exact hJb0 _ _ ⟨(T2.nx 8).nx 4, ⟨8, 0, 0, 0, sb, [], [vv], 0, 0⟩, .nil, .clip, rfl, (hT2.nx 8).nx 4, (req_okT Y82 zU zU zU hsbU (OkW.one hvvU) zU zU Y82 Y82), (right8 (by unfold U16 at hsbU; omega) _), Y52⟩
       · refine rs (k := rg [0, 2, 3, 4, 17, 61] (k := rc (ht := fun hc7 => ?_) (hf := fun hc7 => ?_)))
         · refine rs (k := ?_)
           have hf5 : f = 15 := Y51
           subst hf5
           have hy26b := (T2).val_bound (n := 26) Y20
           obtain ⟨y26, hy26⟩ : ∃ y, (T2).val 26 = y := ⟨_, rfl⟩
           rw [hy26] at hy26b
           have H := aj hy26 H
           refine rr (k := ro (pre := [_, _]) (k := ?_))
           refine RunO.callw au au au Y24 ((tape_Next hT2 (n := 26) hQ.tape).mono ?_)
           rintro r s9 ⟨rfl, hs⟩
           subst s9
           refine rh [0, 2, 3] (k := rs (k := rg [0, 2, 3, 5] (k := rb (k := ?_))))
           refine Run.loop (fun e s' => ∃ (T3 : Tp) (i : Nat) (L : List Bool) (k : SK), e = [(0, .ptr tp 0 0), (2, .ptr s.nxt 0 0), (3, .ptr (s.nxt + 1) 0 0), (5, .int .i64 (i : Int))] ∧ T3.ok ∧ QAt s tp T3 [.int .i64 (15), .int .i64 (a), .int .i64 (y26), .int .i64 (0), .int .i64 (0), .sl k (L.map PV.bool), .sl .nil [], .int .u16 (0), .int .u16 (0)] s' ∧ L.length = i ∧ (i : Int) ≤ y26 ∧ (k = .nil ∧ L = [] ∨ ∃ t, k = .tok t 1 ∧ s.nxt + 2 ≤ t ∧ s'.blk t = some (.tok L.length))) (fun e s' => y26.toNat - ivar e 5) ?_ ?_
           · exact ⟨T2.nx 26, 0, [], .nil, rfl, hT2.nx 26, Y52, rfl, Y19, .inl ⟨rfl, rfl⟩⟩
           rintro e S3 ⟨T3, i, L, k, rfl, hT3, hQ3, hr1, hr2, hk⟩
           have h3r := hQ3.row
           have h3t := hQ3.tape
           have h3n := hQ3.nx
           have hN1 : (s.nxt + 1 = S3.nxt) = False := eq_false Y19
           have hN2 : (tp = S3.nxt) = False := eq_false Y19
           have H := aj h3r (aj h3t (aj hN1 (aj hN2 H)))
           rcases hk with ⟨rfl, rfl⟩ | ⟨t, rfl, htn, htb⟩
           · simp only [List.length_nil] at hr1
             refine rs (k := rs (k := rg [0, 2, 3, 5, 71] (k := rc (ht := fun hc8 => ?_) (hf := fun hc8 => ?_))))
             · refine rk (k := rs (k := rb (k := ?_)))
               have hy2b := (T3).val_bound (n := 2) Y20
               obtain ⟨y2, hy2⟩ : ∃ y, (T3).val 2 = y := ⟨_, rfl⟩
               rw [hy2] at hy2b
               have hic : (i : Int) < y26 := of_decide_eq_true hc8
               refine rH 9 [3, 6, 8] [[false, false, false], [true, false, false], [true, true, false], [true, true, true]] [S3, (S3.set tp (some (.row 39 [(T3.nx 2).pv]))), ((S3.set tp (some (.row 39 [(T3.nx 2).pv]))).new (.tok [decide (y2 = 1)].length)), (((S3.set tp (some (.row 39 [(T3.nx 2).pv]))).new (.tok [decide (y2 = 1)].length)).set (s.nxt + 1) (some (.row 44 [.agg [.int .i64 (15), .int .i64 (a), .int .i64 (y26), .int .i64 (0), .int .i64 (0), .sl (.tok S3.nxt 1) ([decide (y2 = 1)].map PV.bool), .sl .nil [], .int .u16 (0), .int .u16 (0)]])))] Tryz.mixed (k := ?_)
               refine dP [0, 1] (pre := [_, _, _]) (k := ?_)
               refine dX (v := .int .i64 y2) [(0, 1)] (h := Y221) (k := ?_)
               refine dP [1] (pre := [_, _]) (k := ?_)
               refine DetHC.app (kx := .nil) (xs := []) (ys := [decide (y2 = 1)].map PV.bool) (v := .sl (.tok S3.nxt 1) ([decide (y2 = 1)].map PV.bool)) [(1, 2)] _ Y24 pq au au au Tryz.td40 (by rw [Tryz.zp4]; rfl) Y158 (isEls_map (P := Tryz.prog) (e := 4) (f := PV.bool) (fun a => ⟨rfl, Y264⟩) _) (by rw [Tryz.by4]; decide) (by rw [Tryz.by4]; simp <;> omega) (by intro q hq; rw [List.mem_singleton.1 hq]; exact aAppend_nilL (f := PV.bool) (ys := [decide (y2 = 1)]) Y82 (by rw [Tryz.cz4])) ?_
               refine dP [2] (pre := [_]) (k := ?_)
               refine dE [(2, 3)] (k := ?_)
               refine DetHC.nil ?_
               refine rl [0, 2, 3, 5] (k := rB (k := ?_))
               have hwi : IntKind.i64.wrap ((i : Int) + 1) = ((i + 1 : Nat) : Int) := Y26
               have H := aj hwi H
               refine rg [0, 2, 3, 5] (k := ?_)
               refine Run.lp ⟨⟨T3.nx 2, i + 1, [decide (y2 = 1)], (.tok S3.nxt 1), rfl, hT3.nx 2, Y52, Y159, Y19, .inr ⟨S3.nxt, rfl, hQ3.nx, Y107⟩⟩, ?_⟩
               simp only [ivar, ivar1, go_sem, ↓reduceIte, Nat.reduceEqDiff]
               omega
             · refine rX (k := rB (k := ?_))
               have hie : (0 : Int) = y26 := Y51
               rw [← hie] at hQ3
               refine rp [2, 3] (k := ?_)
               exact hJb0 _ _ ⟨T3, ⟨15, a, 0, 0, 0, [], [], 0, 0⟩, .nil, .nil, rfl, hT3, (req_okT Y82 hU zU zU zU zW zU zU Y82 Y82), (right15 (W := []) Y19 Y82), Y52⟩
           · have hN3 : (s.nxt + 1 = t) = False := eq_false Y19
             have hN4 : (tp = t) = False := eq_false Y19
             have hN5 : (t = tp) = False := eq_false Y19
             have hN6 : (t = s.nxt + 1) = False := eq_false Y19
             have H := aj hN3 (aj hN4 (aj hN5 (aj hN6 H)))
             refine rs (k := rs (k := rg [0, 2, 3, 5, 71] (k := rc (ht := fun hc8 => ?_) (hf := fun hc8 => ?_))))
             · refine rk (k := rs (k := rb (k := ?_)))
               have hy2b := (T3).val_bound (n := 2) Y20
               obtain ⟨y2, hy2⟩ : ∃ y, (T3).val 2 = y := ⟨_, rfl⟩
               rw [hy2] at hy2b
               have hic : (i : Int) < y26 := of_decide_eq_true hc8
               refine rH 9 [3, 6, 8] [[false, false, false], [true, false, false], [true, true, false], [true, true, true]] [S3, (S3.set tp (some (.row 39 [(T3.nx 2).pv]))), ((S3.set tp (some (.row 39 [(T3.nx 2).pv]))).set t (some (.tok (L ++ [decide (y2 = 1)]).length))), (((S3.set tp (some (.row 39 [(T3.nx 2).pv]))).set t (some (.tok (L ++ [decide (y2 = 1)]).length))).set (s.nxt + 1) (some (.row 44 [.agg [.int .i64 (15), .int .i64 (a), .int .i64 (y26), .int .i64 (0), .int .i64 (0), .sl (.tok t 1) ((L ++ [decide (y2 = 1)]).map PV.bool), .sl .nil [], .int .u16 (0), .int .u16 (0)]])))] Tryz.mixed (k := ?_)
               refine dP [0, 1] (pre := [_, _, _]) (k := ?_)
               refine dX (v := .int .i64 y2) [(0, 1)] (h := Y221) (k := ?_)
               refine dP [1] (pre := [_, _]) (k := ?_)
               refine DetHC.app (kx := (.tok t 1)) (xs := L.map PV.bool) (ys := [decide (y2 = 1)].map PV.bool) (v := .sl (.tok t 1) ((L ++ [decide (y2 = 1)]).map PV.bool)) [(1, 2)] _ Y24 pq au au au Tryz.td40 (by rw [Tryz.zp4]; rfl) Y158 (isEls_map (P := Tryz.prog) (e := 4) (f := PV.bool) (fun a => ⟨rfl, Y264⟩) _) (by rw [Tryz.by4]; decide) (by rw [Tryz.by4]; simp <;> omega) (by intro q hq; rw [List.mem_singleton.1 hq]; exact aAppend_tokL (f := PV.bool) (xs := L) (ys := [decide (y2 = 1)]) rfl Y82 (by rw [blk_set_ne Y19]; exact htb) rfl (by rw [Tryz.cz4])) ?_
               refine dP [2] (pre := [_]) (k := ?_)
               refine dE [(2, 3)] (k := ?_)
               refine DetHC.nil ?_
               refine rl [0, 2, 3, 5] (k := rB (k := ?_))
               have hwi : IntKind.i64.wrap ((i : Int) + 1) = ((i + 1 : Nat) : Int) := Y26
               have H := aj hwi H
               refine rg [0, 2, 3, 5] (k := ?_)
               refine Run.lp ⟨⟨T3.nx 2, i + 1, (L ++ [decide (y2 = 1)]), (.tok t 1), rfl, hT3.nx 2, Y52, Y159, Y19, .inr ⟨t, rfl, htn, Y265⟩⟩, ?_⟩
               simp only [ivar, ivar1, go_sem, ↓reduceIte, Nat.reduceEqDiff]
               omega
             · refine rX (k := rB (k := ?_))
               have hie : ((L.length : Nat) : Int) = y26 := Y51
               rw [← hie] at hQ3
               refine rp [2, 3] (k := ?_)
               exact hJb0 _ _ ⟨T3, ⟨15, a, L.length, 0, 0, L, [], 0, 0⟩, _, .nil, rfl, hT3, (req_okT Y82 hU (show U16 ((L.length : Nat) : Int) from ⟨Y19, Y19⟩) zU zU zW zU zU (by simp <;> omega) Y82), (right15 Y19 Y19), Y52⟩
         · refine rs (k := rg [0, 2, 3, 4, 17, 82] (k := rc (ht := fun hc9 => ?_) (hf := fun hc9 => ?_)))
           · refine rs (k := ?_)
             have hf5 : f = 16 := Y51
             subst hf5
             have hy26b := (T2).val_bound (n := 26) Y20
             obtain ⟨y26, hy26⟩ : ∃ y, (T2).val 26 = y := ⟨_, rfl⟩
             rw [hy26] at hy26b
             have H := aj hy26 H
             refine rr (k := ro (pre := [_, _]) (k := ?_))
             refine RunO.callw au au au Y24 ((tape_Next hT2 (n := 26) hQ.tape).mono ?_)
             rintro r s9 ⟨rfl, hs⟩
             subst s9
             refine rh [0, 2, 3] (k := rs (k := rg [0, 2, 3, 6] (k := rb (k := ?_))))
             refine Run.loop (fun e s' => ∃ (T3 : Tp) (i : Nat) (L : List Int) (k : SK), e = [(0, .ptr tp 0 0), (2, .ptr s.nxt 0 0), (3, .ptr (s.nxt + 1) 0 0), (6, .int .i64 (i : Int))] ∧ T3.ok ∧ QAt s tp T3 [.int .i64 (16), .int .i64 (a), .int .i64 (y26), .int .i64 (0), .int .i64 (0), .sl .nil [], .sl k (L.map (PV.int .u16)), .int .u16 (0), .int .u16 (0)] s' ∧ L.length = i ∧ (i : Int) ≤ y26 ∧ (k = .nil ∧ L = [] ∨ ∃ t, k = .tok t 1 ∧ s.nxt + 2 ≤ t ∧ s'.blk t = some (.tok L.length)) ∧ OkW L) (fun e s' => y26.toNat - ivar e 6) ?_ ?_
             · exact ⟨T2.nx 26, 0, [], .nil, rfl, hT2.nx 26, Y52, rfl, Y19, .inl ⟨rfl, rfl⟩, zW⟩
             rintro e S3 ⟨T3, i, L, k, rfl, hT3, hQ3, hr1, hr2, hk, hLo⟩
             have h3r := hQ3.row
             have h3t := hQ3.tape
             have h3n := hQ3.nx
             have hN1 : (s.nxt + 1 = S3.nxt) = False := eq_false Y19
             have hN2 : (tp = S3.nxt) = False := eq_false Y19
             have H := aj h3r (aj h3t (aj hN1 (aj hN2 H)))
             rcases hk with ⟨rfl, rfl⟩ | ⟨t, rfl, htn, htb⟩
             · simp only [List.length_nil] at hr1
               refine rs (k := rs (k := rg [0, 2, 3, 6, 92] (k := rc (ht := fun hc10 => ?_) (hf := fun hc10 => ?_))))
               · refine rk (k := rs (k := rb (k := ?_)))
                 have hy6b := (T3).val_bound (n := 65536) Y20
                 obtain ⟨y6, hy6⟩ : ∃ y, (T3).val 65536 = y := ⟨_, rfl⟩
                 rw [hy6] at hy6b
                 have hic : (i : Int) < y26 := of_decide_eq_true hc10
                 have hw6 : IntKind.u16.wrap y6 = y6 := Y157
                 have H := aj hw6 H
                 refine rH 9 [3, 6, 8] [[false, false, false], [true, false, false], [true, true, false], [true, true, true]] [S3, (S3.set tp (some (.row 39 [(T3.nx 65536).pv]))), ((S3.set tp (some (.row 39 [(T3.nx 65536).pv]))).new (.tok [y6].length)), (((S3.set tp (some (.row 39 [(T3.nx 65536).pv]))).new (.tok [y6].length)).set (s.nxt + 1) (some (.row 44 [.agg [.int .i64 (16), .int .i64 (a), .int .i64 (y26), .int .i64 (0), .int .i64 (0), .sl .nil [], .sl (.tok S3.nxt 1) ([y6].map (PV.int .u16)), .int .u16 (0), .int .u16 (0)]])))] Tryz.mixed (k := ?_)
                 refine dP [0, 1] (pre := [_, _, _]) (k := ?_)
                 refine dX (v := .int .i64 y6) [(0, 1)] (h := Y108) (k := ?_)
                 refine dP [1] (pre := [_, _]) (k := ?_)
                 refine DetHC.app (kx := .nil) (xs := []) (ys := [y6].map (PV.int .u16)) (v := .sl (.tok S3.nxt 1) ([y6].map (PV.int .u16))) [(1, 2)] _ Y24 pq au au au Tryz.td41 Y139 Y53 (isEls_map (P := Tryz.prog) (e := 42) (f := (PV.int .u16)) (fun a => ⟨rfl, Y156⟩) _) Y201 Y222 Y160 ?_
                 refine dP [2] (pre := [_]) (k := ?_)
                 refine dE [(2, 3)] (k := ?_)
                 refine DetHC.nil ?_
                 refine rl [0, 2, 3, 6] (k := rB (k := ?_))
                 have hwi : IntKind.i64.wrap ((i : Int) + 1) = ((i + 1 : Nat) : Int) := Y26
                 have H := aj hwi H
                 refine rg [0, 2, 3, 6] (k := ?_)
                 refine Run.lp ⟨⟨T3.nx 65536, i + 1, [y6], (.tok S3.nxt 1), rfl, hT3.nx 65536, Y52, Y159, Y19, .inr ⟨S3.nxt, rfl, hQ3.nx, Y107⟩, Y266⟩, ?_⟩
                 simp only [ivar, ivar1, go_sem, ↓reduceIte, Nat.reduceEqDiff]
                 omega
               · refine rX (k := rB (k := ?_))
                 have hie : (0 : Int) = y26 := Y51
                 rw [← hie] at hQ3
                 refine rp [2, 3] (k := ?_)
                 exact hJb0 _ _ ⟨T3, ⟨16, a, 0, 0, 0, [], [], 0, 0⟩, .nil, .nil, rfl, hT3, (req_okT Y82 hU zU zU zU zW zU zU Y82 Y82), (right16 (W := []) Y19 Y82), Y52⟩
             · have hN3 : (s.nxt + 1 = t) = False := eq_false Y19
               have hN4 : (tp = t) = False := eq_false Y19
               have hN5 : (t = tp) = False := eq_false Y19
               have hN6 : (t = s.nxt + 1) = False := eq_false Y19
               have H := aj hN3 (aj hN4 (aj hN5 (aj hN6 H)))
               refine rs (k := rs (k := rg [0, 2, 3, 6, 92] (k := rc (ht := fun hc10 => ?_) (hf := fun hc10 => ?_))))
               · refine rk (k := rs (k := rb (k := ?_)))
                 have hy6b := (T3).val_bound (n := 65536) Y20
                 obtain ⟨y6, hy6⟩ : ∃ y, (T3).val 65536 = y := ⟨_, rfl⟩
                 rw [hy6] at hy6b
                 have hic : (i : Int) < y26 := of_decide_eq_true hc10
                 have hw6 : IntKind.u16.wrap y6 = y6 := Y157
                 have H := aj hw6 H
                 refine rH 9 [3, 6, 8] [[false, false, false], [true, false, false], [true, true, false], [true, true, true]] [S3, (S3.set tp (some (.row 39 [(T3.nx 65536).pv]))), ((S3.set tp (some (.row 39 [(T3.nx 65536).pv]))).set t (some (.tok (L ++ [y6]).length))), (((S3.set tp (some (.row 39 [(T3.nx 65536).pv]))).set t (some (.tok (L ++ [y6]).length))).set (s.nxt + 1) (some (.row 44 [.agg [.int .i64 (16), .int .i64 (a), .int .i64 (y26), .int .i64 (0), .int .i64 (0), .sl .nil [], .sl (.tok t 1) ((L ++ [y6]).map (PV.int .u16)), .int .u16 (0), .int .u16 (0)]])))] Tryz.mixed (k := ?_)
                 refine dP [0, 1] (pre := [_, _, _]) (k := ?_)
                 refine dX (v := .int .i64 y6) [(0, 1)] (h := Y108) (k := ?_)
                 refine dP [1] (pre := [_, _]) (k := ?_)
                 refine DetHC.app (kx := (.tok t 1)) (xs := L.map (PV.int .u16)) (ys := [y6].map (PV.int .u16)) (v := .sl (.tok t 1) ((L ++ [y6]).map (PV.int .u16))) [(1, 2)] _ Y24 pq au au au Tryz.td41 Y139 Y53 (isEls_map (P := Tryz.prog) (e := 42) (f := (PV.int .u16)) (fun a => ⟨rfl, Y156⟩) _) Y201 Y222 Y109 ?_
                 refine dP [2] (pre := [_]) (k := ?_)
                 refine dE [(2, 3)] (k := ?_)
                 refine DetHC.nil ?_
                 refine rl [0, 2, 3, 6] (k := rB (k := ?_))
                 have hwi : IntKind.i64.wrap ((i : Int) + 1) = ((i + 1 : Nat) : Int) := Y26
                 have H := aj hwi H
                 refine rg [0, 2, 3, 6] (k := ?_)
                 refine Run.lp ⟨⟨T3.nx 65536, i + 1, (L ++ [y6]), (.tok t 1), rfl, hT3.nx 65536, Y52, Y159, Y19, .inr ⟨t, rfl, htn, Y265⟩, Y161⟩, ?_⟩
                 simp only [ivar, ivar1, go_sem, ↓reduceIte, Nat.reduceEqDiff]
                 omega
               · refine rX (k := rB (k := ?_))
                 have hie : ((L.length : Nat) : Int) = y26 := Y51
                 rw [← hie] at hQ3
                 refine rp [2, 3] (k := ?_)
                 exact hJb0 _ _ ⟨T3, ⟨16, a, L.length, 0, 0, [], L, 0, 0⟩, .nil, _, rfl, hT3, (req_okT Y82 hU (show U16 ((L.length : Nat) : Int) from ⟨Y19, Y19⟩) zU zU hLo zU zU Y82 (by simp <;> omega)), (right16 Y19 Y19), Y52⟩
           · refine rs (k := rg [0, 2, 3, 4, 17, 103] (k := rc (ht := fun hc11 => ?_) (hf := fun hc11 => ?_)))
             · have hcab := (T2).val_bound (n := 65536) Y20
               obtain ⟨ca, hca⟩ : ∃ y, (T2).val 65536 = y := ⟨_, rfl⟩
               rw [hca] at hcab
               have hcob := (T2.nx 65536).val_bound (n := 65536) Y20
               obtain ⟨co, hco⟩ : ∃ y, (T2.nx 65536).val 65536 = y := ⟨_, rfl⟩
               rw [hco] at hcob
               have hwa : IntKind.u16.wrap ca = ca := Y157
               have hwo : IntKind.u16.wrap co = co := Y157
               have H := aj hca (aj hco (aj hwa (aj hwo H)))
               refine rr (k := ro (pre := [_, _]) (k := ?_))
               refine RunO.callw au au au Y24 ((tape_Next hT2 (n := 65536) hQ.tape).mono ?_)
               rintro r s9 ⟨rfl, hs⟩
               subst s9
               refine ro (pre := [_, _]) (k := ?_)
               refine RunO.callw au au au Y24 ((tape_Next (hT2.nx 65536) (n := 65536) (blk_set_self _ _ _)).mono ?_)
               rintro r s9 ⟨rfl, hs⟩
               subst s9
               refine rh [2, 3] (k := rB (k := ?_))
               have hf5 : f = 22 := Y51
               subst hf5
               exact hJb0 _ _ ⟨(T2.nx 65536).nx 65536, ⟨22, a, 0, 0, 0, [], [], ca, co⟩, .nil, .nil, rfl, (hT2.nx 65536).nx 65536, (req_okT Y82 hU zU zU zU zW (show U16 ca from ⟨Y19, Y19⟩) (show U16 co from ⟨Y19, Y19⟩) Y82 Y82), (right22 Y19), Y52⟩
             · refine rs (k := rg [0, 2, 3, 4, 115] (k := rc (ht := fun hc12 => ?_) (hf := fun hc12 => ?_)))
               · refine rs (k := ?_)
                 have hf5 : f = 23 := Y51
                 subst hf5
                 have hy20b := (T2).val_bound (n := 20) Y20
                 obtain ⟨y20, hy20⟩ : ∃ y, (T2).val 20 = y := ⟨_, rfl⟩
                 rw [hy20] at hy20b
                 have hy40b := (T2.nx 20).val_bound (n := 40) Y20
                 obtain ⟨y40, hy40⟩ : ∃ y, (T2.nx 20).val 40 = y := ⟨_, rfl⟩
                 rw [hy40] at hy40b
                 have hm0b := ((T2.nx 20).nx 40).val_bound (n := 20) Y20
                 obtain ⟨m0, hm0⟩ : ∃ y, ((T2.nx 20).nx 40).val 20 = y := ⟨_, rfl⟩
                 rw [hm0] at hm0b
                 have H := aj hy20 (aj hy40 (aj hm0 H))
                 refine rr (k := ro (pre := [_, _]) (k := ?_))
                 refine RunO.callw au au au Y24 ((tape_Next hT2 (n := 20) hQ.tape).mono ?_)
                 rintro r s9 ⟨rfl, hs⟩
                 subst s9
                 refine ro (pre := [_]) (k := ?_)
                 refine RunO.callw au au au Y24 ((tape_Next (hT2.nx 20) (n := 40) (blk_set_self _ _ _)).mono ?_)
                 rintro r s9 ⟨rfl, hs⟩
                 subst s9
                 refine rh [0, 2, 3] (k := rs (k := rr (k := ro (pre := [_]) (k := ?_))))
                 refine RunO.callw au au au Y24 ((tape_Next ((hT2.nx 20).nx 40) (n := 20) (by first | exact blk_set_self _ _ _ | (simp (disch := omega) only [blk_set_ne, blk_set_self]))).mono ?_)
                 rintro r s9 ⟨rfl, hs⟩
                 subst s9
                 refine rh [0, 2, 3, 7] (k := rb (k := ?_))
                 refine Run.loop (fun e s' => ∃ (T3 : Tp) (m : Int) (L : List Int) (k : SK), e = [(0, .ptr tp 0 0), (2, .ptr s.nxt 0 0), (3, .ptr (s.nxt + 1) 0 0), (7, .int .i64 m)] ∧ T3.ok ∧ QAt s tp T3 [.int .i64 (23), .int .i64 (a), .int .i64 (y20), .int .i64 (y40), .int .i64 (0), .sl .nil [], .sl k (L.map (PV.int .u16)), .int .u16 (0), .int .u16 (0)] s' ∧ L.length + m = m0 ∧ 0 ≤ m ∧ (k = .nil ∧ L = [] ∨ ∃ t, k = .tok t 1 ∧ s.nxt + 2 ≤ t ∧ s'.blk t = some (.tok L.length)) ∧ OkW L) (fun e s' => ivar1 e 7) ?_ ?_
                 · exact ⟨((T2.nx 20).nx 40).nx 20, m0, [], .nil, rfl, ((hT2.nx 20).nx 40).nx 20, Y52, Y82, Y19, .inl ⟨rfl, rfl⟩, zW⟩
                 rintro e S3 ⟨T3, m, L, k, rfl, hT3, hQ3, hr1, hr2, hk, hLo⟩
                 have h3r := hQ3.row
                 have h3t := hQ3.tape
                 have h3n := hQ3.nx
                 have hN1 : (s.nxt + 1 = S3.nxt) = False := eq_false Y19
                 have hN2 : (tp = S3.nxt) = False := eq_false Y19
                 have H := aj h3r (aj h3t (aj hN1 (aj hN2 H)))
                 rcases hk with ⟨rfl, rfl⟩ | ⟨t, rfl, htn, htb⟩
                 · simp only [List.length_nil] at hr1
                   refine rs (k := rs (k := rg [0, 2, 3, 7, 128] (k := rc (ht := fun hc13 => ?_) (hf := fun hc13 => ?_))))
                   · refine rk (k := rs (k := rb (k := ?_)))
                     have hy6b := (T3).val_bound (n := 65536) Y20
                     obtain ⟨y6, hy6⟩ : ∃ y, (T3).val 65536 = y := ⟨_, rfl⟩
                     rw [hy6] at hy6b
                     have hw6 : IntKind.u16.wrap y6 = y6 := Y157
                     have H := aj hw6 H
                     refine rH 9 [3, 6, 8] [[false, false, false], [true, false, false], [true, true, false], [true, true, true]] [S3, (S3.set tp (some (.row 39 [(T3.nx 65536).pv]))), ((S3.set tp (some (.row 39 [(T3.nx 65536).pv]))).new (.tok [y6].length)), (((S3.set tp (some (.row 39 [(T3.nx 65536).pv]))).new (.tok [y6].length)).set (s.nxt + 1) (some (.row 44 [.agg [.int .i64 (23), .int .i64 (a), .int .i64 (y20), .int .i64 (y40), .int .i64 (0), .sl .nil [], .sl (.tok S3.nxt 1) ([y6].map (PV.int .u16)), .int .u16 (0), .int .u16 (0)]])))] Tryz.mixed (k := ?_)
                     refine dP [0, 1] (pre := [_, _, _]) (k := ?_)
                     refine dX (v := .int .i64 y6) [(0, 1)] (h := Y108) (k := ?_)
                     refine dP [1] (pre := [_, _]) (k := ?_)
                     refine DetHC.app (kx := .nil) (xs := []) (ys := [y6].map (PV.int .u16)) (v := .sl (.tok S3.nxt 1) ([y6].map (PV.int .u16))) [(1, 2)] _ Y24 pq au au au Tryz.td41 Y139 Y53 (isEls_map (P := Tryz.prog) (e := 42) (f := (PV.int .u16)) (fun a => ⟨rfl, Y156⟩) _) Y201 Y222 Y160 ?_
                     refine dP [2] (pre := [_]) (k := ?_)
                     refine dE [(2, 3)] (k := ?_)
                     refine DetHC.nil ?_
                     refine rl [0, 2, 3, 7] (k := rB (k := ?_))
                     have hm1 : 0 < m := by have := of_decide_eq_true hc13; omega
                     have hwi : IntKind.i64.wrap (m - 1) = m - 1 := wrap_i64 Y19
                     have H := aj hwi H
                     refine rg [0, 2, 3, 7] (k := ?_)
                     refine Run.lp ⟨⟨T3.nx 65536, m - 1, [y6], (.tok S3.nxt 1), rfl, hT3.nx 65536, Y52, Y159, Y19, .inr ⟨S3.nxt, rfl, hQ3.nx, Y107⟩, Y266⟩, ?_⟩
                     simp only [ivar, ivar1, go_sem, ↓reduceIte, Nat.reduceEqDiff]
                     omega
                   · refine rX (k := rB (k := rp [2, 3] (k := ?_)))
                     exact hJb0 _ _ ⟨T3, ⟨23, a, y20, y40, 0, [], ([] : List Int), 0, 0⟩, .nil, _, rfl, hT3, (req_okT Y82 hU (show U16 y20 from ⟨Y19, Y19⟩) (show U16 y40 from ⟨Y19, Y19⟩) zU hLo zU zU Y82 (by simp <;> omega)), (right23 Y19 Y19 Y19 (by first | omega | (simp at hr1 ⊢ <;> omega))), Y52⟩
                 · have hN3 : (s.nxt + 1 = t) = False := eq_false Y19
                   have hN4 : (tp = t) = False := eq_false Y19
                   have hN5 : (t = tp) = False := eq_false Y19
                   have hN6 : (t = s.nxt + 1) = False := eq_false Y19
                   have H := aj hN3 (aj hN4 (aj hN5 (aj hN6 H)))
                   refine rs (k := rs (k := rg [0, 2, 3, 7, 128] (k := rc (ht := fun hc13 => ?_) (hf := fun hc13 => ?_))))
                   · refine rk (k := rs (k := rb (k := ?_)))
                     have hy6b := (T3).val_bound (n := 65536) Y20
                     obtain ⟨y6, hy6⟩ : ∃ y, (T3).val 65536 = y := ⟨_, rfl⟩
                     rw [hy6] at hy6b
                     have hw6 : IntKind.u16.wrap y6 = y6 := Y157
                     have H := aj hw6 H
                     refine rH 9 [3, 6, 8] [[false, false, false], [true, false, false], [true, true, false], [true, true, true]] [S3, (S3.set tp (some (.row 39 [(T3.nx 65536).pv]))), ((S3.set tp (some (.row 39 [(T3.nx 65536).pv]))).set t (some (.tok (L ++ [y6]).length))), (((S3.set tp (some (.row 39 [(T3.nx 65536).pv]))).set t (some (.tok (L ++ [y6]).length))).set (s.nxt + 1) (some (.row 44 [.agg [.int .i64 (23), .int .i64 (a), .int .i64 (y20), .int .i64 (y40), .int .i64 (0), .sl .nil [], .sl (.tok t 1) ((L ++ [y6]).map (PV.int .u16)), .int .u16 (0), .int .u16 (0)]])))] Tryz.mixed (k := ?_)
                     refine dP [0, 1] (pre := [_, _, _]) (k := ?_)
                     refine dX (v := .int .i64 y6) [(0, 1)] (h := Y108) (k := ?_)
                     refine dP [1] (pre := [_, _]) (k := ?_)
                     refine DetHC.app (kx := (.tok t 1)) (xs := L.map (PV.int .u16)) (ys := [y6].map (PV.int .u16)) (v := .sl (.tok t 1) ((L ++ [y6]).map (PV.int .u16))) [(1, 2)] _ Y24 pq au au au Tryz.td41 Y139 Y53 (isEls_map (P := Tryz.prog) (e := 42) (f := (PV.int .u16)) (fun a => ⟨rfl, Y156⟩) _) Y201 Y222 Y109 ?_
                     refine dP [2] (pre := [_]) (k := ?_)
                     refine dE [(2, 3)] (k := ?_)
                     refine DetHC.nil ?_
                     refine rl [0, 2, 3, 7] (k := rB (k := ?_))
                     have hm1 : 0 < m := by have := of_decide_eq_true hc13; omega
                     have hwi : IntKind.i64.wrap (m - 1) = m - 1 := wrap_i64 Y19
                     have H := aj hwi H
                     refine rg [0, 2, 3, 7] (k := ?_)
                     refine Run.lp ⟨⟨T3.nx 65536, m - 1, (L ++ [y6]), (.tok t 1), rfl, hT3.nx 65536, Y52, Y159, Y19, .inr ⟨t, rfl, htn, Y265⟩, Y161⟩, ?_⟩
                     simp only [ivar, ivar1, go_sem, ↓reduceIte, Nat.reduceEqDiff]
                     omega
                   · refine rX (k := rB (k := rp [2, 3] (k := ?_)))
                     exact hJb0 _ _ ⟨T3, ⟨23, a, y20, y40, 0, [], L, 0, 0⟩, .nil, _, rfl, hT3, (req_okT Y82 hU (show U16 y20 from ⟨Y19, Y19⟩) (show U16 y40 from ⟨Y19, Y19⟩) zU hLo zU zU Y82 (by simp <;> omega)), (right23 Y19 Y19 Y19 (by first | omega | (simp at hr1 ⊢ <;> omega))), Y52⟩
               · refine rk (k := rB (k := ?_))
                 have hf5 : f = 17 := by simp only [decide_eq_true_eq, decide_eq_false_iff_not] at *; simp only [fnL, List.mem_cons, List.not_mem_nil, or_false] at hfm; omega
                 subst hf5
                 refine rp [2, 3] (k := ?_)
                 exact hJb0 _ _ ⟨T2, ⟨17, 0, 0, 0, 0, [], [], 0, 0⟩, .nil, .nil, rfl, hT2, (req_okT Y82 zU zU zU zU zW zU zU Y82 Y82), right17, Y52⟩
 any_goals
   refine jI 1 ?_
   have hy26b := (T2).val_bound (n := 26) Y20
   refine jO 2 ?_; rotate_left
 any_goals
   refine jI 2 ?_
   obtain ⟨y26, hy26⟩ : ∃ y, (T2).val 26 = y := ⟨_, rfl⟩
   refine jO 3 ?_; rotate_left
 any_goals
   refine jI 3 ?_
   rw [hy26] at hy26b
   refine jO 4 ?_; rotate_left
 any_goals
   refine jI 4 ?_
   have H := aj hy26 H
   refine jO 5 ?_; rotate_left
 any_goals
   refine jI 5 ?_
   refine rr (k := ro (pre := [_, _]) (k := ?_))
   refine jO 6 ?_; rotate_left
 any_goals
   refine jI 6 ?_
   refine RunO.callw au au au Y24 ((tape_Next hT2 (n := 26) hQ.tape).mono ?_)
   refine jO 7 ?_; rotate_left
 any_goals
   refine jI 7 ?_
   rintro r s9 ⟨rfl, hs⟩
   refine jO 8 ?_; rotate_left
 any_goals
   refine jI 8 ?_
   subst s9
   refine jO 9 ?_; rotate_left
 any_goals
   refine jI 9 ?_
   refine rh [2, 3] (k := rB (k := ?_))
   refine jO 10 ?_; rotate_left
 any_goals
   refine jI 10 ?_
   have hf4 : 1 ≤ f ∧ f ≤ 4 := Y51
   refine jO 11 ?_; rotate_left
 any_goals
   refine jI 11 ?_
   exact hJb0 _ _ ⟨T2.nx 26, ⟨f, a, y26, 0, 0, [], [], 0, 0⟩, .nil, .nil, rfl, hT2.nx 26, (req_okT (by simp <;> omega) hU (show U16 y26 from ⟨Y19, Y19⟩) zU zU zW zU zU Y82 Y82), (order_right Y19 Y19 Y19), Y52⟩
end Go.Proofs
namespace Go.Proofs
open Go.PM
set_option maxHeartbeats 2000000
theorem and127 {a : Int} (h : U8 a) : ibits .and .u8 a 127 = a % 128 := by
 obtain ⟨n, rfl⟩ : ∃ n : Nat, a = n := ⟨a.toNat, (Int.toNat_of_nonneg h.1).symm⟩
 have hn : n < 256 := by unfold U8 at h; omega
 have : ∀ m : Fin 256, ibits .and .u8 ((m.val : Nat) : Int) 127 = ((m.val : Nat) : Int) % 128 := by decide +kernel
 exact this ⟨n, hn⟩
end Go.Proofs
namespace Go.Proofs
open Go.PM
set_option maxHeartbeats 2000000
theorem Y110 {p : Prop} (h : p := by simp only [PV.blw, PV.blws, and_true, true_and]; exact ⟨fun t z e => Y18, blws_u8 _ _⟩) : p := h
theorem Y223 {p : Prop} (h : p := by rw [← List.map_drop, List.take_of_length_le (by rw [List.length_map, List.length_drop]; omega)]) : p := h
theorem rtu_Read {b : List Int} (hb : OkB b) (hl : b.length ≤ 140737488350000) {s : St} : ACalls Tryz.prog 38 [.sl .unk (b.map (PV.int .u8))] s (fun r s' => r = .tuple [.int .i64 (rtuF b).1.1, .sl .unk ((rtuF b).1.2.map (PV.int .u8)), .int .i64 (rtuF b).2] ∧ s' = s) := by
 refine go Tryz.func38 (k := fun hwf H => ?_)
 refine rs (k := rg [0] (k := rs (k := rr (k := ro (pre := [_]) (k := rC (h := crc_Open hb hl) (k := rh [0, 5, 6] (k := rs (k := rb (k := rs (k := rg [0, 5, 6, 12] (k := rc (ht := fun hc0 => ?_) (hf := fun hc0 => ?_))))))))))))
 refine jO 1 ?_; rotate_left
 refine rs (k := rg [5, 6, 16] (k := rc (ht := fun hc1 => ?_) (hf := fun hc1 => ?_)))
 refine jO 1 ?_; rotate_left
 refine rs (k := rg [5, 20] (k := rc (ht := fun hc2 => ?_) (hf := fun hc2 => ?_)))
 refine jO 1 ?_; rotate_left
 refine rs (k := ?_)
 obtain ⟨x, ho⟩ : ∃ x, openB b = some x := Option.isSome_iff_exists.1 (by simpa using hc2)
 have hxl : x.length = b.length - 2 := by
   unfold openB at ho
   split at ho
   · cases ho; rw [List.length_take]; omega
   · cases ho
 have hbl : 4 ≤ b.length := Y33
 have hxo := open_ok hb ho
 have hx0 : 0 < x.length := Y19
 obtain ⟨y, hy⟩ : ∃ y, x[0]? = some y := ⟨x[0], List.getElem?_eq_getElem hx0⟩
 have hyy : (x.map (PV.int .u8))[0]? = some (.int .u8 y) := by rw [List.getElem?_map, hy]; rfl
 have hxT : (0 < x.length) = True := eq_true hx0
 have hxT1 : ((1 : Int) ≤ (x.length : Int)) = True := eq_true Y19
 have hgd : (openB b).getD [] = x := by rw [ho]; rfl
 have hy8 : U8 y := hxo y (List.mem_of_getElem? hy)
 have hyw : IntKind.i64.wrap y = y := wrap_i64 (by unfold U8 at hy8; omega)
 have hh0 : hd0 x = y := by unfold hd0; rw [hy]; rfl
 have hln : ((x.length : Int) - 1).toNat = x.length - 1 := Y19
 have htk : ((x.map (PV.int .u8)).drop 1).take (x.length - 1) = (x.drop 1).map (PV.int .u8) := Y223
 have h1n : Int.toNat 1 = 1 := rfl
 have H := aj hyy (aj hxT (aj hxT1 (aj hgd (aj hyw (aj hln (aj htk (aj h1n H)))))))
 refine rg [5, 23] (k := rc (ht := fun hc3 => ?_) (hf := fun hc3 => ?_))
 refine jO 1 ?_; rotate_left
 refine rk (k := rB (k := rs (k := ?_)))
 refine Run.drawC [] [2, 3, 4] Tryz.mixed Y24 ?_
 refine DetC.pre (pre := [_, _, _, _, _, _]) au ?_
 refine DetC.call au au au Y24 (clip_u8 (xs := x.drop 1)) ?_
 refine DetC.all au ?_
 refine re (k := rR (k := ?_))
 refine jO 2 ?_; rotate_left
 any_goals
   refine jI 1 ?_
   refine rs (k := rg [2, 3, 4] (k := rR (k := ?_)))
   refine jO 2 ?_; rotate_left
 any_goals
   refine jI 2 ?_
   refine Ret.pure (r' := .tuple [.int .i64 (rtuF b).1.1, .sl .unk ((rtuF b).1.2.map (PV.int .u8)), .int .i64 (rtuF b).2]) (by simp only [Tryz.f38, go_sem, ↓reduceIte] <;> rfl) ?_ Y110 hwf Y35 ⟨rfl, rfl⟩
   refine jO 3 ?_; rotate_left
 any_goals
   refine jI 3 ?_
   simp only [PV.weak, PV.weaks, weaks_u8]
   refine jO 4 ?_; rotate_left
 any_goals
   refine jI 4 ?_
   first
     | (have e : rtuF b = ((0, []), 13) := by unfold rtuF; rw [if_pos Y86]
        rw [e]; rfl)
     | (have e : rtuF b = ((0, []), 3) := by unfold rtuF; rw [if_neg Y33, if_pos Y83]
        rw [e]; rfl)
     | (have ho : openB b = none := by cases hq : openB b with | none => rfl | some x => rw [hq] at hc2; simp at hc2
        have e : rtuF b = ((0, []), 14) := by unfold rtuF; rw [if_neg Y33, if_neg Y87, ho]
        rw [e]; rfl)
     | (have h3 : hd0 x < 1 ∨ 247 < hd0 x := by rw [hh0]; simpa using hc3
        have e : rtuF b = ((0, []), 1) := by unfold rtuF; rw [if_neg Y19, if_neg Y87, ho]; exact if_pos h3
        rw [e]; rfl)
     | (have h3 : ¬ (hd0 x < 1 ∨ 247 < hd0 x) := by rw [hh0]; simp at hc3; omega
        have e : rtuF b = ((y, x.drop 1), 0) := by unfold rtuF; rw [if_neg Y19, if_neg Y87, ho]; exact (if_neg h3).trans (by rw [hh0])
        rw [e]; first | done | simp only [weaks_u8, List.map_drop] | rfl)
theorem ref5_Read {b : List Int} (hb : OkB b) (hl : b.length ≤ 140737488350000) {s : St} : ACalls Tryz.prog 20 [.sl .unk (b.map (PV.int .u8))] s (fun r s' => r = .tuple [.int .i64 (rtuF b).1.1, .sl .unk ((rtuF b).1.2.map (PV.int .u8)), .int .i64 (rtuF b).2] ∧ s' = s) := by
 refine go Tryz.func20 (k := fun hwf H => ?_)
 refine rs (k := rg [0] (k := rs (k := rs (k := rg [0, 9] (k := rc (ht := fun hc0 => ?_) (hf := fun hc0 => ?_))))))
 refine jO 1 ?_; rotate_left
 refine rk (k := rs (k := rs (k := rg [0, 12] (k := rc (ht := fun hc1 => ?_) (hf := fun hc1 => ?_)))))
 refine jO 1 ?_; rotate_left
 refine rk (k := rs (k := rr (k := ro (pre := [_]) (k := rC (h := ref1_Unseal hb hl) (k := rh [5, 6] (k := rs (k := rs (k := rg [5, 19] (k := rc (ht := fun hc2 => ?_) (hf := fun hc2 => ?_))))))))))
 refine jO 1 ?_; rotate_left
 refine rk (k := rs (k := rs (k := ?_)))
 obtain ⟨x, ho⟩ : ∃ x, openB b = some x := Option.isSome_iff_exists.1 (by simpa using hc2)
 have hxl : x.length = b.length - 2 := by
   unfold openB at ho
   split at ho
   · cases ho; rw [List.length_take]; omega
   · cases ho
 have hbl : 4 ≤ b.length := Y33
 have hxo := open_ok hb ho
 have hx0 : 0 < x.length := Y19
 obtain ⟨y, hy⟩ : ∃ y, x[0]? = some y := ⟨x[0], List.getElem?_eq_getElem hx0⟩
 have hyy : (x.map (PV.int .u8))[0]? = some (.int .u8 y) := by rw [List.getElem?_map, hy]; rfl
 have hxT : (0 < x.length) = True := eq_true hx0
 have hxT1 : ((1 : Int) ≤ (x.length : Int)) = True := eq_true Y19
 have hgd : (openB b).getD [] = x := by rw [ho]; rfl
 have hy8 : U8 y := hxo y (List.mem_of_getElem? hy)
 have hyw : IntKind.i64.wrap y = y := wrap_i64 (by unfold U8 at hy8; omega)
 have hh0 : hd0 x = y := by unfold hd0; rw [hy]; rfl
 have hln : ((x.length : Int) - 1).toNat = x.length - 1 := Y19
 have htk : ((x.map (PV.int .u8)).drop 1).take (x.length - 1) = (x.drop 1).map (PV.int .u8) := Y223
 have h1n : Int.toNat 1 = 1 := rfl
 have H := aj hyy (aj hxT (aj hxT1 (aj hgd (aj hyw (aj hln (aj htk (aj h1n H)))))))
 refine rg [5, 29] (k := rc (ht := fun hc3 => ?_) (hf := fun hc3 => ?_))
 refine jO 1 ?_; rotate_left
 refine rk (k := rs (k := ?_))
 refine Run.drawC [] [2, 3, 4] Tryz.mixed Y24 ?_
 refine DetC.all au ?_
 refine re (k := rR (k := ?_))
 refine jO 2 ?_; rotate_left
 any_goals
   refine jI 1 ?_
   refine rs (k := rg [2, 3, 4] (k := rR (k := ?_)))
   refine jO 2 ?_; rotate_left
 any_goals
   refine jI 2 ?_
   refine Ret.pure (r' := .tuple [.int .i64 (rtuF b).1.1, .sl .unk ((rtuF b).1.2.map (PV.int .u8)), .int .i64 (rtuF b).2]) (by simp only [Tryz.f20, go_sem, ↓reduceIte] <;> rfl) ?_ Y110 hwf Y35 ⟨rfl, rfl⟩
   refine jO 3 ?_; rotate_left
 any_goals
   refine jI 3 ?_
   simp only [PV.weak, PV.weaks, weaks_u8]
   refine jO 4 ?_; rotate_left
 any_goals
   refine jI 4 ?_
   first
     | (have e : rtuF b = ((0, []), 13) := by unfold rtuF; rw [if_pos Y86]
        rw [e]; rfl)
     | (have e : rtuF b = ((0, []), 3) := by unfold rtuF; rw [if_neg Y33, if_pos Y83]
        rw [e]; rfl)
     | (have ho : openB b = none := by cases hq : openB b with | none => rfl | some x => rw [hq] at hc2; simp at hc2
        have e : rtuF b = ((0, []), 14) := by unfold rtuF; rw [if_neg Y33, if_neg Y87, ho]
        rw [e]; rfl)
     | (have h3 : hd0 x < 1 ∨ 247 < hd0 x := by rw [hh0]; simpa using hc3
        have e : rtuF b = ((0, []), 1) := by unfold rtuF; rw [if_neg Y19, if_neg Y87, ho]; exact if_pos h3
        rw [e]; rfl)
     | (have h3 : ¬ (hd0 x < 1 ∨ 247 < hd0 x) := by rw [hh0]; simp at hc3; omega
        have e : rtuF b = ((y, x.drop 1), 0) := by unfold rtuF; rw [if_neg Y19, if_neg Y87, ho]; exact (if_neg h3).trans (by rw [hh0])
        rw [e]; first | done | simp only [weaks_u8, List.map_drop] | rfl)
theorem Y111 {p : Prop} (h : p := by exact (fun i hi => by first | rfl | exact hlo i hi | (have h0 := ltn hi; have h1 := lte hi; simp only [go_sem, Nat.add_assoc, Nat.reduceAdd, ↓reduceIte, h0, h1]))) : p := h
theorem Y224 {p : Prop} (h : p := by simp only [Bool.or_eq_false_iff, decide_eq_false_iff_not] at hc0; rw [u8_wrap]; omega) : p := h
theorem Y225 {p : Prop} (h : p := by simp only [Bool.or_eq_false_iff, decide_eq_false_iff_not] at hc0; constructor <;> omega) : p := h
theorem ref5_Frame {a : Int} {b : List Int} (hb : OkB b) (hl : b.length ≤ 140737488350000) {s : St} : ACalls Tryz.prog 34 [.int .i64 a, .sl .unk (b.map (PV.int .u8))] s (fun r s' => r = .tuple [.sl .unk ((frameA a b).1.map (PV.int .u8)), .int .i64 (frameA a b).2] ∧ s' = s) := by
 refine go Tryz.func34 (k := fun hwf H => ?_)
 refine rs (k := rg [0, 1] (k := rs (k := rs (k := rg [0, 1, 11] (k := rc (ht := fun hc0 => ?_) (hf := fun hc0 => ?_))))))
 refine jO 1 ?_; rotate_left
 refine rk (k := rs (k := rs (k := rg [0, 1, 14] (k := rc (ht := fun hc1 => ?_) (hf := fun hc1 => ?_)))))
 refine jO 1 ?_; rotate_left
 refine rk (k := rs (k := rs (k := rg [0, 1, 17] (k := rc (ht := fun hc2 => ?_) (hf := fun hc2 => ?_)))))
 refine jO 1 ?_; rotate_left
 refine rk (k := rs (k := ?_))
 have haw : IntKind.u8.wrap a = a := Y224
 have hao : OkB (a :: b) := OkB.cons Y225 hb
 have H := aj haw H
 refine rr (k := ro (pre := [_, _]) (k := rO (k := ro (pre := [_]) (k := ?_))))
 refine RunO.growL (f := PV.int .u8) [a] b (a :: b) (ky := .unk) au au au rfl Tryz.td23 Y28 (fun a => ⟨rfl, Y29⟩) Y30 Y31 (fun k' S hlo hnx => ?_)
 refine rC (h := ref1_Seal (l := a :: b) hao Y196) (k := rh [4, 5] (k := rR (k := ?_)))
 refine jO 2 ?_; rotate_left
 any_goals
   refine jI 1 ?_
   refine rs (k := rg [4, 5] (k := rR (k := ?_)))
   refine jO 2 ?_; rotate_left
 any_goals
   refine jI 2 ?_
   refine Ret.pure (r' := .tuple [.sl .unk ((frameA a b).1.map (PV.int .u8)), .int .i64 (frameA a b).2]) (by simp only [Tryz.f34, go_sem, ↓reduceIte] <;> rfl) ?_ Y110 hwf Y111 ⟨rfl, rfl⟩
   refine jO 3 ?_; rotate_left
 any_goals
   refine jI 3 ?_
   simp only [PV.weak, PV.weaks, weaks_u8]
   refine jO 4 ?_; rotate_left
 any_goals
   refine jI 4 ?_
   simp only [Bool.or_eq_true, Bool.or_eq_false_iff, decide_eq_true_eq, decide_eq_false_iff_not] at *
   refine jO 5 ?_; rotate_left
 any_goals
   refine jI 5 ?_
   have hbn : b = [] ↔ (b.length : Int) = 0 := ⟨fun e => by rw [e]; rfl, fun e => List.length_eq_zero_iff.1 Y19⟩
   refine jO 6 ?_; rotate_left
 any_goals
   refine jI 6 ?_
   first
     | (have e : frameA a b = ([], 1) := by unfold frameA; rw [if_pos hc0]
        rw [e]; rfl)
     | (have e : frameA a b = ([], 13) := by unfold frameA; rw [if_neg Y19, if_pos (hbn.2 Y19)]
        rw [e]; rfl)
     | (have e : frameA a b = ([], 3) := by unfold frameA; rw [if_neg Y19, if_neg (fun h => absurd (hbn.1 h) Y19), if_pos Y19]
        rw [e]; rfl)
     | (have e : frameA a b = (sealB (a :: b), 0) := by unfold frameA; rw [if_neg Y19, if_neg (fun h => absurd (hbn.1 h) Y19), if_neg Y19]
        rw [e])
theorem rtu_Frame {a : Int} {b : List Int} (hb : OkB b) (hl : b.length ≤ 140737488350000) {s : St} : ACalls Tryz.prog 91 [.int .i64 a, .sl .unk (b.map (PV.int .u8))] s (fun r s' => r = .tuple [.sl .unk ((frameA a b).1.map (PV.int .u8)), .int .i64 (frameA a b).2] ∧ s' = s) := by
 refine go Tryz.func91 (k := fun hwf H => ?_)
 refine rs (k := rg [0, 1] (k := rs (k := rb (k := rs (k := rg [0, 1, 6] (k := rc (ht := fun hc0 => ?_) (hf := fun hc0 => ?_)))))))
 refine jO 1 ?_; rotate_left
 refine rs (k := rg [0, 1, 13] (k := rc (ht := fun hc1 => ?_) (hf := fun hc1 => ?_)))
 refine jO 1 ?_; rotate_left
 refine rs (k := rg [0, 1, 17] (k := rc (ht := fun hc2 => ?_) (hf := fun hc2 => ?_)))
 refine jO 1 ?_; rotate_left
 refine rk (k := rB (k := rs (k := ?_)))
 have haw : IntKind.u8.wrap a = a := Y224
 have hao : OkB (a :: b) := OkB.cons Y225 hb
 have H := aj haw H
 refine rr (k := ro (pre := [_, _]) (k := rO (k := ro (pre := [_]) (k := ?_))))
 refine RunO.growL (f := PV.int .u8) [a] b (a :: b) (ky := .unk) au au au rfl Tryz.td23 Y28 (fun a => ⟨rfl, Y29⟩) Y30 Y31 (fun k' S hlo hnx => ?_)
 refine rC (h := crc_Seal (l := a :: b) hao Y196) (k := rh [4, 5] (k := rR (k := ?_)))
 refine jO 2 ?_; rotate_left
 any_goals
   refine jI 1 ?_
   refine rs (k := rg [4, 5] (k := rR (k := ?_)))
   refine jO 2 ?_; rotate_left
 any_goals
   refine jI 2 ?_
   refine Ret.pure (r' := .tuple [.sl .unk ((frameA a b).1.map (PV.int .u8)), .int .i64 (frameA a b).2]) (by simp only [Tryz.f91, go_sem, ↓reduceIte] <;> rfl) ?_ Y110 hwf Y111 ⟨rfl, rfl⟩
   refine jO 3 ?_; rotate_left
 any_goals
   refine jI 3 ?_
   simp only [PV.weak, PV.weaks, weaks_u8]
   refine jO 4 ?_; rotate_left
 any_goals
   refine jI 4 ?_
   simp only [Bool.or_eq_true, Bool.or_eq_false_iff, decide_eq_true_eq, decide_eq_false_iff_not] at *
   refine jO 5 ?_; rotate_left
 any_goals
   refine jI 5 ?_
   have hbn : b = [] ↔ (b.length : Int) = 0 := ⟨fun e => by rw [e]; rfl, fun e => List.length_eq_zero_iff.1 Y19⟩
   refine jO 6 ?_; rotate_left
 any_goals
   refine jI 6 ?_
   first
     | (have e : frameA a b = ([], 1) := by unfold frameA; rw [if_pos hc0]
        rw [e]; rfl)
     | (have e : frameA a b = ([], 13) := by unfold frameA; rw [if_neg Y19, if_pos (hbn.2 Y19)]
        rw [e]; rfl)
     | (have e : frameA a b = ([], 3) := by unfold frameA; rw [if_neg Y19, if_neg (fun h => absurd (hbn.1 h) Y19), if_pos Y19]
        rw [e]; rfl)
     | (have e : frameA a b = (sealB (a :: b), 0) := by unfold frameA; rw [if_neg Y19, if_neg (fun h => absurd (hbn.1 h) Y19), if_neg Y19]
        rw [e])
attribute [local go_sem] weaks_bools Req.pv
theorem ref17_Frame {q : Req} (hq : q.ok) {s : St} : ACalls Tryz.prog 16 [q.pv] s (fun r s' => r = .sl .unk ((frameF (bytesF q)).map (PV.int .u8)) ∧ s' = s) := by
 refine go Tryz.func16 (k := fun hwf H => ?_)
 have hbo : OkB (bytesF q) := by unfold bytesF; split; exact writeF_ok hq ‹_›; exact OkB.nil
 have hbl : (bytesF q).length ≤ 140737488350000 := by
   unfold bytesF
   split
   · have := writeF_len ‹_›; omega
   · simp
 refine rs (k := rg [1] (k := rs (k := rr (k := ro (pre := [_]) (k := rC (h := ref3_Bytes hq) (k := rh [3, 4] (k := rs (k := rs (k := rg [3, 13] (k := rc (ht := fun hc0 => ?_) (hf := fun hc0 => ?_)))))))))))
 refine rs (k := rg [2] (k := rR (k := ?_)))
 refine jO 1 ?_; rotate_left
 refine rk (k := rs (k := rr (k := ro (pre := [_]) (k := rC (h := ref5_Frame (a := 17) hbo hbl) (k := rh [5] (k := rs (k := rg [2] (k := rR (k := ?_)))))))))
 refine jO 1 ?_; rotate_left
 any_goals
   refine jI 1 ?_
   refine Ret.pure (r' := .sl .unk ((frameF (bytesF q)).map (PV.int .u8))) (by simp only [Tryz.f16, go_sem, ↓reduceIte] <;> rfl) ?_ Y25 hwf Y35 ⟨rfl, rfl⟩
   refine jO 2 ?_; rotate_left
 any_goals
   refine jI 2 ?_
   simp only [PV.weak, PV.weaks, weaks_u8]
   refine jO 3 ?_; rotate_left
 any_goals
   refine jI 3 ?_
   first
     | (have h0 : ¬ rightF q = 0 := by simpa using hc0
        have e : bytesF q = [] := by unfold bytesF; rw [if_neg h0]
        rw [e]; rfl)
     | rfl
end Go.Proofs
namespace Go.Proofs
open Go.PM
set_option maxHeartbeats 2000000
def lnRow (d : Nat) (a0 a1 a2 a3 st : PV) : Blk := .row 74 [.agg [.ptr d 0 0, a0, a1, a2, a3, st]]
theorem Y226 {p : Prop} (h : p := by unfold lnRow; rfl) : p := h
theorem line_New {d : Nat} {s : St} : ACalls Tryz.prog 9 [.ptr d 0 0] s (fun r s' => r = .ptr s.nxt 0 0 ∧ s' = s.new (lnRow d (.sl .nil []) (.sl .nil []) (.sl .nil []) (.sl .nil []) (.sl .nil []))) := by
 refine go Tryz.func9 (k := fun hwf H => ?_)
 refine rs (k := rg [0] (k := rs (k := rs (k := rg [0, 4] (k := rc (ht := fun hc0 => ?_) (hf := fun hc0 => ?_))))))
 · cases hc0
 · refine rk (k := rs (k := rg [2] (k := rR (k := ?_))))
   exact Ret.all (by simp only [Tryz.f9, go_sem, ↓reduceIte] <;> rfl) ⟨rfl, Y226⟩
theorem line_NewN {s : St} : ACalls Tryz.prog 9 [.nilp] s (fun r s' => r = .nilp ∧ s' = s) := by
 refine go Tryz.func9 (k := fun hwf H => ?_)
 refine rs (k := rg [0] (k := rs (k := rs (k := rg [0, 4] (k := rc (ht := fun hc0 => ?_) (hf := fun hc0 => ?_))))))
 · refine rs (k := rg [2] (k := rR (k := rP (by simp only [Tryz.f9, go_sem]; rfl) hwf ⟨?_, rfl⟩)))
   simp [PV.weak, go_sem]
 · cases hc0
theorem line_is {t : Int} {s : St} : ACalls Tryz.prog 30 [.int .i64 t] s (fun r s' => r = .bool (decide (0 ≤ t) && decide (t < 4)) ∧ s' = s) := by
 refine go Tryz.func30 (k := fun hwf H => ?_)
 refine rs (k := rg [0] (k := rs (k := rg [2] (k := rR (k := rP (by simp only [Tryz.f30, go_sem]; rfl) hwf ⟨?_, rfl⟩)))))
 rfl
theorem line_Device {ln d : Nat} {a0 a1 a2 a3 st : PV} {s : St} (hl : s.blk ln = some (lnRow d a0 a1 a2 a3 st)) : ACalls Tryz.prog 22 [.ptr ln 0 0] s (fun r s' => r = .ptr d 0 0 ∧ s' = s) := by
 refine go Tryz.func22 (k := fun hwf H => ?_)
 unfold lnRow at hl
 have H := aj hl H
 refine rs (k := rg [0] (k := rs (k := rg [2] (k := rR (k := ?_)))))
 exact Ret.all (by simp only [Tryz.f22, go_sem, ↓reduceIte] <;> rfl) ⟨rfl, rfl⟩
theorem Y162 {p : Prop} (h : p := by
 refine rk (k := rs (k := rg [4] (k := rR (k := ?_))))
 exact Ret.all (by simp only [Tryz.f12, go_sem, ↓reduceIte, H] <;> rfl) ⟨rfl, rfl⟩) : p := h
theorem line_Left0 {ln d : Nat} {a1 a2 a3 st : PV} {k : SK} {L : List Int} {s : St} (hl : s.blk ln = some (lnRow d (.sl k (L.map (PV.int .i64))) a1 a2 a3 st)) : ACalls Tryz.prog 12 [.ptr ln 0 0, .int .i64 0] s (fun r s' => r = .int .i64 L.length ∧ s' = s) := by
 refine go Tryz.func12 (k := fun hwf H => ?_)
 unfold lnRow at hl
 have f0 : ((0 : Int) < ((4 : Nat) : Int)) = True := eq_true Y20
 have f1 : ((0 : Int) ≤ 0) = True := eq_true Y20
 have f2 : Int.toNat 0 = 0 := rfl
 have f3 : decide ((0 : Int) ≤ 0) = true := Y20
 have f4 : decide ((0 : Int) < 4) = true := Y20
 have H := aj f0 (aj f1 (aj f2 (aj f3 (aj f4 H))))
 have H := aj hl H
 refine rs (k := rg [0, 1] (k := rs (k := rs (k := rr (k := ro (pre := [_]) (k := rC (h := (line_is (t := 0))) (k := rh [0, 1, 7] (k := rc (ht := fun hc0 => ?_) (hf := fun hc0 => ?_)))))))))
 · cases hc0
 · exact Y162
theorem Y163 {p : Prop} (h : p := by rw [Tryz.cz3]; first | done | rfl) : p := h
theorem Y54 {p : Prop} (h : p := by first | exact isEls_map (P := Tryz.prog) (e := 3) (f := PV.int .i64) (fun a => ⟨rfl, Y163⟩) _ | (intro p hp; cases hp)) : p := h
theorem Y164 {p : Prop} (h : p := by intro q hq; rw [List.mem_singleton.1 hq]; exact aAppend_nilL (f := PV.int .i64) (ys := [F]) Y82 (by rw [Tryz.cz3])) : p := h
theorem Y165 {p : Prop} (h : p := by simp only [Tryz.f11, go_sem, ↓reduceIte] <;> rfl) : p := h
theorem Y227 {p : Prop} (h : p := by rw [Tryz.by3]; simp <;> omega) : p := h
theorem Y267 {p : Prop} (h : p := by rw [Tryz.by3]; decide) : p := h
theorem line_Hurt0N {ln d : Nat} {a1 a2 a3 st : PV} {F : Int} (hF : 0 ≤ F ∧ F ≤ 4) {s : St} (hl : s.blk ln = some (lnRow d (.sl .nil []) a1 a2 a3 st)) : ACalls Tryz.prog 11 [.ptr ln 0 0, .int .i64 0, .int .i64 F] s (fun r s' => r = .bool true ∧ s' = ((s.new (.tok [F].length)).set ln (some (lnRow d (.sl (.tok s.nxt 1) ([F].map (PV.int .i64))) a1 a2 a3 st)))) := by
 refine go Tryz.func11 (k := fun hwf H => ?_)
 unfold lnRow at hl
 have hlt := lt_blk hwf hl
 have f0 : ((0 : Int) < ((4 : Nat) : Int)) = True := eq_true Y20
 have f1 : ((0 : Int) ≤ 0) = True := eq_true Y20
 have f2 : Int.toNat 0 = 0 := rfl
 have f3 : decide ((0 : Int) ≤ 0) = true := Y20
 have f4 : decide ((0 : Int) < 4) = true := Y20
 have H := aj f0 (aj f1 (aj f2 (aj f3 (aj f4 H))))
 have g1 : decide (F < 0) = false := decide_eq_false Y19
 have g2 : decide (4 < F) = false := decide_eq_false Y19
 have H := aj g1 (aj g2 H)
 have g3 : decide ((1000 : Int) ≤ 0) = false := Y20
 have H := aj g3 H
 have n1 : (ln = s.nxt) = False := eq_false Y19
 have H := aj n1 H
 have H := aj hl H
 refine rs (k := rg [0, 1, 2] (k := rs (k := rs (k := rr (k := ro (pre := [_]) (k := rC (h := (line_is (t := 0))) (k := rh [0, 1, 2, 27] (k := rc (ht := fun hc0 => ?_) (hf := fun hc0 => ?_)))))))))
 · cases hc0
 · refine rk (k := rs (k := rH 15 [10, 14] [[false, false], [true, false], [true, true]] [s, (s.new (.tok [F].length)), ((s.new (.tok [F].length)).set ln (some (.row 74 [.agg [.ptr d 0 0, .sl (.tok s.nxt 1) ([F].map (PV.int .i64)), a1, a2, a3, st]])))] Tryz.mixed (k := ?_)))
   refine dP [0, 1] (pre := [_, _, _, _, _, _, _, _, _, _]) (k := ?_)
   refine DetHC.app (kx := .nil) (xs := []) (ys := [F].map (PV.int .i64)) (v := .sl (.tok s.nxt 1) ([F].map (PV.int .i64))) [(0, 1)] _ Y24 pq au au au Tryz.td27 (by rw [Tryz.zp3]; rfl) Y54 (isEls_map (P := Tryz.prog) (e := 3) (f := PV.int .i64) (fun a => ⟨rfl, Y163⟩) _) Y267 Y227 Y164 ?_
   refine dP [0, 1] (pre := [_, _, _]) (k := ?_)
   refine dE [(1, 2)] (k := ?_)
   refine DetHC.nil ?_
   refine rl [] (k := rs (k := rg [6] (k := rR (k := ?_))))
   exact Ret.all Y165 ⟨rfl, Y226⟩
theorem Y166 {p : Prop} (h : p := by intro q hq; rw [List.mem_singleton.1 hq]; exact aAppend_tokL (f := PV.int .i64) (xs := L) (ys := [F]) rfl Y82 ht rfl (by rw [Tryz.cz3])) : p := h
theorem line_Hurt0T {ln d t : Nat} {a1 a2 a3 st : PV} {L : List Int} (hL : L.length < 1000) {F : Int} (hF : 0 ≤ F ∧ F ≤ 4) {s : St} (hl : s.blk ln = some (lnRow d (.sl (.tok t 1) (L.map (PV.int .i64))) a1 a2 a3 st)) (ht : s.blk t = some (.tok L.length)) (hne : t ≠ ln) : ACalls Tryz.prog 11 [.ptr ln 0 0, .int .i64 0, .int .i64 F] s (fun r s' => r = .bool true ∧ s' = ((s.set t (some (.tok (L ++ [F]).length))).set ln (some (lnRow d (.sl (.tok t 1) ((L ++ [F]).map (PV.int .i64))) a1 a2 a3 st)))) := by
 refine go Tryz.func11 (k := fun hwf H => ?_)
 unfold lnRow at hl
 have hlt := lt_blk hwf hl
 have f0 : ((0 : Int) < ((4 : Nat) : Int)) = True := eq_true Y20
 have f1 : ((0 : Int) ≤ 0) = True := eq_true Y20
 have f2 : Int.toNat 0 = 0 := rfl
 have f3 : decide ((0 : Int) ≤ 0) = true := Y20
 have f4 : decide ((0 : Int) < 4) = true := Y20
 have H := aj f0 (aj f1 (aj f2 (aj f3 (aj f4 H))))
 have g1 : decide (F < 0) = false := decide_eq_false Y19
 have g2 : decide (4 < F) = false := decide_eq_false Y19
 have H := aj g1 (aj g2 H)
 have g3 : decide ((1000 : Int) ≤ (L.length : Int)) = false := decide_eq_false Y19
 have H := aj g3 H
 have n1 : (ln = s.nxt) = False := eq_false Y19
 have H := aj n1 H
 have n2 : (ln = t) = False := eq_false Y19
 have n3 : (t = ln) = False := eq_false hne
 have H := aj n2 (aj n3 H)
 have H := aj hl H
 refine rs (k := rg [0, 1, 2] (k := rs (k := rs (k := rr (k := ro (pre := [_]) (k := rC (h := (line_is (t := 0))) (k := rh [0, 1, 2, 27] (k := rc (ht := fun hc0 => ?_) (hf := fun hc0 => ?_)))))))))
 · cases hc0
 · refine rk (k := rs (k := rH 15 [10, 14] [[false, false], [true, false], [true, true]] [s, (s.set t (some (.tok (L ++ [F]).length))), ((s.set t (some (.tok (L ++ [F]).length))).set ln (some (.row 74 [.agg [.ptr d 0 0, .sl (.tok t 1) ((L ++ [F]).map (PV.int .i64)), a1, a2, a3, st]])))] Tryz.mixed (k := ?_)))
   refine dP [0, 1] (pre := [_, _, _, _, _, _, _, _, _, _]) (k := ?_)
   refine DetHC.app (kx := .tok t 1) (xs := L.map (PV.int .i64)) (ys := [F].map (PV.int .i64)) (v := .sl (.tok t 1) ((L ++ [F]).map (PV.int .i64))) [(0, 1)] _ Y24 pq au au au Tryz.td27 (by rw [Tryz.zp3]; rfl) Y54 (isEls_map (P := Tryz.prog) (e := 3) (f := PV.int .i64) (fun a => ⟨rfl, Y163⟩) _) Y267 Y227 Y166 ?_
   refine dP [0, 1] (pre := [_, _, _]) (k := ?_)
   refine dE [(1, 2)] (k := ?_)
   refine DetHC.nil ?_
   refine rl [] (k := rs (k := rg [6] (k := rR (k := ?_))))
   exact Ret.all Y165 ⟨rfl, Y226⟩
theorem line_take0 {ln d : Nat} {a1 a2 a3 st : PV} {k : SK} {s : St} (hl : s.blk ln = some (lnRow d (.sl k []) a1 a2 a3 st)) : ACalls Tryz.prog 37 [.ptr ln 0 0, .int .i64 0] s (fun r s' => r = .int .i64 0 ∧ s' = s) := by
 refine go Tryz.func37 (k := fun hwf H => ?_)
 unfold lnRow at hl
 have f0 : ((0 : Int) < ((4 : Nat) : Int)) = True := eq_true Y20
 have f1 : ((0 : Int) ≤ 0) = True := eq_true Y20
 have f2 : Int.toNat 0 = 0 := rfl
 have f3 : decide ((0 : Int) ≤ 0) = true := Y20
 have f4 : decide ((0 : Int) < 4) = true := Y20
 have H := aj f0 (aj f1 (aj f2 (aj f3 (aj f4 H))))
 have H := aj hl H
 refine rs (k := rg [0, 1] (k := rs (k := rs (k := rr (k := ro (pre := [_]) (k := rC (h := (line_is (t := 0))) (k := rh [0, 1, 18] (k := rc (ht := fun hc0 => ?_) (hf := fun hc0 => ?_)))))))))
 · refine rs (k := rg [4] (k := rR (k := ?_)))
   exact Ret.all (by simp only [Tryz.f37, go_sem, ↓reduceIte] <;> rfl) ⟨rfl, rfl⟩
 · cases hc0
theorem Y55 {p : Prop} (h : p := by
 refine rk (k := rs (k := rg [0, 1, 5] (k := rs (k := ?_))))
 refine Run.drawC [12] [5] Tryz.mixed Y24 ?_
 refine DetC.pre (pre := [_, _, _, _, _, _, _, _, _, _, _, _]) au ?_
 refine DetC.eff Y20 au au ?_
 refine DetC.nil ?_
 refine re (k := rs (k := rg [4] (k := rR (k := ?_))))
 exact Ret.all (by simp only [Tryz.f37, go_sem, ↓reduceIte] <;> rfl) ⟨rfl, Y226⟩) : p := h
theorem Y268 {p : Prop} (h : p := by rw [List.take_of_length_le (by rw [List.length_map]; exact Nat.le_refl _)]) : p := h
theorem line_take0T {ln d t : Nat} {a1 a2 a3 st : PV} {x : Int} {L : List Int} (hL : L.length < 1000) {s : St} (hl : s.blk ln = some (lnRow d (.sl (.tok t 1) ((x :: L).map (PV.int .i64))) a1 a2 a3 st)) : ACalls Tryz.prog 37 [.ptr ln 0 0, .int .i64 0] s (fun r s' => r = .int .i64 x ∧ s' = s.set ln (some (lnRow d (.sl .any (L.map (PV.int .i64))) a1 a2 a3 st))) := by
 refine go Tryz.func37 (k := fun hwf H => ?_)
 unfold lnRow at hl
 have hlt := lt_blk hwf hl
 have f0 : ((0 : Int) < ((4 : Nat) : Int)) = True := eq_true Y20
 have f1 : ((0 : Int) ≤ 0) = True := eq_true Y20
 have f2 : Int.toNat 0 = 0 := rfl
 have f3 : decide ((0 : Int) ≤ 0) = true := Y20
 have f4 : decide ((0 : Int) < 4) = true := Y20
 have H := aj f0 (aj f1 (aj f2 (aj f3 (aj f4 H))))
 have g0 : decide (((L.length + 1 : Nat) : Int) = 0) = false := decide_eq_false Y19
 have g1 : ((1 : Int) ≤ ((L.length + 1 : Nat) : Int)) = True := eq_true Y19
 have g2 : (((L.length + 1 : Nat) : Int) - 1).toNat = L.length := Y19
 have g3 : (L.map (PV.int .i64)).take L.length = L.map (PV.int .i64) := Y268
 have g4 : (0 < L.length + 1) = True := eq_true Y19
 have h1n : Int.toNat 1 = 1 := rfl
 have h10 : ((1 : Int) = 0) = False := eq_false Y20
 have hok : okEls 1 (PV.int .i64 x :: L.map (PV.int .i64)) = True := okEls_intK .i64 (x :: L)
 have H := aj g0 (aj g1 (aj g2 (aj g3 (aj g4 (aj h1n (aj h10 (aj hok H)))))))
 have H := aj hl H
 refine rs (k := rg [0, 1] (k := rs (k := rs (k := rr (k := ro (pre := [_]) (k := rC (h := (line_is (t := 0))) (k := rh [0, 1, 18] (k := rc (ht := fun hc0 => ?_) (hf := fun hc0 => ?_)))))))))
 · cases hc0
 · exact Y55
theorem line_take0A {ln d : Nat} {a1 a2 a3 st : PV} {x : Int} {L : List Int} (hL : L.length < 1000) {s : St} (hl : s.blk ln = some (lnRow d (.sl (.any) ((x :: L).map (PV.int .i64))) a1 a2 a3 st)) : ACalls Tryz.prog 37 [.ptr ln 0 0, .int .i64 0] s (fun r s' => r = .int .i64 x ∧ s' = s.set ln (some (lnRow d (.sl .any (L.map (PV.int .i64))) a1 a2 a3 st))) := by
 refine go Tryz.func37 (k := fun hwf H => ?_)
 unfold lnRow at hl
 have hlt := lt_blk hwf hl
 have f0 : ((0 : Int) < ((4 : Nat) : Int)) = True := eq_true Y20
 have f1 : ((0 : Int) ≤ 0) = True := eq_true Y20
 have f2 : Int.toNat 0 = 0 := rfl
 have f3 : decide ((0 : Int) ≤ 0) = true := Y20
 have f4 : decide ((0 : Int) < 4) = true := Y20
 have H := aj f0 (aj f1 (aj f2 (aj f3 (aj f4 H))))
 have g0 : decide (((L.length + 1 : Nat) : Int) = 0) = false := decide_eq_false Y19
 have g1 : ((1 : Int) ≤ ((L.length + 1 : Nat) : Int)) = True := eq_true Y19
 have g2 : (((L.length + 1 : Nat) : Int) - 1).toNat = L.length := Y19
 have g3 : (L.map (PV.int .i64)).take L.length = L.map (PV.int .i64) := Y268
 have g4 : (0 < L.length + 1) = True := eq_true Y19
 have h1n : Int.toNat 1 = 1 := rfl
 have h10 : ((1 : Int) = 0) = False := eq_false Y20
 have hok : okEls 1 (PV.int .i64 x :: L.map (PV.int .i64)) = True := okEls_intK .i64 (x :: L)
 have H := aj g0 (aj g1 (aj g2 (aj g3 (aj g4 (aj h1n (aj h10 (aj hok H)))))))
 have H := aj hl H
 refine rs (k := rg [0, 1] (k := rs (k := rs (k := rr (k := ro (pre := [_]) (k := rC (h := (line_is (t := 0))) (k := rh [0, 1, 18] (k := rc (ht := fun hc0 => ?_) (hf := fun hc0 => ?_)))))))))
 · cases hc0
 · exact Y55
theorem line_Left1 {ln d : Nat} {a0 a2 a3 st : PV} {k : SK} {L : List Int} {s : St} (hl : s.blk ln = some (lnRow d a0 (.sl k (L.map (PV.int .i64))) a2 a3 st)) : ACalls Tryz.prog 12 [.ptr ln 0 0, .int .i64 1] s (fun r s' => r = .int .i64 L.length ∧ s' = s) := by
 refine go Tryz.func12 (k := fun hwf H => ?_)
 unfold lnRow at hl
 have f0 : ((1 : Int) < ((4 : Nat) : Int)) = True := eq_true Y20
 have f1 : ((0 : Int) ≤ 1) = True := eq_true Y20
 have f2 : Int.toNat 1 = 1 := rfl
 have f3 : decide ((0 : Int) ≤ 1) = true := Y20
 have f4 : decide ((1 : Int) < 4) = true := Y20
 have H := aj f0 (aj f1 (aj f2 (aj f3 (aj f4 H))))
 have H := aj hl H
 refine rs (k := rg [0, 1] (k := rs (k := rs (k := rr (k := ro (pre := [_]) (k := rC (h := (line_is (t := 1))) (k := rh [0, 1, 7] (k := rc (ht := fun hc0 => ?_) (hf := fun hc0 => ?_)))))))))
 · cases hc0
 · exact Y162
theorem line_Hurt1N {ln d : Nat} {a0 a2 a3 st : PV} {F : Int} (hF : 0 ≤ F ∧ F ≤ 4) {s : St} (hl : s.blk ln = some (lnRow d a0 (.sl .nil []) a2 a3 st)) : ACalls Tryz.prog 11 [.ptr ln 0 0, .int .i64 1, .int .i64 F] s (fun r s' => r = .bool true ∧ s' = ((s.new (.tok [F].length)).set ln (some (lnRow d a0 (.sl (.tok s.nxt 1) ([F].map (PV.int .i64))) a2 a3 st)))) := by
 refine go Tryz.func11 (k := fun hwf H => ?_)
 unfold lnRow at hl
 have hlt := lt_blk hwf hl
 have f0 : ((1 : Int) < ((4 : Nat) : Int)) = True := eq_true Y20
 have f1 : ((0 : Int) ≤ 1) = True := eq_true Y20
 have f2 : Int.toNat 1 = 1 := rfl
 have f3 : decide ((0 : Int) ≤ 1) = true := Y20
 have f4 : decide ((1 : Int) < 4) = true := Y20
 have H := aj f0 (aj f1 (aj f2 (aj f3 (aj f4 H))))
 have g1 : decide (F < 0) = false := decide_eq_false Y19
 have g2 : decide (4 < F) = false := decide_eq_false Y19
 have H := aj g1 (aj g2 H)
 have g3 : decide ((1000 : Int) ≤ 0) = false := Y20
 have H := aj g3 H
 have n1 : (ln = s.nxt) = False := eq_false Y19
 have H := aj n1 H
 have H := aj hl H
 refine rs (k := rg [0, 1, 2] (k := rs (k := rs (k := rr (k := ro (pre := [_]) (k := rC (h := (line_is (t := 1))) (k := rh [0, 1, 2, 27] (k := rc (ht := fun hc0 => ?_) (hf := fun hc0 => ?_)))))))))
 · cases hc0
 · refine rk (k := rs (k := rH 15 [10, 14] [[false, false], [true, false], [true, true]] [s, (s.new (.tok [F].length)), ((s.new (.tok [F].length)).set ln (some (.row 74 [.agg [.ptr d 0 0, a0, .sl (.tok s.nxt 1) ([F].map (PV.int .i64)), a2, a3, st]])))] Tryz.mixed (k := ?_)))
   refine dP [0, 1] (pre := [_, _, _, _, _, _, _, _, _, _]) (k := ?_)
   refine DetHC.app (kx := .nil) (xs := []) (ys := [F].map (PV.int .i64)) (v := .sl (.tok s.nxt 1) ([F].map (PV.int .i64))) [(0, 1)] _ Y24 pq au au au Tryz.td27 (by rw [Tryz.zp3]; rfl) Y54 (isEls_map (P := Tryz.prog) (e := 3) (f := PV.int .i64) (fun a => ⟨rfl, Y163⟩) _) Y267 Y227 Y164 ?_
   refine dP [0, 1] (pre := [_, _, _]) (k := ?_)
   refine dE [(1, 2)] (k := ?_)
   refine DetHC.nil ?_
   refine rl [] (k := rs (k := rg [6] (k := rR (k := ?_))))
   exact Ret.all Y165 ⟨rfl, Y226⟩
theorem line_Hurt1T {ln d t : Nat} {a0 a2 a3 st : PV} {L : List Int} (hL : L.length < 1000) {F : Int} (hF : 0 ≤ F ∧ F ≤ 4) {s : St} (hl : s.blk ln = some (lnRow d a0 (.sl (.tok t 1) (L.map (PV.int .i64))) a2 a3 st)) (ht : s.blk t = some (.tok L.length)) (hne : t ≠ ln) : ACalls Tryz.prog 11 [.ptr ln 0 0, .int .i64 1, .int .i64 F] s (fun r s' => r = .bool true ∧ s' = ((s.set t (some (.tok (L ++ [F]).length))).set ln (some (lnRow d a0 (.sl (.tok t 1) ((L ++ [F]).map (PV.int .i64))) a2 a3 st)))) := by
 refine go Tryz.func11 (k := fun hwf H => ?_)
 unfold lnRow at hl
 have hlt := lt_blk hwf hl
 have f0 : ((1 : Int) < ((4 : Nat) : Int)) = True := eq_true Y20
 have f1 : ((0 : Int) ≤ 1) = True := eq_true Y20
 have f2 : Int.toNat 1 = 1 := rfl
 have f3 : decide ((0 : Int) ≤ 1) = true := Y20
 have f4 : decide ((1 : Int) < 4) = true := Y20
 have H := aj f0 (aj f1 (aj f2 (aj f3 (aj f4 H))))
 have g1 : decide (F < 0) = false := decide_eq_false Y19
 have g2 : decide (4 < F) = false := decide_eq_false Y19
 have H := aj g1 (aj g2 H)
 have g3 : decide ((1000 : Int) ≤ (L.length : Int)) = false := decide_eq_false Y19
 have H := aj g3 H
 have n1 : (ln = s.nxt) = False := eq_false Y19
 have H := aj n1 H
 have n2 : (ln = t) = False := eq_false Y19
 have n3 : (t = ln) = False := eq_false hne
 have H := aj n2 (aj n3 H)
 have H := aj hl H
 refine rs (k := rg [0, 1, 2] (k := rs (k := rs (k := rr (k := ro (pre := [_]) (k := rC (h := (line_is (t := 1))) (k := rh [0, 1, 2, 27] (k := rc (ht := fun hc0 => ?_) (hf := fun hc0 => ?_)))))))))
 · cases hc0
 · refine rk (k := rs (k := rH 15 [10, 14] [[false, false], [true, false], [true, true]] [s, (s.set t (some (.tok (L ++ [F]).length))), ((s.set t (some (.tok (L ++ [F]).length))).set ln (some (.row 74 [.agg [.ptr d 0 0, a0, .sl (.tok t 1) ((L ++ [F]).map (PV.int .i64)), a2, a3, st]])))] Tryz.mixed (k := ?_)))
   refine dP [0, 1] (pre := [_, _, _, _, _, _, _, _, _, _]) (k := ?_)
   refine DetHC.app (kx := .tok t 1) (xs := L.map (PV.int .i64)) (ys := [F].map (PV.int .i64)) (v := .sl (.tok t 1) ((L ++ [F]).map (PV.int .i64))) [(0, 1)] _ Y24 pq au au au Tryz.td27 (by rw [Tryz.zp3]; rfl) Y54 (isEls_map (P := Tryz.prog) (e := 3) (f := PV.int .i64) (fun a => ⟨rfl, Y163⟩) _) Y267 Y227 Y166 ?_
   refine dP [0, 1] (pre := [_, _, _]) (k := ?_)
   refine dE [(1, 2)] (k := ?_)
   refine DetHC.nil ?_
   refine rl [] (k := rs (k := rg [6] (k := rR (k := ?_))))
   exact Ret.all Y165 ⟨rfl, Y226⟩
theorem Y167 {p : Prop} (h : p := by
 refine rs (k := rg [6] (k := rR (k := rP (by simp only [Tryz.f11, go_sem]; rfl) hwf ⟨?_, rfl⟩)))
 simp [PV.weak, go_sem]) : p := h
theorem line_HurtT {ln : Nat} {s : St} : ACalls Tryz.prog 11 [.ptr ln 0 0, .int .i64 (-1), .int .i64 0] s (fun r s' => r = .bool false ∧ s' = s) := by
 refine go Tryz.func11 (k := fun hwf H => ?_)
 have f3 : decide ((0 : Int) ≤ -1) = false := Y20
 have H := aj f3 H
 refine rs (k := rg [0, 1, 2] (k := rs (k := rs (k := rr (k := ro (pre := [_]) (k := rC (h := (line_is (t := -1))) (k := ro (pre := [_, _]) (k := rg0 (k := rg0 (k := ro (pre := [_, _]) (k := rg0 (k := rg0 (k := ro (pre := [_, _]) (k := rg0 (k := rg0 (k := rg0 (k := rg0 (k := rg0 (k := rg0 (k := rg0 (k := rg0 (k := rh [0, 1, 2, 27] (k := rc (ht := fun hc0 => ?_) (hf := fun hc0 => ?_))))))))))))))))))))))))
 · exact Y167
 · cases hc0
theorem line_HurtF {ln : Nat} {s : St} : ACalls Tryz.prog 11 [.ptr ln 0 0, .int .i64 0, .int .i64 5] s (fun r s' => r = .bool false ∧ s' = s) := by
 refine go Tryz.func11 (k := fun hwf H => ?_)
 have f3 : decide ((0 : Int) ≤ 0) = true := Y20
 have f4 : decide ((0 : Int) < 4) = true := Y20
 have f5 : decide ((5 : Int) < 0) = false := Y20
 have f6 : decide ((4 : Int) < 5) = true := Y20
 have H := aj f3 (aj f4 (aj f5 (aj f6 H)))
 refine rs (k := rg [0, 1, 2] (k := rs (k := rs (k := rr (k := ro (pre := [_]) (k := rC (h := (line_is (t := 0))) (k := ro (pre := [_, _, _, _, _, _, _, _, _, _]) (k := rg0 (k := rg0 (k := rg0 (k := rg0 (k := rg0 (k := rg0 (k := rg0 (k := rg0 (k := rh [0, 1, 2, 27] (k := rc (ht := fun hc0 => ?_) (hf := fun hc0 => ?_))))))))))))))))))
 · exact Y167
 · cases hc0
theorem line_LeftN {ln : Nat} {s : St} : ACalls Tryz.prog 12 [.ptr ln 0 0, .int .i64 9] s (fun r s' => r = .int .i64 0 ∧ s' = s) := by
 refine go Tryz.func12 (k := fun hwf H => ?_)
 have f3 : decide ((0 : Int) ≤ 9) = true := Y20
 have f4 : decide ((9 : Int) < 4) = false := Y20
 have H := aj f3 (aj f4 H)
 refine rs (k := rg [0, 1] (k := rs (k := rs (k := rr (k := ro (pre := [_]) (k := rC (h := (line_is (t := 9))) (k := rh [0, 1, 7] (k := rc (ht := fun hc0 => ?_) (hf := fun hc0 => ?_)))))))))
 · refine rs (k := rg [4] (k := rR (k := rP (by simp only [Tryz.f12, go_sem]; rfl) hwf ⟨?_, rfl⟩)))
   simp [PV.weak, go_sem]
 · cases hc0
end Go.Proofs
namespace Go.Proofs
open Go.PM
set_option maxHeartbeats 2000000
theorem crc_SealO {l : List Int} (hb : OkB l) (hl : l.length + 2 ≤ 140737488355328) {s : St} : ACalls Tryz.prog 78 [.sl .unk (l.map (PV.int .u8))] s (fun r s' => r = .own s.nxt 0 (l.length + 2) ∧ s' = s.new (.row 5 ((sealB l).map (PV.int .u8)))) := by
 refine go Tryz.func78 (k := fun hwf H => ?_)
 refine rs (k := rg [0] (k := rs (k := rr (k := ro (pre := [_]) (k := ?_)))))
 refine RunO.call au au Y24 ((crc_Of hb Y19).mono ?_)
 rintro r s1 ⟨rfl, hs⟩
 subst s1
 refine rh [0, 3] (k := rs (k := rr (k := ro (pre := [_]) (k := ?_))))
 refine RunO.call au au Y24 ((clip_u8 (xs := l)).mono ?_)
 rintro r s1 ⟨rfl, hs⟩
 subst s1
 refine ro (pre := [_, _, _, _, _]) (k := rO (k := ?_))
 refine RunO.appendFirst au au au Tryz.td23 Y28 (isEls_map (P := Tryz.prog) (e := 5) (f := PV.int .u8) (fun a => ⟨rfl, Y29⟩) _) (isEls_map (P := Tryz.prog) (e := 5) (f := PV.int .u8) (fun a => ⟨rfl, Y29⟩) [_, _]) Y30 Y31 (by unfold aAppendFirst; dsimp only; rw [if_pos Y82]) ?_
 refine rh [2] (k := rR (k := ?_))
 refine Ret.all (r := .own s.nxt 0 (l.length + 2)) (by simp only [Tryz.f78, go_sem, ↓reduceIte] <;> simp) ⟨rfl, ?_⟩
 congr 2
 simp [sealB, crc_hi, crc_hi']
theorem rtu_FrameO {b : List Int} (hb : OkB b) (h1 : b ≠ []) (h2 : b.length ≤ 253) {s : St} : ACalls Tryz.prog 91 [.int .i64 17, .sl .unk (b.map (PV.int .u8))] s (fun r s' => r = .tuple [.own (s.nxt + 1) 0 (b.length + 3), .int .i64 0] ∧ s' = (s.new (.tok (17 :: b).length)).new (.row 5 ((sealB (17 :: b)).map (PV.int .u8)))) := by
 refine go Tryz.func91 (k := fun hwf H => ?_)
 have g0 : decide ((17 : Int) < 1) = false := Y20
 have g1 : decide ((247 : Int) < 17) = false := Y20
 have hp : 0 < b.length := List.length_pos_iff.2 h1
 have g2 : decide ((b.length : Int) = 0) = false := decide_eq_false Y19
 have g3 : decide ((253 : Int) < (b.length : Int)) = false := decide_eq_false Y19
 have gw : IntKind.u8.wrap 17 = 17 := Y20
 have hao : OkB (17 :: b) := OkB.cons Y21 hb
 have H := aj g0 (aj g1 (aj g2 (aj g3 (aj gw H))))
 refine rs (k := rg [0, 1] (k := rs (k := rb (k := rs (k := rg [0, 1, 6] (k := rc (ht := fun hc0 => ?_) (hf := fun hc0 => ?_)))))))
 · cases hc0
 · refine rs (k := rg [0, 1, 13] (k := rc (ht := fun hc1 => ?_) (hf := fun hc1 => ?_)))
   · cases hc1
   · refine rs (k := rg [0, 1, 17] (k := rc (ht := fun hc2 => ?_) (hf := fun hc2 => ?_)))
     · cases hc2
     · refine rk (k := rB (k := rs (k := rr (k := ro (pre := [_, _]) (k := rO (k := ro (pre := [_]) (k := ?_)))))))
       refine RunO.append (v := .sl (.tok s.nxt 1) ((17 :: b).map (PV.int .u8))) (s' := s.new (.tok (17 :: b).length)) au au au Tryz.td23 Y28 (isEls_map (P := Tryz.prog) (e := 5) (f := PV.int .u8) (fun a => ⟨rfl, Y29⟩) [_]) (isEls_map (P := Tryz.prog) (e := 5) (f := PV.int .u8) (fun a => ⟨rfl, Y29⟩) b) Y30 Y31 (by unfold aAppend; rw [if_neg (by simpa using h1), Tryz.cz5]; simp [Nat.add_comm]) ?_
       refine RunO.callw au au au Y24 ((crc_SealO (l := 17 :: b) hao Y196).mono ?_)
       rintro r s1 ⟨rfl, rfl⟩
       refine rh [4, 5] (k := rR (k := ?_))
       exact Ret.all (by simp only [Tryz.f91, go_sem, ↓reduceIte] <;> rfl) ⟨by simp [nxt_new], rfl⟩
theorem line_frame {b : List Int} (hb : OkB b) (hl : b.length ≤ 140737488350000) {s : St} : ACalls Tryz.prog 73 [.sl .unk (b.map (PV.int .u8))] s (fun r s' => r = .sl .unk ((frameF b).map (PV.int .u8)) ∧ s' = s) := by
 refine go Tryz.func73 (k := fun hwf H => ?_)
 refine rs (k := rg [0] (k := rs (k := rr (k := ro (pre := [_]) (k := rC (h := rtu_Frame (a := 17) hb hl) (k := rh [3] (k := rs (k := rg [2] (k := rR (k := ?_))))))))))
 exact Ret.all (by simp only [Tryz.f73, go_sem, ↓reduceIte] <;> rfl) ⟨rfl, rfl⟩
theorem line_frameO {b : List Int} (hb : OkB b) (h1 : b ≠ []) (h2 : b.length ≤ 253) {s : St} : ACalls Tryz.prog 73 [.sl .unk (b.map (PV.int .u8))] s (fun r s' => r = .own (s.nxt + 1) 0 (b.length + 3) ∧ s' = (s.new (.tok (17 :: b).length)).new (.row 5 ((sealB (17 :: b)).map (PV.int .u8)))) := by
 refine go Tryz.func73 (k := fun hwf H => ?_)
 refine rs (k := rg [0] (k := rs (k := rr (k := ro (pre := [_]) (k := ?_)))))
 refine RunO.callw au au au Y24 ((rtu_FrameO hb h1 h2).mono ?_)
 rintro r s1 ⟨rfl, rfl⟩
 refine rh [3] (k := rs (k := rg [2] (k := rR (k := ?_))))
 exact Ret.all (by simp only [Tryz.f73, go_sem, ↓reduceIte] <;> rfl) ⟨rfl, rfl⟩
theorem pduF_len {D : Dev} (hD : D.ok) {p : List Int} (hp : OkB p) (hpl : p.length ≤ 253) : (pduF D p).1.length ≤ 140737488350000 := by
 have h : ∀ R : Rep, (repF R).length ≤ 300 := fun R => by
   unfold repF
   split
   · exact layF_len ‹_›
   · simp
 unfold pduF
 split
 · simp
 · dsimp only
   exact Nat.le_trans (h _) Y19
theorem refuse_mod (x : Int) : refuseP x 4 = refuseP (x % 128) 4 := by
 unfold refuseP
 rw [show x % 128 % 128 = x % 128 from Y19]
theorem line_fine {ln b : Nat} {a0 a1 a2 a3 st : PV} {D : Dev} {s : St} (hl : s.blk ln = some (lnRow (b + 5) a0 a1 a2 a3 st)) (hA : DevAt b D s) (hD : D.ok) {p : List Int} (hp : OkB p) (hpl : p.length ≤ 253) : ACalls Tryz.prog 51 [.ptr ln 0 0, .sl .unk (p.map (PV.int .u8))] s (fun r s' => r = .sl .unk ((lineF 0 D p).1.map (PV.int .u8)) ∧ s' = putDev b (lineF 0 D p).2 s) := by
 refine go Tryz.func51 (k := fun hwf H => ?_)
 unfold lnRow at hl
 obtain ⟨⟨x, D'⟩, hX⟩ : ∃ Z, pduF D p = Z := ⟨_, rfl⟩
 have hxo : OkB x := by have := pduF_okB hD hp Y19; rwa [hX] at this
 have hxl : x.length ≤ 140737488350000 := by have := pduF_len hD hp hpl; rw [hX] at this; exact this
 have hpd : ∀ s, DevAt b D s → ACalls Tryz.prog 74 [.ptr (b + 5) 0 0, .sl .unk (p.map (PV.int .u8))] s (fun r s' => r = .sl .unk (x.map (PV.int .u8)) ∧ s' = putDev b D' s) := fun s hA => by
   have := device_Pdu hA hD hp (s := s) Y19
   rwa [hX] at this
 have H := aj hl H
 refine rs (k := rg [0, 1] (k := rs (k := rr (k := ro (pre := [_, _, _, _, _]) (k := ?_)))))
 refine RunO.callw au au au Y24 ((hpd _ hA).mono ?_)
 rintro r s1 ⟨rfl, rfl⟩
 refine rC (h := line_frame hxo hxl) (k := rh [4] (k := rR (k := ?_)))
 exact Ret.all (by simp only [Tryz.f51, go_sem, ↓reduceIte] <;> rfl) ⟨by show _ = PV.sl .unk ((frameF (pduF D p).1).map _); rw [hX], by show _ = putDev b (pduF D p).2 s; rw [hX]⟩
theorem line_fineO {ln b : Nat} {a0 a1 a2 a3 st : PV} {D : Dev} {s : St} (hl : s.blk ln = some (lnRow (b + 5) a0 a1 a2 a3 st)) (hA : DevAt b D s) (hD : D.ok) {p : List Int} (hp : OkB p) (hpl : p.length ≤ 253) (h1 : (pduF D p).1 ≠ []) (h2 : (pduF D p).1.length ≤ 253) : ACalls Tryz.prog 51 [.ptr ln 0 0, .sl .unk (p.map (PV.int .u8))] s (fun r s' => r = .own (s.nxt + 1) 0 ((pduF D p).1.length + 3) ∧ s' = ((putDev b (pduF D p).2 s).new (.tok (17 :: (pduF D p).1).length)).new (.row 5 ((sealB (17 :: (pduF D p).1)).map (PV.int .u8)))) := by
 refine go Tryz.func51 (k := fun hwf H => ?_)
 unfold lnRow at hl
 obtain ⟨⟨x, D'⟩, hX⟩ : ∃ Z, pduF D p = Z := ⟨_, rfl⟩
 have hxo : OkB x := by have := pduF_okB hD hp Y19; rwa [hX] at this
 have hxl : x.length ≤ 140737488350000 := by have := pduF_len hD hp hpl; rw [hX] at this; exact this
 have hpd : ∀ s, DevAt b D s → ACalls Tryz.prog 74 [.ptr (b + 5) 0 0, .sl .unk (p.map (PV.int .u8))] s (fun r s' => r = .sl .unk (x.map (PV.int .u8)) ∧ s' = putDev b D' s) := fun s hA => by
   have := device_Pdu hA hD hp (s := s) Y19
   rwa [hX] at this
 rw [hX] at h1 h2 ⊢
 have H := aj hl H
 refine rs (k := rg [0, 1] (k := rs (k := rr (k := ro (pre := [_, _, _, _, _]) (k := ?_)))))
 refine RunO.callw au au au Y24 ((hpd _ hA).mono ?_)
 rintro r s1 ⟨rfl, rfl⟩
 refine RunO.callw au au au Y24 ((line_frameO hxo h1 h2).mono ?_)
 rintro r s1 ⟨rfl, rfl⟩
 refine rh [4] (k := rR (k := ?_))
 exact Ret.all (by simp only [Tryz.f51, go_sem, ↓reduceIte] <;> rfl) ⟨rfl, rfl⟩
theorem line_lost {ln b : Nat} {a0 a1 a2 a3 st : PV} {D : Dev} {s : St} (hl : s.blk ln = some (lnRow (b + 5) a0 a1 a2 a3 st)) (hA : DevAt b D s) (hD : D.ok) {p : List Int} (hp : OkB p) (hpl : p.length ≤ 253) : ACalls Tryz.prog 52 [.ptr ln 0 0, .sl .unk (p.map (PV.int .u8))] s (fun r s' => r = .sl .unk ((lineF 1 D p).1.map (PV.int .u8)) ∧ s' = putDev b (lineF 1 D p).2 s) := by
 refine go Tryz.func52 (k := fun hwf H => ?_)
 refine rs (k := rg [] (k := rs (k := rg [4] (k := rR (k := ?_)))))
 refine Ret.pure (r' := .sl .unk []) (by simp only [Tryz.f52, go_sem, ↓reduceIte] <;> rfl) rfl Y91 hwf (fun _ _ => rfl) ⟨rfl, (putDev_self hA).symm⟩
theorem line_mute {ln b : Nat} {a0 a1 a2 a3 st : PV} {D : Dev} {s : St} (hl : s.blk ln = some (lnRow (b + 5) a0 a1 a2 a3 st)) (hA : DevAt b D s) (hD : D.ok) {p : List Int} (hp : OkB p) (hpl : p.length ≤ 253) : ACalls Tryz.prog 53 [.ptr ln 0 0, .sl .unk (p.map (PV.int .u8))] s (fun r s' => r = .sl .unk ((lineF 2 D p).1.map (PV.int .u8)) ∧ s' = putDev b (lineF 2 D p).2 s) := by
 refine go Tryz.func53 (k := fun hwf H => ?_)
 refine rs (k := rg [0, 1] (k := rs (k := rr (k := ro (pre := [_, _]) (k := ?_)))))
 refine RunO.callw au au au Y24 ((line_fine hl hA hD hp hpl).mono ?_)
 rintro r s1 ⟨rfl, rfl⟩
 refine rl [] (k := rs (k := rg [4] (k := rR (k := ?_))))
 exact Ret.dev (lineF 2 D p).2 hA (r' := .sl .unk []) (by simp only [Tryz.f53, go_sem, ↓reduceIte] <;> rfl) rfl Y91 hwf (fun _ _ => rfl) ⟨rfl, rfl⟩
attribute [local go_sem] weaks_bools Rep.pv
theorem line_refuse {ln b : Nat} {a0 a1 a2 a3 st : PV} {D : Dev} {s : St} (hl : s.blk ln = some (lnRow (b + 5) a0 a1 a2 a3 st)) (hA : DevAt b D s) (hD : D.ok) {p : List Int} (hp : OkB p) (hpl : p.length ≤ 253) (hne : p ≠ []) : ACalls Tryz.prog 55 [.ptr ln 0 0, .sl .unk (p.map (PV.int .u8))] s (fun r s' => r = .sl .unk ((lineF 4 D p).1.map (PV.int .u8)) ∧ s' = putDev b (lineF 4 D p).2 s) := by
 refine go Tryz.func55 (k := fun hwf H => ?_)
 have hll : 0 < p.length := List.length_pos_iff.2 hne
 obtain ⟨x, hx⟩ : ∃ x, p[0]? = some x := ⟨p[0], List.getElem?_eq_getElem hll⟩
 have hxx : (p.map (PV.int .u8))[0]? = some (.int .u8 x) := Y141
 have hlT : (0 < p.length) = True := eq_true hll
 have hx8 : U8 x := hp x (List.mem_of_getElem? hx)
 have hx0 : (p[0]?).getD 0 = x := by rw [hx]; rfl
 have ha127 : ibits .and .u8 x 127 = x % 128 := u8_and127 hx8
 have hw : IntKind.i64.wrap (x % 128) = x % 128 := wrap_i64 Y19
 have hx64 : I64 (x % 128) := Y206
 have h4 : I64 4 := Y21
 have hrl : (repF (refuseP (x % 128) 4)).length ≤ 140737488350000 := by
   unfold repF
   split
   · exact Nat.le_trans (layF_len ‹_›) Y19
   · simp
 have H := aj hxx (aj hlT (aj ha127 (aj hw H)))
 refine rs (k := rg [1] (k := rs (k := rr (k := ro (pre := [_, _, _, _, _]) (k := rC (h := reply_Refuse (fn := x % 128) (code := 4) hx64 h4) (k := rC (h := reply_Bytes (refuseP_ok _ _)) (k := rh [5] (k := rs (k := rr (k := ro (pre := [_]) (k := rC (h := line_frame (repF_ok (refuseP_ok _ _)) hrl) (k := rh [4] (k := rR (k := ?_))))))))))))))
 exact Ret.all (by simp only [Tryz.f55, go_sem, ↓reduceIte] <;> rfl) ⟨by show _ = PV.sl .unk ((frameF (repF (refuseP ((p[0]?).getD 0) 4))).map _); rw [hx0, refuse_mod x], (putDev_self hA).symm⟩
end Go.Proofs
namespace Go.Proofs
open Go.PM
set_option maxHeartbeats 2000000
theorem line_brokenN {ln b : Nat} {a0 a1 a2 a3 st : PV} {D : Dev} {s : St} (hl : s.blk ln = some (lnRow (b + 5) a0 a1 a2 a3 st)) (hA : DevAt b D s) (hD : D.ok) {p : List Int} (hp : OkB p) (hpl : p.length ≤ 253) (hz : frameF (pduF D p).1 = []) : ACalls Tryz.prog 54 [.ptr ln 0 0, .sl .unk (p.map (PV.int .u8))] s (fun r s' => r = .sl .unk ((lineF 3 D p).1.map (PV.int .u8)) ∧ s' = putDev b (lineF 3 D p).2 s) := by
 refine go Tryz.func54 (k := fun hwf H => ?_)
 have hz2 : (lineF 0 D p).1 = [] := hz
 have hzl : (((lineF 0 D p).1.length : Nat) : Int) = 0 := by rw [hz2]; rfl
 have H := aj hzl H
 refine rs (k := rg [0, 1] (k := rs (k := rr (k := ro (pre := [_, _]) (k := ?_)))))
 refine RunO.callw au au au Y24 ((line_fine hl hA hD hp hpl).mono ?_)
 rintro r s1 ⟨rfl, rfl⟩
 refine rh [5] (k := rs (k := rs (k := rg [5, 6] (k := rs (k := rg [5, 6, 13] (k := rc (ht := fun hc0 => ?_) (hf := fun hc0 => ?_)))))))
 · cases hc0
 · refine rk (k := rs (k := rg [4] (k := rR (k := ?_))))
   exact Ret.all (by simp only [Tryz.f54, go_sem, ↓reduceIte] <;> rfl) ⟨by rw [hz2]; show _ = PV.sl .unk ((flipL (frameF (pduF D p).1)).map _); rw [hz]; rfl, rfl⟩
attribute [local go_sem] set_set putDev_hi putDev_nxt
theorem line_brokenO {ln b : Nat} {a0 a1 a2 a3 st : PV} {D : Dev} {s : St} (hl : s.blk ln = some (lnRow (b + 5) a0 a1 a2 a3 st)) (hA : DevAt b D s) (hD : D.ok) {p : List Int} (hp : OkB p) (hpl : p.length ≤ 253) (h1 : (pduF D p).1 ≠ []) (h2 : (pduF D p).1.length ≤ 253) : ACalls Tryz.prog 54 [.ptr ln 0 0, .sl .unk (p.map (PV.int .u8))] s (fun r s' => r = .sl .unk ((lineF 3 D p).1.map (PV.int .u8)) ∧ s' = putDev b (lineF 3 D p).2 s) := by
 refine go Tryz.func54 (k := fun hwf H => ?_)
 obtain ⟨Z, hZ⟩ : ∃ Z, Z = sealB (17 :: (pduF D p).1) := ⟨_, rfl⟩
 have hZl : Z.length = (pduF D p).1.length + 3 := by rw [hZ, sealB_len, List.length_cons]
 have hlt := hA.lt hwf
 obtain ⟨m, hm⟩ : ∃ m, m + 1 = Z.length := ⟨(pduF D p).1.length + 2, Y19⟩
 have hml : m < Z.length := Y19
 obtain ⟨z, hz⟩ : ∃ z, Z[m]'hml = z := ⟨_, rfl⟩
 have hzz : (Z.map (PV.int .u8))[m]? = some (.int .u8 z) := by rw [map_get hml, hz]
 have hT1 : ((0 : Int) < (((pduF D p).1.length + 3 : Nat) : Int)) = True := eq_true Y19
 have hw : IntKind.i64.wrap ((((pduF D p).1.length + 3 : Nat) : Int) - 1) = (m : Int) := Y26
 have hmT : (m < (pduF D p).1.length + 3) = True := eq_true Y19
 have hmT2 : ((m : Int) < (((pduF D p).1.length + 3 : Nat) : Int)) = True := eq_true Y19
 have hset : (Z.map (PV.int .u8)).set m (.int .u8 (ibits .xor .u8 z 1)) = (Z.set m (ibits .xor .u8 z 1)).map (PV.int .u8) := by rw [List.map_set]
 have hfl : Z.set m (ibits .xor .u8 z 1) = flipL (frameF (pduF D p).1) := by
   rw [frameF_eq h1 h2, ← hZ]
   unfold flipL
   rw [show Z.length - 1 = m from Y19, List.getElem?_eq_getElem hml, hz]; rfl
 have H := aj hzz (aj hT1 (aj hw (aj hmT (aj hmT2 (aj hset H)))))
 refine rs (k := rg [0, 1] (k := rs (k := rr (k := ro (pre := [_, _]) (k := ?_)))))
 refine RunO.callw au au au Y24 ((line_fineO hl hA hD hp hpl h1 h2).mono ?_)
 rintro r s1 ⟨rfl, rfl⟩
 rw [← hZ]
 refine rh [5] (k := rs (k := rs (k := rg [5, 6] (k := rs (k := rg [5, 6, 13] (k := rc (ht := fun hc0 => ?_) (hf := fun hc0 => ?_)))))))
 · refine rg [5] (k := rs (k := rr (k := ?_)))
   refine RunO.thaw 5 (s.nxt + 1) 2 (v := .sl .unk ((flipL (frameF (pduF D p).1)).map (PV.int .u8))) (by simp (disch := omega) only [go_sem, ↓reduceIte]; rw [← hfl]; exact frz_own_ints (t := 5) (by rw [List.length_set]; omega) Y82 (by simp (disch := first | omega | (simp only [nxt_set, nxt_new, putDev_nxt] <;> omega) | fail) only [go_sem, putDev_nxt, ↓reduceIte, H] <;> rfl)) (by simp only [PV.blw, blws_u8T]; exact ⟨fun t z e => Y18, trivial⟩) ?_
   refine ro (pre := [_]) (k := rh [4] (k := rR (k := ?_)))
   exact Ret.dev (lineF 3 D p).2 hA (r' := .sl .unk ((flipL (frameF (pduF D p).1)).map (PV.int .u8))) (by simp only [Tryz.f54, go_sem, ↓reduceIte] <;> rfl) (by simp only [PV.weak, weaks_u8]) Y25 hwf (fun i hi => by first | rfl | (have h0 := ltn hi; have h1 := lte hi; simp (disch := first | omega | (simp only [nxt_set, nxt_new, putDev_nxt] <;> omega) | fail) only [go_sem, putDev_nxt, Nat.add_assoc, Nat.reduceAdd, ↓reduceIte, h0, h1] <;> rfl)) ⟨rfl, rfl⟩
 · cases hc0
theorem line_broken {ln b : Nat} {a0 a1 a2 a3 st : PV} {D : Dev} {s : St} (hl : s.blk ln = some (lnRow (b + 5) a0 a1 a2 a3 st)) (hA : DevAt b D s) (hD : D.ok) {p : List Int} (hp : OkB p) (hpl : p.length ≤ 253) : ACalls Tryz.prog 54 [.ptr ln 0 0, .sl .unk (p.map (PV.int .u8))] s (fun r s' => r = .sl .unk ((lineF 3 D p).1.map (PV.int .u8)) ∧ s' = putDev b (lineF 3 D p).2 s) := by
 by_cases h1 : (pduF D p).1 = []
 · exact line_brokenN hl hA hD hp hpl (by rw [h1]; rfl)
 · by_cases h2 : (pduF D p).1.length ≤ 253
   · exact line_brokenO hl hA hD hp hpl h1 h2
   · refine line_brokenN hl hA hD hp hpl ?_
     unfold frameF frameA
     rw [if_neg Y20, if_neg h1, if_pos Y19]
theorem Y112 {p : Prop} (h : p := by simp only [Tryz.f36, go_sem, ↓reduceIte] <;> rfl) : p := h
theorem Y113 {p : Prop} (h : p := by simp only [PV.blw, PV.blws, and_true]; exact hln) : p := h
theorem line_does0 {ln : Nat} {s : St} (hln : ln < s.nxt) : ACalls Tryz.prog 36 [.ptr ln 0 0, .int .i64 0] s (fun r s' => r = .fn (.func 51) [.ptr ln 0 0] [] ∧ s' = s) := by
 refine go Tryz.func36 (k := fun hwf H => ?_)
 have f0 : ((0 : Int) < ((5 : Nat) : Int)) = True := eq_true Y20
 have f1 : ((0 : Int) ≤ 0) = True := eq_true Y20
 have f2 : Int.toNat 0 = 0 := rfl
 have H := aj f0 (aj f1 (aj f2 H))
 refine rs (k := rg [0, 1] (k := rs (k := rg [1, 5] (k := rs (k := rg [4] (k := rR (k := ?_)))))))
 exact Ret.pure (r' := .fn (.func 51) [.ptr ln 0 0] []) Y112 (by rfl) Y113 hwf Y35 ⟨rfl, rfl⟩
theorem line_does1 {ln : Nat} {s : St} (hln : ln < s.nxt) : ACalls Tryz.prog 36 [.ptr ln 0 0, .int .i64 1] s (fun r s' => r = .fn (.func 52) [.ptr ln 0 0] [] ∧ s' = s) := by
 refine go Tryz.func36 (k := fun hwf H => ?_)
 have f0 : ((1 : Int) < ((5 : Nat) : Int)) = True := eq_true Y20
 have f1 : ((0 : Int) ≤ 1) = True := eq_true Y20
 have f2 : Int.toNat 1 = 1 := rfl
 have H := aj f0 (aj f1 (aj f2 H))
 refine rs (k := rg [0, 1] (k := rs (k := rg [1, 5] (k := rs (k := rg [4] (k := rR (k := ?_)))))))
 exact Ret.pure (r' := .fn (.func 52) [.ptr ln 0 0] []) Y112 (by rfl) Y113 hwf Y35 ⟨rfl, rfl⟩
theorem line_does2 {ln : Nat} {s : St} (hln : ln < s.nxt) : ACalls Tryz.prog 36 [.ptr ln 0 0, .int .i64 2] s (fun r s' => r = .fn (.func 53) [.ptr ln 0 0] [] ∧ s' = s) := by
 refine go Tryz.func36 (k := fun hwf H => ?_)
 have f0 : ((2 : Int) < ((5 : Nat) : Int)) = True := eq_true Y20
 have f1 : ((0 : Int) ≤ 2) = True := eq_true Y20
 have f2 : Int.toNat 2 = 2 := rfl
 have H := aj f0 (aj f1 (aj f2 H))
 refine rs (k := rg [0, 1] (k := rs (k := rg [1, 5] (k := rs (k := rg [4] (k := rR (k := ?_)))))))
 exact Ret.pure (r' := .fn (.func 53) [.ptr ln 0 0] []) Y112 (by rfl) Y113 hwf Y35 ⟨rfl, rfl⟩
theorem line_does3 {ln : Nat} {s : St} (hln : ln < s.nxt) : ACalls Tryz.prog 36 [.ptr ln 0 0, .int .i64 3] s (fun r s' => r = .fn (.func 54) [.ptr ln 0 0] [] ∧ s' = s) := by
 refine go Tryz.func36 (k := fun hwf H => ?_)
 have f0 : ((3 : Int) < ((5 : Nat) : Int)) = True := eq_true Y20
 have f1 : ((0 : Int) ≤ 3) = True := eq_true Y20
 have f2 : Int.toNat 3 = 3 := rfl
 have H := aj f0 (aj f1 (aj f2 H))
 refine rs (k := rg [0, 1] (k := rs (k := rg [1, 5] (k := rs (k := rg [4] (k := rR (k := ?_)))))))
 exact Ret.pure (r' := .fn (.func 54) [.ptr ln 0 0] []) Y112 (by rfl) Y113 hwf Y35 ⟨rfl, rfl⟩
theorem line_does4 {ln : Nat} {s : St} (hln : ln < s.nxt) : ACalls Tryz.prog 36 [.ptr ln 0 0, .int .i64 4] s (fun r s' => r = .fn (.func 55) [.ptr ln 0 0] [] ∧ s' = s) := by
 refine go Tryz.func36 (k := fun hwf H => ?_)
 have f0 : ((4 : Int) < ((5 : Nat) : Int)) = True := eq_true Y20
 have f1 : ((0 : Int) ≤ 4) = True := eq_true Y20
 have f2 : Int.toNat 4 = 4 := rfl
 have H := aj f0 (aj f1 (aj f2 H))
 refine rs (k := rg [0, 1] (k := rs (k := rg [1, 5] (k := rs (k := rg [4] (k := rR (k := ?_)))))))
 exact Ret.pure (r' := .fn (.func 55) [.ptr ln 0 0] []) Y112 (by rfl) Y113 hwf Y35 ⟨rfl, rfl⟩
end Go.Proofs
namespace Go.Proofs
open Go.PM
set_option maxHeartbeats 2000000
theorem Ret.allW {P : Program} {fn : Func} {args : List PV} {s0 s : St} {Q : PV → St → Prop} {e : Env} {r r' : PV} (hr : retv P fn.results.toList e s = some r) (hr' : r' = r.weak) (h : Q r' s) : Ret P fn args s0 Q e s := by
 subst hr'
 exact ⟨r, hr, r.weak, s, h, fun g0 w0 g w _ hX hI v hv => ⟨g, hI, R_weak r v hv, hX⟩⟩
structure Snt where
 tick : Int
 tenant : Int
 data : List Int
def Snt.pv (x : Snt) : PV := .agg [.int .i64 x.tick, .int .i64 x.tenant, .sl .unk (x.data.map (PV.int .u8))]
theorem line_body {f : Int} (hf : 0 ≤ f ∧ f ≤ 4) : ∃ N : Nat, (∀ {ln : Nat} {s : St}, ln < s.nxt → ACalls Tryz.prog 36 [.ptr ln 0 0, .int .i64 f] s (fun r s' => r = .fn (.func N) [.ptr ln 0 0] [] ∧ s' = s)) ∧ callable Tryz.prog N = true ∧
   ∀ {ln b : Nat} {a0 a1 a2 a3 st : PV} {D : Dev} {s : St}, s.blk ln = some (lnRow (b + 5) a0 a1 a2 a3 st) → DevAt b D s → D.ok → ∀ {p : List Int}, OkB p → p.length ≤ 253 → p ≠ [] → ACalls Tryz.prog N [.ptr ln 0 0, .sl .unk (p.map (PV.int .u8))] s (fun r s' => r = .sl .unk ((lineF f D p).1.map (PV.int .u8)) ∧ s' = putDev b (lineF f D p).2 s) := by
 obtain rfl | rfl | rfl | rfl | rfl : f = 0 ∨ f = 1 ∨ f = 2 ∨ f = 3 ∨ f = 4 := Y19
 · exact ⟨51, fun h => line_does0 h, Y24, fun hl hA hD _ hp hpl _ => line_fine hl hA hD hp hpl⟩
 · exact ⟨52, fun h => line_does1 h, Y24, fun hl hA hD _ hp hpl _ => line_lost hl hA hD hp hpl⟩
 · exact ⟨53, fun h => line_does2 h, Y24, fun hl hA hD _ hp hpl _ => line_mute hl hA hD hp hpl⟩
 · exact ⟨54, fun h => line_does3 h, Y24, fun hl hA hD _ hp hpl _ => line_broken hl hA hD hp hpl⟩
 · exact ⟨55, fun h => line_does4 h, Y24, fun hl hA hD _ hp hpl hne => line_refuse hl hA hD hp hpl hne⟩
attribute [local go_sem] set_set putDev_hi putDev_nxt
theorem Y56 {p : Prop} (h : p := by first | exact isEls_map (P := Tryz.prog) (e := 80) (f := Snt.pv) (fun a => ⟨rfl, by rw [Tryz.cz80]; first | done | rfl⟩) _ | (intro p hp; cases hp)) : p := h
theorem Y168 {p : Prop} (h : p := by simp only [Tryz.f17, go_sem, ↓reduceIte] <;> rfl) : p := h
theorem Y228 {p : Prop} (h : p := by simp only [go_sem, List.map_cons, List.map_nil, Snt.pv, ↓reduceIte, Nat.reduceEqDiff, H] <;> rfl) : p := h
set_option maxRecDepth 100000 in
theorem line_SendN {ln b : Nat} {a0 a1 a2 a3 c0 c1 c2 c3 : PV} {D : Dev} {tn tick f : Int} (hf : 0 ≤ f ∧ f ≤ 4) {fr : List Int} (hfo : OkB fr) (hfl : fr.length ≤ 140737488350000) {s : St} (hl : s.blk ln = some (lnRow (b + 5) a0 a1 a2 a3 (.sl .nil []))) (hA : DevAt b D s) (hD : D.ok) (hbl : b + 5 < ln) 
   (htake : ∀ S' : St, S'.blk ln = some (lnRow (b + 5) a0 a1 a2 a3 (.sl (.tok s.nxt 3) ([(⟨tick, tn, fr⟩ : Snt)].map Snt.pv))) → ACalls Tryz.prog 37 [.ptr ln 0 0, .int .i64 tn] S' (fun r s' => r = .int .i64 f ∧ s' = S'.set ln (some (lnRow (b + 5) c0 c1 c2 c3 (.sl (.tok s.nxt 3) ([(⟨tick, tn, fr⟩ : Snt)].map Snt.pv)))))) :
   ACalls Tryz.prog 17 [.ptr ln 0 0, .int .i64 tn, .int .i64 tick, .sl .unk (fr.map (PV.int .u8))] s (fun r s' => r = .sl .unk ((sendF f D fr).1.map (PV.int .u8)) ∧ s' = putDev b (sendF f D fr).2 ((s.new (.tok [(⟨tick, tn, fr⟩ : Snt)].length)).set ln (some (lnRow (b + 5) c0 c1 c2 c3 (.sl (.tok s.nxt 3) ([(⟨tick, tn, fr⟩ : Snt)].map Snt.pv)))))) := by
 refine go Tryz.func17 (k := fun hwf H => ?_)
 unfold lnRow at hl
 have hlt := lt_blk hwf hl
 obtain ⟨Nf, hdoes, hcal, hbody⟩ := line_body hf
 have n1 : (ln = s.nxt) = False := eq_false Y19
 have hfl2 : fr.length * 1 ≤ 140737488355328 := Y19
 have H := aj n1 H
 have hA1 : ∀ x, DevAt b D ((s.new (.tok [(⟨tick, tn, fr⟩ : Snt)].length)).set ln x) := fun x => (hA.nw (hA.lt hwf) _).sv Y19 x
 have H := aj hl H
 refine rs (k := rg [0, 1, 2, 3] (k := rs (k := rH 15 [11, 14] [[false, false], [true, false], [true, true]] [s, (s.new (.tok [(⟨tick, tn, fr⟩ : Snt)].length)), ((s.new (.tok [(⟨tick, tn, fr⟩ : Snt)].length)).set ln (some (.row 74 [.agg [.ptr (b + 5) 0 0, a0, a1, a2, a3, .sl (.tok s.nxt 3) ([(⟨tick, tn, fr⟩ : Snt)].map Snt.pv)]])))] Tryz.mixed (k := ?_))))
 refine dP [0, 1] (pre := [_, _, _, _, _, _, _, _]) (k := ?_)
 refine dC [0] (h := fun s _ => clone_u8 (xs := fr) hfl2) (k := ?_)
 refine dP [0] (pre := [_, _]) (k := ?_)
 refine DetHC.app (kx := .nil) (xs := []) (ys := [(⟨tick, tn, fr⟩ : Snt)].map Snt.pv) (v := .sl (.tok s.nxt 3) ([(⟨tick, tn, fr⟩ : Snt)].map Snt.pv)) [(0, 1)] _ Y24 pq au au Y228 Tryz.td61 (by rw [Tryz.zp80]; rfl) Y56 Y56 (by rw [Tryz.by80]; decide) (by rw [Tryz.by80]; simp <;> omega) (by intro q hq; rw [List.mem_singleton.1 hq]; exact aAppend_nilL (f := Snt.pv) (ys := [(⟨tick, tn, fr⟩ : Snt)]) Y82 (by rw [Tryz.cz80])) ?_
 refine dP [1] (pre := [_, _]) (k := ?_)
 refine dE [(1, 2)] (k := ?_)
 refine DetHC.nil ?_
 refine rl [0, 1, 3] (k := rs (k := rr (k := ro (pre := [_, _, _]) (k := ?_))))
 refine RunO.callw au au au Y24 ((htake _ (by unfold lnRow; exact blk_set_self _ _ _)).mono ?_)
 rintro r s1 ⟨rfl, rfl⟩
 refine rC (h := hdoes (by first | (simp only [nxt_set, nxt_new]; omega) | omega)) (k := rh [3, 9] (k := rs (k := rr (k := ro (pre := [_]) (k := rC (h := rtu_Read hfo hfl) (k := rh [9, 10, 11, 12] (k := rs (k := rs (k := rg [9, 11, 43] (k := rc (ht := fun hc0 => ?_) (hf := fun hc0 => ?_)))))))))))
 refine rs (k := rg [8] (k := rR (k := ?_)))
 refine jO 1 ?_; rotate_left
 refine rk (k := rs (k := ?_))
 have hrt : (rtuF fr).2 = 0 ∧ (rtuF fr).1.1 = 17 := Y89
 have hpd := rtu_pdu hrt.1
 have hso : sendF f D fr = lineF f D (rtuF fr).1.2 := if_pos hrt
 refine rr (k := ro (pre := [_, _]) (k := ?_))
 refine RunO.callw au au au hcal ((hbody (blk_set_self _ _ _) (hA1 _) hD (rtu_ok hfo) hpd.2.1 hpd.1).mono ?_)
 rintro r s1 ⟨rfl, rfl⟩
 refine rC (h := clip_u8 (xs := (lineF f D (rtuF fr).1.2).1)) (k := rh [8] (k := rR (k := ?_)))
 refine jO 1 ?_; rotate_left
 any_goals
   refine jI 1 ?_
   first
     | (have hso : sendF f D fr = ([], D) := if_neg (by rintro ⟨e1, e2⟩; rw [e1, e2] at hc0; cases hc0)
        refine Ret.allW (r' := .sl .unk []) Y168 (by rfl) ⟨by rw [hso]; rfl, ?_⟩
        rw [hso]
        exact (putDev_self (hA1 _)).symm)
     | (refine Ret.allW (r' := .sl .unk ((sendF f D fr).1.map (PV.int .u8))) Y168 ?_ ⟨rfl, ?_⟩
        · rw [hso]; simp only [PV.weak, weaks_u8]
        · rw [hso] <;> rfl)
attribute [local go_sem] set_set putDev_hi putDev_nxt
set_option maxRecDepth 100000 in
theorem line_SendT {ln b t : Nat} {a0 a1 a2 a3 c0 c1 c2 c3 : PV} {D : Dev} {tn tick f : Int} (hf : 0 ≤ f ∧ f ≤ 4) {fr : List Int} (hfo : OkB fr) (hfl : fr.length ≤ 140737488350000) {l : List Snt} (hL : l.length ≤ 100000) {s : St} (hl : s.blk ln = some (lnRow (b + 5) a0 a1 a2 a3 (.sl (.tok t 3) (l.map Snt.pv)))) (hA : DevAt b D s) (hD : D.ok) (hbl : b + 5 < ln) (ht : s.blk t = some (.tok l.length)) (hne : t ≠ ln) (hbt : b + 5 < t) 
   (htake : ∀ S' : St, S'.blk ln = some (lnRow (b + 5) a0 a1 a2 a3 (.sl (.tok t 3) ((l ++ [(⟨tick, tn, fr⟩ : Snt)]).map Snt.pv))) → ACalls Tryz.prog 37 [.ptr ln 0 0, .int .i64 tn] S' (fun r s' => r = .int .i64 f ∧ s' = S'.set ln (some (lnRow (b + 5) c0 c1 c2 c3 (.sl (.tok t 3) ((l ++ [(⟨tick, tn, fr⟩ : Snt)]).map Snt.pv)))))) :
   ACalls Tryz.prog 17 [.ptr ln 0 0, .int .i64 tn, .int .i64 tick, .sl .unk (fr.map (PV.int .u8))] s (fun r s' => r = .sl .unk ((sendF f D fr).1.map (PV.int .u8)) ∧ s' = putDev b (sendF f D fr).2 ((s.set t (some (.tok (l ++ [(⟨tick, tn, fr⟩ : Snt)]).length))).set ln (some (lnRow (b + 5) c0 c1 c2 c3 (.sl (.tok t 3) ((l ++ [(⟨tick, tn, fr⟩ : Snt)]).map Snt.pv)))))) := by
 refine go Tryz.func17 (k := fun hwf H => ?_)
 unfold lnRow at hl
 have hlt := lt_blk hwf hl
 obtain ⟨Nf, hdoes, hcal, hbody⟩ := line_body hf
 have n1 : (ln = s.nxt) = False := eq_false Y19
 have hfl2 : fr.length * 1 ≤ 140737488355328 := Y19
 have H := aj n1 H
 have htl := lt_blk hwf ht
 have n2 : (ln = t) = False := eq_false Y19
 have n3 : (t = ln) = False := eq_false Y19
 have H := aj n2 (aj n3 H)
 have hA1 : ∀ x, DevAt b D ((s.set t (some (.tok (l ++ [(⟨tick, tn, fr⟩ : Snt)]).length))).set ln x) := fun x => (hA.sv hbt _).sv Y19 x
 have H := aj hl H
 refine rs (k := rg [0, 1, 2, 3] (k := rs (k := rH 15 [11, 14] [[false, false], [true, false], [true, true]] [s, (s.set t (some (.tok (l ++ [(⟨tick, tn, fr⟩ : Snt)]).length))), ((s.set t (some (.tok (l ++ [(⟨tick, tn, fr⟩ : Snt)]).length))).set ln (some (.row 74 [.agg [.ptr (b + 5) 0 0, a0, a1, a2, a3, .sl (.tok t 3) ((l ++ [(⟨tick, tn, fr⟩ : Snt)]).map Snt.pv)]])))] Tryz.mixed (k := ?_))))
 refine dP [0, 1] (pre := [_, _, _, _, _, _, _, _]) (k := ?_)
 refine dC [0] (h := fun s _ => clone_u8 (xs := fr) hfl2) (k := ?_)
 refine dP [0] (pre := [_, _]) (k := ?_)
 refine DetHC.app (kx := .tok t 3) (xs := l.map Snt.pv) (ys := [(⟨tick, tn, fr⟩ : Snt)].map Snt.pv) (v := .sl (.tok t 3) ((l ++ [(⟨tick, tn, fr⟩ : Snt)]).map Snt.pv)) [(0, 1)] _ Y24 pq au au Y228 Tryz.td61 (by rw [Tryz.zp80]; rfl) Y56 Y56 (by rw [Tryz.by80]; decide) (by rw [Tryz.by80]; simp <;> omega) (by intro q hq; rw [List.mem_singleton.1 hq]; exact aAppend_tokL (f := Snt.pv) (xs := l) (ys := [(⟨tick, tn, fr⟩ : Snt)]) rfl Y82 ht rfl (by rw [Tryz.cz80])) ?_
 refine dP [1] (pre := [_, _]) (k := ?_)
 refine dE [(1, 2)] (k := ?_)
 refine DetHC.nil ?_
 refine rl [0, 1, 3] (k := rs (k := rr (k := ro (pre := [_, _, _]) (k := ?_))))
 refine RunO.callw au au au Y24 ((htake _ (by unfold lnRow; exact blk_set_self _ _ _)).mono ?_)
 rintro r s1 ⟨rfl, rfl⟩
 refine rC (h := hdoes (by first | (simp only [nxt_set, nxt_new]; omega) | omega)) (k := rh [3, 9] (k := rs (k := rr (k := ro (pre := [_]) (k := rC (h := rtu_Read hfo hfl) (k := rh [9, 10, 11, 12] (k := rs (k := rs (k := rg [9, 11, 43] (k := rc (ht := fun hc0 => ?_) (hf := fun hc0 => ?_)))))))))))
 refine rs (k := rg [8] (k := rR (k := ?_)))
 refine jO 1 ?_; rotate_left
 refine rk (k := rs (k := ?_))
 have hrt : (rtuF fr).2 = 0 ∧ (rtuF fr).1.1 = 17 := Y89
 have hpd := rtu_pdu hrt.1
 have hso : sendF f D fr = lineF f D (rtuF fr).1.2 := if_pos hrt
 refine rr (k := ro (pre := [_, _]) (k := ?_))
 refine RunO.callw au au au hcal ((hbody (blk_set_self _ _ _) (hA1 _) hD (rtu_ok hfo) hpd.2.1 hpd.1).mono ?_)
 rintro r s1 ⟨rfl, rfl⟩
 refine rC (h := clip_u8 (xs := (lineF f D (rtuF fr).1.2).1)) (k := rh [8] (k := rR (k := ?_)))
 refine jO 1 ?_; rotate_left
 any_goals
   refine jI 1 ?_
   first
     | (have hso : sendF f D fr = ([], D) := if_neg (by rintro ⟨e1, e2⟩; rw [e1, e2] at hc0; cases hc0)
        refine Ret.allW (r' := .sl .unk []) Y168 (by rfl) ⟨by rw [hso]; rfl, ?_⟩
        rw [hso]
        exact (putDev_self (hA1 _)).symm)
     | (refine Ret.allW (r' := .sl .unk ((sendF f D fr).1.map (PV.int .u8))) Y168 ?_ ⟨rfl, ?_⟩
        · rw [hso]; simp only [PV.weak, weaks_u8]
        · rw [hso] <;> rfl)
end Go.Proofs
namespace Go.Proofs
open Go.PM
set_option maxHeartbeats 2000000
structure ElsAt (c : Nat) (s0 s' : St) (kk : SK) (els ws : List PV) : Prop where
 wk : PV.weaks els = ws
 el : ∀ p ∈ els, p.ok = true ∧ p.cells.length = c
 fr : Fr s0 s'
 gr : Grows s' kk els.length c
 tk : ∀ t z, kk = .tok t z → s0.nxt ≤ t ∧ t < s'.nxt
theorem weaks_snocP {a b : List PV} : PV.weaks (a ++ b) = PV.weaks a ++ PV.weaks b := by
 induction a with
 | nil => rfl
 | cons x l ih => simp only [List.cons_append, PV.weaks, ih]
theorem ElsAt.snoc {c : Nat} {s0 s1 s2 s3 : St} {kk k' : SK} {els ws : List PV} {el w : PV} (h : ElsAt c s0 s1 kk els ws) (h1 : el.ok = true) (h2 : el.cells.length = c) (hw : el.weak = w) (h12 : s1.nxt ≤ s2.nxt) (f2 : Fr s0 s2)
   (hg : Grows s3 k' (els.length + [el].length) c) (htm : TMoves s2 s3 kk k') : ElsAt c s0 s3 k' (els ++ [el]) (ws ++ [w]) := by
 refine ⟨by rw [weaks_snocP, h.wk]; simp only [PV.weaks, hw], fun p hp => ?_, f2.tm htm (fun t z e => (h.tk t z e).1), by rw [List.length_append]; exact hg, fun t z e => ?_⟩
 · rcases List.mem_append.1 hp with hp | hp
   · exact h.el p hp
   · rw [List.mem_singleton.1 hp]; exact ⟨h1, h2⟩
 · have h9 := htm.nxt
   have h8 := f2.nxt
   rcases htm.fresh t z e with ⟨z', h'⟩ | ⟨h1, h2⟩
   · have := h.tk t z' h'; omega
   · omega
attribute [local go_sem] set_set
set_option maxRecDepth 100000 in
theorem line_Sent {ln d : Nat} {a0 a1 a2 a3 : PV} {k : SK} {l : List Snt} (hll : l.length ≤ 100000) (hld : ∀ x ∈ l, x.data.length ≤ 140737488350000) {s : St} (hl : s.blk ln = some (lnRow d a0 a1 a2 a3 (.sl k (l.map Snt.pv)))) : ACalls Tryz.prog 28 [.ptr ln 0 0] s (fun r s' => r = .sl .unk (l.map Snt.pv) ∧ s' = s) := by
 refine go Tryz.func28 (k := fun hwf H => ?_)
 unfold lnRow at hl
 have hlt := lt_blk hwf hl
 have n1 : (ln = s.nxt) = False := eq_false Y19
 have H := aj n1 H
 have H := aj hl H
 refine rs (k := rg [0] (k := rs (k := rr (k := ro (pre := [_, _, _, _, _]) (k := ?_)))))
 refine RunO.makeCap (n := l.length) au au au Tryz.td61 (by rw [Tryz.zp80]) Y19 (by rw [Tryz.by80]; omega) ?_
 refine rh [0, 3] (k := rs (k := rs (k := rg [3, 15, 16, 17] (k := rb (k := ?_)))))
 refine Run.loop (fun e s' => ∃ (i : Nat) (els : List PV) (kk : SK), e = [(3, .sl kk els), (15, .sl k (l.map Snt.pv)), (16, .int .i64 (l.length : Int)), (17, .int .i64 (i : Int))] ∧ i ≤ l.length ∧ els.length = i ∧ ElsAt 3 s s' kk els ((l.take i).map Snt.pv)) (fun e s' => l.length - ivar e 17) ?_ ?_
 · exact ⟨0, [], .tok s.nxt 3, rfl, Nat.zero_le _, rfl, rfl, (fun p hp => by cases hp), (Fr.refl hwf).new _, .inr (.inr ⟨s.nxt, rfl, blk_new_eq⟩), fun t z e => by cases e; exact ⟨Nat.le_refl _, Nat.lt_succ_self _⟩⟩
 rintro e s1 ⟨i, els, kk, rfl, hi, hel, hE⟩
 have hFn := hE.fr.nxt
 refine rs (k := rg [3, 15, 16, 17, 18] (k := rs (k := rc (ht := fun hc0 => ?_) (hf := fun hc0 => ?_))))
 · refine rk (k := rs (k := rb (k := rs (k := ?_))))
   have hil : i < l.length := Y86
   obtain ⟨x, hxe⟩ : ∃ z_, l[i]'hil = z_ := ⟨_, rfl⟩
   have hxx : (l.map Snt.pv)[i]? = some (.agg [.int .i64 x.tick, .int .i64 x.tenant, .sl .unk (x.data.map (PV.int .u8))]) := by rw [map_get hil, hxe]; rfl
   have hilT : (i < l.length) = True := eq_true hil
   have hxd : x.data.length ≤ 140737488350000 := hld x Y252
   have hw : IntKind.i64.wrap ((i : Int) + 1) = ((i + 1 : Nat) : Int) := Y26
   have H := aj hxx (aj hilT (aj hw H))
   refine rg [3, 5, 15, 16, 17] (k := rs (k := rr (k := ro (pre := [_, _]) (k := rC (h := clone_u8 (xs := x.data) Y19) (k := rC (h := clip_u8 (xs := x.data)) (k := rh [3, 5, 15, 16, 17] (k := rr (k := ro (pre := [_, _]) (k := rO (k := ?_))))))))))
   refine RunO.grow (xs := els) (ys := [_]) au au au Tryz.td61 (by rw [Tryz.zp80]; rfl) (by unfold isEls; rw [Tryz.cz80]; exact hE.el) (by intro p hp; rw [List.mem_singleton.1 hp, Tryz.cz80]; exact ⟨rfl, rfl⟩) (by rw [Tryz.by80]; decide) (by rw [Tryz.by80]; simp; omega) (by rw [Tryz.cz80]; exact hE.gr.mono fun t e => by have := hE.tk _ _ e; simp (disch := first | omega | (simp only [nxt_set, nxt_new] <;> omega) | fail) only [go_sem]) Y82 ?_
   intro k' s3 hgr' htm
   rw [Tryz.cz80] at hgr'
   refine rh [3, 15, 16, 17] (k := rB (k := rg [3, 15, 16, 17] (k := ?_)))
   refine Run.lp ⟨⟨i + 1, _, k', rfl, Y19, by rw [List.length_append, hel]; rfl, ?_⟩, ?_⟩
   · rw [take_get hil, hxe, List.map_append]
     exact hE.snoc rfl rfl (by simp only [PV.weak, PV.weaks, weaks_u8, Snt.pv]) (Nat.le_succ _) (hE.fr.new _) hgr' htm
   · exact Y32
 · refine rX (k := rs (k := rg [2] (k := rR (k := ?_))))
   have hi2 : i = l.length := Y33
   refine Ret.pure (r' := .sl .unk (l.map Snt.pv)) (by simp only [Tryz.f28, go_sem, ↓reduceIte] <;> rfl) (by rw [PV.weak, hE.wk, hi2, List.take_length]) (by simp only [PV.blw]; exact ⟨fun t z e => Y18, blws_map Snt.pv _ (fun a => by simp only [Snt.pv, PV.blw, PV.blws, and_true, true_and]; exact ⟨fun t z e => Y18, blws_u8 _ _⟩) _⟩) hwf hE.fr.blk ⟨rfl, rfl⟩
end Go.Proofs
namespace Go.Proofs
open Go.PM
set_option maxHeartbeats 2000000
def k17F : List Int := frameF [6, 0, 1, 0, 9]
def k17E (D : Dev) : Dev := { D.up with v1 := overF D.v1 1 [9] }
theorem k17_do {D : Dev} (h : D.c0.length = 8) : doF D (⟨6, 1, 0, 0, 0, [], [9], 0, 0⟩ : Req) = ((⟨6, 0, 1, 0, 0, [], [9], 0, 0, []⟩ : Rep), k17E D) := by
 have h1 : countF (⟨6, 1, 0, 0, 0, [], [9], 0, 0⟩ : Req) = true := Y20
 exact do_6 (D := D) (q := (⟨6, 1, 0, 0, 0, [], [9], 0, 0⟩ : Req)) h1 rfl (by rw [h]; decide)
theorem k17_ok {D : Dev} (hD : D.ok) (h : D.c0.length = 8) : (k17E D).ok ∧ (k17E D).c0.length = 8 := by
 have hq : ((⟨6, 1, 0, 0, 0, [], [9], 0, 0⟩ : Req) : Req).ok := req_okT Y20 Y21 Y21 Y21 Y21 (OkW.one Y21) Y21 Y21 Y20 Y20
 have := doF_ok hD hq
 rw [k17_do h] at this
 exact ⟨this.1, by rw [← h]; exact this.2⟩
theorem k17_pdu {D : Dev} (h : D.c0.length = 8) : pduF D [6, 0, 1, 0, 9] = ([6, 0, 1, 0, 9], k17E D) := by
 have h1 : readF [6, 0, 1, 0, 9] = ((⟨6, 1, 0, 0, 0, [], [9], 0, 0⟩ : Req), 0) := Y20
 have h2 : repF (⟨6, 0, 1, 0, 0, [], [9], 0, 0, []⟩ : Rep) = [6, 0, 1, 0, 9] := Y20
 have e : pduF D [6, 0, 1, 0, 9] = (repF (doF D (⟨6, 1, 0, 0, 0, [], [9], 0, 0⟩ : Req)).1, (doF D (⟨6, 1, 0, 0, 0, [], [9], 0, 0⟩ : Req)).2) := by
   unfold pduF
   rw [h1]
   rfl
 rw [e, k17_do h, h2]
theorem k17_rtu : rtuF k17F = ((17, [6, 0, 1, 0, 9]), 0) := rtu_frame Y20 Y20
theorem k17_send {D : Dev} (h : D.c0.length = 8) : sendF 0 D k17F = (k17F, k17E D) ∧ sendF 1 D k17F = ([], D) ∧ sendF 2 D k17F = ([], k17E D) ∧ sendF 3 D k17F = (flipL k17F, k17E D) ∧ sendF 4 D k17F = (frameF [134, 4], D) := by
 have e : ∀ f, sendF f D k17F = lineF f D [6, 0, 1, 0, 9] := fun f => by
   unfold sendF
   rw [k17_rtu]
   exact if_pos ⟨rfl, rfl⟩
 have h4 : repF (refuseP 6 4) = [134, 4] := Y20
 refine ⟨?_, ?_, ?_, ?_, ?_⟩
 · rw [e]; show (frameF (pduF D _).1, (pduF D _).2) = _; rw [k17_pdu h]; rfl
 · rw [e]; rfl
 · rw [e]; show ([], (pduF D _).2) = _; rw [k17_pdu h]
 · rw [e]; show (flipL (frameF (pduF D _).1), (pduF D _).2) = _; rw [k17_pdu h]; rfl
 · rw [e]; show (frameF (repF (refuseP 6 4)), D) = _; rw [h4]
theorem Y169 {p : Prop} (h : p := by intro x hx; simp only [List.mem_cons, List.not_mem_nil, or_false] at hx; rcases hx with rfl | rfl | rfl | rfl | rfl <;> constructor <;> decide) : p := h
theorem k17F_ok : OkB k17F ∧ k17F.length ≤ 140737488350000 := ⟨frameF_ok Y169, Nat.le_trans (frameF_len _) Y20⟩
attribute [local go_sem] set_set weaks_bools Req.pv
theorem Y57 {p : Prop} (h : p := by rw [hs]; simp (disch := first | omega | (simp only [nxt_set, nxt_new, putDev_nxt] <;> omega) | fail) only [blk_set_ne, blk_new_ne, blk_set_self, blk_new_eq, putDev_hi, putDev_lo] <;> rfl) : p := h
set_option maxRecDepth 100000 in
theorem law17_known {s : St} : ACalls Tryz.prog 13 [] s (fun r s' => r = .bool true ∧ s' = s) := by
 refine go Tryz.func13 (k := fun hwf H => ?_)
 have hq6 : ((⟨6, 1, 0, 0, 0, [], [9], 0, 0⟩ : Req)).ok := req_okT Y20 Y21 Y21 Y21 Y21 (OkW.one Y21) Y21 Y21 Y20 Y20
 have hbF : frameF (bytesF (⟨6, 1, 0, 0, 0, [], [9], 0, 0⟩ : Req)) = k17F := by
   unfold k17F
   rw [show bytesF (⟨6, 1, 0, 0, 0, [], [9], 0, 0⟩ : Req) = [6, 0, 1, 0, 9] from Y20]
 have o0 : (Dev.zero 8).ok := Dev.zero_ok Y20 Y20
 have l0 : (Dev.zero 8).c0.length = 8 := Y20
 have o1 := (k17_ok o0 l0).1
 have l1 := (k17_ok o0 l0).2
 have o2 := (k17_ok o1 l1).1
 have l2 := (k17_ok o1 l1).2
 have o3 := (k17_ok o2 l2).1
 have l3 := (k17_ok o2 l2).2
 refine rs (k := rg [] (k := rs (k := rr (k := ?_))))
 refine RunO.callw au au au Y24 ((device_New (n := 8) Y20 Y20).mono ?_)
 rintro r s1 ⟨rfl, hA0, hlo0, hnx0⟩
 refine RunO.callw au au au Y24 ((line_New).mono ?_)
 rintro r s2 ⟨rfl, hs⟩
 have hr2 : s2.blk s1.nxt = some (lnRow (s.nxt + 5) (.sl .nil []) (.sl .nil []) (.sl .nil []) (.sl .nil []) (.sl .nil [])) := Y57
 have hx2 : s2.nxt = s1.nxt + 1 := by rw [hs]; simp only [putDev_nxt, nxt_set, nxt_new]
 have hd2 : DevAt s.nxt (Dev.zero 8) s2 := by rw [hs]; exact hA0.nw Y19 _
 have hw2 : ∀ j, j < s.nxt → s2.blk j = s.blk j := fun j hj => by rw [hs]; simp (disch := first | omega | (simp only [nxt_set, nxt_new, putDev_nxt] <;> omega) | fail) only [blk_set_ne, blk_new_ne, blk_set_self, blk_new_eq, putDev_hi, putDev_lo]; exact hlo0 j hj
 clear hs
 refine rh [1] (k := rs (k := rs (k := rr (k := ro (pre := [_, _, _]) (k := ?_)))))
 refine RunO.callw au au au Y24 ((line_NewN).mono ?_)
 rintro r s9 ⟨rfl, hs⟩
 subst s9
 refine rg1 (k := ro (pre := [_, _]) (k := rg1 (k := ?_)))
 refine RunO.callw au au au Y24 ((line_Device hr2).mono ?_)
 rintro r s9 ⟨rfl, hs⟩
 subst s9
 refine rg1 (k := rh [1, 31] (k := rc (ht := fun hc0 => ?_) (hf := fun hc0 => ?_)))
 · cases hc0
 · refine rk (k := rs (k := rr (k := rO (k := ro (pre := [_]) (k := ?_)))))
   refine RunO.callw au au au Y24 ((ref17_Frame (q := (⟨6, 1, 0, 0, 0, [], [9], 0, 0⟩ : Req)) hq6).mono ?_)
   rintro r s9 ⟨rfl, hs⟩
   subst s9
   rw [hbF]
   refine rh [1, 2] (k := rs (k := rr (k := ro (pre := [_]) (k := ?_))))
   refine RunO.callw au au au Y24 ((line_Hurt0N (F := 1) Y20 hr2).mono ?_)
   rintro r s3 ⟨rfl, hs⟩
   rw [hx2] at hs
   have hr3 : s3.blk s1.nxt = some (lnRow (s.nxt + 5) (.sl (.tok (s1.nxt + 1) 1) (([1] : List Int).map (PV.int .i64))) (.sl .nil []) (.sl .nil []) (.sl .nil []) (.sl .nil [])) := Y57
   have hx3 : s3.nxt = s1.nxt + 2 := by rw [hs]; simp only [putDev_nxt, nxt_set, nxt_new, hx2]
   have hd3 : DevAt s.nxt (Dev.zero 8) s3 := by rw [hs]; exact (hd2.nw Y19 _).sv Y19 _
   have hw3 : ∀ j, j < s.nxt → s3.blk j = s.blk j := fun j hj => by rw [hs]; simp (disch := first | omega | (simp only [nxt_set, nxt_new, putDev_nxt] <;> omega) | fail) only [blk_set_ne, blk_new_ne, blk_set_self, blk_new_eq, putDev_hi, putDev_lo]; exact hw2 j hj
   have h03 : s3.blk (s1.nxt + 1) = some (.tok 1) := by
     rw [hs, blk_set_ne Y19]
     show (if s1.nxt + 1 = s2.nxt then _ else _) = _
     rw [if_pos hx2.symm]; rfl
   clear hs
   refine ro (pre := [_]) (k := rg1 (k := ?_))
   refine RunO.callw au au au Y24 ((line_Hurt0T (F := 2) (L := [1]) (t := s1.nxt + 1) Y20 Y20 hr3 h03 Y19).mono ?_)
   rintro r s4 ⟨rfl, hs⟩
   have hr4 : s4.blk s1.nxt = some (lnRow (s.nxt + 5) (.sl (.tok (s1.nxt + 1) 1) (([1, 2] : List Int).map (PV.int .i64))) (.sl .nil []) (.sl .nil []) (.sl .nil []) (.sl .nil [])) := Y57
   have hx4 : s4.nxt = s1.nxt + 2 := by rw [hs]; simp only [putDev_nxt, nxt_set, nxt_new, hx3]
   have hd4 : DevAt s.nxt (Dev.zero 8) s4 := by rw [hs]; exact (hd3.sv Y19 _).sv Y19 _
   have hw4 : ∀ j, j < s.nxt → s4.blk j = s.blk j := fun j hj => by rw [hs]; simp (disch := first | omega | (simp only [nxt_set, nxt_new, putDev_nxt] <;> omega) | fail) only [blk_set_ne, blk_new_ne, blk_set_self, blk_new_eq, putDev_hi, putDev_lo]; exact hw3 j hj
   have h04 : s4.blk (s1.nxt + 1) = some (.tok 2) := by rw [hs]; simp (disch := first | omega | (simp only [nxt_set, nxt_new, putDev_nxt] <;> omega) | fail) only [blk_set_ne, blk_new_ne, blk_set_self, blk_new_eq, putDev_hi, putDev_lo] <;> first | done | rfl | exact h03
   clear hs
   refine ro (pre := [_, _]) (k := rg1 (k := ?_))
   refine RunO.callw au au au Y24 ((line_Hurt0T (F := 3) (L := [1, 2]) (t := s1.nxt + 1) Y20 Y20 hr4 h04 Y19).mono ?_)
   rintro r s5 ⟨rfl, hs⟩
   have hr5 : s5.blk s1.nxt = some (lnRow (s.nxt + 5) (.sl (.tok (s1.nxt + 1) 1) (([1, 2, 3] : List Int).map (PV.int .i64))) (.sl .nil []) (.sl .nil []) (.sl .nil []) (.sl .nil [])) := Y57
   have hx5 : s5.nxt = s1.nxt + 2 := by rw [hs]; simp only [putDev_nxt, nxt_set, nxt_new, hx4]
   have hd5 : DevAt s.nxt (Dev.zero 8) s5 := by rw [hs]; exact (hd4.sv Y19 _).sv Y19 _
   have hw5 : ∀ j, j < s.nxt → s5.blk j = s.blk j := fun j hj => by rw [hs]; simp (disch := first | omega | (simp only [nxt_set, nxt_new, putDev_nxt] <;> omega) | fail) only [blk_set_ne, blk_new_ne, blk_set_self, blk_new_eq, putDev_hi, putDev_lo]; exact hw4 j hj
   have h05 : s5.blk (s1.nxt + 1) = some (.tok 3) := by rw [hs]; simp (disch := first | omega | (simp only [nxt_set, nxt_new, putDev_nxt] <;> omega) | fail) only [blk_set_ne, blk_new_ne, blk_set_self, blk_new_eq, putDev_hi, putDev_lo] <;> first | done | rfl | exact h04
   clear hs
   refine ro (pre := [_, _]) (k := rg1 (k := ?_))
   refine RunO.callw au au au Y24 ((line_Hurt0T (F := 4) (L := [1, 2, 3]) (t := s1.nxt + 1) Y20 Y20 hr5 h05 Y19).mono ?_)
   rintro r s6 ⟨rfl, hs⟩
   have hr6 : s6.blk s1.nxt = some (lnRow (s.nxt + 5) (.sl (.tok (s1.nxt + 1) 1) (([1, 2, 3, 4] : List Int).map (PV.int .i64))) (.sl .nil []) (.sl .nil []) (.sl .nil []) (.sl .nil [])) := Y57
   have hx6 : s6.nxt = s1.nxt + 2 := by rw [hs]; simp only [putDev_nxt, nxt_set, nxt_new, hx5]
   have hd6 : DevAt s.nxt (Dev.zero 8) s6 := by rw [hs]; exact (hd5.sv Y19 _).sv Y19 _
   have hw6 : ∀ j, j < s.nxt → s6.blk j = s.blk j := fun j hj => by rw [hs]; simp (disch := first | omega | (simp only [nxt_set, nxt_new, putDev_nxt] <;> omega) | fail) only [blk_set_ne, blk_new_ne, blk_set_self, blk_new_eq, putDev_hi, putDev_lo]; exact hw5 j hj
   have h06 : s6.blk (s1.nxt + 1) = some (.tok 4) := by rw [hs]; simp (disch := first | omega | (simp only [nxt_set, nxt_new, putDev_nxt] <;> omega) | fail) only [blk_set_ne, blk_new_ne, blk_set_self, blk_new_eq, putDev_hi, putDev_lo] <;> first | done | rfl | exact h05
   clear hs
   refine ro (pre := [_, _]) (k := rg1 (k := ?_))
   refine RunO.callw au au au Y24 ((line_HurtT).mono ?_)
   rintro r s9 ⟨rfl, hs⟩
   subst s9
   refine rg1 (k := ro (pre := [_, _]) (k := rg1 (k := ?_)))
   refine RunO.callw au au au Y24 ((line_HurtF).mono ?_)
   rintro r s9 ⟨rfl, hs⟩
   subst s9
   refine rg1 (k := rh [1, 2, 3] (k := rs (k := rr (k := ro (pre := [_]) (k := ?_)))))
   refine RunO.callw au au au Y24 ((line_Left0 (L := [1, 2, 3, 4]) hr6).mono ?_)
   rintro r s9 ⟨rfl, hs⟩
   subst s9
   refine rh [1, 2, 3, 4] (k := rs (k := rr (k := ro (pre := [_, _]) (k := ?_))))
   refine RunO.callw au au au Y24 ((line_SendN (c0 := .sl .any (([2, 3, 4] : List Int).map (PV.int .i64))) (c1 := .sl .nil []) (c2 := .sl .nil []) (c3 := .sl .nil []) (f := 1) Y20 (tn := 0) (tick := 1) k17F_ok.1 k17F_ok.2 hr6 hd6 o0 Y19 (fun S h => line_take0T (x := 1) (L := [2, 3, 4]) Y20 h)).mono ?_)
   rintro r s7 ⟨rfl, hs⟩
   rw [(k17_send l0).2.1] at hs ⊢
   rw [hx6] at hs
   have hr7 : s7.blk s1.nxt = some (lnRow (s.nxt + 5) (.sl .any (([2, 3, 4] : List Int).map (PV.int .i64))) (.sl .nil []) (.sl .nil []) (.sl .nil []) (.sl (.tok (s1.nxt + 2) 3) (([⟨1, 0, k17F⟩] : List Snt).map Snt.pv))) := Y57
   have hx7 : s7.nxt = s1.nxt + 3 := by rw [hs]; simp only [putDev_nxt, nxt_set, nxt_new, hx6]
   have hd7 : DevAt s.nxt (Dev.zero 8) s7 := by rw [hs]; exact DevAt.put ((hd6.nw Y19 _).sv Y19 _) (l0.trans l0.symm)
   have hw7 : ∀ j, j < s.nxt → s7.blk j = s.blk j := fun j hj => by rw [hs]; simp (disch := first | omega | (simp only [nxt_set, nxt_new, putDev_nxt] <;> omega) | fail) only [blk_set_ne, blk_new_ne, blk_set_self, blk_new_eq, putDev_hi, putDev_lo]; exact hw6 j hj
   have h17 : s7.blk (s1.nxt + 2) = some (.tok 1) := by
     rw [hs, putDev_hi Y19, blk_set_ne Y19]
     show (if s1.nxt + 2 = s6.nxt then _ else _) = _
     rw [if_pos hx6.symm]; rfl
   clear hs
   refine ro (pre := [_, _]) (k := ?_)
   refine RunO.callw au au au Y24 ((line_SendT (c0 := .sl .any (([3, 4] : List Int).map (PV.int .i64))) (c1 := .sl .nil []) (c2 := .sl .nil []) (c3 := .sl .nil []) (f := 2) (l := [⟨1, 0, k17F⟩]) (t := s1.nxt + 2) Y20 (tn := 0) (tick := 2) k17F_ok.1 k17F_ok.2 Y20 hr7 hd7 o0 Y19 h17 Y19 Y19 (fun S h => line_take0A (x := 2) (L := [3, 4]) Y20 h)).mono ?_)
   rintro r s8 ⟨rfl, hs⟩
   rw [(k17_send l0).2.2.1] at hs ⊢
   have hr8 : s8.blk s1.nxt = some (lnRow (s.nxt + 5) (.sl .any (([3, 4] : List Int).map (PV.int .i64))) (.sl .nil []) (.sl .nil []) (.sl .nil []) (.sl (.tok (s1.nxt + 2) 3) (([⟨1, 0, k17F⟩, ⟨2, 0, k17F⟩] : List Snt).map Snt.pv))) := Y57
   have hx8 : s8.nxt = s1.nxt + 3 := by rw [hs]; simp only [putDev_nxt, nxt_set, nxt_new, hx7]
   have hd8 : DevAt s.nxt (k17E (Dev.zero 8)) s8 := by rw [hs]; exact DevAt.put ((hd7.sv Y19 _).sv Y19 _) (l1.trans l0.symm)
   have hw8 : ∀ j, j < s.nxt → s8.blk j = s.blk j := fun j hj => by rw [hs]; simp (disch := first | omega | (simp only [nxt_set, nxt_new, putDev_nxt] <;> omega) | fail) only [blk_set_ne, blk_new_ne, blk_set_self, blk_new_eq, putDev_hi, putDev_lo]; exact hw7 j hj
   have h18 : s8.blk (s1.nxt + 2) = some (.tok 2) := by rw [hs]; simp (disch := first | omega | (simp only [nxt_set, nxt_new, putDev_nxt] <;> omega) | fail) only [blk_set_ne, blk_new_ne, blk_set_self, blk_new_eq, putDev_hi, putDev_lo] <;> first | done | rfl | exact h17
   clear hs
   refine ro (pre := [_, _]) (k := ?_)
   refine RunO.callw au au au Y24 ((line_SendT (c0 := .sl .any (([4] : List Int).map (PV.int .i64))) (c1 := .sl .nil []) (c2 := .sl .nil []) (c3 := .sl .nil []) (f := 3) (l := [⟨1, 0, k17F⟩, ⟨2, 0, k17F⟩]) (t := s1.nxt + 2) Y20 (tn := 0) (tick := 3) k17F_ok.1 k17F_ok.2 Y20 hr8 hd8 o1 Y19 h18 Y19 Y19 (fun S h => line_take0A (x := 3) (L := [4]) Y20 h)).mono ?_)
   rintro r s9 ⟨rfl, hs⟩
   rw [(k17_send l1).2.2.2.1] at hs ⊢
   have hr9 : s9.blk s1.nxt = some (lnRow (s.nxt + 5) (.sl .any (([4] : List Int).map (PV.int .i64))) (.sl .nil []) (.sl .nil []) (.sl .nil []) (.sl (.tok (s1.nxt + 2) 3) (([⟨1, 0, k17F⟩, ⟨2, 0, k17F⟩, ⟨3, 0, k17F⟩] : List Snt).map Snt.pv))) := Y57
   have hx9 : s9.nxt = s1.nxt + 3 := by rw [hs]; simp only [putDev_nxt, nxt_set, nxt_new, hx8]
   have hd9 : DevAt s.nxt (k17E (k17E (Dev.zero 8))) s9 := by rw [hs]; exact DevAt.put ((hd8.sv Y19 _).sv Y19 _) (l2.trans l1.symm)
   have hw9 : ∀ j, j < s.nxt → s9.blk j = s.blk j := fun j hj => by rw [hs]; simp (disch := first | omega | (simp only [nxt_set, nxt_new, putDev_nxt] <;> omega) | fail) only [blk_set_ne, blk_new_ne, blk_set_self, blk_new_eq, putDev_hi, putDev_lo]; exact hw8 j hj
   have h19 : s9.blk (s1.nxt + 2) = some (.tok 3) := by rw [hs]; simp (disch := first | omega | (simp only [nxt_set, nxt_new, putDev_nxt] <;> omega) | fail) only [blk_set_ne, blk_new_ne, blk_set_self, blk_new_eq, putDev_hi, putDev_lo] <;> first | done | rfl | exact h18
   clear hs
   refine ro (pre := [_, _]) (k := ?_)
   refine RunO.callw au au au Y24 ((line_SendT (c0 := .sl .any []) (c1 := .sl .nil []) (c2 := .sl .nil []) (c3 := .sl .nil []) (f := 4) (l := [⟨1, 0, k17F⟩, ⟨2, 0, k17F⟩, ⟨3, 0, k17F⟩]) (t := s1.nxt + 2) Y20 (tn := 0) (tick := 4) k17F_ok.1 k17F_ok.2 Y20 hr9 hd9 o2 Y19 h19 Y19 Y19 (fun S h => line_take0A (x := 4) (L := []) Y20 h)).mono ?_)
   rintro r s10 ⟨rfl, hs⟩
   rw [(k17_send l2).2.2.2.2] at hs ⊢
   have hr10 : s10.blk s1.nxt = some (lnRow (s.nxt + 5) (.sl .any []) (.sl .nil []) (.sl .nil []) (.sl .nil []) (.sl (.tok (s1.nxt + 2) 3) (([⟨1, 0, k17F⟩, ⟨2, 0, k17F⟩, ⟨3, 0, k17F⟩, ⟨4, 0, k17F⟩] : List Snt).map Snt.pv))) := Y57
   have hx10 : s10.nxt = s1.nxt + 3 := by rw [hs]; simp only [putDev_nxt, nxt_set, nxt_new, hx9]
   have hd10 : DevAt s.nxt (k17E (k17E (Dev.zero 8))) s10 := by rw [hs]; exact DevAt.put ((hd9.sv Y19 _).sv Y19 _) (l2.trans l2.symm)
   have hw10 : ∀ j, j < s.nxt → s10.blk j = s.blk j := fun j hj => by rw [hs]; simp (disch := first | omega | (simp only [nxt_set, nxt_new, putDev_nxt] <;> omega) | fail) only [blk_set_ne, blk_new_ne, blk_set_self, blk_new_eq, putDev_hi, putDev_lo]; exact hw9 j hj
   have h110 : s10.blk (s1.nxt + 2) = some (.tok 4) := by rw [hs]; simp (disch := first | omega | (simp only [nxt_set, nxt_new, putDev_nxt] <;> omega) | fail) only [blk_set_ne, blk_new_ne, blk_set_self, blk_new_eq, putDev_hi, putDev_lo] <;> first | done | rfl | exact h19
   clear hs
   refine ro (pre := [_, _]) (k := ?_)
   refine RunO.callw au au au Y24 ((line_SendT (c0 := .sl .any []) (c1 := .sl .nil []) (c2 := .sl .nil []) (c3 := .sl .nil []) (f := 0) (l := [⟨1, 0, k17F⟩, ⟨2, 0, k17F⟩, ⟨3, 0, k17F⟩, ⟨4, 0, k17F⟩]) (t := s1.nxt + 2) Y20 (tn := 0) (tick := 5) k17F_ok.1 k17F_ok.2 Y20 hr10 hd10 o2 Y19 h110 Y19 Y19 (fun S h => by
       have h2 := line_take0 (k := .any) h
       have e : S.set s1.nxt (S.blk s1.nxt) = S := St.eq_of rfl fun j => by (rw [blk_set]; split <;> first | rfl | (rename_i e; rw [e]))
       rw [h] at e
       rw [show some (lnRow (s.nxt + 5) _ _ _ _ _) = _ from rfl] at e
       rw [e]; exact h2)).mono ?_)
   rintro r s11 ⟨rfl, hs⟩
   rw [(k17_send l2).1] at hs ⊢
   have hr11 : s11.blk s1.nxt = some (lnRow (s.nxt + 5) (.sl .any []) (.sl .nil []) (.sl .nil []) (.sl .nil []) (.sl (.tok (s1.nxt + 2) 3) (([⟨1, 0, k17F⟩, ⟨2, 0, k17F⟩, ⟨3, 0, k17F⟩, ⟨4, 0, k17F⟩, ⟨5, 0, k17F⟩] : List Snt).map Snt.pv))) := Y57
   have hx11 : s11.nxt = s1.nxt + 3 := by rw [hs]; simp only [putDev_nxt, nxt_set, nxt_new, hx10]
   have hd11 : DevAt s.nxt (k17E (k17E (k17E (Dev.zero 8)))) s11 := by rw [hs]; exact DevAt.put ((hd10.sv Y19 _).sv Y19 _) (l3.trans l2.symm)
   have hw11 : ∀ j, j < s.nxt → s11.blk j = s.blk j := fun j hj => by rw [hs]; simp (disch := first | omega | (simp only [nxt_set, nxt_new, putDev_nxt] <;> omega) | fail) only [blk_set_ne, blk_new_ne, blk_set_self, blk_new_eq, putDev_hi, putDev_lo]; exact hw10 j hj
   have h111 : s11.blk (s1.nxt + 2) = some (.tok 5) := by rw [hs]; simp (disch := first | omega | (simp only [nxt_set, nxt_new, putDev_nxt] <;> omega) | fail) only [blk_set_ne, blk_new_ne, blk_set_self, blk_new_eq, putDev_hi, putDev_lo] <;> first | done | rfl | exact h110
   clear hs
   refine rh [1, 2, 3, 4, 5, 6, 7, 8, 9] (k := rs (k := rr (k := ro (pre := [_]) (k := ?_))))
   refine RunO.callw au au au Y24 ((ref5_Read (b := flipL k17F) (flip_ok k17F_ok.1) (by rw [flip_len]; exact k17F_ok.2)).mono ?_)
   rintro r s9 ⟨rfl, hs⟩
   subst s9
   rw [show rtuF (flipL k17F) = ((0, []), 14) from rtu_broken Y169 Y20 Y20]
   refine rh [1, 2, 3, 4, 5, 6, 8, 9, 12] (k := rs (k := rr (k := ro (pre := [_]) (k := ?_))))
   refine RunO.callw au au au Y24 ((ref5_Read (b := frameF [134, 4]) (frameF_ok (by intro x hx; simp only [List.mem_cons, List.not_mem_nil, or_false] at hx; rcases hx with rfl | rfl <;> constructor <;> decide)) (Nat.le_trans (frameF_len _) Y20)).mono ?_)
   rintro r s9 ⟨rfl, hs⟩
   subst s9
   rw [show rtuF (frameF [134, 4]) = ((17, [134, 4]), 0) from rtu_frame Y20 Y20]
   refine rh [1, 2, 3, 4, 5, 6, 9, 12, 14, 15] (k := rs (k := rr (k := ro (pre := [_]) (k := ?_))))
   refine RunO.callw au au au Y24 ((line_Sent (l := [⟨1, 0, k17F⟩, ⟨2, 0, k17F⟩, ⟨3, 0, k17F⟩, ⟨4, 0, k17F⟩, ⟨5, 0, k17F⟩]) Y20 (by intro x hx; simp only [List.mem_cons, List.not_mem_nil, or_false] at hx; rcases hx with rfl | rfl | rfl | rfl | rfl <;> exact k17F_ok.2) hr11).mono ?_)
   rintro r s9 ⟨rfl, hs⟩
   subst s9
   refine rh [1, 2, 3, 4, 5, 6, 9, 12, 14, 15, 16] (k := rs (k := rr (k := ro (pre := [_]) (k := ?_))))
   refine RunO.callw au au au Y24 ((line_Device hr11).mono ?_)
   rintro r s9 ⟨rfl, hs⟩
   subst s9
   refine RunO.callw au au au Y24 ((device_Counts hd11).mono ?_)
   rintro r s9 ⟨rfl, hs⟩
   subst s9
   rw [show ((k17E (k17E (k17E (Dev.zero 8))))).msgs = 3 from Y20]
   refine rh [1, 2, 3, 4, 5, 6, 9, 12, 14, 15, 16, 17] (k := rs (k := ?_))
   have hst1 : ((ByteArray.mk [UInt8.ofNat (Int.toNat 4), UInt8.ofNat (Int.toNat 134)].reverse.toArray).toList == (ByteArray.mk #[134, 4]).toList) = true := by decide +kernel
   have hbs : ∀ l : List UInt8, (l == l) = true := fun l => beq_self_eq_true l
   have H := aj hst1 (aj hbs H)
   refine Run.drawC [] [0] Tryz.mixed Y24 ?_
   refine DetC.pre (pre := [_, _]) au ?_
   refine DetC.gdo au au ?_
   refine DetC.gdo au au ?_
   refine DetC.pre (pre := [_, _]) au ?_
   refine DetC.gdo au au ?_
   refine DetC.gdo au au ?_
   refine DetC.gdo au au ?_
   refine DetC.pre (pre := [_, _]) au ?_
   refine DetC.gdo au au ?_
   refine DetC.gdo au au ?_
   refine DetC.gdo au au ?_
   refine DetC.pre (pre := [_, _]) au ?_
   refine DetC.gdo au au ?_
   refine DetC.gdo au au ?_
   refine DetC.pre (pre := [_, _]) au ?_
   refine DetC.gdo au au ?_
   refine DetC.gdo au au ?_
   refine DetC.pre (pre := [_, _]) au ?_
   refine DetC.gdo au au ?_
   refine DetC.gdo au au ?_
   refine DetC.gdo au au ?_
   refine DetC.pre (pre := [_, _]) au ?_
   refine DetC.gdo au au ?_
   refine DetC.gdo au au ?_
   refine DetC.gdo au au ?_
   refine DetC.gdo au au ?_
   refine DetC.gdo au au ?_
   refine DetC.pre (pre := [_, _]) au ?_
   refine DetC.gdo au au ?_
   refine DetC.gdo au au ?_
   refine DetC.gdo au au ?_
   refine DetC.pre (pre := [_, _]) au ?_
   refine DetC.gdo au au ?_
   refine DetC.gdo au au ?_
   refine DetC.gdo au au ?_
   refine DetC.gdo au au ?_
   refine DetC.gdo au au ?_
   refine DetC.pre (pre := [_, _]) au ?_
   refine DetC.gdo au au ?_
   refine DetC.gdo au au ?_
   refine DetC.gdo au au ?_
   refine DetC.gdo au au ?_
   refine DetC.gdo au au ?_
   refine DetC.gdo au au ?_
   refine DetC.gdo au au ?_
   refine DetC.gdo au au ?_
   refine DetC.pre (pre := [_, _]) au ?_
   refine DetC.gdo au au ?_
   refine DetC.gdo au au ?_
   refine DetC.pre (pre := [_, _]) au ?_
   refine DetC.gdo au au ?_
   refine DetC.call au au au Y24 (line_Left0 (L := []) hr11) ?_
   refine DetC.gdo au au ?_
   refine DetC.pre (pre := [_, _]) au ?_
   refine DetC.gdo au au ?_
   refine DetC.call au au au Y24 (line_LeftN) ?_
   refine DetC.gdo au au ?_
   refine DetC.all au ?_
   refine re (k := rR (k := ?_))
   exact Ret.pure (r' := .bool true) (by simp only [Tryz.f13, go_sem, ↓reduceIte] <;> rfl) rfl (by simp only [PV.blw]) hwf (fun i hi => hw11 i hi) ⟨rfl, rfl⟩
end Go.Proofs
namespace Go.Proofs
open Go.PM
set_option maxHeartbeats 2000000
theorem bytesF_okL {q : Req} (hq : q.ok) : OkB (bytesF q) := by
 unfold bytesF
 split
 · rename_i h; exact writeF_ok hq h
 · exact OkB.nil
structure ApAt (s0 : St) (D : Dev) (T : Tp) (a1 sa sb : PV) (S : St) : Prop where
 rowA : S.blk (s0.nxt + 6) = some (lnRow (s0.nxt + 5) (.sl .nil []) a1 (.sl .nil []) (.sl .nil []) sa)
 rowB : S.blk (s0.nxt + 13) = some (lnRow (s0.nxt + 7 + 5) (.sl .nil []) (.sl .nil []) (.sl .nil []) (.sl .nil []) sb)
 devA : DevAt s0.nxt D S
 devB : DevAt (s0.nxt + 7) D S
 tape : S.blk (s0.nxt + 14) = some (.row 39 [T.pv])
 nx : s0.nxt + 15 ≤ S.nxt
 low : ∀ j, j < s0.nxt → S.blk j = s0.blk j
theorem DevAt.eqv {b : Nat} {D : Dev} {s s' : St} (h : DevAt b D s) (e : ∀ j, b ≤ j → j ≤ b + 5 → s'.blk j = s.blk j) : DevAt b D s' :=
 ⟨by rw [e _ Y19 Y19]; exact h.st, by rw [e _ Y19 Y19]; exact h.c0, by rw [e _ Y19 Y19]; exact h.c1, by rw [e _ Y19 Y19]; exact h.v0, by rw [e _ Y19 Y19]; exact h.v1, by rw [e _ Y19 Y19]; exact h.dv⟩
theorem Y170 {p : Prop} (h : p := by rw [blk_set_ne Y19]; exact h.low j hj) : p := h
theorem Y269 {p : Prop} (h : p := by rw [blk_set_ne Y19]; exact h.rowA) : p := h
theorem Y270 {p : Prop} (h : p := by rw [blk_set_ne Y19]; exact h.rowB) : p := h
theorem ApAt.hi {s0 : St} {D : Dev} {T : Tp} {a1 sa sb : PV} {S : St} (h : ApAt s0 D T a1 sa sb S) {i : Nat} (hi : s0.nxt + 15 ≤ i) (x : Option Blk) : ApAt s0 D T a1 sa sb (S.set i x) :=
 ⟨Y269, Y270, h.devA.sv Y19 _, h.devB.sv Y19 _, Y154, h.nx, fun j hj => Y170⟩
theorem ApAt.nw {s0 : St} {D : Dev} {T : Tp} {a1 sa sb : PV} {S : St} (h : ApAt s0 D T a1 sa sb S) (x : Blk) : ApAt s0 D T a1 sa sb (S.new x) := by
 have := h.nx
 exact ⟨by rw [blk_new_ne Y19]; exact h.rowA, by rw [blk_new_ne Y19]; exact h.rowB, h.devA.nw Y19 _, h.devB.nw Y19 _, by rw [blk_new_ne Y19]; exact h.tape, Nat.le_succ_of_le h.nx, fun j hj => by rw [blk_new_ne Y19]; exact h.low j hj⟩
theorem ApAt.tp {s0 : St} {D : Dev} {T T' : Tp} {a1 sa sb : PV} {S : St} (h : ApAt s0 D T a1 sa sb S) : ApAt s0 D T' a1 sa sb (S.set (s0.nxt + 14) (some (.row 39 [T'.pv]))) :=
 ⟨Y269, Y270, h.devA.sv Y19 _, h.devB.sv Y19 _, blk_set_self _ _ _, h.nx, fun j hj => Y170⟩
theorem ApAt.setA {s0 : St} {D : Dev} {T : Tp} {a1 sa sb a1' sa' : PV} {S : St} (h : ApAt s0 D T a1 sa sb S) : ApAt s0 D T a1' sa' sb (S.set (s0.nxt + 6) (some (lnRow (s0.nxt + 5) (.sl .nil []) a1' (.sl .nil []) (.sl .nil []) sa'))) :=
 ⟨blk_set_self _ _ _, Y270, h.devA.sv Y19 _, h.devB.eqv fun j h1 h2 => blk_set_ne Y19, Y154, h.nx, fun j hj => Y170⟩
theorem ApAt.setB {s0 : St} {D : Dev} {T : Tp} {a1 sa sb sb' : PV} {S : St} (h : ApAt s0 D T a1 sa sb S) : ApAt s0 D T a1 sa sb' (S.set (s0.nxt + 13) (some (lnRow (s0.nxt + 7 + 5) (.sl .nil []) (.sl .nil []) (.sl .nil []) (.sl .nil []) sb'))) :=
 ⟨Y269, blk_set_self _ _ _, h.devA.sv Y19 _, h.devB.sv Y19 _, Y154, h.nx, fun j hj => Y170⟩
theorem ApAt.mid {s0 : St} {D D' : Dev} {T : Tp} {a1 sa sb : PV} {S : St} (h : ApAt s0 D T a1 sa sb S) (hl : D'.c0.length = D.c0.length) : (putDev s0.nxt D' S).blk (s0.nxt + 13) = some (lnRow (s0.nxt + 7 + 5) (.sl .nil []) (.sl .nil []) (.sl .nil []) (.sl .nil []) sb) ∧ DevAt (s0.nxt + 7) D (putDev s0.nxt D' S) :=
 ⟨by rw [putDev_hi Y19]; exact h.rowB, h.devB.eqv fun j h1 h2 => putDev_hi Y19⟩
theorem ApAt.both {s0 : St} {D D' : Dev} {T : Tp} {a1 sa sb : PV} {S : St} (h : ApAt s0 D T a1 sa sb S) (hl : D'.c0.length = D.c0.length) : ApAt s0 D' T a1 sa sb (putDev (s0.nxt + 7) D' (putDev s0.nxt D' S)) := by
 refine ⟨?_, ?_, ?_, ?_, ?_, h.nx, fun j hj => ?_⟩
 · rw [putDev_lo Y19, putDev_hi Y19]; exact h.rowA
 · rw [putDev_hi Y19, putDev_hi Y19]; exact h.rowB
 · exact (h.devA.put hl).eqv fun j h1 h2 => putDev_lo Y19
 · exact DevAt.put (h.mid hl).2 hl
 · rw [putDev_hi Y19, putDev_hi Y19]; exact h.tape
 · rw [putDev_lo Y19, putDev_lo Y19]; exact h.low j hj
theorem take_none {ln d : Nat} {a1 a2 a3 st : PV} (S : St) (h : S.blk ln = some (lnRow d (.sl .nil []) a1 a2 a3 st)) : ACalls Tryz.prog 37 [.ptr ln 0 0, .int .i64 0] S (fun r s' => r = .int .i64 0 ∧ s' = S.set ln (some (lnRow d (.sl .nil []) a1 a2 a3 st))) := by
 have h2 := line_take0 (k := .nil) h
 have e : S.set ln (some (lnRow d (.sl .nil []) a1 a2 a3 st)) = S := St.eq_of rfl fun j => by
   rw [blk_set]
   split
   · rename_i e; rw [e]; exact h.symm
   · rfl
 rw [e]
 exact h2
theorem sendF_ok {D : Dev} (hD : D.ok) {fr : List Int} (hf : OkB fr) : (sendF 0 D fr).2.ok ∧ (sendF 0 D fr).2.c0.length = D.c0.length := by
 unfold sendF
 split
 · rename_i h
   have := rtu_pdu h.1
   exact pduF_ok hD (rtu_ok hf) Y19
 · exact ⟨hD, rfl⟩
theorem putDev_new {b : Nat} {D : Dev} {S : St} (h : b + 5 < S.nxt) (x : Blk) : (putDev b D S).new x = putDev b D (S.new x) := by
 refine St.eq_of rfl fun i => ?_
 rw [blk_new, putDev_blk, putDev_blk, blk_new, putDev_nxt]
 (repeat' split) <;> first | rfl | (exfalso; omega)
theorem putDev_set2 {b : Nat} {D : Dev} {S : St} {i : Nat} (h : b + 5 < i) (x : Option Blk) : (putDev b D S).set i x = putDev b D (S.set i x) := (putDev_set h x).symm
attribute [local go_sem] set_set weaks_bools Req.pv
set_option maxRecDepth 100000 in
theorem law17_Apart {tl : List Int} (htl : tl.length * 8 ≤ 140737488351232) {fl : List Int} (hfln : fl.length < 140737488355328) {s : St} : ACalls Tryz.prog 5 [.sl .unk (tl.map (PV.int .i64)), .sl .unk (fl.map (PV.int .i64))] s (fun r s' => r = .bool true ∧ s' = s) := by
 refine go Tryz.func5 (k := fun hwf H => ?_)
 have o0 : (Dev.zero 60).ok := Dev.zero_ok Y20 Y20
 refine rs (k := rg [0, 1] (k := rs (k := rr (k := ?_))))
 refine RunO.callw au au au Y24 ((device_New (n := 60) Y20 Y20).mono ?_)
 rintro r s1 ⟨rfl, hA1, hlo1, hx1⟩
 have H := aj hx1 H
 refine RunO.callw au au au Y24 ((line_New).mono ?_)
 rintro r s2 ⟨rfl, hs⟩
 have hr2 : s2.blk (s.nxt + 6) = some (lnRow (s.nxt + 5) (.sl .nil []) (.sl .nil []) (.sl .nil []) (.sl .nil []) (.sl .nil [])) := by rw [hs, ← hx1]; exact blk_new_eq
 have hx2 : s2.nxt = s.nxt + 7 := by rw [hs]; simp only [nxt_new, hx1]
 have hA2 : DevAt s.nxt (Dev.zero 60) s2 := by rw [hs]; exact hA1.nw Y19 _
 have hlo2 : ∀ j, j < s.nxt → s2.blk j = s.blk j := fun j hj => by rw [hs, blk_new_ne Y19]; exact hlo1 j hj
 clear hs
 have H := aj hx2 H
 refine RunO.callw au au au Y24 ((device_New (n := 60) Y20 Y20).mono ?_)
 rintro r s3 ⟨rfl, hA3, hlo3, hx3⟩
 rw [hx2] at hA3 hlo3 hx3 ⊢
 have hx3 : s3.nxt = s.nxt + 13 := Y19
 have H := aj hx3 H
 refine RunO.callw au au au Y24 ((line_New).mono ?_)
 rintro r s4 ⟨rfl, hs⟩
 have hr4 : s4.blk (s.nxt + 13) = some (lnRow (s.nxt + 7 + 5) (.sl .nil []) (.sl .nil []) (.sl .nil []) (.sl .nil []) (.sl .nil [])) := by rw [hs, ← hx3]; exact blk_new_eq
 have hx4 : s4.nxt = s.nxt + 14 := by rw [hs]; simp only [nxt_new, hx3]
 have he4 : ∀ j, j < s.nxt + 13 → s4.blk j = s3.blk j := fun j hj => by rw [hs, blk_new_ne Y19]
 clear hs
 have H := aj hx4 H
 refine rh [0, 1, 5, 6] (k := rs (k := rs (k := rr (k := ro (pre := [_, _, _]) (k := rg1 (k := rg1 (k := rh [0, 1, 5, 6, 22] (k := rc (ht := fun hc0 => ?_) (hf := fun hc0 => ?_)))))))))
 · cases hc0
 refine rk (k := rs (k := rg [1, 5, 6, 7] (k := rs (k := rg [1, 5, 6, 7, 8] (k := rs (k := rs (k := rg [1, 5, 6, 7, 8, 9] (k := rb (k := ?_)))))))))
 refine Run.loop (fun e s' => ∃ (i : Nat) (L : List Int) (kA : SK), e = [(1, .sl .unk (fl.map (PV.int .i64))), (5, .ptr (s.nxt + 6) 0 0), (6, .ptr (s.nxt + 13) 0 0), (7, .ptr (s.nxt + 14) 0 0), (8, .int .i64 (i : Int)), (9, .int .i64 (i : Int))] ∧ i ≤ fl.length ∧ i ≤ 20 ∧ L.length = i ∧ (kA = .nil ∧ L = [] ∨ ∃ t, kA = .tok t 1 ∧ s.nxt + 14 < t ∧ t < s'.nxt ∧ s'.blk t = some (.tok L.length)) ∧ ApAt s (Dev.zero 60) ⟨tl, 0⟩ (.sl kA (L.map (PV.int .i64))) (.sl .nil []) (.sl .nil []) s') (fun e s' => 20 - ivar e 9) ?_ ?_
 · have hPi : ApAt s (Dev.zero 60) ⟨tl, 0⟩ (.sl .nil (([] : List Int).map (PV.int .i64))) (.sl .nil []) (.sl .nil []) (s4.new (.row 39 [Tp.pv ⟨tl, 0⟩])) := by
     refine ⟨?_, ?_, ?_, ?_, ?_, ?_, ?_⟩
     · rw [blk_new_ne Y19, he4 _ Y19, hlo3 _ Y19]; exact hr2
     · rw [blk_new_ne Y19]; exact hr4
     · exact hA2.eqv fun j h1 h2 => by rw [blk_new_ne Y19, he4 _ Y19, hlo3 _ Y19]
     · exact hA3.eqv fun j h1 h2 => by rw [blk_new_ne Y19]; exact he4 _ Y19
     · rw [← hx4]; exact blk_new_eq
     · show s.nxt + 15 ≤ s4.nxt + 1; omega
     · exact fun j hj => by rw [blk_new_ne Y19, he4 _ Y19, hlo3 _ Y19]; exact hlo2 j hj
   exact ⟨0, [], .nil, rfl, Nat.zero_le _, Nat.zero_le _, rfl, .inl ⟨rfl, rfl⟩, hPi⟩
 rintro e s1 ⟨i, L, kA, rfl, hi, hi2, hLl, hk, hP0⟩
 have hPn := hP0.nx
 rcases hk with ⟨rfl, rfl⟩ | ⟨t, rfl, htn, htx, htb⟩
 refine rs (k := rs (k := rg [1, 5, 6, 7, 8, 9, 33] (k := rc (ht := fun hc1 => ?_) (hf := fun hc1 => ?_))))
 · refine rk (k := rs (k := rb (k := rs (k := ?_))))
   have hil : i < fl.length := by simp at hc1; omega
   have hi20 : i < 20 := by simp at hc1; omega
   obtain ⟨x, hxe⟩ : ∃ z_, fl[i]'hil = z_ := ⟨_, rfl⟩
   have hxx : (fl.map (PV.int .i64))[i]? = some (.int .i64 x) := Y84
   have hilT : (i < fl.length) = True := eq_true hil
   obtain ⟨F, hFe⟩ : ∃ y, withinI x 0 4 = y := ⟨_, rfl⟩
   have hF := withinI_bound (n := x) (lo := 0) (hi := 4) Y20
   rw [hFe] at hF
   have hw : IntKind.i64.wrap ((i : Int) + 1) = ((i + 1 : Nat) : Int) := Y26
   have H := aj hxx (aj hilT (aj hFe (aj hw H)))
   refine rr (k := ro (pre := [_, _, _, _, _]) (k := rC (h := within_ (lo := 0) (hi := 4) Y20 Y20 Y20) (k := ?_)))
   refine RunO.callw au au au Y24 ((line_Hurt1N (F := F) hF hP0.rowA).mono ?_)
   rintro r s3 ⟨rfl, hs⟩
   have hP3 : ApAt s (Dev.zero 60) ⟨tl, 0⟩ (.sl (.tok s1.nxt 1) (([F] : List Int).map (PV.int .i64))) (.sl .nil []) (.sl .nil []) s3 := by rw [hs]; exact (hP0.nw _).setA
   have ht3 : s3.blk s1.nxt = some (.tok 1) := by rw [hs, blk_set_ne (by have := hP0.nx; omega)]; exact blk_new_eq
   have hx3 : s3.nxt = s1.nxt + 1 := by rw [hs]; rfl
   clear hs
   refine rl [1, 5, 6, 7, 8, 9, 42] (k := rc (ht := fun hc2 => ?_) (hf := fun hc2 => ?_))
   · refine rg [1, 5, 6, 7, 8, 9] (k := rB (k := rg [1, 5, 6, 7, 8, 9] (k := ?_)))
     refine Run.lp ⟨⟨i + 1, [F], .tok s1.nxt 1, rfl, Y19, Y19, by simp at hLl ⊢; omega, .inr ⟨s1.nxt, rfl, by have := hP0.nx; omega, Y19, ht3⟩, hP3⟩, ?_⟩
     simp only [ivar, go_sem, ↓reduceIte, Nat.reduceEqDiff]
     omega
   · cases hc2
 refine rX (k := rs (k := rs (k := ?_)))
 obtain ⟨a1, ha1⟩ : ∃ y, y = PV.sl .nil (([] : List Int).map (PV.int .i64)) := ⟨_, rfl⟩
 refine jO 1 ?_; rotate_left
 refine rs (k := rs (k := rg [1, 5, 6, 7, 8, 9, 33] (k := rc (ht := fun hc1 => ?_) (hf := fun hc1 => ?_))))
 · refine rk (k := rs (k := rb (k := rs (k := ?_))))
   have hil : i < fl.length := by simp at hc1; omega
   have hi20 : i < 20 := by simp at hc1; omega
   obtain ⟨x, hxe⟩ : ∃ z_, fl[i]'hil = z_ := ⟨_, rfl⟩
   have hxx : (fl.map (PV.int .i64))[i]? = some (.int .i64 x) := Y84
   have hilT : (i < fl.length) = True := eq_true hil
   obtain ⟨F, hFe⟩ : ∃ y, withinI x 0 4 = y := ⟨_, rfl⟩
   have hF := withinI_bound (n := x) (lo := 0) (hi := 4) Y20
   rw [hFe] at hF
   have hw : IntKind.i64.wrap ((i : Int) + 1) = ((i + 1 : Nat) : Int) := Y26
   have H := aj hxx (aj hilT (aj hFe (aj hw H)))
   refine rr (k := ro (pre := [_, _, _, _, _]) (k := rC (h := within_ (lo := 0) (hi := 4) Y20 Y20 Y20) (k := ?_)))
   refine RunO.callw au au au Y24 ((line_Hurt1T (F := F) (L := L) (t := t) Y19 hF hP0.rowA htb Y19).mono ?_)
   rintro r s3 ⟨rfl, hs⟩
   have hP3 : ApAt s (Dev.zero 60) ⟨tl, 0⟩ (.sl (.tok t 1) ((L ++ [F]).map (PV.int .i64))) (.sl .nil []) (.sl .nil []) s3 := by rw [hs]; exact (hP0.hi Y19 _).setA
   have ht3 : s3.blk t = some (.tok (L ++ [F]).length) := by rw [hs, blk_set_ne Y19]; exact blk_set_self _ _ _
   have hx3 : s3.nxt = s1.nxt := by rw [hs]; rfl
   clear hs
   refine rl [1, 5, 6, 7, 8, 9, 42] (k := rc (ht := fun hc2 => ?_) (hf := fun hc2 => ?_))
   · refine rg [1, 5, 6, 7, 8, 9] (k := rB (k := rg [1, 5, 6, 7, 8, 9] (k := ?_)))
     refine Run.lp ⟨⟨i + 1, L ++ [F], .tok t 1, rfl, Y19, Y19, by rw [List.length_append, hLl]; rfl, .inr ⟨t, rfl, htn, Y19, ht3⟩, hP3⟩, ?_⟩
     simp only [ivar, go_sem, ↓reduceIte, Nat.reduceEqDiff]
     omega
   · cases hc2
 refine rX (k := rs (k := rs (k := ?_)))
 obtain ⟨a1, ha1⟩ : ∃ y, y = PV.sl (.tok t 1) (L.map (PV.int .i64)) := ⟨_, rfl⟩
 refine jO 1 ?_; rotate_left
 any_goals
   refine jI 1 ?_
   obtain ⟨hd, hhd⟩ : ∃ y : Nat, y = i := ⟨_, rfl⟩
   refine jO 2 ?_; rotate_left
 any_goals
   refine jI 2 ?_
   obtain ⟨LL, kk, hLL, hLLl⟩ : ∃ (LL : List Int) (kk : SK), a1 = .sl kk (LL.map (PV.int .i64)) ∧ LL.length = hd := ⟨_, _, ha1, by rw [hhd]; exact hLl⟩
   refine jO 3 ?_; rotate_left
 any_goals
   refine jI 3 ?_
   rw [← ha1] at hP0
   refine jO 4 ?_; rotate_left
 any_goals
   refine jI 4 ?_
   rw [← hhd]
   refine jO 5 ?_; rotate_left
 any_goals
   refine jI 5 ?_
   refine rg [5, 6, 7, 8, 10] (k := rb (k := ?_))
   refine jO 6 ?_; rotate_left
 any_goals
   refine jI 6 ?_
   refine Run.loop (fun e s' => ∃ (i : Nat) (D : Dev) (T : Tp) (l : List Snt) (sa sb : PV), e = [(5, .ptr (s.nxt + 6) 0 0), (6, .ptr (s.nxt + 13) 0 0), (7, .ptr (s.nxt + 14) 0 0), (8, .int .i64 (hd : Int)), (10, .int .i64 (i : Int))] ∧ i ≤ 12 ∧ D.ok ∧ T.ok ∧ l.length = i ∧ (sa = .sl .nil [] ∧ sb = .sl .nil [] ∧ l = [] ∨ ∃ tA tB, sa = .sl (.tok tA 3) (l.map Snt.pv) ∧ sb = .sl (.tok tB 3) (l.map Snt.pv) ∧ s.nxt + 14 < tA ∧ s.nxt + 14 < tB ∧ tA ≠ tB ∧ tA < s'.nxt ∧ tB < s'.nxt ∧ s'.blk tA = some (.tok l.length) ∧ s'.blk tB = some (.tok l.length)) ∧ ApAt s D T a1 sa sb s') (fun e s' => 12 - ivar e 10) ?_ ?_
   refine jO 7 ?_; rotate_left
   refine jO 8 ?_; rotate_left
 any_goals
   refine jI 8 ?_
   rintro e s1 ⟨i, D, T, l, sa, sb, rfl, hi, oD, hT, hll, hk, hP0⟩
   refine jO 9 ?_; rotate_left
 any_goals
   refine jI 9 ?_
   have hPn := hP0.nx
   refine jO 10 ?_; rotate_left
 any_goals
   refine jI 10 ?_
   rcases hk with ⟨rfl, rfl, rfl⟩ | ⟨tA, tB, rfl, rfl, htA, htB, hAB, hxA, hxB, hbA, hbB⟩
   refine jO 11 ?_; rotate_left
   refine jO 12 ?_; rotate_left
 any_goals
   refine jI 12 ?_
   refine rs (k := rs (k := rg [5, 6, 7, 8, 10, 46] (k := rc (ht := fun hc3 => ?_) (hf := fun hc3 => ?_))))
   refine jO 13 ?_; rotate_left
   refine jO 14 ?_; rotate_left
 any_goals
   refine jI 13 ?_
   refine rk (k := rs (k := rb (k := rs (k := ?_))))
   refine jO 15 ?_; rotate_left
 any_goals
   refine jI 15 ?_
   have hi12 : (i : Int) < 12 := of_decide_eq_true hc3
   refine jO 16 ?_; rotate_left
 any_goals
   refine jI 16 ?_
   have hw : IntKind.i64.wrap ((i : Int) + 1) = ((i + 1 : Nat) : Int) := Y26
   refine jO 17 ?_; rotate_left
 any_goals
   refine jI 11 ?_
   refine rs (k := rs (k := rg [5, 6, 7, 8, 10, 46] (k := rc (ht := fun hc3 => ?_) (hf := fun hc3 => ?_))))
   refine jO 18 ?_; rotate_left
   refine jO 14 ?_; rotate_left
 any_goals
   refine jI 17 ?_
   have H := aj hw H
   refine jO 19 ?_; rotate_left
 any_goals
   refine jI 19 ?_
   refine rr (k := ro (pre := [_]) (k := ?_))
   refine jO 20 ?_; rotate_left
 any_goals
   refine jI 20 ?_
   refine RunO.callw au au au Y24 ((tape_Request hT hP0.tape).mono ?_)
   refine jO 21 ?_; rotate_left
 any_goals
   refine jI 21 ?_
   rintro r s2 ⟨q, T2, rfl, hs, hT2, hqo, hqr⟩
   refine jO 22 ?_; rotate_left
 any_goals
   refine jI 22 ?_
   subst hs
   refine jO 23 ?_; rotate_left
 any_goals
   refine jI 23 ?_
   refine rh [5, 6, 7, 8, 10, 11] (k := rs (k := rr (k := ro (pre := [_]) (k := ?_))))
   refine jO 24 ?_; rotate_left
 any_goals
   refine jI 24 ?_
   refine RunO.callw au au au Y24 ((ref17_Frame (q := q) hqo).mono ?_)
   refine jO 25 ?_; rotate_left
 any_goals
   refine jI 25 ?_
   rintro r s9 ⟨rfl, hs⟩
   refine jO 26 ?_; rotate_left
 any_goals
   refine jI 26 ?_
   subst s9
   refine jO 27 ?_; rotate_left
 any_goals
   refine jI 27 ?_
   obtain ⟨fr, hfr⟩ : ∃ y, frameF (bytesF q) = y := ⟨_, rfl⟩
   refine jO 28 ?_; rotate_left
 any_goals
   refine jI 28 ?_
   have hfo : OkB fr := by rw [← hfr]; exact frameF_ok (bytesF_okL hqo)
   refine jO 29 ?_; rotate_left
 any_goals
   refine jI 29 ?_
   have hfl : fr.length ≤ 140737488350000 := by rw [← hfr]; exact Nat.le_trans (frameF_len _) Y20
   refine jO 30 ?_; rotate_left
 any_goals
   refine jI 30 ?_
   rw [hfr]
   refine jO 31 ?_; rotate_left
 any_goals
   refine jI 31 ?_
   obtain ⟨⟨B, D2⟩, hsd⟩ : ∃ Z, sendF 0 D fr = Z := ⟨_, rfl⟩
   refine jO 32 ?_; rotate_left
 any_goals
   refine jI 32 ?_
   have hok2 := sendF_ok oD hfo
   refine jO 33 ?_; rotate_left
 any_goals
   refine jI 33 ?_
   rw [hsd] at hok2
   refine jO 34 ?_; rotate_left
 any_goals
   refine jI 34 ?_
   have oD2 := hok2.1
   refine jO 35 ?_; rotate_left
 any_goals
   refine jI 35 ?_
   have lD2 := hok2.2
   refine jO 36 ?_; rotate_left
 any_goals
   refine jI 36 ?_
   refine rh [5, 6, 7, 8, 10, 12] (k := rs (k := ?_))
   refine jO 37 ?_; rotate_left
 any_goals
   refine jI 37 ?_
   refine Run.genS fun S hS => ?_
   refine jO 38 ?_; rotate_left
 any_goals
   refine jI 38 ?_
   have hP : ApAt s D T2 a1 (.sl (.tok tA 3) (l.map Snt.pv)) (.sl (.tok tB 3) (l.map Snt.pv)) S := by rw [hS]; exact ((hP0.tp (T' := T2)).nw _).hi Y19 _
   refine jO 39 ?_; rotate_left
 any_goals
   refine jI 18 ?_
   refine rk (k := rs (k := rb (k := rs (k := ?_))))
   refine jO 40 ?_; rotate_left
 any_goals
   refine jI 40 ?_
   have hi12 : (i : Int) < 12 := of_decide_eq_true hc3
   refine jO 41 ?_; rotate_left
 any_goals
   refine jI 41 ?_
   have hw : IntKind.i64.wrap ((i : Int) + 1) = ((i + 1 : Nat) : Int) := Y26
   refine jO 42 ?_; rotate_left
 any_goals
   refine jI 39 ?_
   have hSn := hP.nx
   refine jO 43 ?_; rotate_left
 any_goals
   refine jI 43 ?_
   have hkA : S.blk tA = some (.tok l.length) := by rw [hS, blk_set_ne Y19, blk_new_ne (by show tA ≠ s1.nxt; omega), blk_set_ne Y19]; exact hbA
   refine jO 44 ?_; rotate_left
 any_goals
   refine jI 42 ?_
   have H := aj hw H
   refine jO 45 ?_; rotate_left
 any_goals
   refine jI 45 ?_
   refine rr (k := ro (pre := [_]) (k := ?_))
   refine jO 46 ?_; rotate_left
 any_goals
   refine jI 46 ?_
   refine RunO.callw au au au Y24 ((tape_Request hT hP0.tape).mono ?_)
   refine jO 47 ?_; rotate_left
 any_goals
   refine jI 44 ?_
   have hkB : S.blk tB = some (.tok l.length) := by rw [hS, blk_set_ne Y19, blk_new_ne (by show tB ≠ s1.nxt; omega), blk_set_ne Y19]; exact hbB
   refine jO 48 ?_; rotate_left
 any_goals
   refine jI 47 ?_
   rintro r s2 ⟨q, T2, rfl, hs, hT2, hqo, hqr⟩
   refine jO 49 ?_; rotate_left
 any_goals
   refine jI 49 ?_
   subst hs
   refine jO 50 ?_; rotate_left
 any_goals
   refine jI 50 ?_
   refine rh [5, 6, 7, 8, 10, 11] (k := rs (k := rr (k := ro (pre := [_]) (k := ?_))))
   refine jO 51 ?_; rotate_left
 any_goals
   refine jI 48 ?_
   have hSx : s1.nxt < S.nxt := by rw [hS]; exact Nat.lt_succ_self _
   refine jO 52 ?_; rotate_left
 any_goals
   refine jI 51 ?_
   refine RunO.callw au au au Y24 ((ref17_Frame (q := q) hqo).mono ?_)
   refine jO 53 ?_; rotate_left
 any_goals
   refine jI 52 ?_
   clear hS
   refine jO 54 ?_; rotate_left
 any_goals
   refine jI 54 ?_
   have hP1 : ApAt s D T2 a1 (.sl (.tok tA 3) ((l ++ [(⟨(i : Int), 0, fr⟩ : Snt)]).map Snt.pv)) (.sl (.tok tB 3) (l.map Snt.pv)) ((S.set tA (some (.tok (l ++ [(⟨(i : Int), 0, fr⟩ : Snt)]).length))).set (s.nxt + 6) (some (lnRow (s.nxt + 5) (.sl .nil []) a1 (.sl .nil []) (.sl .nil []) (.sl (.tok tA 3) ((l ++ [(⟨(i : Int), 0, fr⟩ : Snt)]).map Snt.pv))))) := ((hP.hi Y19 _).setA)
   refine jO 55 ?_; rotate_left
 any_goals
   refine jI 53 ?_
   rintro r s9 ⟨rfl, hs⟩
   refine jO 56 ?_; rotate_left
 any_goals
   refine jI 56 ?_
   subst s9
   refine jO 57 ?_; rotate_left
 any_goals
   refine jI 57 ?_
   obtain ⟨fr, hfr⟩ : ∃ y, frameF (bytesF q) = y := ⟨_, rfl⟩
   refine jO 58 ?_; rotate_left
 any_goals
   refine jI 58 ?_
   have hfo : OkB fr := by rw [← hfr]; exact frameF_ok (bytesF_okL hqo)
   refine jO 59 ?_; rotate_left
 any_goals
   refine jI 59 ?_
   have hfl : fr.length ≤ 140737488350000 := by rw [← hfr]; exact Nat.le_trans (frameF_len _) Y20
   refine jO 60 ?_; rotate_left
 any_goals
   refine jI 60 ?_
   rw [hfr]
   refine jO 61 ?_; rotate_left
 any_goals
   refine jI 61 ?_
   obtain ⟨⟨B, D2⟩, hsd⟩ : ∃ Z, sendF 0 D fr = Z := ⟨_, rfl⟩
   refine jO 62 ?_; rotate_left
 any_goals
   refine jI 62 ?_
   have hok2 := sendF_ok oD hfo
   refine jO 63 ?_; rotate_left
 any_goals
   refine jI 63 ?_
   rw [hsd] at hok2
   refine jO 64 ?_; rotate_left
 any_goals
   refine jI 55 ?_
   have hM := hP1.mid (D' := D2) lD2
   refine jO 65 ?_; rotate_left
 any_goals
   refine jI 64 ?_
   have oD2 := hok2.1
   refine jO 66 ?_; rotate_left
 any_goals
   refine jI 66 ?_
   have lD2 := hok2.2
   refine jO 67 ?_; rotate_left
 any_goals
   refine jI 65 ?_
   have hkB2 : (putDev s.nxt D2 ((S.set tA (some (.tok (l ++ [(⟨(i : Int), 0, fr⟩ : Snt)]).length))).set (s.nxt + 6) (some (lnRow (s.nxt + 5) (.sl .nil []) a1 (.sl .nil []) (.sl .nil []) (.sl (.tok tA 3) ((l ++ [(⟨(i : Int), 0, fr⟩ : Snt)]).map Snt.pv)))))).blk tB = some (.tok l.length) := by rw [putDev_hi Y19, blk_set_ne Y19, blk_set_ne Y19]; exact hkB
   refine jO 68 ?_; rotate_left
 any_goals
   refine jI 67 ?_
   refine rh [5, 6, 7, 8, 10, 12] (k := rs (k := ?_))
   refine jO 69 ?_; rotate_left
 any_goals
   refine jI 69 ?_
   refine Run.genS fun S hS => ?_
   refine jO 70 ?_; rotate_left
 any_goals
   refine jI 70 ?_
   have hP : ApAt s D T2 a1 (.sl .nil []) (.sl .nil []) S := by rw [hS]; exact ((hP0.tp (T' := T2)).nw _).hi Y19 _
   refine jO 71 ?_; rotate_left
 any_goals
   refine jI 71 ?_
   have hSn := hP.nx
   refine jO 72 ?_; rotate_left
 any_goals
   refine jI 72 ?_
   clear hS
   refine jO 73 ?_; rotate_left
 any_goals
   refine jI 73 ?_
   have hP1 : ApAt s D T2 a1 (.sl (.tok S.nxt 3) ([(⟨(i : Int), 0, fr⟩ : Snt)].map Snt.pv)) (.sl .nil []) ((S.new (.tok [(⟨(i : Int), 0, fr⟩ : Snt)].length)).set (s.nxt + 6) (some (lnRow (s.nxt + 5) (.sl .nil []) a1 (.sl .nil []) (.sl .nil []) (.sl (.tok S.nxt 3) ([(⟨(i : Int), 0, fr⟩ : Snt)].map Snt.pv))))) := ((hP.nw _).setA)
   refine jO 74 ?_; rotate_left
 any_goals
   refine jI 68 ?_
   have hcA : ACalls Tryz.prog 17 [.ptr (s.nxt + 6) 0 0, .int .i64 0, .int .i64 (i : Int), .sl .unk (fr.map (PV.int .u8))] S (fun r s' => r = .sl .unk (B.map (PV.int .u8)) ∧ s' = (putDev s.nxt D2 ((S.set tA (some (.tok (l ++ [(⟨(i : Int), 0, fr⟩ : Snt)]).length))).set (s.nxt + 6) (some (lnRow (s.nxt + 5) (.sl .nil []) a1 (.sl .nil []) (.sl .nil []) (.sl (.tok tA 3) ((l ++ [(⟨(i : Int), 0, fr⟩ : Snt)]).map Snt.pv))))))) := by
     have h := line_SendT (c0 := .sl .nil []) (c2 := .sl .nil []) (c3 := .sl .nil []) (c1 := a1) (f := 0) (l := l) (t := tA) Y20 (tn := 0) (tick := (i : Int)) hfo hfl Y19 hP.rowA hP.devA oD Y19 hkA Y19 Y19 (fun S h => take_none S h)
     rw [hsd] at h
     exact h
   refine jO 75 ?_; rotate_left
 any_goals
   refine jI 74 ?_
   have hM := hP1.mid (D' := D2) lD2
   refine jO 76 ?_; rotate_left
 any_goals
   refine jI 76 ?_
   have hcA : ACalls Tryz.prog 17 [.ptr (s.nxt + 6) 0 0, .int .i64 0, .int .i64 (i : Int), .sl .unk (fr.map (PV.int .u8))] S (fun r s' => r = .sl .unk (B.map (PV.int .u8)) ∧ s' = (putDev s.nxt D2 ((S.new (.tok [(⟨(i : Int), 0, fr⟩ : Snt)].length)).set (s.nxt + 6) (some (lnRow (s.nxt + 5) (.sl .nil []) a1 (.sl .nil []) (.sl .nil []) (.sl (.tok S.nxt 3) ([(⟨(i : Int), 0, fr⟩ : Snt)].map Snt.pv))))))) := by
     have h := line_SendN (c0 := .sl .nil []) (c2 := .sl .nil []) (c3 := .sl .nil []) (c1 := a1) (f := 0) Y20 (tn := 0) (tick := (i : Int)) hfo hfl hP.rowA hP.devA oD Y19 (fun S h => take_none S h)
     rw [hsd] at h
     exact h
   refine jO 77 ?_; rotate_left
 any_goals
   refine jI 75 ?_
   have hcB : ACalls Tryz.prog 17 [.ptr (s.nxt + 13) 0 0, .int .i64 0, .int .i64 (i : Int), .sl .unk (fr.map (PV.int .u8))] (putDev s.nxt D2 ((S.set tA (some (.tok (l ++ [(⟨(i : Int), 0, fr⟩ : Snt)]).length))).set (s.nxt + 6) (some (lnRow (s.nxt + 5) (.sl .nil []) a1 (.sl .nil []) (.sl .nil []) (.sl (.tok tA 3) ((l ++ [(⟨(i : Int), 0, fr⟩ : Snt)]).map Snt.pv)))))) (fun r s' => r = .sl .unk (B.map (PV.int .u8)) ∧ s' = (putDev (s.nxt + 7) D2 (((putDev s.nxt D2 ((S.set tA (some (.tok (l ++ [(⟨(i : Int), 0, fr⟩ : Snt)]).length))).set (s.nxt + 6) (some (lnRow (s.nxt + 5) (.sl .nil []) a1 (.sl .nil []) (.sl .nil []) (.sl (.tok tA 3) ((l ++ [(⟨(i : Int), 0, fr⟩ : Snt)]).map Snt.pv)))))).set tB (some (.tok (l ++ [(⟨(i : Int), 0, fr⟩ : Snt)]).length))).set (s.nxt + 13) (some (lnRow (s.nxt + 7 + 5) (.sl .nil []) (.sl .nil []) (.sl .nil []) (.sl .nil []) (.sl (.tok tB 3) ((l ++ [(⟨(i : Int), 0, fr⟩ : Snt)]).map Snt.pv))))))) := by
     have h := line_SendT (c0 := .sl .nil []) (c2 := .sl .nil []) (c3 := .sl .nil []) (c1 := .sl .nil []) (f := 0) (l := l) (t := tB) Y20 (tn := 0) (tick := (i : Int)) hfo hfl Y19 hM.1 hM.2 oD Y19 hkB2 Y19 Y19 (fun S h => take_none S h)
     rw [hsd] at h
     exact h
   refine jO 78 ?_; rotate_left
 any_goals
   refine jI 77 ?_
   have hcB : ACalls Tryz.prog 17 [.ptr (s.nxt + 13) 0 0, .int .i64 0, .int .i64 (i : Int), .sl .unk (fr.map (PV.int .u8))] (putDev s.nxt D2 ((S.new (.tok [(⟨(i : Int), 0, fr⟩ : Snt)].length)).set (s.nxt + 6) (some (lnRow (s.nxt + 5) (.sl .nil []) a1 (.sl .nil []) (.sl .nil []) (.sl (.tok S.nxt 3) ([(⟨(i : Int), 0, fr⟩ : Snt)].map Snt.pv)))))) (fun r s' => r = .sl .unk (B.map (PV.int .u8)) ∧ s' = (putDev (s.nxt + 7) D2 (((putDev s.nxt D2 ((S.new (.tok [(⟨(i : Int), 0, fr⟩ : Snt)].length)).set (s.nxt + 6) (some (lnRow (s.nxt + 5) (.sl .nil []) a1 (.sl .nil []) (.sl .nil []) (.sl (.tok S.nxt 3) ([(⟨(i : Int), 0, fr⟩ : Snt)].map Snt.pv)))))).new (.tok [(⟨(i : Int), 0, fr⟩ : Snt)].length)).set (s.nxt + 13) (some (lnRow (s.nxt + 7 + 5) (.sl .nil []) (.sl .nil []) (.sl .nil []) (.sl .nil []) (.sl (.tok (S.nxt + 1) 3) ([(⟨(i : Int), 0, fr⟩ : Snt)].map Snt.pv))))))) := by
     have h := line_SendN (c0 := .sl .nil []) (c2 := .sl .nil []) (c3 := .sl .nil []) (c1 := .sl .nil []) (f := 0) Y20 (tn := 0) (tick := (i : Int)) hfo hfl hM.1 hM.2 oD Y19 (fun S h => take_none S h)
     rw [hsd] at h
     exact h
   refine jO 79 ?_; rotate_left
 any_goals
   refine jI 78 ?_
   have hbs : ∀ l : List UInt8, (l == l) = true := fun l => beq_self_eq_true l
   refine jO 80 ?_; rotate_left
 any_goals
   refine jI 79 ?_
   have hbs : ∀ l : List UInt8, (l == l) = true := fun l => beq_self_eq_true l
   refine jO 81 ?_; rotate_left
 any_goals
   refine jI 80 ?_
   have H := aj hbs H
   refine jO 82 ?_; rotate_left
 any_goals
   refine jI 82 ?_
   refine rH 11 [3, 8] [[false, false], [true, false], [true, true]] [S, (putDev s.nxt D2 ((S.set tA (some (.tok (l ++ [(⟨(i : Int), 0, fr⟩ : Snt)]).length))).set (s.nxt + 6) (some (lnRow (s.nxt + 5) (.sl .nil []) a1 (.sl .nil []) (.sl .nil []) (.sl (.tok tA 3) ((l ++ [(⟨(i : Int), 0, fr⟩ : Snt)]).map Snt.pv)))))), (putDev (s.nxt + 7) D2 (((putDev s.nxt D2 ((S.set tA (some (.tok (l ++ [(⟨(i : Int), 0, fr⟩ : Snt)]).length))).set (s.nxt + 6) (some (lnRow (s.nxt + 5) (.sl .nil []) a1 (.sl .nil []) (.sl .nil []) (.sl (.tok tA 3) ((l ++ [(⟨(i : Int), 0, fr⟩ : Snt)]).map Snt.pv)))))).set tB (some (.tok (l ++ [(⟨(i : Int), 0, fr⟩ : Snt)]).length))).set (s.nxt + 13) (some (lnRow (s.nxt + 7 + 5) (.sl .nil []) (.sl .nil []) (.sl .nil []) (.sl .nil []) (.sl (.tok tB 3) ((l ++ [(⟨(i : Int), 0, fr⟩ : Snt)]).map Snt.pv))))))] Tryz.mixed (k := ?_)
   refine jO 83 ?_; rotate_left
 any_goals
   refine jI 81 ?_
   have H := aj hbs H
   refine jO 84 ?_; rotate_left
 any_goals
   refine jI 84 ?_
   refine rH 11 [3, 8] [[false, false], [true, false], [true, true]] [S, (putDev s.nxt D2 ((S.new (.tok [(⟨(i : Int), 0, fr⟩ : Snt)].length)).set (s.nxt + 6) (some (lnRow (s.nxt + 5) (.sl .nil []) a1 (.sl .nil []) (.sl .nil []) (.sl (.tok S.nxt 3) ([(⟨(i : Int), 0, fr⟩ : Snt)].map Snt.pv)))))), (putDev (s.nxt + 7) D2 (((putDev s.nxt D2 ((S.new (.tok [(⟨(i : Int), 0, fr⟩ : Snt)].length)).set (s.nxt + 6) (some (lnRow (s.nxt + 5) (.sl .nil []) a1 (.sl .nil []) (.sl .nil []) (.sl (.tok S.nxt 3) ([(⟨(i : Int), 0, fr⟩ : Snt)].map Snt.pv)))))).new (.tok [(⟨(i : Int), 0, fr⟩ : Snt)].length)).set (s.nxt + 13) (some (lnRow (s.nxt + 7 + 5) (.sl .nil []) (.sl .nil []) (.sl .nil []) (.sl .nil []) (.sl (.tok (S.nxt + 1) 3) ([(⟨(i : Int), 0, fr⟩ : Snt)].map Snt.pv))))))] Tryz.mixed (k := ?_)
   refine jO 85 ?_; rotate_left
 any_goals
   refine jI 85 ?_
   refine dP [0] (pre := [_, _, _]) (k := ?_)
   refine jO 86 ?_; rotate_left
 any_goals
   refine jI 83 ?_
   refine dP [0] (pre := [_, _, _]) (k := ?_)
   refine jO 87 ?_; rotate_left
 any_goals
   refine jI 86 ?_
   refine dX (v := .sl .unk (B.map (PV.int .u8))) [(0, 1)] (h := by intro q0 hq0; rw [List.mem_singleton.1 hq0]; exact hcA) (k := ?_)
   refine jO 88 ?_; rotate_left
 any_goals
   refine jI 87 ?_
   refine dX (v := .sl .unk (B.map (PV.int .u8))) [(0, 1)] (h := by intro q0 hq0; rw [List.mem_singleton.1 hq0]; exact hcA) (k := ?_)
   refine jO 89 ?_; rotate_left
 any_goals
   refine jI 88 ?_
   refine dP [0, 1, 2] (pre := [_, _, _, _]) (k := ?_)
   refine jO 90 ?_; rotate_left
 any_goals
   refine jI 89 ?_
   refine dP [0, 1, 2] (pre := [_, _, _, _]) (k := ?_)
   refine jO 91 ?_; rotate_left
 any_goals
   refine jI 90 ?_
   refine dX (v := .sl .unk (B.map (PV.int .u8))) [(1, 2)] (h := by intro q0 hq0; rw [List.mem_singleton.1 hq0]; exact hcB) (k := ?_)
   refine jO 92 ?_; rotate_left
 any_goals
   refine jI 91 ?_
   refine dX (v := .sl .unk (B.map (PV.int .u8))) [(1, 2)] (h := by intro q0 hq0; rw [List.mem_singleton.1 hq0]; exact hcB) (k := ?_)
   refine jO 93 ?_; rotate_left
 any_goals
   refine jI 92 ?_
   refine dA [2] (k := rl [5, 6, 7, 8, 10, 63] (k := rc (ht := fun hc4 => ?_) (hf := fun hc4 => ?_)))
   · cases hc4
   refine jO 94 ?_; rotate_left
 any_goals
   refine jI 93 ?_
   refine dA [2] (k := rl [5, 6, 7, 8, 10, 63] (k := rc (ht := fun hc4 => ?_) (hf := fun hc4 => ?_)))
   · cases hc4
   refine jO 95 ?_; rotate_left
 any_goals
   refine jI 94 ?_
   refine rk (k := rB (k := rg [5, 6, 7, 8, 10] (k := ?_)))
   refine jO 96 ?_; rotate_left
 any_goals
   refine jI 95 ?_
   refine rk (k := rB (k := rg [5, 6, 7, 8, 10] (k := ?_)))
   refine jO 97 ?_; rotate_left
 any_goals
   refine jI 96 ?_
   have hfin : ApAt s D2 T2 a1 (.sl (.tok S.nxt 3) ([(⟨(i : Int), 0, fr⟩ : Snt)].map Snt.pv)) (.sl (.tok (S.nxt + 1) 3) ([(⟨(i : Int), 0, fr⟩ : Snt)].map Snt.pv)) (putDev (s.nxt + 7) D2 (((putDev s.nxt D2 ((S.new (.tok [(⟨(i : Int), 0, fr⟩ : Snt)].length)).set (s.nxt + 6) (some (lnRow (s.nxt + 5) (.sl .nil []) a1 (.sl .nil []) (.sl .nil []) (.sl (.tok S.nxt 3) ([(⟨(i : Int), 0, fr⟩ : Snt)].map Snt.pv)))))).new (.tok [(⟨(i : Int), 0, fr⟩ : Snt)].length)).set (s.nxt + 13) (some (lnRow (s.nxt + 7 + 5) (.sl .nil []) (.sl .nil []) (.sl .nil []) (.sl .nil []) (.sl (.tok (S.nxt + 1) 3) ([(⟨(i : Int), 0, fr⟩ : Snt)].map Snt.pv)))))) := by
     rw [putDev_new (by simp only [nxt_set, nxt_new]; omega), putDev_set2 Y19]
     exact ((hP1.nw _).setB).both lD2
   refine jO 98 ?_; rotate_left
 any_goals
   refine jI 97 ?_
   have hfin : ApAt s D2 T2 a1 (.sl (.tok tA 3) ((l ++ [(⟨(i : Int), 0, fr⟩ : Snt)]).map Snt.pv)) (.sl (.tok tB 3) ((l ++ [(⟨(i : Int), 0, fr⟩ : Snt)]).map Snt.pv)) (putDev (s.nxt + 7) D2 (((putDev s.nxt D2 ((S.set tA (some (.tok (l ++ [(⟨(i : Int), 0, fr⟩ : Snt)]).length))).set (s.nxt + 6) (some (lnRow (s.nxt + 5) (.sl .nil []) a1 (.sl .nil []) (.sl .nil []) (.sl (.tok tA 3) ((l ++ [(⟨(i : Int), 0, fr⟩ : Snt)]).map Snt.pv)))))).set tB (some (.tok (l ++ [(⟨(i : Int), 0, fr⟩ : Snt)]).length))).set (s.nxt + 13) (some (lnRow (s.nxt + 7 + 5) (.sl .nil []) (.sl .nil []) (.sl .nil []) (.sl .nil []) (.sl (.tok tB 3) ((l ++ [(⟨(i : Int), 0, fr⟩ : Snt)]).map Snt.pv)))))) := by
     rw [putDev_set2 Y19, putDev_set2 Y19]
     exact ((hP1.hi Y19 _).setB).both lD2
   refine jO 99 ?_; rotate_left
 any_goals
   refine jI 14 ?_
   refine rX (k := rs (k := ?_))
   refine jO 100 ?_; rotate_left
 any_goals
   refine jI 100 ?_
   have hR6 := hP0.rowA
   refine jO 101 ?_; rotate_left
 any_goals
   refine jI 101 ?_
   rw [hLL] at hR6
   refine jO 102 ?_; rotate_left
 any_goals
   refine jI 102 ?_
   have hLLi : (LL.length : Int) = (hd : Int) := by rw [hLLl]
   refine jO 103 ?_; rotate_left
 any_goals
   refine jI 98 ?_
   refine Run.lp ⟨⟨i + 1, D2, T2, [(⟨(i : Int), 0, fr⟩ : Snt)], _, _, rfl, Y19, oD2, hT2, by simp at hll ⊢; omega, .inr ⟨S.nxt, S.nxt + 1, rfl, rfl, Y19, Y19, Y19, by show S.nxt < S.nxt + 1 + 1; omega, by show S.nxt + 1 < S.nxt + 1 + 1; omega, ?_, ?_⟩, hfin⟩, ?_⟩
   refine jO 104 ?_; rotate_left
   · rw [putDev_hi Y19, blk_set_ne Y19]; exact blk_new_eq
   · exact Y32
 any_goals
   refine jI 103 ?_
   have H := aj hLLi H
   refine jO 105 ?_; rotate_left
 any_goals
   refine jI 105 ?_
   refine rr (k := ro (pre := [_]) (k := rC (h := line_Left1 hR6) (k := ro (pre := [_, _, _, _]) (k := rG (h := fun hb => line_Left0 (k := .nil) (L := []) hP0.rowA) (k := ro (pre := [_, _, _]) (k := rQ 73 (ht := fun hg9 => ?_) (hf := fun hg9 => ?_)))))))
   refine jO 106 ?_; rotate_left
   · cases hg9
 any_goals
   refine jI 99 ?_
   refine Run.lp ⟨⟨i + 1, D2, T2, (l ++ [(⟨(i : Int), 0, fr⟩ : Snt)]), _, _, rfl, Y19, oD2, hT2, by rw [List.length_append, hll]; rfl, .inr ⟨tA, tB, rfl, rfl, Y19, Y19, Y19, by show tA < S.nxt; omega, by show tB < S.nxt; omega, ?_, ?_⟩, hfin⟩, ?_⟩
   refine jO 107 ?_; rotate_left
   · rw [putDev_hi Y19, blk_set_ne Y19]; exact blk_set_self _ _ _
   · exact Y32
 any_goals
   refine jI 106 ?_
   refine RunO.callw au au au Y24 ((law17_known).mono ?_)
   refine jO 108 ?_; rotate_left
 any_goals
   refine jI 108 ?_
   rintro r s9 ⟨rfl, hs⟩
   refine jO 109 ?_; rotate_left
 any_goals
   refine jI 109 ?_
   subst s9
   refine jO 110 ?_; rotate_left
 any_goals
   refine jI 110 ?_
   refine rh [4] (k := rR (k := ?_))
   refine jO 111 ?_; rotate_left
 any_goals
   refine jI 104 ?_
   rw [putDev_hi Y19, blk_set_ne Y19, blk_new_ne (by simp only [putDev_nxt, nxt_set, nxt_new]; omega), putDev_hi Y19, blk_set_ne Y19]; exact blk_new_eq
 any_goals
   refine jI 111 ?_
   exact Ret.pure (r' := .bool true) (by simp only [Tryz.f5, go_sem, ↓reduceIte] <;> rfl) rfl (by simp only [PV.blw]) hwf (fun i hi => hP0.low i hi) ⟨rfl, rfl⟩
 any_goals
   refine jI 107 ?_
   rw [putDev_hi Y19, blk_set_ne Y19, blk_set_ne Y19, putDev_hi Y19, blk_set_ne Y19]; exact blk_set_self _ _ _
 any_goals
   refine jI 7 ?_
   exact ⟨0, Dev.zero 60, ⟨tl, 0⟩, [], _, _, rfl, Y20, o0, ⟨htl, Nat.zero_le _⟩, rfl, .inl ⟨rfl, rfl, rfl⟩, hP0⟩
end Go.Proofs

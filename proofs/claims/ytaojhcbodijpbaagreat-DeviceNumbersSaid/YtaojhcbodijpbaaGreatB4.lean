import Derived.Test.YtaojhcbodijpbaaGreatB3
import Derived.Test.YtaojhcbodijpbaaGreatB2
import Derived.Test.YtaojhcbodijpbaaGreatB1
set_option linter.unusedVariables false
set_option linter.unusedSimpArgs false
namespace Go.Proofs
open Go.PM
set_option maxHeartbeats 2000000
theorem putDev_hi {b : Nat} {D : Dev} {s : St} {i : Nat} (h : b + 5 < i) : (putDev b D s).blk i = s.blk i := by
 rw [putDev_blk, if_neg Y14, if_neg Y14, if_neg Y14, if_neg Y14, if_neg Y14]
theorem putDev_congr2 {b m : Nat} {D : Dev} {s s' : St} (hk : ∀ i, i < m → i < b + 1 ∨ b + 5 < i → s'.blk i = s.blk i) (i : Nat) (hi : i < m) : (putDev b D s').blk i = (putDev b D s).blk i := by
 rw [putDev_blk, putDev_blk]
 by_cases e5 : i = b + 5
 · rw [if_pos e5, if_pos e5]
 by_cases e4 : i = b + 4
 · rw [if_neg e5, if_neg e5, if_pos e4, if_pos e4]
 by_cases e2 : i = b + 2
 · rw [if_neg e5, if_neg e5, if_neg e4, if_neg e4, if_pos e2, if_pos e2]
 by_cases e3 : i = b + 3
 · rw [if_neg e5, if_neg e5, if_neg e4, if_neg e4, if_neg e2, if_neg e2, if_pos e3, if_pos e3]
 by_cases e1 : i = b + 1
 · rw [if_neg e5, if_neg e5, if_neg e4, if_neg e4, if_neg e2, if_neg e2, if_neg e3, if_neg e3, if_pos e1, if_pos e1]
 rw [if_neg e5, if_neg e5, if_neg e4, if_neg e4, if_neg e2, if_neg e2, if_neg e3, if_neg e3, if_neg e1, if_neg e1]
 exact hk i hi Y14
theorem putDev_lo {b : Nat} {D : Dev} {s : St} {i : Nat} (h : i < b + 1) : (putDev b D s).blk i = s.blk i := by
 rw [putDev_blk, if_neg Y14, if_neg Y14, if_neg Y14, if_neg Y14, if_neg Y14]
theorem I64_wrap (n : Int) : I64 (IntKind.i64.wrap n) := by
 unfold IntKind.wrap
 simp [IntKind.signed, IntKind.bits]
 constructor <;> (split <;> omega)
def DOk (n : Nat) (z : Rep × Dev) : Prop := z.2.ok ∧ z.2.c0.length = n
theorem DOk.ite {n : Nat} {c : Prop} [Decidable c] {x y : Rep × Dev} (h1 : c → DOk n x) (h2 : ¬ c → DOk n y) : DOk n (if c then x else y) := by
 split
 · exact h1 ‹_›
 · exact h2 ‹_›
theorem u16_ibits (op : BinOp) (a b : Int) : U16 (ibits op .u16 a b) := ibits_u16 _ _ _
theorem overF_ok {l x : List Int} (h : OkW l) (k : OkW x) (a : Nat) : OkW (overF l a x) := by
 intro y hy
 unfold overF at hy
 rcases List.mem_append.1 hy with hy | hy
 · rcases List.mem_append.1 hy with hy | hy
   · exact h y (List.mem_of_mem_take hy)
   · exact k y hy
 · exact h y (List.mem_of_mem_drop hy)
theorem there_len {N : Nat} {a m : Int} (h : thereF N a m = true) : 0 ≤ a ∧ 0 ≤ m ∧ a + m ≤ N := by
 unfold thereF at h
 have := of_decide_eq_true h
 omega
theorem bodyF_ok {D : Dev} (hD : D.ok) {q : Req} (hq : q.ok) : (bodyF D q).2.ok ∧ (bodyF D q).2.c0.length = D.c0.length := by
 have h1 := hD.h1; have h2 := hD.h2; have h3 := hD.c1; have h4 := hD.v0; have h5 := hD.v1
 have z : I64 0 := Y71
 have ok0 : ∀ {x : List Bool}, thereF D.c0.length q.at_ x.length = true → ({ D with c0 := overF D.c0 q.at_.toNat x } : Dev).ok ∧ (overF D.c0 q.at_.toNat x).length = D.c0.length := by
   intro x hx
   have ht := there_len hx
   have hl : (overF D.c0 q.at_.toNat x).length = D.c0.length := overF_len Y14
   exact ⟨⟨by show 1 ≤ (overF D.c0 q.at_.toNat x).length; omega, by show (overF D.c0 q.at_.toNat x).length ≤ 65536; omega, by show D.c1.length = (overF D.c0 q.at_.toNat x).length; omega, by show D.v0.length = (overF D.c0 q.at_.toNat x).length; omega, by show D.v1.length = (overF D.c0 q.at_.toNat x).length; omega, hD.w0, hD.w1, hD.unit, hD.msgs, hD.exc⟩, hl⟩
 have ok1 : ∀ {x : List Int} {a : Int}, OkW x → thereF D.c0.length a x.length = true → ({ D with v1 := overF D.v1 a.toNat x } : Dev).ok := by
   intro x a hw hx
   have ht := there_len hx
   have hl : (overF D.v1 a.toNat x).length = D.v1.length := overF_len Y14
   exact ⟨h1, h2, h3, h4, by show (overF D.v1 a.toNat x).length = D.c0.length; omega, hD.w0, overF_ok hD.w1 hw _, hD.unit, hD.msgs, hD.exc⟩
 have key : DOk D.c0.length (bodyF D q) := by
   unfold bodyF
   refine DOk.ite (fun _ => DOk.ite (fun _ => ⟨hD, rfl⟩) (fun _ => ⟨hD, rfl⟩)) fun _ => ?_
   refine DOk.ite (fun _ => DOk.ite (fun _ => ⟨hD, rfl⟩) (fun _ => ⟨hD, rfl⟩)) fun _ => ?_
   refine DOk.ite (fun _ => DOk.ite (fun _ => ⟨hD, rfl⟩) (fun _ => ⟨hD, rfl⟩)) fun _ => ?_
   refine DOk.ite (fun _ => DOk.ite (fun _ => ⟨hD, rfl⟩) (fun _ => ⟨hD, rfl⟩)) fun _ => ?_
   refine DOk.ite (fun _ => DOk.ite (fun ht => ok0 ht) (fun _ => ⟨hD, rfl⟩)) fun _ => ?_
   refine DOk.ite (fun _ => DOk.ite (fun ht => ⟨ok1 hq.vals ht, rfl⟩) (fun _ => ⟨hD, rfl⟩)) fun _ => ?_
   refine DOk.ite (fun _ => ?_) fun _ => ?_
   · unfold diagF
     refine DOk.ite (fun _ => ⟨hD, rfl⟩) fun _ => ?_
     refine DOk.ite (fun _ => ⟨⟨h1, h2, h3, h4, h5, hD.w0, hD.w1, hD.unit, z, z⟩, rfl⟩) fun _ => ?_
     refine DOk.ite (fun _ => DOk.ite (fun _ => ⟨hD, rfl⟩) (fun _ => ⟨hD, rfl⟩)) fun _ => ⟨hD, rfl⟩
   refine DOk.ite (fun _ => ⟨hD, rfl⟩) fun _ => ?_
   refine DOk.ite (fun _ => DOk.ite (fun ht => ⟨ok1 (x := [maskF _ q]) (fun y hy => by rw [List.mem_singleton.1 hy]; exact u16_ibits _ _ _) ht, rfl⟩) (fun _ => ⟨hD, rfl⟩)) fun _ => ?_
   exact DOk.ite (fun ht => ⟨ok1 hq.vals ht.2, rfl⟩) (fun _ => ⟨hD, rfl⟩)
 exact key
theorem inc_ok {D : Dev} (hD : D.ok) : ({ D with msgs := inc D.msgs } : Dev).ok := ⟨hD.h1, hD.h2, hD.c1, hD.v0, hD.v1, hD.w0, hD.w1, hD.unit, I64_wrap _, hD.exc⟩
theorem refD_ok {D : Dev} (hD : D.ok) (fn c : Int) : (refD D fn c).2.ok := ⟨hD.h1, hD.h2, hD.c1, hD.v0, hD.v1, hD.w0, hD.w1, hD.unit, hD.msgs, I64_wrap _⟩
theorem doF_ok {D : Dev} (hD : D.ok) {q : Req} (hq : q.ok) : (doF D q).2.ok ∧ (doF D q).2.c0.length = D.c0.length := by
 have hb := bodyF_ok (inc_ok hD) hq
 have key : DOk D.c0.length (doF D q) := by
   unfold doF
   dsimp only
   refine DOk.ite (fun _ => ⟨refD_ok (inc_ok hD) _ _, rfl⟩) fun _ => ?_
   refine DOk.ite (fun _ => ⟨refD_ok (inc_ok hD) _ _, rfl⟩) fun _ => ?_
   exact DOk.ite (fun _ => ⟨refD_ok hb.1 _ _, hb.2⟩) fun _ => hb
 exact key
theorem DevAt.sv {b : Nat} {D : Dev} {s : St} (h : DevAt b D s) {i : Nat} (hi : b + 5 < i) (x : Option Blk) : DevAt b D (s.set i x) := by
 have e : ∀ j, j ≤ b + 5 → (s.set i x).blk j = s.blk j := fun j hj => blk_set_ne Y14
 exact ⟨Y266, Y201, Y202, Y267, Y268, Y269⟩
def ROk (z : Rep × Dev) : Prop := z.1.ok
theorem ROk.ite {c : Prop} [Decidable c] {x y : Rep × Dev} (h1 : c → ROk x) (h2 : ¬ c → ROk y) : ROk (if c then x else y) := by
 split
 · exact h1 ‹_›
 · exact h2 ‹_›
theorem zI : I64 0 := Y71
theorem zU : U16 0 := Y71
theorem zW : OkW [] := fun x hx => (List.not_mem_nil hx).elim
theorem refuseP_ok (fn code : Int) : (refuseP fn code).ok := ⟨by show I64 (fn % 128); constructor <;> omega, by show I64 (code % 256); constructor <;> omega, zI, zI, zI, zW, zU, zU, OkB.nil, Y84, by show 0 * 2 ≤ _; decide, Y84⟩
theorem Y357 {p : Prop} (h : p := by show vals.length * 2 ≤ _; omega) : p := h
theorem rep_ok {fn at_ count sub and_ or_ : Int} {bits : List Bool} {vals data : List Int} (h1 : I64 fn) (h2 : I64 at_) (h3 : I64 count) (h4 : I64 sub) (h5 : OkW vals) (h6 : U16 and_) (h7 : U16 or_) (h8 : OkB data) (h9 : bits.length ≤ 65536) (h10 : vals.length ≤ 65536) (h11 : data.length ≤ 65536) :
   (⟨fn, 0, at_, count, sub, bits, vals, and_, or_, data⟩ : Rep).ok := ⟨h1, zI, h2, h3, h4, h5, h6, h7, h8, by show bits.length ≤ _; omega, Y357, by show data.length ≤ _; omega⟩
theorem cutF_ok {l : List Int} (h : OkW l) (a m : Int) : OkW (cutF l a m) := by
 unfold cutF
 split
 · exact fun x hx => h x (List.mem_of_mem_drop (List.mem_of_mem_take hx))
 · exact zW
theorem cutF_len {α : Type} (l : List α) (a m : Int) : (cutF l a m).length ≤ l.length := by
 unfold cutF
 split
 · rw [List.length_take, List.length_drop]; omega
 · simp
theorem OkW.one {v : Int} (h : U16 v) : OkW [v] := fun x hx => by rw [List.mem_singleton.1 hx]; exact h
theorem head_ok {l : List Int} (h : OkW l) : U16 ((l[0]?).getD 0) := by
 cases hx : l[0]? with
 | none => exact zU
 | some x => exact h x (List.mem_of_getElem? hx)
theorem u16_wrap_ok (n : Int) : U16 (IntKind.u16.wrap n) := by rw [u16_wrap]; constructor <;> omega
theorem bodyF_rep {D : Dev} (hD : D.ok) {q : Req} (hq : q.ok) : (bodyF D q).1.ok := by
 have h1 := hD.h1; have h2 := hD.h2; have h3 := hD.c1; have h4 := hD.v0; have h5 := hD.v1
 have w : ROk (whereF q, D) := refuseP_ok _ _
 have n0 : ([] : List Bool).length ≤ 65536 := Y15
 have n1 : ([] : List Int).length ≤ 65536 := Y15
 have m1 : ∀ v : Int, [v].length ≤ 65536 := fun v => Y70
 have m2 : ∀ v : Bool, [v].length ≤ 65536 := fun v => Y70
 have key : ROk (bodyF D q) := by
   unfold bodyF
   refine ROk.ite (fun _ => ROk.ite (fun _ => rep_ok hq.fn zI zI zI zW zU zU OkB.nil (Nat.le_trans (cutF_len _ _ _) Y14) n1 n1) (fun _ => w)) fun _ => ?_
   refine ROk.ite (fun _ => ROk.ite (fun _ => rep_ok hq.fn zI zI zI zW zU zU OkB.nil (Nat.le_trans (cutF_len _ _ _) Y14) n1 n1) (fun _ => w)) fun _ => ?_
   refine ROk.ite (fun _ => ROk.ite (fun _ => rep_ok hq.fn zI zI zI (cutF_ok hD.w1 _ _) zU zU OkB.nil n0 (Nat.le_trans (cutF_len _ _ _) Y14) n1) (fun _ => w)) fun _ => ?_
   refine ROk.ite (fun _ => ROk.ite (fun _ => rep_ok hq.fn zI zI zI (cutF_ok hD.w0 _ _) zU zU OkB.nil n0 (Nat.le_trans (cutF_len _ _ _) Y14) n1) (fun _ => w)) fun _ => ?_
   refine ROk.ite (fun _ => ROk.ite (fun _ => ?_) (fun _ => w)) fun _ => ?_
   · show Rep.ok (if q.fn = 15 then _ else _)
     split
     · exact rep_ok hq.fn hq.at_ hq.count zI zW zU zU OkB.nil n0 n1 n1
     · exact rep_ok hq.fn hq.at_ zI zI zW zU zU OkB.nil (m2 _) n1 n1
   refine ROk.ite (fun _ => ROk.ite (fun _ => ?_) (fun _ => w)) fun _ => ?_
   · show Rep.ok (if q.fn = 16 then _ else _)
     split
     · exact rep_ok hq.fn hq.at_ hq.count zI zW zU zU OkB.nil n0 n1 n1
     · exact rep_ok hq.fn hq.at_ zI zI (OkW.one (head_ok hq.vals)) zU zU OkB.nil n0 (m1 _) n1
   refine ROk.ite (fun _ => ?_) fun _ => ?_
   · unfold diagF
     refine ROk.ite (fun _ => rep_ok hq.fn zI zI hq.sub (OkW.one (head_ok hq.vals)) zU zU OkB.nil n0 (m1 _) n1) fun _ => ?_
     refine ROk.ite (fun _ => rep_ok hq.fn zI zI hq.sub (OkW.one (head_ok hq.vals)) zU zU OkB.nil n0 (m1 _) n1) fun _ => ?_
     exact ROk.ite (fun _ => ROk.ite (fun _ => refuseP_ok _ _) (fun _ => rep_ok hq.fn zI zI hq.sub (OkW.one (u16_wrap_ok _)) zU zU OkB.nil n0 (m1 _) n1)) fun _ => refuseP_ok _ _
   refine ROk.ite (fun _ => rep_ok hq.fn zI zI zI zW zU zU (OkB.cons hD.unit (OkB.cons Y71 OkB.nil)) n0 n1 Y70) fun _ => ?_
   refine ROk.ite (fun _ => ROk.ite (fun _ => rep_ok hq.fn hq.at_ zI zI zW hq.and_ hq.or_ OkB.nil n0 n1 n1) (fun _ => w)) fun _ => ?_
   refine ROk.ite (fun ht => rep_ok hq.fn zI zI zI (cutF_ok (overF_ok hD.w1 hq.vals _) _ _) zU zU OkB.nil n0 (Nat.le_trans (cutF_len _ _ _) ?_) n1) (fun _ => w)
   have := there_len ht.2
   rw [overF_len Y14]; omega
 exact key
theorem doF_rep {D : Dev} (hD : D.ok) {q : Req} (hq : q.ok) : (doF D q).1.ok := by
 have hb := bodyF_rep (inc_ok hD) hq
 have key : ROk (doF D q) := by
   unfold doF
   dsimp only
   refine ROk.ite (fun _ => refuseP_ok _ _) fun _ => ?_
   refine ROk.ite (fun _ => refuseP_ok _ _) fun _ => ?_
   exact ROk.ite (fun _ => refuseP_ok _ _) fun _ => hb
 exact key
attribute [local go_sem] set_set putDev_hi putDev_nxt weaks_bools Req.pv Rep.pv
theorem Y37 {p : Prop} (h : p := by rw [hS]; simp (disch := first | omega | (simp only [nxt_set, nxt_new] <;> omega) | fail) only [go_sem] <;> rfl) : p := h
theorem Y38 {p : Prop} (h : p := by rw [hS]; simp (disch := first | omega | (simp only [nxt_set, nxt_new] <;> omega) | fail) only [go_sem]) : p := h
theorem Y272 {p : Prop} (h : p := by rw [gn]; omega) : p := h
theorem Y39 {p : Prop} (h : p := by
 exact
                                 (fun j hj hj2 => by
  have h0 := ltn hj; have h1 := lte hj; have h2 : (j = S.nxt) = False := eq_false Y272
  first
  | exact gf j hj Y14
  | (rcases hj2 with hj2 | hj2
     · simp (disch := first | omega | (simp only [nxt_set, nxt_new] <;> omega) | fail) only [h2, ↓reduceIte, go_sem, putDev_lo, putDev_put]; exact gf j hj Y14
     · simp (disch := first | omega | (simp only [nxt_set, nxt_new] <;> omega) | fail) only [h2, ↓reduceIte, go_sem, putDev_hi, putDev_put]; exact gf j hj Y14))) : p := h
theorem Y156 {p : Prop} (h : p := by simp only [Tryz.f12, go_sem, ↓reduceIte] <;> rfl) : p := h
theorem Y210 {p : Prop} (h : p := by rw [e _ Y14 Y14]; exact hA.st) : p := h
theorem Y211 {p : Prop} (h : p := by rw [e _ Y14 Y14]; exact hA.c0) : p := h
theorem Y212 {p : Prop} (h : p := by rw [e _ Y14 Y14]; exact hA.c1) : p := h
theorem Y213 {p : Prop} (h : p := by rw [e _ Y14 Y14]; exact hA.v0) : p := h
theorem Y214 {p : Prop} (h : p := by rw [e _ Y14 Y14]; exact hA.v1) : p := h
set_option maxRecDepth 100000 in
theorem device_DoNo {b : Nat} {D : Dev} {s : St} (hA : DevAt b D s) {q : Req} (hq : q.ok) (hh : hasF q.fn = false) : ACalls Tryz.prog 12 [.ptr (b + 5) 0 0, q.pv] s (fun r s' => r = (doF D q).1.pv ∧ s' = putDev b (doF D q).2 s) := by
 refine go Tryz.func12 (k := fun hwf H => ?_)
 have hdv := hA.dv
 unfold devRow at hdv
 have hlt := hA.lt hwf
 have h1c : I64 1 := Y71
 have h3c : I64 3 := Y71
 have hinc : IntKind.i64.wrap (D.msgs + 1) = inc D.msgs := rfl
 have H := aj hdv (aj hinc H)
 refine rs (k := rg [0, 3, 4] (k := rs (k := rg [0, 3, 4] (k := rs (k := ?_)))))
 refine Run.genS fun S hS => ?_
 have g0 : S.blk s.nxt = some (.row 33 [.agg [.int .i64 q.fn, .int .i64 q.at_, .int .i64 q.count, .int .i64 q.wat, .int .i64 q.sub, .sl .unk (q.bits.map PV.bool), .sl .unk (q.vals.map (PV.int .u16)), .int .u16 q.and_, .int .u16 q.or_]]) := Y37
 have g1 : S.blk (s.nxt + 1) = some (.row 42 [.agg [.int .i64 0, .int .i64 0, .int .i64 0, .int .i64 0, .int .i64 0, .sl .nil [], .sl .nil [], .int .u16 0, .int .u16 0, .sl .nil []]]) := Y37
 have gA : DevAt b { D with msgs := inc D.msgs } S := by
   have e : ∀ i, i ≤ b + 5 → i ≠ b + 5 → S.blk i = s.blk i := fun i h1 h2 => Y38
   exact ⟨Y210, Y211, Y212, Y213, Y214, Y37⟩
 have gn : S.nxt = s.nxt + 2 := by rw [hS]; rfl
 have gf : ∀ i, i < s.nxt → i ≠ b + 5 → S.blk i = s.blk i := fun i h1 h2 => Y38
 clear hS
 have H := aj g0 (aj g1 H)
 refine rr (k := ro (pre := [_, _]) (k := rC (h := device_does_no hh) (k := rh [0, 3, 4, 5] (k := rs (k := rb (k := rs (k := rg [0, 3, 4, 5, 17] (k := rc (ht := fun hc0 => ?_) (hf := fun hc0 => ?_)))))))))
 · refine rs (k := rr (k := ro (pre := [_, _, _]) (k := ?_)))
   refine RunO.callw au au au Y18 ((device_refuse gA hq.fn h1c).mono ?_)
   rintro r s1 ⟨rfl, rfl⟩
   refine rh [4] (k := rR (k := ?_))
   have hB : doF D q = refD { D with msgs := inc D.msgs } q.fn 1 := by
     unfold doF
     dsimp only
     rw [if_pos hh]
   refine Ret.dev (doF D q).2 hA (r' := (doF D q).1.pv) Y156 ?_ (blw_rep _ _) hwf ?_ ⟨rfl, rfl⟩
   · rw [hB]; rfl
   · rw [hB]
     exact (fun i hi => by
          have h0 := ltn hi; have h1 := lte hi; have h2 : (i = S.nxt) = False := eq_false Y272
          simp (disch := first | omega | (simp only [nxt_set, nxt_new] <;> omega) | fail) only [h2, go_sem, Nat.add_assoc, Nat.reduceAdd, ↓reduceIte, h0, h1]
          exact putDev_congr2 (m := s.nxt) Y39 i hi)
 · cases hc0
attribute [local go_sem] set_set putDev_hi putDev_nxt weaks_bools Req.pv Rep.pv
theorem Y40 {p : Prop} (h : p := by
 exact
        (fun i hi => by
  have h0 := ltn hi; have h1 := lte hi; have h2 : (i = S.nxt) = False := eq_false Y272
  simp (disch := first | omega | (simp only [nxt_set, nxt_new] <;> omega) | fail) only [h2, go_sem, Nat.add_assoc, Nat.reduceAdd, ↓reduceIte, h0, h1]
  exact putDev_congr2 (m := s.nxt) Y39 i hi)) : p := h
set_option maxRecDepth 100000 in
theorem device_DoYes {b : Nat} {D : Dev} {s : St} (hA : DevAt b D s) (hD : D.ok) {q : Req} (hq : q.ok) (hh : hasF q.fn = true) : ACalls Tryz.prog 12 [.ptr (b + 5) 0 0, q.pv] s (fun r s' => r = (doF D q).1.pv ∧ s' = putDev b (doF D q).2 s) := by
 refine go Tryz.func12 (k := fun hwf H => ?_)
 have hdv := hA.dv
 unfold devRow at hdv
 have hlt := hA.lt hwf
 have h1c : I64 1 := Y71
 have h3c : I64 3 := Y71
 have hinc : IntKind.i64.wrap (D.msgs + 1) = inc D.msgs := rfl
 have H := aj hdv (aj hinc H)
 obtain ⟨Nf, hdoes, hcal, hbody⟩ := device_does_body hh
 obtain ⟨X, hX⟩ : ∃ X, X = bodyF { D with msgs := inc D.msgs } q := ⟨_, rfl⟩
 refine rs (k := rg [0, 3, 4] (k := rs (k := rg [0, 3, 4] (k := rs (k := ?_)))))
 refine Run.genS fun S hS => ?_
 have g0 : S.blk s.nxt = some (.row 33 [.agg [.int .i64 q.fn, .int .i64 q.at_, .int .i64 q.count, .int .i64 q.wat, .int .i64 q.sub, .sl .unk (q.bits.map PV.bool), .sl .unk (q.vals.map (PV.int .u16)), .int .u16 q.and_, .int .u16 q.or_]]) := Y37
 have g1 : S.blk (s.nxt + 1) = some (.row 42 [.agg [.int .i64 0, .int .i64 0, .int .i64 0, .int .i64 0, .int .i64 0, .sl .nil [], .sl .nil [], .int .u16 0, .int .u16 0, .sl .nil []]]) := Y37
 have gA : DevAt b { D with msgs := inc D.msgs } S := by
   have e : ∀ i, i ≤ b + 5 → i ≠ b + 5 → S.blk i = s.blk i := fun i h1 h2 => Y38
   exact ⟨Y210, Y211, Y212, Y213, Y214, Y37⟩
 have gn : S.nxt = s.nxt + 2 := by rw [hS]; rfl
 have gf : ∀ i, i < s.nxt → i ≠ b + 5 → S.blk i = s.blk i := fun i h1 h2 => Y38
 clear hS
 have H := aj g0 (aj g1 (aj gn H))
 refine rr (k := ro (pre := [_, _]) (k := rC (h := hdoes _) (k := rh [0, 3, 4, 5] (k := rs (k := rb (k := rs (k := rg [0, 3, 4, 5, 17] (k := rc (ht := fun hc0 => ?_) (hf := fun hc0 => ?_)))))))))
 · cases hc0
 refine rs (k := rr (k := ro (pre := [_]) (k := rC (h := pdu_Right (q := q)) (k := ro (pre := [_, _, _]) (k := rG (h := fun hb => pdu_Counts (q := q)) (k := rh [0, 3, 4, 5, 24] (k := rc (ht := fun hc1 => ?_) (hf := fun hc1 => ?_))))))))
 refine rs (k := rr (k := ro (pre := [_, _, _]) (k := ?_)))
 refine RunO.callw au au au Y18 ((device_refuse gA hq.fn h3c).mono ?_)
 refine jO 1 ?_; rotate_left
 refine rk (k := rB (k := rs (k := ?_)))
 have hok : rightF q = 0 ∧ countF q = true := by simpa using hc1
 have gA2 : DevAt b X.2 (putDev b X.2 S) := gA.put (by rw [hX]; exact (bodyF_ok (inc_ok hD) hq).2)
 refine rr (k := ro (pre := [_, _, _]) (k := ?_))
 refine RunO.callw au au au hcal ((hbody gA (inc_ok hD) hq hok.1 hok.2).mono ?_)
 rw [← hX]
 rintro r s1 ⟨rfl, rfl⟩
 refine rh [0, 3, 4, 6] (k := rs (k := rs (k := rg [0, 3, 4, 6, 43] (k := rc (ht := fun hc2 => ?_) (hf := fun hc2 => ?_)))))
 refine rs (k := ?_)
 have hXc : I64 X.1.code := by rw [hX]; exact (bodyF_rep (inc_ok hD) hq).code
 refine rr (k := ro (pre := [_, _, _, _, _]) (k := ?_))
 refine RunO.callw au au au Y18 ((device_refuse ((gA2.nw (by rw [putDev_nxt]; omega) _).sv Y14 _) hq.fn hXc).mono ?_)
 refine jO 1 ?_; rotate_left
 refine rk (k := rs (k := rg [4] (k := rR (k := ?_))))
 refine jO 2 ?_; rotate_left
 any_goals
   refine jI 1 ?_
   rintro r s1 ⟨rfl, rfl⟩
   refine jO 3 ?_; rotate_left
 any_goals
   refine jI 3 ?_
   refine rh [4] (k := rR (k := ?_))
   refine jO 2 ?_; rotate_left
 any_goals
   refine jI 2 ?_
   have h00 : ¬ hasF q.fn = false := by rw [hh]; decide
   refine jO 4 ?_; rotate_left
 any_goals
   refine jI 4 ?_
   first
     | (have hB : doF D q = refD { D with msgs := inc D.msgs } q.fn 3 := by
          have hcc : ¬ rightF q = 0 ∨ countF q = false := by simpa using hc1
          unfold doF
          dsimp only
          rw [if_neg h00, if_pos hcc]
        refine Ret.dev (doF D q).2 hA (r' := (doF D q).1.pv) Y156 ?_ (blw_rep _ _) hwf ?_ ⟨rfl, rfl⟩
        · rw [hB]; rfl
        · rw [hB]
          exact Y40)
     | (have hB : doF D q = refD X.2 q.fn X.1.code := by
          have hcc : ¬ (¬ rightF q = 0 ∨ countF q = false) := by rw [hok.1, hok.2]; simp
          have hc3 : ¬ X.1.code = 0 := by simpa using hc2
          unfold doF
          dsimp only
          rw [if_neg h00, if_neg hcc, ← hX, if_pos hc3]
        refine Ret.dev (doF D q).2 hA (r' := (doF D q).1.pv) Y156 ?_ (blw_rep _ _) hwf ?_ ⟨rfl, rfl⟩
        · rw [hB]; rfl
        · rw [hB]
          exact Y40)
     | (have hB : doF D q = X := by
          have hcc : ¬ (¬ rightF q = 0 ∨ countF q = false) := by rw [hok.1, hok.2]; simp
          have hc3 : ¬ ¬ X.1.code = 0 := by simpa using hc2
          unfold doF
          dsimp only
          rw [if_neg h00, if_neg hcc, ← hX, if_neg hc3]
        refine Ret.dev (doF D q).2 hA (r' := (doF D q).1.pv) Y156 ?_ (blw_rep _ _) hwf ?_ ⟨rfl, rfl⟩
        · rw [hB]; simp only [Rep.pv, PV.weak, PV.weaks, weaks_u16, weaks_bools, weaks_u8]
        · rw [hB]
          exact Y40)
end Go.Proofs
namespace Go.Proofs
open Go.PM
set_option maxHeartbeats 2000000
theorem device_Do {b : Nat} {D : Dev} {s : St} (hA : DevAt b D s) (hD : D.ok) {q : Req} (hq : q.ok) : ACalls Tryz.prog 12 [.ptr (b + 5) 0 0, q.pv] s (fun r s' => r = (doF D q).1.pv ∧ s' = putDev b (doF D q).2 s) := by
 cases hh : hasF q.fn with
 | false => exact device_DoNo hA hq hh
 | true => exact device_DoYes hA hD hq hh
theorem u8_and127 {a : Int} (h : U8 a) : ibits .and .u8 a 127 = a % 128 := by
 unfold U8 at h
 obtain ⟨n, rfl⟩ : ∃ n : Nat, a = n := ⟨a.toNat, (Int.toNat_of_nonneg h.1).symm⟩
 have hn : n < 256 := Y14
 have : ∀ m : Fin 256, ibits .and .u8 ((m.val : Nat) : Int) 127 = ((m.val : Nat) : Int) % 128 := by decide +kernel
 exact this ⟨n, hn⟩
theorem zeroR_ok : zeroR.ok := ⟨zI, zI, zI, zI, zI, zW, zU, zU, Y15, Y15⟩
theorem readF_ok {l : List Int} (h : OkB l) (hl : l.length ≤ 140737488351232) : (readF l).1.ok := by
 unfold readF
 repeat' split
 · exact zeroR_ok
 · exact zeroR_ok
 · exact guessF_ok h hl
 · exact zeroR_ok
theorem readF_nil {l : List Int} (h : ¬ (readF l).2 = 13) : l ≠ [] := by
 rintro rfl
 exact h rfl
attribute [local go_sem] set_set putDev_hi putDev_nxt weaks_bools Req.pv Rep.pv
theorem Y94 {p : Prop} (h : p := by
 exact
                                 (fun j hj hj2 => by
  have h0 := ltn hj; have h1 := lte hj
  simp (disch := first | omega | (simp only [nxt_set, nxt_new] <;> omega) | fail) only [go_sem, Nat.add_assoc, Nat.reduceAdd, ↓reduceIte, h0, h1])) : p := h
theorem Y215 {p : Prop} (h : p := by simp only [Tryz.f14, go_sem, ↓reduceIte] <;> rfl) : p := h
theorem Y273 {p : Prop} (h : p := by first | exact refuseP_ok _ _ | exact doF_rep hD hqo) : p := h
theorem Y274 {p : Prop} (h : p := by simp only [PV.weak, weaks_u8]) : p := h
set_option maxRecDepth 100000 in
theorem device_Pdu {b : Nat} {D : Dev} {s : St} (hA : DevAt b D s) (hD : D.ok) {l : List Int} (hb : OkB l) (hl : l.length ≤ 140737488351232) : ACalls Tryz.prog 14 [.ptr (b + 5) 0 0, .sl .unk (l.map (PV.int .u8))] s (fun r s' => r = .sl .unk ((pduF D l).1.map (PV.int .u8)) ∧ s' = putDev b (pduF D l).2 s) := by
 refine go Tryz.func14 (k := fun hwf H => ?_)
 have hdv := hA.dv
 unfold devRow at hdv
 have hlt := hA.lt hwf
 have hA1 : ∀ x y, DevAt b D ((s.new x).new y) := fun x y => (hA.nw hlt x).nw Y90 y
 have h1c : I64 1 := Y71
 have h3c : I64 3 := Y71
 have hinc : IntKind.i64.wrap (D.msgs + 1) = inc D.msgs := rfl
 have H := aj hdv (aj hinc H)
 obtain ⟨q, hQ⟩ : ∃ q, q = (readF l).1 := ⟨_, rfl⟩
 obtain ⟨E, hE⟩ : ∃ E, E = (readF l).2 := ⟨_, rfl⟩
 have hqo : q.ok := by rw [hQ]; exact readF_ok hb hl
 have hrd : ∀ s, ACalls Tryz.prog 43 [.sl .unk (l.map (PV.int .u8))] s (fun r s' => r = .tuple [q.pv, .int .i64 E] ∧ s' = s) := fun s => by rw [hQ, hE]; exact pdu_Read hb hl
 refine rs (k := rg [0, 1] (k := rs (k := rr (k := ro (pre := [_]) (k := rC (h := hrd _) (k := rh [0, 1, 5, 6] (k := rs (k := rg [0, 1, 5, 6, 7] (k := rs (k := rs (k := rg [0, 1, 5, 7, 15] (k := rb (k := rs (k := rg [0, 1, 5, 7, 15, 19] (k := rc (ht := fun hc0 => ?_) (hf := fun hc0 => ?_))))))))))))))))
 refine rs (k := rg [4] (k := rR (k := ?_)))
 refine jO 1 ?_; rotate_left
 refine rs (k := rg [0, 1, 5, 7, 15, 21] (k := rc (ht := fun hc1 => ?_) (hf := fun hc1 => ?_)))
 refine rs (k := ?_)
 have hne : l ≠ [] := readF_nil (by rw [← hE]; have := of_decide_eq_false hc0; exact this)
 have hll : 0 < l.length := List.length_pos_iff.2 hne
 obtain ⟨x, hx⟩ : ∃ x, l[0]? = some x := ⟨l[0], List.getElem?_eq_getElem hll⟩
 have hxx : (l.map (PV.int .u8))[0]? = some (.int .u8 x) := Y142
 have hlT : (0 < l.length) = True := eq_true hll
 have hx8 : U8 x := hb x (List.mem_of_getElem? hx)
 have hx0 : (l[0]?).getD 0 = x := Y320
 have ha127 : ibits .and .u8 x 127 = x % 128 := u8_and127 hx8
 have hw : IntKind.i64.wrap (x % 128) = x % 128 := wrap_i64 Y14
 have hx64 : I64 (x % 128) := Y259
 have H := aj hxx (aj hlT (aj ha127 (aj hw H)))
 refine rg [0, 1, 7] (k := ?_)
 refine Run.genS fun S hS => ?_
 have g0 : S.blk s.nxt = some (.row 33 [.agg [.int .i64 q.fn, .int .i64 q.at_, .int .i64 q.count, .int .i64 q.wat, .int .i64 q.sub, .sl .unk (q.bits.map PV.bool), .sl .unk (q.vals.map (PV.int .u16)), .int .u16 q.and_, .int .u16 q.or_]]) := Y37
 have g1 : S.blk (s.nxt + 1) = some (.row 42 [.agg [.int .i64 0, .int .i64 0, .int .i64 0, .int .i64 0, .int .i64 0, .sl .nil [], .sl .nil [], .int .u16 0, .int .u16 0, .sl .nil []]]) := Y37
 have gA : DevAt b { D with msgs := inc D.msgs } S := by
   have e : ∀ i, i ≤ b + 5 → i ≠ b + 5 → S.blk i = s.blk i := fun i h1 h2 => Y38
   exact ⟨Y210, Y211, Y212, Y213, Y214, Y37⟩
 have gn : S.nxt = s.nxt + 2 := by rw [hS]; rfl
 have gf : ∀ i, i < s.nxt → i ≠ b + 5 → S.blk i = s.blk i := fun i h1 h2 => Y38
 clear hS
 have H := aj g0 (aj g1 H)
 refine rr (k := ro (pre := [_, _, _, _, _, _]) (k := ?_))
 refine RunO.callw au au au Y18 ((device_refuse gA hx64 h1c).mono ?_)
 refine jO 2 ?_; rotate_left
 refine rs (k := rg [0, 1, 5, 7, 37] (k := rc (ht := fun hc2 => ?_) (hf := fun hc2 => ?_)))
 refine rs (k := ?_)
 have hne : l ≠ [] := readF_nil (by rw [← hE]; have := of_decide_eq_false hc0; exact this)
 have hll : 0 < l.length := List.length_pos_iff.2 hne
 obtain ⟨x, hx⟩ : ∃ x, l[0]? = some x := ⟨l[0], List.getElem?_eq_getElem hll⟩
 have hxx : (l.map (PV.int .u8))[0]? = some (.int .u8 x) := Y142
 have hlT : (0 < l.length) = True := eq_true hll
 have hx8 : U8 x := hb x (List.mem_of_getElem? hx)
 have hx0 : (l[0]?).getD 0 = x := Y320
 have ha127 : ibits .and .u8 x 127 = x % 128 := u8_and127 hx8
 have hw : IntKind.i64.wrap (x % 128) = x % 128 := wrap_i64 Y14
 have hx64 : I64 (x % 128) := Y259
 have H := aj hxx (aj hlT (aj ha127 (aj hw H)))
 refine rg [0, 1, 7] (k := ?_)
 refine Run.genS fun S hS => ?_
 have g0 : S.blk s.nxt = some (.row 33 [.agg [.int .i64 q.fn, .int .i64 q.at_, .int .i64 q.count, .int .i64 q.wat, .int .i64 q.sub, .sl .unk (q.bits.map PV.bool), .sl .unk (q.vals.map (PV.int .u16)), .int .u16 q.and_, .int .u16 q.or_]]) := Y37
 have g1 : S.blk (s.nxt + 1) = some (.row 42 [.agg [.int .i64 0, .int .i64 0, .int .i64 0, .int .i64 0, .int .i64 0, .sl .nil [], .sl .nil [], .int .u16 0, .int .u16 0, .sl .nil []]]) := Y37
 have gA : DevAt b { D with msgs := inc D.msgs } S := by
   have e : ∀ i, i ≤ b + 5 → i ≠ b + 5 → S.blk i = s.blk i := fun i h1 h2 => Y38
   exact ⟨Y210, Y211, Y212, Y213, Y214, Y37⟩
 have gn : S.nxt = s.nxt + 2 := by rw [hS]; rfl
 have gf : ∀ i, i < s.nxt → i ≠ b + 5 → S.blk i = s.blk i := fun i h1 h2 => Y38
 clear hS
 have H := aj g0 (aj g1 H)
 refine rr (k := ro (pre := [_, _, _, _, _, _]) (k := ?_))
 refine RunO.callw au au au Y18 ((device_refuse gA hx64 h3c).mono ?_)
 refine jO 2 ?_; rotate_left
 refine rr (k := ro (pre := [_, _]) (k := ?_))
 refine RunO.callw au au au Y18 ((device_Do (hA1 _ _) hD hqo).mono ?_)
 refine jO 2 ?_; rotate_left
 any_goals
   refine jI 2 ?_
   rintro r s1 ⟨rfl, rfl⟩
   refine jO 3 ?_; rotate_left
 any_goals
   refine jI 3 ?_
   refine rh [7] (k := rB (k := rs (k := rr (k := ro (pre := [_]) (k := rC (h := reply_Bytes Y273) (k := rh [8] (k := rs (k := rg [4] (k := rR (k := ?_))))))))))
   refine jO 1 ?_; rotate_left
 any_goals
   refine jI 1 ?_
   first
     | (have hEk : E = 15 := of_decide_eq_true hc1
        have hB : pduF D l = (repF (refD { D with msgs := inc D.msgs } (x % 128) 1).1, (refD { D with msgs := inc D.msgs } (x % 128) 1).2) := by
          unfold pduF
          rw [← hE, hEk, hx0]
          rfl
        refine Ret.dev (refD { D with msgs := inc D.msgs } (x % 128) 1).2 hA (r' := .sl .unk ((repF (refD { D with msgs := inc D.msgs } (x % 128) 1).1).map (PV.int .u8))) Y215 ?_ Y19 hwf ?_ ⟨Y91, Y91⟩
        · exact Y274
        · exact Y40)
     | (have hEk : E = 12 := of_decide_eq_true hc2
        have hB : pduF D l = (repF (refD { D with msgs := inc D.msgs } (x % 128) 3).1, (refD { D with msgs := inc D.msgs } (x % 128) 3).2) := by
          unfold pduF
          rw [← hE, hEk, hx0]
          rfl
        refine Ret.dev (refD { D with msgs := inc D.msgs } (x % 128) 3).2 hA (r' := .sl .unk ((repF (refD { D with msgs := inc D.msgs } (x % 128) 3).1).map (PV.int .u8))) Y215 ?_ Y19 hwf ?_ ⟨Y91, Y91⟩
        · exact Y274
        · exact Y40)
     | (have hEk : E = 13 := of_decide_eq_true hc0
        have hB : pduF D l = ([], D) := by
          unfold pduF
          rw [← hE, if_pos hEk]
        refine Ret.dev D hA (r' := .sl .unk (([] : List Int).map (PV.int .u8))) Y215 ?_ Y19 hwf ?_ ⟨Y91, Y91⟩
        · rfl
        · rw [putDev_self hA]
          exact fun i hi => by have h0 := ltn hi; have h1 := lte hi; simp only [go_sem, Nat.add_assoc, Nat.reduceAdd, ↓reduceIte, h0, h1])
     | (have hB : pduF D l = (repF (doF D q).1, (doF D q).2) := by
          unfold pduF
          rw [← hE, if_neg (of_decide_eq_false hc0), if_neg (of_decide_eq_false hc1), if_neg (of_decide_eq_false hc2), ← hQ]
        refine Ret.dev (doF D q).2 hA (r' := .sl .unk ((repF (doF D q).1).map (PV.int .u8))) Y215 ?_ Y19 hwf ?_ ⟨Y91, Y91⟩
        · exact Y274
        · exact (fun i hi => by
          have h0 := ltn hi; have h1 := lte hi
          simp (disch := first | omega | (simp only [nxt_set, nxt_new] <;> omega) | fail) only [go_sem, Nat.add_assoc, Nat.reduceAdd, ↓reduceIte, h0, h1]
          exact putDev_congr2 (m := s.nxt) Y94 i hi))
end Go.Proofs
namespace Go.Proofs
open Go.PM
set_option maxHeartbeats 2000000
theorem Y275 {p : Prop} (h : p := by
 refine rs (k := rg [2] (k := rR (k := rP (by simp only [Tryz.f24, go_sem]; rfl) hwf ⟨?_, rfl⟩)))
 simp [PV.weak, go_sem]) : p := h
theorem store_New0 {s : St} : ACalls Tryz.prog 24 [.int .i64 0] s (fun r s' => r = .nilp ∧ s' = s) := by
 refine go Tryz.func24 (k := fun hwf H => ?_)
 have f0 : (decide ((0 : Int) < 1)) = true := Y15
 have H := aj f0 H
 refine rs (k := rg [0] (k := rs (k := rs (k := rg [0, 10] (k := rc (ht := fun hc0 => ?_) (hf := fun hc0 => ?_))))))
 · exact Y275
 · cases hc0
theorem Y276 {p : Prop} (h : p := by
 refine rs (k := rg [2] (k := rR (k := rP (by simp only [Tryz.f9, go_sem]; rfl) hwf ⟨?_, rfl⟩)))
 simp [PV.weak, go_sem]) : p := h
theorem device_New0 {s : St} : ACalls Tryz.prog 9 [.int .i64 0] s (fun r s' => r = .nilp ∧ s' = s) := by
 refine go Tryz.func9 (k := fun hwf H => ?_)
 refine rs (k := rg [0] (k := rs (k := rr (k := ro (pre := [_]) (k := rC (h := store_New0) (k := rh [3] (k := rs (k := rs (k := rg [3, 7] (k := rc (ht := fun hc0 => ?_) (hf := fun hc0 => ?_)))))))))))
 · exact Y276
 · cases hc0
theorem Y95 {p : Prop} (h : p := by
 refine rk (k := rB (k := rg [0, 1, 5] (k := ?_)))
 have hxy : x = y := by simpa using hc2
 refine Run.lp ⟨⟨rfl, i + 1, rfl, Y14, ?_⟩, ?_⟩
 · rw [take_get hil, take_get hjl, hbe, hxe, hye, hxy]
 · simp only [ivar, go_sem, ↓reduceIte, Nat.reduceEqDiff]
   omega) : p := h
theorem book_same16 {xs ys : List Int} (nx : xs.length < 140737488355328) {s : St} : ACalls Tryz.prog 23 [.sl .unk (xs.map (PV.int .u16)), .sl .unk (ys.map (PV.int .u16))] s (fun r s' => r = .bool (decide (xs = ys)) ∧ s' = s) := by
 refine go Tryz.func23 (k := fun hwf H => ?_)
 refine rs (k := rg [0, 1] (k := rs (k := rs (k := rg [0, 1, 10] (k := rc (ht := fun hc0 => ?_) (hf := fun hc0 => ?_))))))
 refine jO 1 ?_; rotate_left
 refine rk (k := rs (k := rs (k := ?_)))
 have hlen : xs.length = ys.length := Y129
 refine rg [0, 1, 5] (k := rb (k := ?_))
 refine Run.loop (fun e s' => s' = s ∧ ∃ i : Nat, e = [(0, .sl .unk (xs.map (PV.int .u16))), (1, .sl .unk (ys.map (PV.int .u16))), (5, .int .i64 (i : Int))] ∧ i ≤ xs.length ∧ xs.take i = ys.take i) (fun e s' => xs.length - ivar e 5) ?_ ?_
 · exact Y187
 rintro e s' ⟨hs, i, rfl, hi, hbe⟩
 subst s'
 refine rs (k := rs (k := rg [0, 1, 5, 14] (k := rc (ht := fun hc1 => ?_) (hf := fun hc1 => ?_))))
 refine rk (k := rs (k := rb (k := rs (k := ?_))))
 have hil : i < xs.length := Y75
 have hjl : i < ys.length := Y14
 obtain ⟨x, hxe⟩ : ∃ z_, xs[i]'hil = z_ := ⟨_, rfl⟩
 have hxx : (xs.map (PV.int .u16))[i]? = some (.int .u16 x) := Y130
 obtain ⟨y, hye⟩ : ∃ z_, ys[i]'hjl = z_ := ⟨_, rfl⟩
 have hxy : (ys.map (PV.int .u16))[i]? = some (.int .u16 y) := Y188
 have hw : IntKind.i64.wrap ((i : Int) + 1) = ((i + 1 : Nat) : Int) := Y20
 have H := aj hxx (aj hxy (aj hw H))
 refine Run.drawC [] [0, 1, 5, 25] Tryz.mixed Y18 ?_
 refine DetC.all au ?_
 refine re (k := rc (ht := fun hc2 => ?_) (hf := fun hc2 => ?_))
 refine jO 1 ?_; rotate_left
 · exact Y95
 refine rX (k := rs (k := rg [4] (k := rR (k := rP (by simp only [Tryz.f23, go_sem]; rfl) hwf ⟨?_, rfl⟩))))
 refine jO 2 ?_; rotate_left
 any_goals
   refine jI 1 ?_
   refine rs (k := rg [4] (k := rR (k := rP (by simp only [Tryz.f23, go_sem]; rfl) hwf ⟨?_, rfl⟩)))
   refine jO 2 ?_; rotate_left
 any_goals
   refine jI 2 ?_
   first
     | (have hne : xs ≠ ys := by rintro rfl; simp at hc0
        rw [decide_eq_false hne]; rfl)
     | (have hne : xs ≠ ys := by
          rintro rfl
          rw [hxe] at hye
          subst hye
          simp at hc2
        rw [decide_eq_false hne]; rfl)
     | (have hlen : xs.length = ys.length := by simp at hc0; omega
        have : i = xs.length := by have := of_decide_eq_false hc1; omega
        rw [this, List.take_length, hlen, List.take_length] at hbe
        rw [decide_eq_true hbe]; rfl)
theorem book_sameb {xs ys : List Bool} (nx : xs.length < 140737488355328) {s : St} : ACalls Tryz.prog 50 [.sl .unk (xs.map PV.bool), .sl .unk (ys.map PV.bool)] s (fun r s' => r = .bool (decide (xs = ys)) ∧ s' = s) := by
 refine go Tryz.func50 (k := fun hwf H => ?_)
 refine rs (k := rg [0, 1] (k := rs (k := rs (k := rg [0, 1, 10] (k := rc (ht := fun hc0 => ?_) (hf := fun hc0 => ?_))))))
 refine jO 1 ?_; rotate_left
 refine rk (k := rs (k := rs (k := ?_)))
 have hlen : xs.length = ys.length := Y129
 refine rg [0, 1, 5] (k := rb (k := ?_))
 refine Run.loop (fun e s' => s' = s ∧ ∃ i : Nat, e = [(0, .sl .unk (xs.map PV.bool)), (1, .sl .unk (ys.map PV.bool)), (5, .int .i64 (i : Int))] ∧ i ≤ xs.length ∧ xs.take i = ys.take i) (fun e s' => xs.length - ivar e 5) ?_ ?_
 · exact Y187
 rintro e s' ⟨hs, i, rfl, hi, hbe⟩
 subst s'
 refine rs (k := rs (k := rg [0, 1, 5, 14] (k := rc (ht := fun hc1 => ?_) (hf := fun hc1 => ?_))))
 refine rk (k := rs (k := rb (k := rs (k := ?_))))
 have hil : i < xs.length := Y75
 have hjl : i < ys.length := Y14
 obtain ⟨x, hxe⟩ : ∃ z_, xs[i]'hil = z_ := ⟨_, rfl⟩
 have hxx : (xs.map PV.bool)[i]? = some (.bool x) := Y130
 obtain ⟨y, hye⟩ : ∃ z_, ys[i]'hjl = z_ := ⟨_, rfl⟩
 have hxy : (ys.map PV.bool)[i]? = some (.bool y) := Y188
 have hw : IntKind.i64.wrap ((i : Int) + 1) = ((i + 1 : Nat) : Int) := Y20
 have H := aj hxx (aj hxy (aj hw H))
 refine Run.drawC [] [0, 1, 5, 25] Tryz.mixed Y18 ?_
 refine DetC.all au ?_
 refine re (k := rc (ht := fun hc2 => ?_) (hf := fun hc2 => ?_))
 refine jO 1 ?_; rotate_left
 · exact Y95
 refine rX (k := rs (k := rg [4] (k := rR (k := rP (by simp only [Tryz.f50, go_sem]; rfl) hwf ⟨?_, rfl⟩))))
 refine jO 2 ?_; rotate_left
 any_goals
   refine jI 1 ?_
   refine rs (k := rg [4] (k := rR (k := rP (by simp only [Tryz.f50, go_sem]; rfl) hwf ⟨?_, rfl⟩)))
   refine jO 2 ?_; rotate_left
 any_goals
   refine jI 2 ?_
   first
     | (have hne : xs ≠ ys := by rintro rfl; simp at hc0
        rw [decide_eq_false hne]; rfl)
     | (have hne : xs ≠ ys := by
          rintro rfl
          rw [hxe] at hye
          subst hye
          simp at hc2
        rw [decide_eq_false hne]; rfl)
     | (have hlen : xs.length = ys.length := by simp at hc0; omega
        have : i = xs.length := by have := of_decide_eq_false hc1; omega
        rw [this, List.take_length, hlen, List.take_length] at hbe
        rw [decide_eq_true hbe]; rfl)
def StoAt (b n : Nat) (s : St) : Prop := s.blk b = some (stoRow b n)
theorem DevAt.put' {b : Nat} {D : Dev} {s : St} (h : StoAt b D.c0.length s) : DevAt b D (putDev b D s) := by
 refine ⟨?_, ?_, ?_, ?_, ?_, ?_⟩ <;> rw [putDev_blk]
 · rw [if_neg Y14, if_neg Y14, if_neg Y14, if_neg Y14, if_neg Y14]; exact h
 · exact Y265
 · exact Y330
 · rw [if_neg Y14, if_neg Y14, if_pos rfl]
 · rw [if_neg Y14, if_pos rfl]
 · rw [if_pos rfl]
theorem StoAt.put {b n : Nat} {D : Dev} {s : St} (h : StoAt b n s) : StoAt b n (putDev b D s) := by
 unfold StoAt
 rw [putDev_lo Y14]; exact h
theorem StoAt.nw {b n : Nat} {s : St} (h : StoAt b n s) (hl : b + 5 < s.nxt) (x : Blk) : StoAt b n (s.new x) := by
 unfold StoAt
 rw [blk_new_ne Y14]; exact h
theorem StoAt.sv {b n : Nat} {s : St} (h : StoAt b n s) {i : Nat} (hi : b + 5 < i) (x : Option Blk) : StoAt b n (s.set i x) := by
 unfold StoAt
 rw [blk_set_ne Y14]; exact h
theorem device_DoL {b : Nat} {D D' : Dev} {s : St} {q : Req} {R : Rep} (h : doF D q = (R, D')) (hA : DevAt b D s) (hD : D.ok) (hq : q.ok) : ACalls Tryz.prog 12 [.ptr (b + 5) 0 0, q.pv] s (fun r s' => r = R.pv ∧ s' = putDev b D' s) := by
 have := device_Do hA hD hq
 rw [h] at this
 exact this
theorem device_PduL {b : Nat} {D D' : Dev} {s : St} {l m : List Int} (h : pduF D l = (m, D')) (hA : DevAt b D s) (hD : D.ok) (hb : OkB l) (hl : l.length ≤ 140737488351232) : ACalls Tryz.prog 14 [.ptr (b + 5) 0 0, .sl .unk (l.map (PV.int .u8))] s (fun r s' => r = .sl .unk (m.map (PV.int .u8)) ∧ s' = putDev b D' s) := by
 have := device_Pdu hA hD hb hl
 rw [h] at this
 exact this
theorem req_ok (fn at_ count wat sub : Int) (bits : List Bool) (vals : List Int) (a o : Int) (h : (decide (0 ≤ fn ∧ fn ≤ 65535 ∧ 0 ≤ at_ ∧ at_ ≤ 65535 ∧ 0 ≤ count ∧ count ≤ 65535 ∧ 0 ≤ wat ∧ wat ≤ 65535 ∧ 0 ≤ sub ∧ sub ≤ 65535 ∧ 0 ≤ a ∧ a ≤ 65535 ∧ 0 ≤ o ∧ o ≤ 65535 ∧ bits.length ≤ 100000 ∧ vals.length ≤ 100000) && vals.all (fun x => decide (0 ≤ x ∧ x ≤ 65535))) = true) : (⟨fn, at_, count, wat, sub, bits, vals, a, o⟩ : Req).ok := by
 simp only [Bool.and_eq_true, decide_eq_true_eq, List.all_eq_true] at h
 obtain ⟨h1, h2⟩ := h
 exact ⟨⟨by show _ ≤ fn; omega, by show fn ≤ _; omega⟩, ⟨by show _ ≤ at_; omega, by show at_ ≤ _; omega⟩, ⟨by show _ ≤ count; omega, by show count ≤ _; omega⟩, ⟨by show _ ≤ wat; omega, by show wat ≤ _; omega⟩, ⟨by show _ ≤ sub; omega, by show sub ≤ _; omega⟩, fun x hx => h2 x hx, ⟨by show _ ≤ a; omega, by show a ≤ _; omega⟩, ⟨by show _ ≤ o; omega, by show o ≤ _; omega⟩, by show bits.length ≤ _; omega, Y357⟩
attribute [local go_sem] set_set putDev_hi putDev_nxt Rep.pv
theorem Y41 {p : Prop} (h : p := by repeat' first | exact gA0 | exact gA0.st | refine DevAt.put' ?_ | refine StoAt.put ?_ | refine StoAt.sv ?_ ?_ _ | refine StoAt.nw ?_ ?_ _ | refine DevAt.sv ?_ ?_ _ | refine DevAt.nw ?_ ?_ _ | (simp only [putDev_nxt, nxt_new, nxt_set]; omega) | omega) : p := h
set_option maxRecDepth 100000 in
theorem law9_known {s : St} : ACalls Tryz.prog 8 [] s (fun r s' => r = .bool true ∧ s' = s) := by
 refine go Tryz.func8 (k := fun hwf H => ?_)
 obtain ⟨b, hb⟩ : ∃ b, b = s.nxt := ⟨_, rfl⟩
 have o0 : (⟨[false, false, false, false], [false, false, false, false], [0, 0, 0, 0], [0, 0, 0, 0], 0, 0, 0⟩ : Dev).ok := Dev.zero_ok (n := 4) Y15 Y15
 have q1 : (⟨1, 4, 1, 0, 0, [], [], 0, 0⟩ : Req).ok := req_ok _ _ _ _ _ _ _ _ _ Y15
 have e1 : doF (⟨[false, false, false, false], [false, false, false, false], [0, 0, 0, 0], [0, 0, 0, 0], 0, 0, 0⟩ : Dev) (⟨1, 4, 1, 0, 0, [], [], 0, 0⟩ : Req) = ((⟨1, 2, 0, 0, 0, [], [], 0, 0, []⟩ : Rep), (⟨[false, false, false, false], [false, false, false, false], [0, 0, 0, 0], [0, 0, 0, 0], 0, 1, 1⟩ : Dev)) := Y18
 have o1 : (⟨[false, false, false, false], [false, false, false, false], [0, 0, 0, 0], [0, 0, 0, 0], 0, 1, 1⟩ : Dev).ok := by have := (doF_ok o0 q1).1; rw [e1] at this; exact this
 have q2 : (⟨16, 1, 2, 0, 0, [], [5, 6], 0, 0⟩ : Req).ok := req_ok _ _ _ _ _ _ _ _ _ Y15
 have e2 : doF (⟨[false, false, false, false], [false, false, false, false], [0, 0, 0, 0], [0, 0, 0, 0], 0, 1, 1⟩ : Dev) (⟨16, 1, 2, 0, 0, [], [5, 6], 0, 0⟩ : Req) = ((⟨16, 0, 1, 2, 0, [], [], 0, 0, []⟩ : Rep), (⟨[false, false, false, false], [false, false, false, false], [0, 0, 0, 0], [0, 5, 6, 0], 0, 2, 1⟩ : Dev)) := Y18
 have o2 : (⟨[false, false, false, false], [false, false, false, false], [0, 0, 0, 0], [0, 5, 6, 0], 0, 2, 1⟩ : Dev).ok := by have := (doF_ok o1 q2).1; rw [e2] at this; exact this
 have q3 : (⟨23, 0, 3, 0, 0, [], [9], 0, 0⟩ : Req).ok := req_ok _ _ _ _ _ _ _ _ _ Y15
 have e3 : doF (⟨[false, false, false, false], [false, false, false, false], [0, 0, 0, 0], [0, 5, 6, 0], 0, 2, 1⟩ : Dev) (⟨23, 0, 3, 0, 0, [], [9], 0, 0⟩ : Req) = ((⟨23, 0, 0, 0, 0, [], [9, 5, 6], 0, 0, []⟩ : Rep), (⟨[false, false, false, false], [false, false, false, false], [0, 0, 0, 0], [9, 5, 6, 0], 0, 3, 1⟩ : Dev)) := Y18
 have o3 : (⟨[false, false, false, false], [false, false, false, false], [0, 0, 0, 0], [9, 5, 6, 0], 0, 3, 1⟩ : Dev).ok := by have := (doF_ok o2 q3).1; rw [e3] at this; exact this
 have q4 : (⟨22, 1, 0, 0, 0, [], [], 65534, 2⟩ : Req).ok := req_ok _ _ _ _ _ _ _ _ _ Y15
 have e4 : doF (⟨[false, false, false, false], [false, false, false, false], [0, 0, 0, 0], [9, 5, 6, 0], 0, 3, 1⟩ : Dev) (⟨22, 1, 0, 0, 0, [], [], 65534, 2⟩ : Req) = ((⟨22, 0, 1, 0, 0, [], [], 65534, 2, []⟩ : Rep), (⟨[false, false, false, false], [false, false, false, false], [0, 0, 0, 0], [9, 4, 6, 0], 0, 4, 1⟩ : Dev)) := Y18
 have o4 : (⟨[false, false, false, false], [false, false, false, false], [0, 0, 0, 0], [9, 4, 6, 0], 0, 4, 1⟩ : Dev).ok := by have := (doF_ok o3 q4).1; rw [e4] at this; exact this
 have q5 : (⟨8, 0, 0, 0, 11, [], [0], 0, 0⟩ : Req).ok := req_ok _ _ _ _ _ _ _ _ _ Y15
 have e5 : doF (⟨[false, false, false, false], [false, false, false, false], [0, 0, 0, 0], [9, 4, 6, 0], 0, 4, 1⟩ : Dev) (⟨8, 0, 0, 0, 11, [], [0], 0, 0⟩ : Req) = ((⟨8, 0, 0, 0, 11, [], [5], 0, 0, []⟩ : Rep), (⟨[false, false, false, false], [false, false, false, false], [0, 0, 0, 0], [9, 4, 6, 0], 0, 5, 1⟩ : Dev)) := Y18
 have o5 : (⟨[false, false, false, false], [false, false, false, false], [0, 0, 0, 0], [9, 4, 6, 0], 0, 5, 1⟩ : Dev).ok := by have := (doF_ok o4 q5).1; rw [e5] at this; exact this
 have q6 : (⟨8, 0, 0, 0, 13, [], [0], 0, 0⟩ : Req).ok := req_ok _ _ _ _ _ _ _ _ _ Y15
 have e6 : doF (⟨[false, false, false, false], [false, false, false, false], [0, 0, 0, 0], [9, 4, 6, 0], 0, 5, 1⟩ : Dev) (⟨8, 0, 0, 0, 13, [], [0], 0, 0⟩ : Req) = ((⟨8, 0, 0, 0, 13, [], [1], 0, 0, []⟩ : Rep), (⟨[false, false, false, false], [false, false, false, false], [0, 0, 0, 0], [9, 4, 6, 0], 0, 6, 1⟩ : Dev)) := Y18
 have o6 : (⟨[false, false, false, false], [false, false, false, false], [0, 0, 0, 0], [9, 4, 6, 0], 0, 6, 1⟩ : Dev).ok := by have := (doF_ok o5 q6).1; rw [e6] at this; exact this
 have q7 : (⟨8, 0, 0, 0, 10, [], [3], 0, 0⟩ : Req).ok := req_ok _ _ _ _ _ _ _ _ _ Y15
 have e7 : doF (⟨[false, false, false, false], [false, false, false, false], [0, 0, 0, 0], [9, 4, 6, 0], 0, 6, 1⟩ : Dev) (⟨8, 0, 0, 0, 10, [], [3], 0, 0⟩ : Req) = ((⟨8, 0, 0, 0, 10, [], [3], 0, 0, []⟩ : Rep), (⟨[false, false, false, false], [false, false, false, false], [0, 0, 0, 0], [9, 4, 6, 0], 0, 0, 0⟩ : Dev)) := Y18
 have o7 : (⟨[false, false, false, false], [false, false, false, false], [0, 0, 0, 0], [9, 4, 6, 0], 0, 0, 0⟩ : Dev).ok := by have := (doF_ok o6 q7).1; rw [e7] at this; exact this
 have o7u : (⟨[false, false, false, false], [false, false, false, false], [0, 0, 0, 0], [9, 4, 6, 0], 44, 0, 0⟩ : Dev).ok := ⟨o7.h1, o7.h2, o7.c1, o7.v0, o7.v1, o7.w0, o7.w1, Y71, o7.msgs, o7.exc⟩
 have q8 : (⟨17, 0, 0, 0, 0, [], [], 0, 0⟩ : Req).ok := req_ok _ _ _ _ _ _ _ _ _ Y15
 have e8 : doF (⟨[false, false, false, false], [false, false, false, false], [0, 0, 0, 0], [9, 4, 6, 0], 44, 0, 0⟩ : Dev) (⟨17, 0, 0, 0, 0, [], [], 0, 0⟩ : Req) = ((⟨17, 0, 0, 0, 0, [], [], 0, 0, [44, 255]⟩ : Rep), (⟨[false, false, false, false], [false, false, false, false], [0, 0, 0, 0], [9, 4, 6, 0], 44, 1, 0⟩ : Dev)) := Y18
 have o8 : (⟨[false, false, false, false], [false, false, false, false], [0, 0, 0, 0], [9, 4, 6, 0], 44, 1, 0⟩ : Dev).ok := by have := (doF_ok o7u q8).1; rw [e8] at this; exact this
 have e9 : pduF (⟨[false, false, false, false], [false, false, false, false], [0, 0, 0, 0], [9, 4, 6, 0], 44, 1, 0⟩ : Dev) [7] = ([135, 1], (⟨[false, false, false, false], [false, false, false, false], [0, 0, 0, 0], [9, 4, 6, 0], 44, 2, 1⟩ : Dev)) := Y18
 have e10 : pduF (⟨[false, false, false, false], [false, false, false, false], [0, 0, 0, 0], [9, 4, 6, 0], 44, 2, 1⟩ : Dev) [] = ([], (⟨[false, false, false, false], [false, false, false, false], [0, 0, 0, 0], [9, 4, 6, 0], 44, 2, 1⟩ : Dev)) := Y18
 have o9 : (⟨[false, false, false, false], [false, false, false, false], [0, 0, 0, 0], [9, 4, 6, 0], 44, 2, 1⟩ : Dev).ok := ⟨o8.h1, o8.h2, o8.c1, o8.v0, o8.v1, o8.w0, o8.w1, o8.unit, Y71, Y71⟩
 have hg4 : ∀ S, DevAt b (⟨[false, false, false, false], [false, false, false, false], [0, 0, 0, 0], [9, 4, 6, 0], 0, 4, 1⟩ : Dev) S → ACalls Tryz.prog 20 [.ptr b 0 0, .int .i64 3, .int .i64 1, .int .i64 1] S (fun r s' => r = .tuple [.sl .unk [.int .u16 4], .bool true] ∧ s' = S) := fun S g => store_get3 g.st g.v1 rfl Y15 (a := 1) (m := 1) Y71 Y15
 have hr2 : (⟨16, 0, 1, 2, 0, [], [], 0, 0, []⟩ : Rep).ok := rep_ok Y71 Y71 Y71 zI zW zU zU OkB.nil Y15 Y15 Y15
 have hal : ∀ S, ACalls Tryz.prog 11 [(⟨16, 0, 1, 2, 0, [], [], 0, 0, []⟩ : Rep).pv, (⟨16, 0, 1, 2, 0, [], [], 0, 0, []⟩ : Rep).pv] S (fun r s' => r = .bool true ∧ s' = S) := fun S => by simpa using ref3_Alike (s := S) hr2 hr2
 have hsm : ∀ S, ACalls Tryz.prog 23 [.sl .unk (([9, 5, 6] : List Int).map (PV.int .u16)), .sl .unk (([9, 5, 6] : List Int).map (PV.int .u16))] S (fun r s' => r = .bool true ∧ s' = S) := fun S => by simpa using book_same16 (s := S) (xs := [9, 5, 6]) (ys := [9, 5, 6]) Y15
 refine rs (k := rg [] (k := rs (k := rr (k := ?_))))
 refine RunO.callw au au au Y18 ((device_New (n := 4) Y15 Y15).mono ?_)
 rintro r s1 ⟨rfl, gA0, gf0, gn0⟩
 rw [← hb] at gA0 gn0
 rw [← hb]
 refine rh [1] (k := rs (k := rs (k := rr (k := ro (pre := [_, _, _]) (k := rC (h := device_New0) (k := rg1 (k := ro (pre := [_, _]) (k := rg1 (k := ?_)))))))))
 refine RunO.callw au au au Y18 ((device_Store gA0).mono ?_)
 rintro r s2 ⟨rfl, hs2⟩
 subst s2
 refine rg1 (k := rh [1, 25] (k := rc (ht := fun hc0 => ?_) (hf := fun hc0 => ?_)))
 · cases hc0
 · refine rk (k := rs (k := rr (k := ro (pre := [_, _]) (k := ?_))))
   refine RunO.callw au au au Y18 ((device_DoL e1 Y41 o0 q1).mono ?_)
   rintro r s1 ⟨rfl, rfl⟩
   refine rh [1, 2] (k := rs (k := rr (k := ro (pre := [_]) (k := rO (k := ro (pre := [_]) (k := ?_))))))
   refine RunO.callw au au au Y18 ((device_DoL e2 Y41 o1 q2).mono ?_)
   rintro r s1 ⟨rfl, rfl⟩
   refine rh [1, 2, 3] (k := rs (k := rr (k := ro (pre := [_]) (k := rO (k := ro (pre := [_]) (k := ?_))))))
   refine RunO.callw au au au Y18 ((device_DoL e3 Y41 o2 q3).mono ?_)
   rintro r s1 ⟨rfl, rfl⟩
   refine rh [1, 2, 3, 4] (k := rs (k := rr (k := ro (pre := [_, _]) (k := ?_))))
   refine RunO.callw au au au Y18 ((device_DoL e4 Y41 o3 q4).mono ?_)
   rintro r s1 ⟨rfl, rfl⟩
   refine rh [1, 2, 3, 4, 5] (k := rs (k := rr (k := ro (pre := [_]) (k := ?_))))
   refine RunO.callw au au au Y18 ((device_Store (D := (⟨[false, false, false, false], [false, false, false, false], [0, 0, 0, 0], [9, 4, 6, 0], 0, 4, 1⟩ : Dev)) Y41).mono ?_)
   rintro r s2 ⟨rfl, hs2⟩
   subst s2
   refine RunO.callw au au au Y18 ((hg4 _ Y41).mono ?_)
   rintro r s2 ⟨rfl, hs2⟩
   subst s2
   refine rh [1, 2, 3, 4, 5, 6] (k := rs (k := rr (k := ro (pre := [_]) (k := rO (k := ro (pre := [_]) (k := ?_))))))
   refine RunO.callw au au au Y18 ((device_DoL e5 Y41 o4 q5).mono ?_)
   rintro r s1 ⟨rfl, rfl⟩
   refine rh [1, 2, 3, 4, 5, 6, 8] (k := rs (k := rr (k := ro (pre := [_]) (k := rO (k := ro (pre := [_]) (k := ?_))))))
   refine RunO.callw au au au Y18 ((device_DoL e6 Y41 o5 q6).mono ?_)
   rintro r s1 ⟨rfl, rfl⟩
   refine rh [1, 2, 3, 4, 5, 6, 8, 9] (k := rs (k := rr (k := ro (pre := [_]) (k := rO (k := ro (pre := [_]) (k := ?_))))))
   refine RunO.callw au au au Y18 ((device_DoL e7 Y41 o6 q7).mono ?_)
   rintro r s1 ⟨rfl, rfl⟩
   refine rh [1, 2, 3, 4, 5, 6, 8, 9, 10] (k := rs (k := rr (k := ro (pre := [_]) (k := ?_))))
   refine RunO.callw au au au Y18 ((device_Counts (D := (⟨[false, false, false, false], [false, false, false, false], [0, 0, 0, 0], [9, 4, 6, 0], 0, 0, 0⟩ : Dev)) Y41).mono ?_)
   rintro r s2 ⟨rfl, hs2⟩
   subst s2
   refine rh [1, 2, 3, 4, 5, 6, 8, 9, 10, 11, 12] (k := rs (k := rr (k := ro (pre := [_]) (k := ?_))))
   refine RunO.callw au au au Y18 ((device_Unit (D := (⟨[false, false, false, false], [false, false, false, false], [0, 0, 0, 0], [9, 4, 6, 0], 0, 0, 0⟩ : Dev)) Y41).mono ?_)
   rintro r s1 ⟨rfl, rfl⟩
   refine rl [1, 2, 3, 4, 5, 6, 8, 9, 10, 11, 12] (k := rs (k := rr (k := ro (pre := [_, _]) (k := ?_))))
   refine RunO.callw au au au Y18 ((device_DoL e8 Y41 o7u q8).mono ?_)
   rintro r s1 ⟨rfl, rfl⟩
   refine rh [1, 2, 3, 4, 5, 6, 8, 9, 10, 11, 12, 13] (k := rs (k := ?_))
   have hst1 : ((ByteArray.mk [UInt8.ofNat (Int.toNat 255), UInt8.ofNat (Int.toNat 44)].reverse.toArray).toList == (ByteArray.mk #[44, 255]).toList) = true := by decide +kernel
   have hst2 : ((ByteArray.mk [UInt8.ofNat (Int.toNat 1), UInt8.ofNat (Int.toNat 135)].reverse.toArray).toList == (ByteArray.mk #[135, 1]).toList) = true := by decide +kernel
   have hd1 : (decide (((1 : Nat) : Int) = 1)) = true := Y15
   have H := aj hst1 (aj hst2 (aj hd1 H))
   refine rrA [some 68, some 69, some 70, some 71, some 72, some 73, some 74, some 75, some 76, some 77, some 78, some 79, some 80, some 81, some 82, some 83, some 84, some 85, some 86, some 87, some 88, some 89, some 90, some 91, some 92, some 93, some 94, some 95, some 96, some 97, some 98, some 99, some 100, some 101, some 102, some 103, some 104, some 105, some 106, some 107, some 108, some 109, some 110, some 111, some 112, some 113, some 114, some 115, some 116, some 117, some 118, some 119, some 120, some 121, some 122, some 123, some 124, some 125, some 126, some 127, some 128, some 129, some 130, some 131, some 132, some 133, some 134, some 135, some 136, some 137, some 138, some 139, some 140, some 141, some 142, some 143, some 144, some 145, some 146, some 147, some 148, some 149, some 150, some 151, some 152, some 153, some 154, some 155, some 156, some 157, some 158, some 159, some 160, some 161, some 162, some 163, some 0] (k := fun ops hops => ?_)
   have H := aj hops H
   refine ro (pre := [_, _, _, _]) (k := rg1 (k := rg1 (k := ?_)))
   refine RunO.callw au au au Y18 ((hal _).mono ?_)
   rintro r s2 ⟨rfl, hs2⟩
   subst s2
   refine ro (pre := [_, _]) (k := rg1 (k := rg1 (k := rO (k := ?_))))
   refine RunO.callw au au au Y18 ((hsm _).mono ?_)
   rintro r s2 ⟨rfl, hs2⟩
   subst s2
   refine ro (pre := [_, _]) (k := rg1 (k := rg1 (k := rg1 (k := ro (pre := [_, _]) (k := rg1 (k := rg1 (k := rg1 (k := ro (pre := [_, _]) (k := rg1 (k := rg1 (k := rg1 (k := rg1 (k := ro (pre := [_, _]) (k := rg1 (k := rg1 (k := rg1 (k := rg1 (k := ro (pre := [_, _]) (k := rg1 (k := rg1 (k := rg1 (k := rg1 (k := rg1 (k := ro (pre := [_, _]) (k := rg1 (k := rg1 (k := rg1 (k := ?_))))))))))))))))))))))))))))
   refine rg1 (k := ro (pre := [_, _]) (k := rg1 (k := rg1 (k := rg1 (k := rg1 (k := rg1 (k := ro (pre := [_, _]) (k := rg1 (k := rg1 (k := rg1 (k := rg1 (k := ro (pre := [_, _]) (k := rg1 (k := rg1 (k := rg1 (k := rg1 (k := rg1 (k := ro (pre := [_, _]) (k := rg1 (k := rg1 (k := ro (pre := [_, _]) (k := rg1 (k := rg1 (k := ro (pre := [_, _]) (k := rg1 (k := rg1 (k := rg1 (k := ?_))))))))))))))))))))))))))))
   refine rg1 (k := ro (pre := [_, _]) (k := rg1 (k := rO (k := ?_))))
   refine RunO.callw au au au Y18 ((device_PduL e9 Y41 o8 (l := [7]) (by intro x hx; rw [List.mem_singleton.1 hx]; constructor <;> decide) Y15).mono ?_)
   rintro r s1 ⟨rfl, rfl⟩
   refine rg1 (k := rg1 (k := ro (pre := [_, _]) (k := rg1 (k := ?_))))
   refine RunO.callw au au au Y18 ((device_PduL e10 Y41 o9 (l := []) OkB.nil Y15).mono ?_)
   rintro r s1 ⟨rfl, rfl⟩
   refine rg1 (k := rg1 (k := rh [0] (k := rR (k := ?_))))
   exact Ret.pure (r' := .bool true) (by simp only [Tryz.f8, go_sem, ↓reduceIte] <;> rfl) rfl Y308 hwf (fun i hi => by
     have hi2 : i < b := Y14
     simp (disch := first | omega | (simp only [putDev_nxt, nxt_set, nxt_new] <;> omega) | fail) only [putDev_lo, blk_set_ne, blk_new_ne]
     exact gf0 i hi) ⟨rfl, rfl⟩
end Go.Proofs
namespace Go.Proofs
open Go.PM
set_option maxHeartbeats 2000000
theorem order_right {F A C : Int} (hF : 1 ≤ F ∧ F ≤ 4) (hA : 0 ≤ A ∧ A ≤ 65535) (hC : 0 ≤ C ∧ C ≤ 65535) : rightF ⟨F, A, C, 0, 0, [], [], 0, 0⟩ = 0 := by
 refine right_of ⟨decide_eq_true (by show 1 ≤ F ∧ F ≤ 6 ∨ _; omega), decide_eq_true ?_, decide_eq_true hA, Y85, Y85, decide_eq_true hC, ?_, ?_, Y84, Y84⟩
 · show (¬ F = 8 ∧ ¬ F = 17 ∨ A = 0) ∧ ((1 ≤ F ∧ F ≤ 4 ∨ _) ∨ _) ∧ (_ ∨ (0 : Int) = 0) ∧ (_ ∨ (0 : Int) = 0) ∧ (_ ∨ (0 : Int) = 0 ∧ (0 : Int) = 0)
   exact ⟨.inl Y14, .inl (.inl hF), .inr rfl, .inr rfl, .inr ⟨rfl, rfl⟩⟩
 · show ((0 : Nat) : Int) = (if F = 5 then 1 else if F = 15 then C else 0)
   rw [if_neg Y14, if_neg Y14]; rfl
 · show ((0 : Nat) : Int) = (if F = 6 ∨ F = 8 then 1 else if F = 16 then C else if F = 23 then ((0 : Nat) : Int) else 0)
   rw [if_neg Y14, if_neg Y14, if_neg Y14]; rfl
theorem Y358 {p : Prop} (h : p := by show 0 ≤ (W.length : Int) ∧ (W.length : Int) ≤ 65535; omega) : p := h
theorem right16 {K : Int} {W : List Int} (hK : 0 ≤ K ∧ K ≤ 65535) (hl : W.length ≤ 127) : rightF ⟨16, K, W.length, 0, 0, [], W, 0, 0⟩ = 0 :=
 right_of ⟨by show hasF 16 = true; decide, decide_eq_true Y70, decide_eq_true hK, Y85, Y85, decide_eq_true Y358, rfl, rfl, Y84, hl⟩
theorem right15 {K : Int} {W : List Bool} (hK : 0 ≤ K ∧ K ≤ 65535) (hl : W.length ≤ 2040) : rightF ⟨15, K, W.length, 0, 0, W, [], 0, 0⟩ = 0 :=
 right_of ⟨by show hasF 15 = true; decide, decide_eq_true Y70, decide_eq_true hK, Y85, Y85, decide_eq_true Y358, rfl, rfl, hl, Y84⟩
theorem right22 {K a o : Int} (hK : 0 ≤ K ∧ K ≤ 65535) : rightF ⟨22, K, 0, 0, 0, [], [], a, o⟩ = 0 :=
 right_of ⟨by show hasF 22 = true; decide, decide_eq_true Y70, decide_eq_true hK, Y85, Y85, Y85, rfl, rfl, Y84, Y84⟩
theorem DevAt.same {b : Nat} {D : Dev} {s s' : St} (h : DevAt b D s) (e : ∀ j, j ≤ b + 5 → s'.blk j = s.blk j) : DevAt b D s' :=
 ⟨Y266, Y201, Y202, Y267, Y268, Y269⟩
end Go.Proofs
namespace Go.Proofs
open Go.PM
set_option maxHeartbeats 2000000
structure QAt (s0 : St) (tp : Nat) (T : Tp) (q : List PV) (S : St) : Prop where
 nx : s0.nxt + 2 ≤ S.nxt
 tape : S.blk tp = some (.row 51 [T.pv])
 zero : S.blk s0.nxt = some (.row 33 [.agg [.int .i64 (0), .int .i64 (0), .int .i64 (0), .int .i64 (0), .int .i64 (0), .sl .nil [], .sl .nil [], .int .u16 (0), .int .u16 (0)]])
 row : S.blk (s0.nxt + 1) = some (.row 33 [.agg q])
 rest : ∀ j, j < s0.nxt → j ≠ tp → S.blk j = s0.blk j
theorem QAt.first {s0 : St} {tp : Nat} {T : Tp} {q : List PV} {a : Option Blk} (h : tp < s0.nxt) {x : Blk} : QAt s0 tp T q ((((((s0.new (.row 33 [.agg [.int .i64 (0), .int .i64 (0), .int .i64 (0), .int .i64 (0), .int .i64 (0), .sl .nil [], .sl .nil [], .int .u16 (0), .int .u16 (0)]])).set tp a).new x).set (s0.nxt + 1) (some (.row 33 [.agg q]))).set tp (some (.row 51 [T.pv])))) := by
 refine ⟨Nat.le_refl _, blk_set_self _ _ _, ?_, ?_, fun j hj hne => ?_⟩
 · simp (disch := first | omega | (simp only [nxt_set, nxt_new] <;> omega)) only [blk_set_ne, blk_new_ne, blk_new_eq]
 · simp (disch := first | omega | (simp only [nxt_set, nxt_new] <;> omega)) only [blk_set_ne, blk_new_ne, blk_set_self]
 · simp (disch := first | omega | (simp only [nxt_set, nxt_new] <;> omega)) only [blk_set_ne, blk_new_ne]
theorem Y359 {p : Prop} (h : p := by rw [blk_set_ne Y14]; exact h.zero) : p := h
theorem QAt.tp' {s0 : St} {tp : Nat} {T T' : Tp} {q : List PV} {S : St} (h : QAt s0 tp T q S) (hl : tp < s0.nxt) : QAt s0 tp T' q (S.set tp (some (.row 51 [T'.pv]))) :=
 ⟨h.nx, blk_set_self _ _ _, Y359, by rw [blk_set_ne Y14]; exact h.row, fun j hj hne => by rw [blk_set_ne hne]; exact h.rest j hj hne⟩
theorem QAt.rw' {s0 : St} {tp : Nat} {T : Tp} {q q' : List PV} {S : St} (h : QAt s0 tp T q S) (hl : tp < s0.nxt) : QAt s0 tp T q' (S.set (s0.nxt + 1) (some (.row 33 [.agg q']))) :=
 ⟨h.nx, by rw [blk_set_ne Y14]; exact h.tape, Y359, blk_set_self _ _ _, fun j hj hne => by rw [blk_set_ne Y14]; exact h.rest j hj hne⟩
theorem QAt.nw {s0 : St} {tp : Nat} {T : Tp} {q : List PV} {S : St} (h : QAt s0 tp T q S) (hl : tp < s0.nxt) (x : Blk) : QAt s0 tp T q (S.new x) := by
 have := h.nx
 exact ⟨Nat.le_succ_of_le h.nx, by rw [blk_new_ne Y14]; exact h.tape, by rw [blk_new_ne Y14]; exact h.zero, by rw [blk_new_ne Y14]; exact h.row, fun j hj hne => by rw [blk_new_ne Y14]; exact h.rest j hj hne⟩
theorem QAt.tk {s0 : St} {tp : Nat} {T : Tp} {q : List PV} {S : St} (h : QAt s0 tp T q S) (hl : tp < s0.nxt) {i : Nat} (hi : s0.nxt + 2 ≤ i) (x : Option Blk) : QAt s0 tp T q (S.set i x) :=
 ⟨h.nx, by rw [blk_set_ne Y14]; exact h.tape, Y359, by rw [blk_set_ne Y14]; exact h.row, fun j hj hne => by rw [blk_set_ne Y14]; exact h.rest j hj hne⟩
theorem aAppend_nilL {P : Program} {e : TypeId} {α : Type} {f : α → PV} {ys : List α} {s : St} {z : Nat} (hy : ys ≠ []) (hc : P.cellsOf e = z) :
   aAppend P e .nil [] (ys.map f) s = some (.sl (.tok s.nxt z) (ys.map f), s.new (.tok ys.length)) := by
 subst hc
 unfold aAppend
 rw [if_neg (by simpa using hy)]
 simp
def fnL : List Int := [1, 2, 3, 4, 5, 6, 8, 15, 16, 17, 22, 23]
def subL : List Int := [0, 10, 11, 12, 13, 14, 2, 300]
def vL : List Int := [0, 0, 0, 777]
theorem Y277 {p : Prop} (h : p := by rw [List.getElem?_map, List.getElem?_eq_getElem this]; rfl) : p := h
theorem fnL_get {u : Nat} (h : u ≤ 11) : ∃ f, (fnL.map (PV.int .i64))[u]? = some (.int .i64 f) ∧ f ∈ fnL := by
 have : u < fnL.length := by show u < 12; omega
 exact ⟨fnL[u], Y277, List.getElem_mem _⟩
theorem subL_get {u : Nat} (h : u ≤ 7) : ∃ f, (subL.map (PV.int .i64))[u]? = some (.int .i64 f) ∧ U16 f := by
 have : u < subL.length := by show u < 8; omega
 refine ⟨subL[u], Y277, ?_⟩
 have h : ∀ x ∈ subL, U16 x := by unfold U16; decide
 exact h _ (List.getElem_mem _)
theorem vL_get {u : Nat} (h : u ≤ 3) : ∃ f, (vL.map (PV.int .u16))[u]? = some (.int .u16 f) ∧ U16 f := by
 have : u < vL.length := by show u < 4; omega
 refine ⟨vL[u], Y277, ?_⟩
 have h : ∀ x ∈ vL, U16 x := by unfold U16; decide
 exact h _ (List.getElem_mem _)
theorem right5 {A : Int} (hA : 0 ≤ A ∧ A ≤ 65535) (b : Bool) : rightF ⟨5, A, 0, 0, 0, [b], [], 0, 0⟩ = 0 :=
 right_of ⟨by show hasF 5 = true; decide, decide_eq_true Y70, decide_eq_true hA, Y85, Y85, Y85, rfl, rfl, by show 1 ≤ _; decide, Y84⟩
theorem right6 {A : Int} (hA : 0 ≤ A ∧ A ≤ 65535) (v : Int) : rightF ⟨6, A, 0, 0, 0, [], [v], 0, 0⟩ = 0 :=
 right_of ⟨by show hasF 6 = true; decide, decide_eq_true Y70, decide_eq_true hA, Y85, Y85, Y85, rfl, rfl, Y84, by show 1 ≤ _; decide⟩
theorem right8 {A : Int} (hA : 0 ≤ A ∧ A ≤ 65535) (v : Int) : rightF ⟨8, 0, 0, 0, A, [], [v], 0, 0⟩ = 0 :=
 right_of ⟨by show hasF 8 = true; decide, decide_eq_true Y70, Y85, Y85, decide_eq_true hA, Y85, rfl, rfl, Y84, by show 1 ≤ _; decide⟩
theorem right17 : rightF ⟨17, 0, 0, 0, 0, [], [], 0, 0⟩ = 0 := Y15
theorem right23 {A C B : Int} {W : List Int} (hA : 0 ≤ A ∧ A ≤ 65535) (hC : 0 ≤ C ∧ C ≤ 65535) (hB : 0 ≤ B ∧ B ≤ 65535) (hl : W.length ≤ 127) : rightF ⟨23, A, C, B, 0, [], W, 0, 0⟩ = 0 :=
 right_of ⟨by show hasF 23 = true; decide, decide_eq_true Y70, decide_eq_true hA, decide_eq_true hB, Y85, decide_eq_true hC, rfl, rfl, Y84, hl⟩
theorem req_okT {q : Req} (h1 : 0 ≤ q.fn ∧ q.fn ≤ 255) (h2 : U16 q.at_) (h3 : U16 q.count) (h4 : U16 q.wat) (h5 : U16 q.sub) (h6 : OkW q.vals) (h7 : U16 q.and_) (h8 : U16 q.or_) (h9 : q.bits.length ≤ 2000) (h10 : q.vals.length ≤ 2000) : q.ok := by
 have lt : ∀ {z : Int}, U16 z → I64 z := fun h => Y310
 exact ⟨Y259, lt h2, lt h3, lt h4, lt h5, h6, h7, h8, Y14, Y14⟩
theorem keep_Functions {s : St} : ACalls Tryz.prog 51 [] s (fun r s' => r = .sl .unk (fnL.map (PV.int .i64)) ∧ s' = s) := by
 refine go Tryz.func51 (k := fun hwf H => ?_)
 refine rs (k := rg [] (k := rs (k := rr (k := rO (k := rh [0] (k := rR (k := rP (by simp only [Tryz.f51, go_sem]; rfl) hwf ⟨?_, rfl⟩)))))))
 rfl
attribute [local go_sem] weaks_bools set_set
theorem Y42 {p : Prop} (h : p := by simp only [decide_eq_true_eq, decide_eq_false_iff_not] at *; omega) : p := h
theorem Y43 {p : Prop} (h : p := by repeat' first | assumption | omega | apply QAt.rw' | apply QAt.tp' | apply QAt.nw | apply QAt.tk) : p := h
theorem Y96 {p : Prop} (h : p := by simp (disch := first | omega | (simp only [nxt_set, nxt_new] <;> omega)) only [blk_set_ne, blk_new_eq, nxt_set] <;> first | rfl | exact blk_new_eq) : p := h
theorem Y97 {p : Prop} (h : p := by intro q hq; rw [List.mem_singleton.1 hq]; simp only; rw [← hy6]; exact tape_Next hT3 hQ3.tape) : p := h
theorem Y216 {p : Prop} (h : p := by rw [Tryz.cz31]; first | done | rfl) : p := h
theorem Y98 {p : Prop} (h : p := by first | exact isEls_map (P := Tryz.prog) (e := 31) (f := (PV.int .u16)) (fun a => ⟨rfl, Y216⟩) _ | (intro p hp; cases hp)) : p := h
theorem Y334 {p : Prop} (h : p := by rw [Tryz.cz4]; first | done | rfl) : p := h
theorem Y157 {p : Prop} (h : p := by first | exact isEls_map (P := Tryz.prog) (e := 4) (f := PV.bool) (fun a => ⟨rfl, Y334⟩) _ | (intro p hp; cases hp)) : p := h
theorem Y158 {p : Prop} (h : p := by intro q hq; rw [List.mem_singleton.1 hq]; exact aAppend_tokL (f := (PV.int .u16)) (xs := L) (ys := [y6]) rfl Y70 (by rw [blk_set_ne Y14]; exact htb) rfl (by rw [Tryz.cz31])) : p := h
theorem Y217 {p : Prop} (h : p := by simp at hr1 ⊢ <;> omega) : p := h
theorem Y218 {p : Prop} (h : p := by intro q hq; rw [List.mem_singleton.1 hq]; exact aAppend_nilL (f := (PV.int .u16)) (ys := [y6]) Y70 (by rw [Tryz.cz31])) : p := h
theorem Y219 {p : Prop} (h : p := by intro y hy; rcases List.mem_append.1 hy with hy | hy; exact hLo y hy; rw [List.mem_singleton.1 hy]; exact ⟨Y14, Y14⟩) : p := h
theorem Y278 {p : Prop} (h : p := by rw [u16_wrap]; omega) : p := h
theorem Y279 {p : Prop} (h : p := by intro q hq; rw [List.mem_singleton.1 hq]; simp only; rw [← hy2]; exact tape_Next hT3 hQ3.tape) : p := h
theorem Y280 {p : Prop} (h : p := by rw [Tryz.by31]; simp <;> omega) : p := h
theorem Y335 {p : Prop} (h : p := by simp <;> omega) : p := h
theorem Y360 {p : Prop} (h : p := by simp only [Req.pv, PV.weak, PV.weaks, weaks_bools, weaks_u16]) : p := h
theorem Y361 {p : Prop} (h : p := by rw [blk_set_ne Y14, blk_set_self]) : p := h
theorem Y362 {p : Prop} (h : p := by intro y hy; rw [List.mem_singleton.1 hy]; exact ⟨Y14, Y14⟩) : p := h
set_option maxRecDepth 100000 in
theorem tape_Request {T : Tp} (hT : T.ok) {s : St} {tp : Nat} (hb : s.blk tp = some (.row 51 [T.pv])) : ACalls Tryz.prog 18 [.ptr tp 0 0] s (fun r s' => ∃ (q : Req) (T' : Tp), r = q.pv ∧ s' = s.set tp (some (.row 51 [T'.pv])) ∧ T'.ok ∧ q.ok ∧ rightF q = 0) := by
 refine go Tryz.func18 (k := fun hwf H => ?_)
 have hlt : tp < s.nxt := lt_blk hwf hb
 have hFt : (s.nxt = tp) = False := eq_false Y14
 have htF : (tp = s.nxt) = False := eq_false Y14
 have hRt : (s.nxt + 1 = tp) = False := eq_false Y14
 have htR : (tp = s.nxt + 1) = False := eq_false Y14
 have zU : U16 0 := Y71
 have zW : OkW [] := fun x hx => (List.not_mem_nil hx).elim
 have hv12 := T.val_bound (n := 12) Y15
 obtain ⟨u, hu, hue⟩ := T.val_nat (n := 12) Y15
 have hue : T.val 12 = (u : Int) := hue
 obtain ⟨f, hfu, hfm⟩ := fnL_get (u := u) Y14
 have hflen : (u < 12) = True := eq_true Y14
 have H := aj hFt (aj htF (aj hRt (aj htR H)))
 refine rs (k := rg [0, 2] (k := rs (k := ?_)))
 have H := aj hue (aj hfu (aj hflen H))
 refine rr (k := rC (h := keep_Functions) (k := ro (pre := [_]) (k := ?_)))
 refine RunO.callw au au au Y18 ((tape_Next hT (n := 12) (by simp only [go_sem, htF, ↓reduceIte]; exact hb)).mono ?_)
 rintro r s9 ⟨rfl, hs⟩
 subst s9
 refine rh [0, 2, 3] (k := rs (k := rr (k := ro (pre := [_]) (k := ?_))))
 refine RunO.callw au au au Y18 ((tape_Next (hT.nx 12) (n := 70) (by simp only [go_sem, htR, htF, ↓reduceIte])).mono ?_)
 rintro r s9 ⟨rfl, hs⟩
 subst s9
 refine rh [0, 2, 3, 4] (k := rs (k := rs (k := ?_)))
 refine Run.genS fun S hS => ?_
 obtain ⟨T2, hT2e⟩ : ∃ y, (T.nx 12).nx 70 = y := ⟨_, rfl⟩
 have hT2 : T2.ok := by rw [← hT2e]; exact (hT.nx 12).nx 70
 have hab := (T.nx 12).val_bound (n := 70) Y15
 obtain ⟨a, ha⟩ : ∃ y, (T.nx 12).val 70 = y := ⟨_, rfl⟩
 rw [ha] at hab
 rw [ha]
 have hU : U16 a := ⟨Y14, Y14⟩
 have hQ : QAt s tp T2 [.int .i64 (f), .int .i64 (0), .int .i64 (0), .int .i64 (0), .int .i64 (0), .sl .nil [], .sl .nil [], .int .u16 (0), .int .u16 (0)] S := by rw [hS, ← hT2e]; exact QAt.first hlt
 have hQr := hQ.row
 have hQz := hQ.zero
 clear hS
 have H := aj hQr (aj hQz H)
 refine rg [0, 2, 3, 4, 17] (k := ?_)
 refine Run.join (fun e s' => ∃ (T' : Tp) (q : Req) (kb kv : SK), e = [(2, .ptr s.nxt 0 0), (3, .ptr (s.nxt + 1) 0 0)] ∧ T'.ok ∧ q.ok ∧ rightF q = 0 ∧ QAt s tp T' [.int .i64 q.fn, .int .i64 q.at_, .int .i64 q.count, .int .i64 q.wat, .int .i64 q.sub, .sl kb (q.bits.map PV.bool), .sl kv (q.vals.map (PV.int .u16)), .int .u16 q.and_, .int .u16 q.or_] s') ?_ ?_
 · rintro e SJ ⟨TJ, q, kb, kv, rfl, hTJ, hq, hr, hQJ⟩
   have hJr := hQJ.row
   have hJz := hQJ.zero
   have H := aj hJr (aj hJz H)
   refine rs (k := rg [2] (k := rR (k := ?_)))
   refine Ret.baseK (r' := q.pv) tp (.row 51 [TJ.pv]) hlt (by simp only [Tryz.f18, go_sem, ↓reduceIte] <;> rfl) Y360 (blw_req _ _) (by simp only [Blk.blw, PV.blws]; exact ⟨blw_tape _ _, trivial⟩) hwf (fun i hi => ?_) ⟨q, TJ, rfl, rfl, hTJ, hq, hr⟩
   rw [blk_set_ne Y14, blk_set]
   split
   · rename_i e; rw [e]; exact hQJ.tape
   · rename_i e; exact hQJ.rest i hi e
 intro hJb0
 refine rb (k := rs (k := rs (k := rg [0, 2, 3, 4, 17, 18] (k := rc (ht := fun hc0 => ?_) (hf := fun hc0 => ?_)))))
 refine rk (k := rc (ht := fun hc3 => ?_) (hf := fun hc3 => ?_))
 refine jO 1 ?_; rotate_left
 · exact Y315
 refine rs (k := rg [0, 2, 3, 4, 17, 18] (k := rc (ht := fun hc1 => ?_) (hf := fun hc1 => ?_)))
 refine rk (k := rc (ht := fun hc3 => ?_) (hf := fun hc3 => ?_))
 refine jO 1 ?_; rotate_left
 · exact Y316
 refine rs (k := rg [0, 2, 3, 4, 17, 18] (k := rc (ht := fun hc2 => ?_) (hf := fun hc2 => ?_)))
 refine rk (k := rc (ht := fun hc3 => ?_) (hf := fun hc3 => ?_))
 refine jO 1 ?_; rotate_left
 · exact Y197
 refine rg [0, 2, 3, 4, 17, 18] (k := rc (ht := fun hc3 => ?_) (hf := fun hc3 => ?_))
 refine jO 1 ?_; rotate_left
 · refine rs (k := rg [0, 2, 3, 4, 17, 28] (k := rc (ht := fun hc4 => ?_) (hf := fun hc4 => ?_)))
   · have hy2b := (T2).val_bound (n := 2) Y15
     obtain ⟨y2, hy2⟩ : ∃ y, (T2).val 2 = y := ⟨_, rfl⟩
     rw [hy2] at hy2b
     have H := aj hy2 H
     refine rr (k := ro (pre := [_, _]) (k := ?_))
     refine RunO.callw au au au Y18 ((tape_Next hT2 (n := 2) hQ.tape).mono ?_)
     rintro r s9 ⟨rfl, hs⟩
     subst s9
     refine ro (pre := [_]) (k := rO (k := rh [2, 3] (k := rB (k := ?_))))
     have hf5 : f = 5 := Y42
     subst hf5
     exact hJb0 _ _ ⟨T2.nx 2, ⟨5, a, 0, 0, 0, [decide (y2 = 1)], [], 0, 0⟩, .clip, .nil, rfl, hT2.nx 2, (req_okT Y70 hU zU zU zU zW zU zU Y70 Y70), (right5 Y14 _), Y43⟩
   · refine rs (k := rg [0, 2, 3, 4, 17, 37] (k := rc (ht := fun hc5 => ?_) (hf := fun hc5 => ?_)))
     · have hy6b := (T2).val_bound (n := 65536) Y15
       obtain ⟨y6, hy6⟩ : ∃ y, (T2).val 65536 = y := ⟨_, rfl⟩
       rw [hy6] at hy6b
       have hw6 : IntKind.u16.wrap y6 = y6 := Y278
       have H := aj hy6 (aj hw6 H)
       refine rr (k := ro (pre := [_, _]) (k := ?_))
       refine RunO.callw au au au Y18 ((tape_Next hT2 (n := 65536) hQ.tape).mono ?_)
       rintro r s9 ⟨rfl, hs⟩
       subst s9
       refine ro (pre := [_]) (k := rO (k := rh [2, 3] (k := rB (k := ?_))))
       have hf5 : f = 6 := Y42
       subst hf5
       exact hJb0 _ _ ⟨T2.nx 65536, ⟨6, a, 0, 0, 0, [], [y6], 0, 0⟩, .nil, .clip, rfl, hT2.nx 65536, (req_okT Y70 hU zU zU zU (OkW.one (show U16 y6 from ⟨Y14, Y14⟩)) zU zU Y70 Y70), (right6 Y14 _), Y43⟩
     · refine rs (k := rg [0, 2, 3, 4, 17, 46] (k := rc (ht := fun hc6 => ?_) (hf := fun hc6 => ?_)))
       · obtain ⟨x8, hx8, hx8e⟩ := T2.val_nat (n := 8) Y15
         have hx8e : T2.val 8 = (x8 : Int) := hx8e
         obtain ⟨sb, hsb, hsbU⟩ := subL_get (u := x8) Y14
         obtain ⟨x4, hx4, hx4e⟩ := (T2.nx 8).val_nat (n := 4) Y15
         have hx4e : (T2.nx 8).val 4 = (x4 : Int) := hx4e
         obtain ⟨vv, hvv, hvvU⟩ := vL_get (u := x4) Y14
         have hl8 : (x8 < 8) = True := eq_true Y14
         have hl4 : (x4 < 4) = True := eq_true Y14
         simp only [subL, vL, List.map_cons, List.map_nil] at hsb hvv
         have H := aj hx8e (aj hsb (aj hx4e (aj hvv (aj hl8 (aj hl4 H)))))
         refine Run.drawH 15 [2, 7, 12, 14] [[false, false, false, false], [true, false, false, false], [true, true, false, false], [true, true, true, false], [true, true, true, true]] [S, (S.set tp (some (.row 51 [(T2.nx 8).pv]))), ((S.set tp (some (.row 51 [(T2.nx 8).pv]))).set tp (some (.row 51 [((T2.nx 8).nx 4).pv]))), (((S.set tp (some (.row 51 [(T2.nx 8).pv]))).set tp (some (.row 51 [((T2.nx 8).nx 4).pv]))).set (s.nxt + 1) (some (.row 33 [.agg [.int .i64 (f), .int .i64 (0), .int .i64 (0), .int .i64 (0), .int .i64 (sb), .sl .nil [], .sl .nil [], .int .u16 (0), .int .u16 (0)]]))), ((((S.set tp (some (.row 51 [(T2.nx 8).pv]))).set tp (some (.row 51 [((T2.nx 8).nx 4).pv]))).set (s.nxt + 1) (some (.row 33 [.agg [.int .i64 (f), .int .i64 (0), .int .i64 (0), .int .i64 (0), .int .i64 (sb), .sl .nil [], .sl .nil [], .int .u16 (0), .int .u16 (0)]]))).set (s.nxt + 1) (some (.row 33 [.agg [.int .i64 (f), .int .i64 (0), .int .i64 (0), .int .i64 (0), .int .i64 (sb), .sl .nil [], .sl .clip [.int .u16 vv], .int .u16 (0), .int .u16 (0)]])))] (((((S.set tp (some (.row 51 [(T2.nx 8).pv]))).set tp (some (.row 51 [((T2.nx 8).nx 4).pv]))).set (s.nxt + 1) (some (.row 33 [.agg [.int .i64 (f), .int .i64 (0), .int .i64 (0), .int .i64 (0), .int .i64 (sb), .sl .nil [], .sl .nil [], .int .u16 (0), .int .u16 (0)]]))).set (s.nxt + 1) (some (.row 33 [.agg [.int .i64 (f), .int .i64 (0), .int .i64 (0), .int .i64 (0), .int .i64 (sb), .sl .nil [], .sl .clip [.int .u16 vv], .int .u16 (0), .int .u16 (0)]])))) Tryz.mixed Y18 Y18 Y18 Y18 Y18 rfl Y18 rfl ?_
         refine DetHC.pre (pre := [_, _]) (s1 := S) [0, 1, 2] [S, (S.set tp (some (.row 51 [(T2.nx 8).pv]))), ((S.set tp (some (.row 51 [(T2.nx 8).pv]))).set tp (some (.row 51 [((T2.nx 8).nx 4).pv])))] Y18 rfl au ?_
         refine DetHC.callE (v := .int .i64 x8) [(0, 1)] [(S, (S.set tp (some (.row 51 [(T2.nx 8).pv]))))] Y18 rfl au au au Y18 (by intro q hq; rw [List.mem_singleton.1 hq]; simp only; rw [← hx8e]; exact tape_Next hT2 hQ.tape) ?_
         refine DetHC.pre (pre := [_, _, _, _]) (s1 := S) [0, 1, 2, 3] [S, (S.set tp (some (.row 51 [(T2.nx 8).pv]))), ((S.set tp (some (.row 51 [(T2.nx 8).pv]))).set tp (some (.row 51 [((T2.nx 8).nx 4).pv]))), (((S.set tp (some (.row 51 [(T2.nx 8).pv]))).set tp (some (.row 51 [((T2.nx 8).nx 4).pv]))).set (s.nxt + 1) (some (.row 33 [.agg [.int .i64 (f), .int .i64 (0), .int .i64 (0), .int .i64 (0), .int .i64 (sb), .sl .nil [], .sl .nil [], .int .u16 (0), .int .u16 (0)]])))] Y18 rfl au ?_
         refine DetHC.callE (v := .int .i64 x4) [(1, 2)] [((S.set tp (some (.row 51 [(T2.nx 8).pv]))), ((S.set tp (some (.row 51 [(T2.nx 8).pv]))).set tp (some (.row 51 [((T2.nx 8).nx 4).pv]))))] Y18 rfl au au au Y18 (by intro q hq; rw [List.mem_singleton.1 hq]; simp only; rw [← hx4e]; exact tape_Next (hT2.nx 8) (blk_set_self _ _ _)) ?_
         refine DetHC.pre (pre := [_, _, _, _]) (s1 := (S.set tp (some (.row 51 [(T2.nx 8).pv])))) [1, 2, 3] [(S.set tp (some (.row 51 [(T2.nx 8).pv]))), ((S.set tp (some (.row 51 [(T2.nx 8).pv]))).set tp (some (.row 51 [((T2.nx 8).nx 4).pv]))), (((S.set tp (some (.row 51 [(T2.nx 8).pv]))).set tp (some (.row 51 [((T2.nx 8).nx 4).pv]))).set (s.nxt + 1) (some (.row 33 [.agg [.int .i64 (f), .int .i64 (0), .int .i64 (0), .int .i64 (0), .int .i64 (sb), .sl .nil [], .sl .nil [], .int .u16 (0), .int .u16 (0)]])))] Y18 rfl au ?_
         refine DetHC.eff [(2, 3)] (((S.set tp (some (.row 51 [(T2.nx 8).pv]))).set tp (some (.row 51 [((T2.nx 8).nx 4).pv])))) ((((S.set tp (some (.row 51 [(T2.nx 8).pv]))).set tp (some (.row 51 [((T2.nx 8).nx 4).pv]))).set (s.nxt + 1) (some (.row 33 [.agg [.int .i64 (f), .int .i64 (0), .int .i64 (0), .int .i64 (0), .int .i64 (sb), .sl .nil [], .sl .nil [], .int .u16 (0), .int .u16 (0)]])))) [] Y18 rfl au au au ?_
         refine DetHC.pre (pre := [_]) (s1 := (((S.set tp (some (.row 51 [(T2.nx 8).pv]))).set tp (some (.row 51 [((T2.nx 8).nx 4).pv]))).set (s.nxt + 1) (some (.row 33 [.agg [.int .i64 (f), .int .i64 (0), .int .i64 (0), .int .i64 (0), .int .i64 (sb), .sl .nil [], .sl .nil [], .int .u16 (0), .int .u16 (0)]])))) [3] [(((S.set tp (some (.row 51 [(T2.nx 8).pv]))).set tp (some (.row 51 [((T2.nx 8).nx 4).pv]))).set (s.nxt + 1) (some (.row 33 [.agg [.int .i64 (f), .int .i64 (0), .int .i64 (0), .int .i64 (0), .int .i64 (sb), .sl .nil [], .sl .nil [], .int .u16 (0), .int .u16 (0)]])))] Y18 rfl au ?_
         refine DetHC.eff [(3, 4)] ((((S.set tp (some (.row 51 [(T2.nx 8).pv]))).set tp (some (.row 51 [((T2.nx 8).nx 4).pv]))).set (s.nxt + 1) (some (.row 33 [.agg [.int .i64 (f), .int .i64 (0), .int .i64 (0), .int .i64 (0), .int .i64 (sb), .sl .nil [], .sl .nil [], .int .u16 (0), .int .u16 (0)]])))) (((((S.set tp (some (.row 51 [(T2.nx 8).pv]))).set tp (some (.row 51 [((T2.nx 8).nx 4).pv]))).set (s.nxt + 1) (some (.row 33 [.agg [.int .i64 (f), .int .i64 (0), .int .i64 (0), .int .i64 (0), .int .i64 (sb), .sl .nil [], .sl .nil [], .int .u16 (0), .int .u16 (0)]]))).set (s.nxt + 1) (some (.row 33 [.agg [.int .i64 (f), .int .i64 (0), .int .i64 (0), .int .i64 (0), .int .i64 (sb), .sl .nil [], .sl .clip [.int .u16 vv], .int .u16 (0), .int .u16 (0)]])))) [] Y18 rfl au au au ?_
         refine DetHC.nil ?_
         refine rl [2, 3] (k := rB (k := ?_))
         have hf5 : f = 8 := Y42
         subst hf5
         exact hJb0 _ _ ⟨(T2.nx 8).nx 4, ⟨8, 0, 0, 0, sb, [], [vv], 0, 0⟩, .nil, .clip, rfl, (hT2.nx 8).nx 4, (req_okT Y70 zU zU zU hsbU (OkW.one hvvU) zU zU Y70 Y70), (right8 (by unfold U16 at hsbU; omega) _), Y43⟩
       · refine rs (k := rg [0, 2, 3, 4, 17, 61] (k := rc (ht := fun hc7 => ?_) (hf := fun hc7 => ?_)))
         · refine rs (k := ?_)
           have hf5 : f = 15 := Y42
           subst hf5
           have hy26b := (T2).val_bound (n := 26) Y15
           obtain ⟨y26, hy26⟩ : ∃ y, (T2).val 26 = y := ⟨_, rfl⟩
           rw [hy26] at hy26b
           have H := aj hy26 H
           refine rr (k := ro (pre := [_, _]) (k := ?_))
           refine RunO.callw au au au Y18 ((tape_Next hT2 (n := 26) hQ.tape).mono ?_)
           rintro r s9 ⟨rfl, hs⟩
           subst s9
           refine rh [0, 2, 3] (k := rs (k := rg [0, 2, 3, 5] (k := rb (k := ?_))))
           refine Run.loop (fun e s' => ∃ (T3 : Tp) (i : Nat) (L : List Bool) (k : SK), e = [(0, .ptr tp 0 0), (2, .ptr s.nxt 0 0), (3, .ptr (s.nxt + 1) 0 0), (5, .int .i64 (i : Int))] ∧ T3.ok ∧ QAt s tp T3 [.int .i64 (15), .int .i64 (a), .int .i64 (y26), .int .i64 (0), .int .i64 (0), .sl k (L.map PV.bool), .sl .nil [], .int .u16 (0), .int .u16 (0)] s' ∧ L.length = i ∧ (i : Int) ≤ y26 ∧ (k = .nil ∧ L = [] ∨ ∃ t, k = .tok t 1 ∧ s.nxt + 2 ≤ t ∧ s'.blk t = some (.tok L.length))) (fun e s' => y26.toNat - ivar e 5) ?_ ?_
           · exact ⟨T2.nx 26, 0, [], .nil, rfl, hT2.nx 26, Y43, rfl, Y14, .inl ⟨rfl, rfl⟩⟩
           rintro e S3 ⟨T3, i, L, k, rfl, hT3, hQ3, hr1, hr2, hk⟩
           have h3r := hQ3.row
           have h3t := hQ3.tape
           have h3n := hQ3.nx
           have hN1 : (s.nxt + 1 = S3.nxt) = False := eq_false Y14
           have hN2 : (tp = S3.nxt) = False := eq_false Y14
           have H := aj h3r (aj h3t (aj hN1 (aj hN2 H)))
           rcases hk with ⟨rfl, rfl⟩ | ⟨t, rfl, htn, htb⟩
           · simp only [List.length_nil] at hr1
             refine rs (k := rs (k := rg [0, 2, 3, 5, 71] (k := rc (ht := fun hc8 => ?_) (hf := fun hc8 => ?_))))
             · refine rk (k := rs (k := rb (k := ?_)))
               have hy2b := (T3).val_bound (n := 2) Y15
               obtain ⟨y2, hy2⟩ : ∃ y, (T3).val 2 = y := ⟨_, rfl⟩
               rw [hy2] at hy2b
               have hic : (i : Int) < y26 := of_decide_eq_true hc8
               refine Run.drawH 9 [3, 6, 8] [[false, false, false], [true, false, false], [true, true, false], [true, true, true]] [S3, (S3.set tp (some (.row 51 [(T3.nx 2).pv]))), ((S3.set tp (some (.row 51 [(T3.nx 2).pv]))).new (.tok [decide (y2 = 1)].length)), (((S3.set tp (some (.row 51 [(T3.nx 2).pv]))).new (.tok [decide (y2 = 1)].length)).set (s.nxt + 1) (some (.row 33 [.agg [.int .i64 (15), .int .i64 (a), .int .i64 (y26), .int .i64 (0), .int .i64 (0), .sl (.tok S3.nxt 1) ([decide (y2 = 1)].map PV.bool), .sl .nil [], .int .u16 (0), .int .u16 (0)]])))] ((((S3.set tp (some (.row 51 [(T3.nx 2).pv]))).new (.tok [decide (y2 = 1)].length)).set (s.nxt + 1) (some (.row 33 [.agg [.int .i64 (15), .int .i64 (a), .int .i64 (y26), .int .i64 (0), .int .i64 (0), .sl (.tok S3.nxt 1) ([decide (y2 = 1)].map PV.bool), .sl .nil [], .int .u16 (0), .int .u16 (0)]])))) Tryz.mixed Y18 Y18 Y18 Y18 Y18 rfl Y18 rfl ?_
               refine DetHC.pre (pre := [_, _, _]) (s1 := S3) [0, 1] [S3, (S3.set tp (some (.row 51 [(T3.nx 2).pv])))] Y18 rfl au ?_
               refine DetHC.callE (v := .int .i64 y2) [(0, 1)] [(S3, (S3.set tp (some (.row 51 [(T3.nx 2).pv]))))] Y18 rfl au au au Y18 Y279 ?_
               refine DetHC.pre (pre := [_, _]) (s1 := (S3.set tp (some (.row 51 [(T3.nx 2).pv])))) [1] [(S3.set tp (some (.row 51 [(T3.nx 2).pv])))] Y18 rfl au ?_
               refine DetHC.app (kx := .nil) (xs := []) (ys := [decide (y2 = 1)].map PV.bool) (v := .sl (.tok S3.nxt 1) ([decide (y2 = 1)].map PV.bool)) [(1, 2)] [((S3.set tp (some (.row 51 [(T3.nx 2).pv]))), ((S3.set tp (some (.row 51 [(T3.nx 2).pv]))).new (.tok [decide (y2 = 1)].length)))] Y18 rfl au au au Tryz.td29 Y194 Y157 (isEls_map (P := Tryz.prog) (e := 4) (f := PV.bool) (fun a => ⟨rfl, Y334⟩) _) Y196 (by rw [Tryz.by4]; simp <;> omega) (by intro q hq; rw [List.mem_singleton.1 hq]; exact aAppend_nilL (f := PV.bool) (ys := [decide (y2 = 1)]) Y70 (by rw [Tryz.cz4])) ?_
               refine DetHC.pre (pre := [_]) (s1 := ((S3.set tp (some (.row 51 [(T3.nx 2).pv]))).new (.tok [decide (y2 = 1)].length))) [2] [((S3.set tp (some (.row 51 [(T3.nx 2).pv]))).new (.tok [decide (y2 = 1)].length))] Y18 rfl au ?_
               refine DetHC.eff [(2, 3)] (((S3.set tp (some (.row 51 [(T3.nx 2).pv]))).new (.tok [decide (y2 = 1)].length))) ((((S3.set tp (some (.row 51 [(T3.nx 2).pv]))).new (.tok [decide (y2 = 1)].length)).set (s.nxt + 1) (some (.row 33 [.agg [.int .i64 (15), .int .i64 (a), .int .i64 (y26), .int .i64 (0), .int .i64 (0), .sl (.tok S3.nxt 1) ([decide (y2 = 1)].map PV.bool), .sl .nil [], .int .u16 (0), .int .u16 (0)]])))) [] Y18 rfl au au au ?_
               refine DetHC.nil ?_
               refine rl [0, 2, 3, 5] (k := rB (k := ?_))
               have hwi : IntKind.i64.wrap ((i : Int) + 1) = ((i + 1 : Nat) : Int) := Y20
               have H := aj hwi H
               refine rg [0, 2, 3, 5] (k := ?_)
               refine Run.lp ⟨⟨T3.nx 2, i + 1, [decide (y2 = 1)], (.tok S3.nxt 1), rfl, hT3.nx 2, Y43, Y217, Y14, .inr ⟨S3.nxt, rfl, hQ3.nx, Y96⟩⟩, ?_⟩
               simp only [ivar, ivar1, go_sem, ↓reduceIte, Nat.reduceEqDiff]
               omega
             · refine rX (k := rB (k := ?_))
               have hie : (0 : Int) = y26 := Y42
               rw [← hie] at hQ3
               refine rp [2, 3] (k := ?_)
               exact hJb0 _ _ ⟨T3, ⟨15, a, 0, 0, 0, [], [], 0, 0⟩, .nil, .nil, rfl, hT3, (req_okT Y70 hU zU zU zU zW zU zU Y70 Y70), (right15 (W := []) Y14 Y70), Y43⟩
           · have hN3 : (s.nxt + 1 = t) = False := eq_false Y14
             have hN4 : (tp = t) = False := eq_false Y14
             have hN5 : (t = tp) = False := eq_false Y14
             have hN6 : (t = s.nxt + 1) = False := eq_false Y14
             have H := aj hN3 (aj hN4 (aj hN5 (aj hN6 H)))
             refine rs (k := rs (k := rg [0, 2, 3, 5, 71] (k := rc (ht := fun hc8 => ?_) (hf := fun hc8 => ?_))))
             · refine rk (k := rs (k := rb (k := ?_)))
               have hy2b := (T3).val_bound (n := 2) Y15
               obtain ⟨y2, hy2⟩ : ∃ y, (T3).val 2 = y := ⟨_, rfl⟩
               rw [hy2] at hy2b
               have hic : (i : Int) < y26 := of_decide_eq_true hc8
               refine Run.drawH 9 [3, 6, 8] [[false, false, false], [true, false, false], [true, true, false], [true, true, true]] [S3, (S3.set tp (some (.row 51 [(T3.nx 2).pv]))), ((S3.set tp (some (.row 51 [(T3.nx 2).pv]))).set t (some (.tok (L ++ [decide (y2 = 1)]).length))), (((S3.set tp (some (.row 51 [(T3.nx 2).pv]))).set t (some (.tok (L ++ [decide (y2 = 1)]).length))).set (s.nxt + 1) (some (.row 33 [.agg [.int .i64 (15), .int .i64 (a), .int .i64 (y26), .int .i64 (0), .int .i64 (0), .sl (.tok t 1) ((L ++ [decide (y2 = 1)]).map PV.bool), .sl .nil [], .int .u16 (0), .int .u16 (0)]])))] ((((S3.set tp (some (.row 51 [(T3.nx 2).pv]))).set t (some (.tok (L ++ [decide (y2 = 1)]).length))).set (s.nxt + 1) (some (.row 33 [.agg [.int .i64 (15), .int .i64 (a), .int .i64 (y26), .int .i64 (0), .int .i64 (0), .sl (.tok t 1) ((L ++ [decide (y2 = 1)]).map PV.bool), .sl .nil [], .int .u16 (0), .int .u16 (0)]])))) Tryz.mixed Y18 Y18 Y18 Y18 Y18 rfl Y18 rfl ?_
               refine DetHC.pre (pre := [_, _, _]) (s1 := S3) [0, 1] [S3, (S3.set tp (some (.row 51 [(T3.nx 2).pv])))] Y18 rfl au ?_
               refine DetHC.callE (v := .int .i64 y2) [(0, 1)] [(S3, (S3.set tp (some (.row 51 [(T3.nx 2).pv]))))] Y18 rfl au au au Y18 Y279 ?_
               refine DetHC.pre (pre := [_, _]) (s1 := (S3.set tp (some (.row 51 [(T3.nx 2).pv])))) [1] [(S3.set tp (some (.row 51 [(T3.nx 2).pv])))] Y18 rfl au ?_
               refine DetHC.app (kx := (.tok t 1)) (xs := L.map PV.bool) (ys := [decide (y2 = 1)].map PV.bool) (v := .sl (.tok t 1) ((L ++ [decide (y2 = 1)]).map PV.bool)) [(1, 2)] [((S3.set tp (some (.row 51 [(T3.nx 2).pv]))), ((S3.set tp (some (.row 51 [(T3.nx 2).pv]))).set t (some (.tok (L ++ [decide (y2 = 1)]).length))))] Y18 rfl au au au Tryz.td29 Y194 Y157 (isEls_map (P := Tryz.prog) (e := 4) (f := PV.bool) (fun a => ⟨rfl, Y334⟩) _) Y196 (by rw [Tryz.by4]; simp <;> omega) (by intro q hq; rw [List.mem_singleton.1 hq]; exact aAppend_tokL (f := PV.bool) (xs := L) (ys := [decide (y2 = 1)]) rfl Y70 (by rw [blk_set_ne Y14]; exact htb) rfl (by rw [Tryz.cz4])) ?_
               refine DetHC.pre (pre := [_]) (s1 := ((S3.set tp (some (.row 51 [(T3.nx 2).pv]))).set t (some (.tok (L ++ [decide (y2 = 1)]).length)))) [2] [((S3.set tp (some (.row 51 [(T3.nx 2).pv]))).set t (some (.tok (L ++ [decide (y2 = 1)]).length)))] Y18 rfl au ?_
               refine DetHC.eff [(2, 3)] (((S3.set tp (some (.row 51 [(T3.nx 2).pv]))).set t (some (.tok (L ++ [decide (y2 = 1)]).length)))) ((((S3.set tp (some (.row 51 [(T3.nx 2).pv]))).set t (some (.tok (L ++ [decide (y2 = 1)]).length))).set (s.nxt + 1) (some (.row 33 [.agg [.int .i64 (15), .int .i64 (a), .int .i64 (y26), .int .i64 (0), .int .i64 (0), .sl (.tok t 1) ((L ++ [decide (y2 = 1)]).map PV.bool), .sl .nil [], .int .u16 (0), .int .u16 (0)]])))) [] Y18 rfl au au au ?_
               refine DetHC.nil ?_
               refine rl [0, 2, 3, 5] (k := rB (k := ?_))
               have hwi : IntKind.i64.wrap ((i : Int) + 1) = ((i + 1 : Nat) : Int) := Y20
               have H := aj hwi H
               refine rg [0, 2, 3, 5] (k := ?_)
               refine Run.lp ⟨⟨T3.nx 2, i + 1, (L ++ [decide (y2 = 1)]), (.tok t 1), rfl, hT3.nx 2, Y43, Y217, Y14, .inr ⟨t, rfl, htn, Y361⟩⟩, ?_⟩
               simp only [ivar, ivar1, go_sem, ↓reduceIte, Nat.reduceEqDiff]
               omega
             · refine rX (k := rB (k := ?_))
               have hie : ((L.length : Nat) : Int) = y26 := Y42
               rw [← hie] at hQ3
               refine rp [2, 3] (k := ?_)
               exact hJb0 _ _ ⟨T3, ⟨15, a, L.length, 0, 0, L, [], 0, 0⟩, _, .nil, rfl, hT3, (req_okT Y70 hU (show U16 ((L.length : Nat) : Int) from ⟨Y14, Y14⟩) zU zU zW zU zU Y335 Y70), (right15 Y14 Y14), Y43⟩
         · refine rs (k := rg [0, 2, 3, 4, 17, 82] (k := rc (ht := fun hc9 => ?_) (hf := fun hc9 => ?_)))
           · refine rs (k := ?_)
             have hf5 : f = 16 := Y42
             subst hf5
             have hy26b := (T2).val_bound (n := 26) Y15
             obtain ⟨y26, hy26⟩ : ∃ y, (T2).val 26 = y := ⟨_, rfl⟩
             rw [hy26] at hy26b
             have H := aj hy26 H
             refine rr (k := ro (pre := [_, _]) (k := ?_))
             refine RunO.callw au au au Y18 ((tape_Next hT2 (n := 26) hQ.tape).mono ?_)
             rintro r s9 ⟨rfl, hs⟩
             subst s9
             refine rh [0, 2, 3] (k := rs (k := rg [0, 2, 3, 6] (k := rb (k := ?_))))
             refine Run.loop (fun e s' => ∃ (T3 : Tp) (i : Nat) (L : List Int) (k : SK), e = [(0, .ptr tp 0 0), (2, .ptr s.nxt 0 0), (3, .ptr (s.nxt + 1) 0 0), (6, .int .i64 (i : Int))] ∧ T3.ok ∧ QAt s tp T3 [.int .i64 (16), .int .i64 (a), .int .i64 (y26), .int .i64 (0), .int .i64 (0), .sl .nil [], .sl k (L.map (PV.int .u16)), .int .u16 (0), .int .u16 (0)] s' ∧ L.length = i ∧ (i : Int) ≤ y26 ∧ (k = .nil ∧ L = [] ∨ ∃ t, k = .tok t 1 ∧ s.nxt + 2 ≤ t ∧ s'.blk t = some (.tok L.length)) ∧ OkW L) (fun e s' => y26.toNat - ivar e 6) ?_ ?_
             · exact ⟨T2.nx 26, 0, [], .nil, rfl, hT2.nx 26, Y43, rfl, Y14, .inl ⟨rfl, rfl⟩, zW⟩
             rintro e S3 ⟨T3, i, L, k, rfl, hT3, hQ3, hr1, hr2, hk, hLo⟩
             have h3r := hQ3.row
             have h3t := hQ3.tape
             have h3n := hQ3.nx
             have hN1 : (s.nxt + 1 = S3.nxt) = False := eq_false Y14
             have hN2 : (tp = S3.nxt) = False := eq_false Y14
             have H := aj h3r (aj h3t (aj hN1 (aj hN2 H)))
             rcases hk with ⟨rfl, rfl⟩ | ⟨t, rfl, htn, htb⟩
             · simp only [List.length_nil] at hr1
               refine rs (k := rs (k := rg [0, 2, 3, 6, 92] (k := rc (ht := fun hc10 => ?_) (hf := fun hc10 => ?_))))
               · refine rk (k := rs (k := rb (k := ?_)))
                 have hy6b := (T3).val_bound (n := 65536) Y15
                 obtain ⟨y6, hy6⟩ : ∃ y, (T3).val 65536 = y := ⟨_, rfl⟩
                 rw [hy6] at hy6b
                 have hic : (i : Int) < y26 := of_decide_eq_true hc10
                 have hw6 : IntKind.u16.wrap y6 = y6 := Y278
                 have H := aj hw6 H
                 refine Run.drawH 9 [3, 6, 8] [[false, false, false], [true, false, false], [true, true, false], [true, true, true]] [S3, (S3.set tp (some (.row 51 [(T3.nx 65536).pv]))), ((S3.set tp (some (.row 51 [(T3.nx 65536).pv]))).new (.tok [y6].length)), (((S3.set tp (some (.row 51 [(T3.nx 65536).pv]))).new (.tok [y6].length)).set (s.nxt + 1) (some (.row 33 [.agg [.int .i64 (16), .int .i64 (a), .int .i64 (y26), .int .i64 (0), .int .i64 (0), .sl .nil [], .sl (.tok S3.nxt 1) ([y6].map (PV.int .u16)), .int .u16 (0), .int .u16 (0)]])))] ((((S3.set tp (some (.row 51 [(T3.nx 65536).pv]))).new (.tok [y6].length)).set (s.nxt + 1) (some (.row 33 [.agg [.int .i64 (16), .int .i64 (a), .int .i64 (y26), .int .i64 (0), .int .i64 (0), .sl .nil [], .sl (.tok S3.nxt 1) ([y6].map (PV.int .u16)), .int .u16 (0), .int .u16 (0)]])))) Tryz.mixed Y18 Y18 Y18 Y18 Y18 rfl Y18 rfl ?_
                 refine DetHC.pre (pre := [_, _, _]) (s1 := S3) [0, 1] [S3, (S3.set tp (some (.row 51 [(T3.nx 65536).pv])))] Y18 rfl au ?_
                 refine DetHC.callE (v := .int .i64 y6) [(0, 1)] [(S3, (S3.set tp (some (.row 51 [(T3.nx 65536).pv]))))] Y18 rfl au au au Y18 Y97 ?_
                 refine DetHC.pre (pre := [_, _]) (s1 := (S3.set tp (some (.row 51 [(T3.nx 65536).pv])))) [1] [(S3.set tp (some (.row 51 [(T3.nx 65536).pv])))] Y18 rfl au ?_
                 refine DetHC.app (kx := .nil) (xs := []) (ys := [y6].map (PV.int .u16)) (v := .sl (.tok S3.nxt 1) ([y6].map (PV.int .u16))) [(1, 2)] [((S3.set tp (some (.row 51 [(T3.nx 65536).pv]))), ((S3.set tp (some (.row 51 [(T3.nx 65536).pv]))).new (.tok [y6].length)))] Y18 rfl au au au Tryz.td30 Y136 Y98 (isEls_map (P := Tryz.prog) (e := 31) (f := (PV.int .u16)) (fun a => ⟨rfl, Y216⟩) _) Y138 Y280 Y218 ?_
                 refine DetHC.pre (pre := [_]) (s1 := ((S3.set tp (some (.row 51 [(T3.nx 65536).pv]))).new (.tok [y6].length))) [2] [((S3.set tp (some (.row 51 [(T3.nx 65536).pv]))).new (.tok [y6].length))] Y18 rfl au ?_
                 refine DetHC.eff [(2, 3)] (((S3.set tp (some (.row 51 [(T3.nx 65536).pv]))).new (.tok [y6].length))) ((((S3.set tp (some (.row 51 [(T3.nx 65536).pv]))).new (.tok [y6].length)).set (s.nxt + 1) (some (.row 33 [.agg [.int .i64 (16), .int .i64 (a), .int .i64 (y26), .int .i64 (0), .int .i64 (0), .sl .nil [], .sl (.tok S3.nxt 1) ([y6].map (PV.int .u16)), .int .u16 (0), .int .u16 (0)]])))) [] Y18 rfl au au au ?_
                 refine DetHC.nil ?_
                 refine rl [0, 2, 3, 6] (k := rB (k := ?_))
                 have hwi : IntKind.i64.wrap ((i : Int) + 1) = ((i + 1 : Nat) : Int) := Y20
                 have H := aj hwi H
                 refine rg [0, 2, 3, 6] (k := ?_)
                 refine Run.lp ⟨⟨T3.nx 65536, i + 1, [y6], (.tok S3.nxt 1), rfl, hT3.nx 65536, Y43, Y217, Y14, .inr ⟨S3.nxt, rfl, hQ3.nx, Y96⟩, Y362⟩, ?_⟩
                 simp only [ivar, ivar1, go_sem, ↓reduceIte, Nat.reduceEqDiff]
                 omega
               · refine rX (k := rB (k := ?_))
                 have hie : (0 : Int) = y26 := Y42
                 rw [← hie] at hQ3
                 refine rp [2, 3] (k := ?_)
                 exact hJb0 _ _ ⟨T3, ⟨16, a, 0, 0, 0, [], [], 0, 0⟩, .nil, .nil, rfl, hT3, (req_okT Y70 hU zU zU zU zW zU zU Y70 Y70), (right16 (W := []) Y14 Y70), Y43⟩
             · have hN3 : (s.nxt + 1 = t) = False := eq_false Y14
               have hN4 : (tp = t) = False := eq_false Y14
               have hN5 : (t = tp) = False := eq_false Y14
               have hN6 : (t = s.nxt + 1) = False := eq_false Y14
               have H := aj hN3 (aj hN4 (aj hN5 (aj hN6 H)))
               refine rs (k := rs (k := rg [0, 2, 3, 6, 92] (k := rc (ht := fun hc10 => ?_) (hf := fun hc10 => ?_))))
               · refine rk (k := rs (k := rb (k := ?_)))
                 have hy6b := (T3).val_bound (n := 65536) Y15
                 obtain ⟨y6, hy6⟩ : ∃ y, (T3).val 65536 = y := ⟨_, rfl⟩
                 rw [hy6] at hy6b
                 have hic : (i : Int) < y26 := of_decide_eq_true hc10
                 have hw6 : IntKind.u16.wrap y6 = y6 := Y278
                 have H := aj hw6 H
                 refine Run.drawH 9 [3, 6, 8] [[false, false, false], [true, false, false], [true, true, false], [true, true, true]] [S3, (S3.set tp (some (.row 51 [(T3.nx 65536).pv]))), ((S3.set tp (some (.row 51 [(T3.nx 65536).pv]))).set t (some (.tok (L ++ [y6]).length))), (((S3.set tp (some (.row 51 [(T3.nx 65536).pv]))).set t (some (.tok (L ++ [y6]).length))).set (s.nxt + 1) (some (.row 33 [.agg [.int .i64 (16), .int .i64 (a), .int .i64 (y26), .int .i64 (0), .int .i64 (0), .sl .nil [], .sl (.tok t 1) ((L ++ [y6]).map (PV.int .u16)), .int .u16 (0), .int .u16 (0)]])))] ((((S3.set tp (some (.row 51 [(T3.nx 65536).pv]))).set t (some (.tok (L ++ [y6]).length))).set (s.nxt + 1) (some (.row 33 [.agg [.int .i64 (16), .int .i64 (a), .int .i64 (y26), .int .i64 (0), .int .i64 (0), .sl .nil [], .sl (.tok t 1) ((L ++ [y6]).map (PV.int .u16)), .int .u16 (0), .int .u16 (0)]])))) Tryz.mixed Y18 Y18 Y18 Y18 Y18 rfl Y18 rfl ?_
                 refine DetHC.pre (pre := [_, _, _]) (s1 := S3) [0, 1] [S3, (S3.set tp (some (.row 51 [(T3.nx 65536).pv])))] Y18 rfl au ?_
                 refine DetHC.callE (v := .int .i64 y6) [(0, 1)] [(S3, (S3.set tp (some (.row 51 [(T3.nx 65536).pv]))))] Y18 rfl au au au Y18 Y97 ?_
                 refine DetHC.pre (pre := [_, _]) (s1 := (S3.set tp (some (.row 51 [(T3.nx 65536).pv])))) [1] [(S3.set tp (some (.row 51 [(T3.nx 65536).pv])))] Y18 rfl au ?_
                 refine DetHC.app (kx := (.tok t 1)) (xs := L.map (PV.int .u16)) (ys := [y6].map (PV.int .u16)) (v := .sl (.tok t 1) ((L ++ [y6]).map (PV.int .u16))) [(1, 2)] [((S3.set tp (some (.row 51 [(T3.nx 65536).pv]))), ((S3.set tp (some (.row 51 [(T3.nx 65536).pv]))).set t (some (.tok (L ++ [y6]).length))))] Y18 rfl au au au Tryz.td30 Y136 Y98 (isEls_map (P := Tryz.prog) (e := 31) (f := (PV.int .u16)) (fun a => ⟨rfl, Y216⟩) _) Y138 Y280 Y158 ?_
                 refine DetHC.pre (pre := [_]) (s1 := ((S3.set tp (some (.row 51 [(T3.nx 65536).pv]))).set t (some (.tok (L ++ [y6]).length)))) [2] [((S3.set tp (some (.row 51 [(T3.nx 65536).pv]))).set t (some (.tok (L ++ [y6]).length)))] Y18 rfl au ?_
                 refine DetHC.eff [(2, 3)] (((S3.set tp (some (.row 51 [(T3.nx 65536).pv]))).set t (some (.tok (L ++ [y6]).length)))) ((((S3.set tp (some (.row 51 [(T3.nx 65536).pv]))).set t (some (.tok (L ++ [y6]).length))).set (s.nxt + 1) (some (.row 33 [.agg [.int .i64 (16), .int .i64 (a), .int .i64 (y26), .int .i64 (0), .int .i64 (0), .sl .nil [], .sl (.tok t 1) ((L ++ [y6]).map (PV.int .u16)), .int .u16 (0), .int .u16 (0)]])))) [] Y18 rfl au au au ?_
                 refine DetHC.nil ?_
                 refine rl [0, 2, 3, 6] (k := rB (k := ?_))
                 have hwi : IntKind.i64.wrap ((i : Int) + 1) = ((i + 1 : Nat) : Int) := Y20
                 have H := aj hwi H
                 refine rg [0, 2, 3, 6] (k := ?_)
                 refine Run.lp ⟨⟨T3.nx 65536, i + 1, (L ++ [y6]), (.tok t 1), rfl, hT3.nx 65536, Y43, Y217, Y14, .inr ⟨t, rfl, htn, Y361⟩, Y219⟩, ?_⟩
                 simp only [ivar, ivar1, go_sem, ↓reduceIte, Nat.reduceEqDiff]
                 omega
               · refine rX (k := rB (k := ?_))
                 have hie : ((L.length : Nat) : Int) = y26 := Y42
                 rw [← hie] at hQ3
                 refine rp [2, 3] (k := ?_)
                 exact hJb0 _ _ ⟨T3, ⟨16, a, L.length, 0, 0, [], L, 0, 0⟩, .nil, _, rfl, hT3, (req_okT Y70 hU (show U16 ((L.length : Nat) : Int) from ⟨Y14, Y14⟩) zU zU hLo zU zU Y70 Y335), (right16 Y14 Y14), Y43⟩
           · refine rs (k := rg [0, 2, 3, 4, 17, 103] (k := rc (ht := fun hc11 => ?_) (hf := fun hc11 => ?_)))
             · have hcab := (T2).val_bound (n := 65536) Y15
               obtain ⟨ca, hca⟩ : ∃ y, (T2).val 65536 = y := ⟨_, rfl⟩
               rw [hca] at hcab
               have hcob := (T2.nx 65536).val_bound (n := 65536) Y15
               obtain ⟨co, hco⟩ : ∃ y, (T2.nx 65536).val 65536 = y := ⟨_, rfl⟩
               rw [hco] at hcob
               have hwa : IntKind.u16.wrap ca = ca := Y278
               have hwo : IntKind.u16.wrap co = co := Y278
               have H := aj hca (aj hco (aj hwa (aj hwo H)))
               refine rr (k := ro (pre := [_, _]) (k := ?_))
               refine RunO.callw au au au Y18 ((tape_Next hT2 (n := 65536) hQ.tape).mono ?_)
               rintro r s9 ⟨rfl, hs⟩
               subst s9
               refine ro (pre := [_, _]) (k := ?_)
               refine RunO.callw au au au Y18 ((tape_Next (hT2.nx 65536) (n := 65536) (blk_set_self _ _ _)).mono ?_)
               rintro r s9 ⟨rfl, hs⟩
               subst s9
               refine rh [2, 3] (k := rB (k := ?_))
               have hf5 : f = 22 := Y42
               subst hf5
               exact hJb0 _ _ ⟨(T2.nx 65536).nx 65536, ⟨22, a, 0, 0, 0, [], [], ca, co⟩, .nil, .nil, rfl, (hT2.nx 65536).nx 65536, (req_okT Y70 hU zU zU zU zW (show U16 ca from ⟨Y14, Y14⟩) (show U16 co from ⟨Y14, Y14⟩) Y70 Y70), (right22 Y14), Y43⟩
             · refine rs (k := rg [0, 2, 3, 4, 115] (k := rc (ht := fun hc12 => ?_) (hf := fun hc12 => ?_)))
               · refine rs (k := ?_)
                 have hf5 : f = 23 := Y42
                 subst hf5
                 have hy20b := (T2).val_bound (n := 20) Y15
                 obtain ⟨y20, hy20⟩ : ∃ y, (T2).val 20 = y := ⟨_, rfl⟩
                 rw [hy20] at hy20b
                 have hy40b := (T2.nx 20).val_bound (n := 40) Y15
                 obtain ⟨y40, hy40⟩ : ∃ y, (T2.nx 20).val 40 = y := ⟨_, rfl⟩
                 rw [hy40] at hy40b
                 have hm0b := ((T2.nx 20).nx 40).val_bound (n := 20) Y15
                 obtain ⟨m0, hm0⟩ : ∃ y, ((T2.nx 20).nx 40).val 20 = y := ⟨_, rfl⟩
                 rw [hm0] at hm0b
                 have H := aj hy20 (aj hy40 (aj hm0 H))
                 refine rr (k := ro (pre := [_, _]) (k := ?_))
                 refine RunO.callw au au au Y18 ((tape_Next hT2 (n := 20) hQ.tape).mono ?_)
                 rintro r s9 ⟨rfl, hs⟩
                 subst s9
                 refine ro (pre := [_]) (k := ?_)
                 refine RunO.callw au au au Y18 ((tape_Next (hT2.nx 20) (n := 40) (blk_set_self _ _ _)).mono ?_)
                 rintro r s9 ⟨rfl, hs⟩
                 subst s9
                 refine rh [0, 2, 3] (k := rs (k := rr (k := ro (pre := [_]) (k := ?_))))
                 refine RunO.callw au au au Y18 ((tape_Next ((hT2.nx 20).nx 40) (n := 20) (by first | exact blk_set_self _ _ _ | (simp (disch := omega) only [blk_set_ne, blk_set_self]))).mono ?_)
                 rintro r s9 ⟨rfl, hs⟩
                 subst s9
                 refine rh [0, 2, 3, 7] (k := rb (k := ?_))
                 refine Run.loop (fun e s' => ∃ (T3 : Tp) (m : Int) (L : List Int) (k : SK), e = [(0, .ptr tp 0 0), (2, .ptr s.nxt 0 0), (3, .ptr (s.nxt + 1) 0 0), (7, .int .i64 m)] ∧ T3.ok ∧ QAt s tp T3 [.int .i64 (23), .int .i64 (a), .int .i64 (y20), .int .i64 (y40), .int .i64 (0), .sl .nil [], .sl k (L.map (PV.int .u16)), .int .u16 (0), .int .u16 (0)] s' ∧ L.length + m = m0 ∧ 0 ≤ m ∧ (k = .nil ∧ L = [] ∨ ∃ t, k = .tok t 1 ∧ s.nxt + 2 ≤ t ∧ s'.blk t = some (.tok L.length)) ∧ OkW L) (fun e s' => ivar1 e 7) ?_ ?_
                 · exact ⟨((T2.nx 20).nx 40).nx 20, m0, [], .nil, rfl, ((hT2.nx 20).nx 40).nx 20, Y43, Y70, Y14, .inl ⟨rfl, rfl⟩, zW⟩
                 rintro e S3 ⟨T3, m, L, k, rfl, hT3, hQ3, hr1, hr2, hk, hLo⟩
                 have h3r := hQ3.row
                 have h3t := hQ3.tape
                 have h3n := hQ3.nx
                 have hN1 : (s.nxt + 1 = S3.nxt) = False := eq_false Y14
                 have hN2 : (tp = S3.nxt) = False := eq_false Y14
                 have H := aj h3r (aj h3t (aj hN1 (aj hN2 H)))
                 rcases hk with ⟨rfl, rfl⟩ | ⟨t, rfl, htn, htb⟩
                 · simp only [List.length_nil] at hr1
                   refine rs (k := rs (k := rg [0, 2, 3, 7, 128] (k := rc (ht := fun hc13 => ?_) (hf := fun hc13 => ?_))))
                   · refine rk (k := rs (k := rb (k := ?_)))
                     have hy6b := (T3).val_bound (n := 65536) Y15
                     obtain ⟨y6, hy6⟩ : ∃ y, (T3).val 65536 = y := ⟨_, rfl⟩
                     rw [hy6] at hy6b
                     have hw6 : IntKind.u16.wrap y6 = y6 := Y278
                     have H := aj hw6 H
                     refine Run.drawH 9 [3, 6, 8] [[false, false, false], [true, false, false], [true, true, false], [true, true, true]] [S3, (S3.set tp (some (.row 51 [(T3.nx 65536).pv]))), ((S3.set tp (some (.row 51 [(T3.nx 65536).pv]))).new (.tok [y6].length)), (((S3.set tp (some (.row 51 [(T3.nx 65536).pv]))).new (.tok [y6].length)).set (s.nxt + 1) (some (.row 33 [.agg [.int .i64 (23), .int .i64 (a), .int .i64 (y20), .int .i64 (y40), .int .i64 (0), .sl .nil [], .sl (.tok S3.nxt 1) ([y6].map (PV.int .u16)), .int .u16 (0), .int .u16 (0)]])))] ((((S3.set tp (some (.row 51 [(T3.nx 65536).pv]))).new (.tok [y6].length)).set (s.nxt + 1) (some (.row 33 [.agg [.int .i64 (23), .int .i64 (a), .int .i64 (y20), .int .i64 (y40), .int .i64 (0), .sl .nil [], .sl (.tok S3.nxt 1) ([y6].map (PV.int .u16)), .int .u16 (0), .int .u16 (0)]])))) Tryz.mixed Y18 Y18 Y18 Y18 Y18 rfl Y18 rfl ?_
                     refine DetHC.pre (pre := [_, _, _]) (s1 := S3) [0, 1] [S3, (S3.set tp (some (.row 51 [(T3.nx 65536).pv])))] Y18 rfl au ?_
                     refine DetHC.callE (v := .int .i64 y6) [(0, 1)] [(S3, (S3.set tp (some (.row 51 [(T3.nx 65536).pv]))))] Y18 rfl au au au Y18 Y97 ?_
                     refine DetHC.pre (pre := [_, _]) (s1 := (S3.set tp (some (.row 51 [(T3.nx 65536).pv])))) [1] [(S3.set tp (some (.row 51 [(T3.nx 65536).pv])))] Y18 rfl au ?_
                     refine DetHC.app (kx := .nil) (xs := []) (ys := [y6].map (PV.int .u16)) (v := .sl (.tok S3.nxt 1) ([y6].map (PV.int .u16))) [(1, 2)] [((S3.set tp (some (.row 51 [(T3.nx 65536).pv]))), ((S3.set tp (some (.row 51 [(T3.nx 65536).pv]))).new (.tok [y6].length)))] Y18 rfl au au au Tryz.td30 Y136 Y98 (isEls_map (P := Tryz.prog) (e := 31) (f := (PV.int .u16)) (fun a => ⟨rfl, Y216⟩) _) Y138 Y280 Y218 ?_
                     refine DetHC.pre (pre := [_]) (s1 := ((S3.set tp (some (.row 51 [(T3.nx 65536).pv]))).new (.tok [y6].length))) [2] [((S3.set tp (some (.row 51 [(T3.nx 65536).pv]))).new (.tok [y6].length))] Y18 rfl au ?_
                     refine DetHC.eff [(2, 3)] (((S3.set tp (some (.row 51 [(T3.nx 65536).pv]))).new (.tok [y6].length))) ((((S3.set tp (some (.row 51 [(T3.nx 65536).pv]))).new (.tok [y6].length)).set (s.nxt + 1) (some (.row 33 [.agg [.int .i64 (23), .int .i64 (a), .int .i64 (y20), .int .i64 (y40), .int .i64 (0), .sl .nil [], .sl (.tok S3.nxt 1) ([y6].map (PV.int .u16)), .int .u16 (0), .int .u16 (0)]])))) [] Y18 rfl au au au ?_
                     refine DetHC.nil ?_
                     refine rl [0, 2, 3, 7] (k := rB (k := ?_))
                     have hm1 : 0 < m := by have := of_decide_eq_true hc13; omega
                     have hwi : IntKind.i64.wrap (m - 1) = m - 1 := wrap_i64 Y14
                     have H := aj hwi H
                     refine rg [0, 2, 3, 7] (k := ?_)
                     refine Run.lp ⟨⟨T3.nx 65536, m - 1, [y6], (.tok S3.nxt 1), rfl, hT3.nx 65536, Y43, Y217, Y14, .inr ⟨S3.nxt, rfl, hQ3.nx, Y96⟩, Y362⟩, ?_⟩
                     simp only [ivar, ivar1, go_sem, ↓reduceIte, Nat.reduceEqDiff]
                     omega
                   · refine rX (k := rB (k := rp [2, 3] (k := ?_)))
                     exact hJb0 _ _ ⟨T3, ⟨23, a, y20, y40, 0, [], ([] : List Int), 0, 0⟩, .nil, _, rfl, hT3, (req_okT Y70 hU (show U16 y20 from ⟨Y14, Y14⟩) (show U16 y40 from ⟨Y14, Y14⟩) zU hLo zU zU Y70 Y335), (right23 Y14 Y14 Y14 (by first | omega | (simp at hr1 ⊢ <;> omega))), Y43⟩
                 · have hN3 : (s.nxt + 1 = t) = False := eq_false Y14
                   have hN4 : (tp = t) = False := eq_false Y14
                   have hN5 : (t = tp) = False := eq_false Y14
                   have hN6 : (t = s.nxt + 1) = False := eq_false Y14
                   have H := aj hN3 (aj hN4 (aj hN5 (aj hN6 H)))
                   refine rs (k := rs (k := rg [0, 2, 3, 7, 128] (k := rc (ht := fun hc13 => ?_) (hf := fun hc13 => ?_))))
                   · refine rk (k := rs (k := rb (k := ?_)))
                     have hy6b := (T3).val_bound (n := 65536) Y15
                     obtain ⟨y6, hy6⟩ : ∃ y, (T3).val 65536 = y := ⟨_, rfl⟩
                     rw [hy6] at hy6b
                     have hw6 : IntKind.u16.wrap y6 = y6 := Y278
                     have H := aj hw6 H
                     refine Run.drawH 9 [3, 6, 8] [[false, false, false], [true, false, false], [true, true, false], [true, true, true]] [S3, (S3.set tp (some (.row 51 [(T3.nx 65536).pv]))), ((S3.set tp (some (.row 51 [(T3.nx 65536).pv]))).set t (some (.tok (L ++ [y6]).length))), (((S3.set tp (some (.row 51 [(T3.nx 65536).pv]))).set t (some (.tok (L ++ [y6]).length))).set (s.nxt + 1) (some (.row 33 [.agg [.int .i64 (23), .int .i64 (a), .int .i64 (y20), .int .i64 (y40), .int .i64 (0), .sl .nil [], .sl (.tok t 1) ((L ++ [y6]).map (PV.int .u16)), .int .u16 (0), .int .u16 (0)]])))] ((((S3.set tp (some (.row 51 [(T3.nx 65536).pv]))).set t (some (.tok (L ++ [y6]).length))).set (s.nxt + 1) (some (.row 33 [.agg [.int .i64 (23), .int .i64 (a), .int .i64 (y20), .int .i64 (y40), .int .i64 (0), .sl .nil [], .sl (.tok t 1) ((L ++ [y6]).map (PV.int .u16)), .int .u16 (0), .int .u16 (0)]])))) Tryz.mixed Y18 Y18 Y18 Y18 Y18 rfl Y18 rfl ?_
                     refine DetHC.pre (pre := [_, _, _]) (s1 := S3) [0, 1] [S3, (S3.set tp (some (.row 51 [(T3.nx 65536).pv])))] Y18 rfl au ?_
                     refine DetHC.callE (v := .int .i64 y6) [(0, 1)] [(S3, (S3.set tp (some (.row 51 [(T3.nx 65536).pv]))))] Y18 rfl au au au Y18 Y97 ?_
                     refine DetHC.pre (pre := [_, _]) (s1 := (S3.set tp (some (.row 51 [(T3.nx 65536).pv])))) [1] [(S3.set tp (some (.row 51 [(T3.nx 65536).pv])))] Y18 rfl au ?_
                     refine DetHC.app (kx := (.tok t 1)) (xs := L.map (PV.int .u16)) (ys := [y6].map (PV.int .u16)) (v := .sl (.tok t 1) ((L ++ [y6]).map (PV.int .u16))) [(1, 2)] [((S3.set tp (some (.row 51 [(T3.nx 65536).pv]))), ((S3.set tp (some (.row 51 [(T3.nx 65536).pv]))).set t (some (.tok (L ++ [y6]).length))))] Y18 rfl au au au Tryz.td30 Y136 Y98 (isEls_map (P := Tryz.prog) (e := 31) (f := (PV.int .u16)) (fun a => ⟨rfl, Y216⟩) _) Y138 Y280 Y158 ?_
                     refine DetHC.pre (pre := [_]) (s1 := ((S3.set tp (some (.row 51 [(T3.nx 65536).pv]))).set t (some (.tok (L ++ [y6]).length)))) [2] [((S3.set tp (some (.row 51 [(T3.nx 65536).pv]))).set t (some (.tok (L ++ [y6]).length)))] Y18 rfl au ?_
                     refine DetHC.eff [(2, 3)] (((S3.set tp (some (.row 51 [(T3.nx 65536).pv]))).set t (some (.tok (L ++ [y6]).length)))) ((((S3.set tp (some (.row 51 [(T3.nx 65536).pv]))).set t (some (.tok (L ++ [y6]).length))).set (s.nxt + 1) (some (.row 33 [.agg [.int .i64 (23), .int .i64 (a), .int .i64 (y20), .int .i64 (y40), .int .i64 (0), .sl .nil [], .sl (.tok t 1) ((L ++ [y6]).map (PV.int .u16)), .int .u16 (0), .int .u16 (0)]])))) [] Y18 rfl au au au ?_
                     refine DetHC.nil ?_
                     refine rl [0, 2, 3, 7] (k := rB (k := ?_))
                     have hm1 : 0 < m := by have := of_decide_eq_true hc13; omega
                     have hwi : IntKind.i64.wrap (m - 1) = m - 1 := wrap_i64 Y14
                     have H := aj hwi H
                     refine rg [0, 2, 3, 7] (k := ?_)
                     refine Run.lp ⟨⟨T3.nx 65536, m - 1, (L ++ [y6]), (.tok t 1), rfl, hT3.nx 65536, Y43, Y217, Y14, .inr ⟨t, rfl, htn, Y361⟩, Y219⟩, ?_⟩
                     simp only [ivar, ivar1, go_sem, ↓reduceIte, Nat.reduceEqDiff]
                     omega
                   · refine rX (k := rB (k := rp [2, 3] (k := ?_)))
                     exact hJb0 _ _ ⟨T3, ⟨23, a, y20, y40, 0, [], L, 0, 0⟩, .nil, _, rfl, hT3, (req_okT Y70 hU (show U16 y20 from ⟨Y14, Y14⟩) (show U16 y40 from ⟨Y14, Y14⟩) zU hLo zU zU Y70 Y335), (right23 Y14 Y14 Y14 (by first | omega | (simp at hr1 ⊢ <;> omega))), Y43⟩
               · refine rk (k := rB (k := ?_))
                 have hf5 : f = 17 := by simp only [decide_eq_true_eq, decide_eq_false_iff_not] at *; simp only [fnL, List.mem_cons, List.not_mem_nil, or_false] at hfm; omega
                 subst hf5
                 refine rp [2, 3] (k := ?_)
                 exact hJb0 _ _ ⟨T2, ⟨17, 0, 0, 0, 0, [], [], 0, 0⟩, .nil, .nil, rfl, hT2, (req_okT Y70 zU zU zU zU zW zU zU Y70 Y70), right17, Y43⟩
 any_goals
   refine jI 1 ?_
   have hy26b := (T2).val_bound (n := 26) Y15
   refine jO 2 ?_; rotate_left
 any_goals
   refine jI 2 ?_
   obtain ⟨y26, hy26⟩ : ∃ y, (T2).val 26 = y := ⟨_, rfl⟩
   refine jO 3 ?_; rotate_left
 any_goals
   refine jI 3 ?_
   rw [hy26] at hy26b
   refine jO 4 ?_; rotate_left
 any_goals
   refine jI 4 ?_
   have H := aj hy26 H
   refine jO 5 ?_; rotate_left
 any_goals
   refine jI 5 ?_
   refine rr (k := ro (pre := [_, _]) (k := ?_))
   refine jO 6 ?_; rotate_left
 any_goals
   refine jI 6 ?_
   refine RunO.callw au au au Y18 ((tape_Next hT2 (n := 26) hQ.tape).mono ?_)
   refine jO 7 ?_; rotate_left
 any_goals
   refine jI 7 ?_
   rintro r s9 ⟨rfl, hs⟩
   refine jO 8 ?_; rotate_left
 any_goals
   refine jI 8 ?_
   subst s9
   refine jO 9 ?_; rotate_left
 any_goals
   refine jI 9 ?_
   refine rh [2, 3] (k := rB (k := ?_))
   refine jO 10 ?_; rotate_left
 any_goals
   refine jI 10 ?_
   have hf4 : 1 ≤ f ∧ f ≤ 4 := Y42
   refine jO 11 ?_; rotate_left
 any_goals
   refine jI 11 ?_
   exact hJb0 _ _ ⟨T2.nx 26, ⟨f, a, y26, 0, 0, [], [], 0, 0⟩, .nil, .nil, rfl, hT2.nx 26, (req_okT Y335 hU (show U16 y26 from ⟨Y14, Y14⟩) zU zU zW zU zU Y70 Y70), (order_right Y14 Y14 Y14), Y43⟩
end Go.Proofs
namespace Go.Proofs
open Go.PM
set_option maxHeartbeats 2000000
theorem and127 {a : Int} (h : U8 a) : ibits .and .u8 a 127 = a % 128 := by
 obtain ⟨n, rfl⟩ : ∃ n : Nat, a = n := ⟨a.toNat, (Int.toNat_of_nonneg h.1).symm⟩
 have hn : n < 256 := by unfold U8 at h; omega
 have : ∀ m : Fin 256, ibits .and .u8 ((m.val : Nat) : Int) 127 = ((m.val : Nat) : Int) % 128 := by decide +kernel
 exact this ⟨n, hn⟩
end Go.Proofs
namespace Go.Proofs
open Go.PM
set_option maxHeartbeats 2000000
theorem writeF_ok {q : Req} (hq : q.ok) (h : rightF q = 0) : OkB (writeF q) := by
 have hR := right0 h
 have h1 := has_cases hR.has
 have h2 := hR.mb
 have h3 := hR.mv
 have h5 := packB_len q.bits
 have h6 := flat2_lenX q.vals
 unfold writeF
 refine OkB.cons ⟨Y14, Y14⟩ ?_
 repeat' split
 all_goals first
   | exact OkB.nil
   | exact (num2_ok _).append (flat2_okB _)
   | exact (num2_ok _).append (num2_ok _)
   | exact (num2_ok _).append ((num2_ok _).append (num2_ok _))
   | exact (num2_ok _).append ((num2_ok _).append (OkB.cons ⟨Y14, Y14⟩ (packB_ok _)))
   | exact (num2_ok _).append ((num2_ok _).append (OkB.cons ⟨Y14, Y14⟩ (flat2_okB _)))
   | exact (num2_ok _).append ((num2_ok _).append (((num2_ok _).append (num2_ok _)).append (OkB.cons ⟨Y14, Y14⟩ (flat2_okB _))))
   | exact (num2_ok _).append ((num2_ok _).append OkB.nil)
theorem pduF_ok {D : Dev} (hD : D.ok) {l : List Int} (hb : OkB l) (hl : l.length ≤ 140737488351232) : (pduF D l).2.ok ∧ (pduF D l).2.c0.length = D.c0.length := by
 unfold pduF
 split
 · exact ⟨hD, rfl⟩
 · dsimp only
   split
   · exact ⟨refD_ok (inc_ok hD) _ _, rfl⟩
   · split
     · exact ⟨refD_ok (inc_ok hD) _ _, rfl⟩
     · exact doF_ok hD (readF_ok hb hl)
end Go.Proofs
namespace Go.Proofs
open Go.PM
set_option maxHeartbeats 2000000
def refRow (b : Nat) (D : Dev) : Blk := .row 67 [.agg [.ptr b 0 0, .int .i64 D.msgs, .int .i64 D.exc, .int .i64 D.unit]]
def rstRow (b n : Nat) : Blk := .row 90 [.agg [.int .i64 n, .own (b + 1) 0 n, .own (b + 3) 0 n, .own (b + 2) 0 n, .own (b + 4) 0 n]]
structure RefAt (b : Nat) (D : Dev) (s : St) : Prop where
 st : s.blk b = some (rstRow b D.c0.length)
 c0 : s.blk (b + 1) = some (.row 4 (D.c0.map PV.bool))
 c1 : s.blk (b + 3) = some (.row 4 (D.c1.map PV.bool))
 v0 : s.blk (b + 2) = some (.row 31 (D.v0.map (PV.int .u16)))
 v1 : s.blk (b + 4) = some (.row 31 (D.v1.map (PV.int .u16)))
 dv : s.blk (b + 5) = some (refRow b D)
def putRef (b : Nat) (D : Dev) (s : St) : St := ((((s.set (b + 1) (some (.row 4 (D.c0.map PV.bool)))).set (b + 3) (some (.row 4 (D.c1.map PV.bool)))).set (b + 2) (some (.row 31 (D.v0.map (PV.int .u16))))).set (b + 4) (some (.row 31 (D.v1.map (PV.int .u16))))).set (b + 5) (some (refRow b D))
theorem putRef_blk (b : Nat) (D : Dev) (s : St) (i : Nat) : (putRef b D s).blk i = if i = b + 5 then some (refRow b D) else if i = b + 4 then some (.row 31 (D.v1.map (PV.int .u16))) else if i = b + 2 then some (.row 31 (D.v0.map (PV.int .u16))) else if i = b + 3 then some (.row 4 (D.c1.map PV.bool)) else if i = b + 1 then some (.row 4 (D.c0.map PV.bool)) else s.blk i := rfl
theorem putRef_nxt (b : Nat) (D : Dev) (s : St) : (putRef b D s).nxt = s.nxt := rfl
theorem RefAt.of {b : Nat} {D : Dev} {s : St} (h : RefAt b D s) {D' : Dev} {s' : St} (h0 : s'.blk b = s.blk b) (hl : D'.c0.length = D.c0.length) (h1 : s'.blk (b + 1) = some (.row 4 (D'.c0.map PV.bool))) (h3 : s'.blk (b + 3) = some (.row 4 (D'.c1.map PV.bool)))
   (h2 : s'.blk (b + 2) = some (.row 31 (D'.v0.map (PV.int .u16)))) (h4 : s'.blk (b + 4) = some (.row 31 (D'.v1.map (PV.int .u16)))) (h5 : s'.blk (b + 5) = some (refRow b D')) : RefAt b D' s' := ⟨by rw [h0, hl]; exact h.st, h1, h3, h2, h4, h5⟩
theorem RefAt.put {b : Nat} {D : Dev} {s : St} (h : RefAt b D s) {D' : Dev} (hl : D'.c0.length = D.c0.length) : RefAt b D' (putRef b D' s) := by
 refine ⟨?_, ?_, ?_, ?_, ?_, ?_⟩ <;> rw [putRef_blk]
 · exact Y329
 · exact Y265
 · exact Y330
 · rw [if_neg Y14, if_neg Y14, if_pos rfl]
 · rw [if_neg Y14, if_pos rfl]
 · rw [if_pos rfl]
theorem eq_putRef {b : Nat} {D : Dev} {s s' : St} (hn : s'.nxt = s.nxt) (h : RefAt b D s') (hk : ∀ i, i < b + 1 ∨ b + 5 < i → s'.blk i = s.blk i) : s' = putRef b D s := by
 refine St.eq_of hn fun i => ?_
 rw [putRef_blk]
 by_cases e5 : i = b + 5
 · rw [if_pos e5, e5]; exact h.dv
 rw [if_neg e5]
 by_cases e4 : i = b + 4
 · rw [if_pos e4, e4]; exact h.v1
 rw [if_neg e4]
 by_cases e2 : i = b + 2
 · rw [if_pos e2, e2]; exact h.v0
 rw [if_neg e2]
 by_cases e3 : i = b + 3
 · rw [if_pos e3, e3]; exact h.c1
 rw [if_neg e3]
 by_cases e1 : i = b + 1
 · rw [if_pos e1, e1]; exact h.c0
 rw [if_neg e1]
 exact hk i Y14
theorem putRef_put {b : Nat} {D D' : Dev} {s : St} : putRef b D' (putRef b D s) = putRef b D' s := by
 refine St.eq_of rfl fun i => ?_
 simp only [putRef_blk]
 (repeat' split) <;> first | rfl | (exfalso; omega)
theorem putRef_wf {b : Nat} {D D' : Dev} {s : St} (hA : RefAt b D s) (hwf : s.wf) : (putRef b D' s).wf := by
 intro i hi
 rw [putRef_nxt] at hi
 have h5 := lt_blk hwf hA.dv
 rw [putRef_blk, if_neg Y14, if_neg Y14, if_neg Y14, if_neg Y14, if_neg Y14]
 exact hwf i hi
theorem putRef_blw {b : Nat} {D D' : Dev} {s : St} (hA : RefAt b D s) (hwf : s.wf) (i : Nat) (bl : Blk) (h : (putRef b D' s).blk i = some bl) : s.blk i = some bl ∨ bl.blw s.nxt := by
 have h0 := lt_blk hwf hA.st
 rw [putRef_blk] at h
 repeat' split at h
 · cases h; right; simp only [refRow, Blk.blw, PV.blw, PV.blws, and_true]; exact h0
 · exact Y331
 · exact Y331
 · exact Y151
 · exact Y151
 · exact .inl h
theorem Ret.refd {fn : Func} {args : List PV} {s0 s : St} {Q : PV → St → Prop} {e : Env} {r r' : PV} {b : Nat} {D : Dev} (D' : Dev) (hA : RefAt b D s0) (hr : retv Tryz.prog fn.results.toList e s = some r) (hr' : r' = r.weak) (hb : r'.blw s0.nxt) (hwf : s0.wf)
   (hk : ∀ i, i < s0.nxt → s.blk i = (putRef b D' s0).blk i) (h : Q r' (putRef b D' s0)) : Ret Tryz.prog fn args s0 Q e s :=
 Ret.put (putRef b D' s0) hr hr' hb (putRef_wf hA hwf) rfl hk (putRef_blw hA hwf) h
theorem RefAt.lt {b : Nat} {D : Dev} {s : St} (h : RefAt b D s) (hwf : s.wf) : b + 5 < s.nxt := lt_blk hwf h.dv
theorem RefAt.nw {b : Nat} {D : Dev} {s : St} (h : RefAt b D s) (hl : b + 5 < s.nxt) (x : Blk) : RefAt b D (s.new x) := by
 have e : ∀ i, i ≤ b + 5 → (s.new x).blk i = s.blk i := fun i hi => blk_new_ne Y14
 exact ⟨Y266, Y201, Y202, Y267, Y268, Y269⟩
theorem RefAt.same {b : Nat} {D : Dev} {s s' : St} (h : RefAt b D s) (e : ∀ j, j ≤ b + 5 → s'.blk j = s.blk j) : RefAt b D s' :=
 ⟨Y266, Y201, Y202, Y267, Y268, Y269⟩
theorem ref3_Refuse {fn code : Int} {s : St} : ACalls Tryz.prog 70 [.int .i64 fn, .int .i64 code] s (fun r s' => r = (refuseP fn code).pv ∧ s' = s) := by
 refine go Tryz.func70 (k := fun hwf H => ?_)
 have and127 : ibits .and .i64 fn 127 = fn % 128 := ibits_and127 fn
 have and255 : ibits .and .i64 code 255 = code % 256 := ibits_and255 code
 have H := aj and127 (aj and255 H)
 have H := aj and127 (aj and255 H)
 refine rs (k := rg [0, 1, 4] (k := rs (k := rg [4] (k := rR (k := rP (by simp only [Tryz.f70, go_sem]; rfl) hwf ⟨?_, rfl⟩)))))
 rfl
attribute [local go_sem] set_set
set_option maxRecDepth 100000 in
theorem ref8_New {n : Nat} {s : St} (h1 : 1 ≤ n) (h2 : n ≤ 65536) : ACalls Tryz.prog 25 [.int .i64 (n : Int)] s (fun r s' => r = .ptr s.nxt 0 0 ∧ s' = (((((((((((s.new (.row 90 [.agg [.int .i64 (n : Int), .sl .nil [], .sl .nil [], .sl .nil [], .sl .nil []]])).new .res).new .res).set (s.nxt + 1) (some (.row 4 (List.replicate n (.bool false))))).set (s.nxt + 2) (some (.row 31 (List.replicate n (.int .u16 0))))).set s.nxt (some (.row 90 [.agg [.int .i64 (n : Int), .own (s.nxt + 1) 0 n, .sl .nil [], .own (s.nxt + 2) 0 n, .sl .nil []]]))).new .res).new .res).set (s.nxt + 3) (some (.row 4 (List.replicate n (.bool false))))).set (s.nxt + 4) (some (.row 31 (List.replicate n (.int .u16 0))))).set s.nxt (some (.row 90 [.agg [.int .i64 (n : Int), .own (s.nxt + 1) 0 n, .own (s.nxt + 3) 0 n, .own (s.nxt + 2) 0 n, .own (s.nxt + 4) 0 n]])))) := by
 refine go Tryz.func25 (k := fun hwf H => ?_)
 refine rs (k := rg [0] (k := rs (k := rg [0, 3] (k := rs (k := rs (k := rg [0, 3, 8] (k := rb (k := ?_))))))))
 refine Run.loop (fun e s' => ∃ i : Nat, i ≤ 2 ∧ e = [(0, .int .i64 (n : Int)), (3, .ptr s.nxt 0 0), (8, .int .i64 (i : Int))] ∧ s' = (if i = 0 then (s.new (.row 90 [.agg [.int .i64 (n : Int), .sl .nil [], .sl .nil [], .sl .nil [], .sl .nil []]])) else if i = 1 then ((((((s.new (.row 90 [.agg [.int .i64 (n : Int), .sl .nil [], .sl .nil [], .sl .nil [], .sl .nil []]])).new .res).new .res).set (s.nxt + 1) (some (.row 4 (List.replicate n (.bool false))))).set (s.nxt + 2) (some (.row 31 (List.replicate n (.int .u16 0))))).set s.nxt (some (.row 90 [.agg [.int .i64 (n : Int), .own (s.nxt + 1) 0 n, .sl .nil [], .own (s.nxt + 2) 0 n, .sl .nil []]]))) else (((((((((((s.new (.row 90 [.agg [.int .i64 (n : Int), .sl .nil [], .sl .nil [], .sl .nil [], .sl .nil []]])).new .res).new .res).set (s.nxt + 1) (some (.row 4 (List.replicate n (.bool false))))).set (s.nxt + 2) (some (.row 31 (List.replicate n (.int .u16 0))))).set s.nxt (some (.row 90 [.agg [.int .i64 (n : Int), .own (s.nxt + 1) 0 n, .sl .nil [], .own (s.nxt + 2) 0 n, .sl .nil []]]))).new .res).new .res).set (s.nxt + 3) (some (.row 4 (List.replicate n (.bool false))))).set (s.nxt + 4) (some (.row 31 (List.replicate n (.int .u16 0))))).set s.nxt (some (.row 90 [.agg [.int .i64 (n : Int), .own (s.nxt + 1) 0 n, .own (s.nxt + 3) 0 n, .own (s.nxt + 2) 0 n, .own (s.nxt + 4) 0 n]]))))) (fun e s' => 2 - ivar e 8) ?_ ?_
 · exact ⟨0, Y15, rfl, rfl⟩
 rintro e s' ⟨i, hi, rfl, hs⟩
 subst hs
 obtain rfl | rfl | rfl : i = 0 ∨ i = 1 ∨ i = 2 := Y14
 · refine rs (k := rg [0, 3, 8, 9] (k := rs (k := rc (ht := fun hc0 => ?_) (hf := fun hc0 => ?_))))
   · refine rk (k := rs (k := rb (k := rs (k := rg [0, 3, 4, 8] (k := ?_)))))
     refine Run.reserve (Run.reserve ?_)
     refine Run.drawH 16 [5, 7, 11, 15] [[false, false, false, false], [true, false, false, false], [false, true, false, false], [true, true, false, false], [true, false, true, false], [true, true, true, false], [true, true, true, true]] [(((s.new (.row 90 [.agg [.int .i64 (n : Int), .sl .nil [], .sl .nil [], .sl .nil [], .sl .nil []]])).new .res).new .res), ((((s.new (.row 90 [.agg [.int .i64 (n : Int), .sl .nil [], .sl .nil [], .sl .nil [], .sl .nil []]])).new .res).new .res).set (s.nxt + 1) (some (.row 4 (List.replicate n (.bool false))))), ((((s.new (.row 90 [.agg [.int .i64 (n : Int), .sl .nil [], .sl .nil [], .sl .nil [], .sl .nil []]])).new .res).new .res).set (s.nxt + 2) (some (.row 31 (List.replicate n (.int .u16 0))))), (((((s.new (.row 90 [.agg [.int .i64 (n : Int), .sl .nil [], .sl .nil [], .sl .nil [], .sl .nil []]])).new .res).new .res).set (s.nxt + 1) (some (.row 4 (List.replicate n (.bool false))))).set (s.nxt + 2) (some (.row 31 (List.replicate n (.int .u16 0))))), (((((s.new (.row 90 [.agg [.int .i64 (n : Int), .sl .nil [], .sl .nil [], .sl .nil [], .sl .nil []]])).new .res).new .res).set (s.nxt + 1) (some (.row 4 (List.replicate n (.bool false))))).set s.nxt (some (.row 90 [.agg [.int .i64 (n : Int), .own (s.nxt + 1) 0 n, .sl .nil [], .sl .nil [], .sl .nil []]]))), ((((((s.new (.row 90 [.agg [.int .i64 (n : Int), .sl .nil [], .sl .nil [], .sl .nil [], .sl .nil []]])).new .res).new .res).set (s.nxt + 1) (some (.row 4 (List.replicate n (.bool false))))).set (s.nxt + 2) (some (.row 31 (List.replicate n (.int .u16 0))))).set s.nxt (some (.row 90 [.agg [.int .i64 (n : Int), .own (s.nxt + 1) 0 n, .sl .nil [], .sl .nil [], .sl .nil []]]))), ((((((s.new (.row 90 [.agg [.int .i64 (n : Int), .sl .nil [], .sl .nil [], .sl .nil [], .sl .nil []]])).new .res).new .res).set (s.nxt + 1) (some (.row 4 (List.replicate n (.bool false))))).set (s.nxt + 2) (some (.row 31 (List.replicate n (.int .u16 0))))).set s.nxt (some (.row 90 [.agg [.int .i64 (n : Int), .own (s.nxt + 1) 0 n, .sl .nil [], .own (s.nxt + 2) 0 n, .sl .nil []]])))] (((((((s.new (.row 90 [.agg [.int .i64 (n : Int), .sl .nil [], .sl .nil [], .sl .nil [], .sl .nil []]])).new .res).new .res).set (s.nxt + 1) (some (.row 4 (List.replicate n (.bool false))))).set (s.nxt + 2) (some (.row 31 (List.replicate n (.int .u16 0))))).set s.nxt (some (.row 90 [.agg [.int .i64 (n : Int), .own (s.nxt + 1) 0 n, .sl .nil [], .own (s.nxt + 2) 0 n, .sl .nil []]])))) Tryz.mixed Y18 Y18 Y18 Y18 Y18 rfl Y18 rfl ?_
     refine DetHC.pre (pre := [_, _, _, _, _]) (s1 := (((s.new (.row 90 [.agg [.int .i64 (n : Int), .sl .nil [], .sl .nil [], .sl .nil [], .sl .nil []]])).new .res).new .res)) [0, 1, 2, 3, 4, 5] [(((s.new (.row 90 [.agg [.int .i64 (n : Int), .sl .nil [], .sl .nil [], .sl .nil [], .sl .nil []]])).new .res).new .res), ((((s.new (.row 90 [.agg [.int .i64 (n : Int), .sl .nil [], .sl .nil [], .sl .nil [], .sl .nil []]])).new .res).new .res).set (s.nxt + 1) (some (.row 4 (List.replicate n (.bool false))))), ((((s.new (.row 90 [.agg [.int .i64 (n : Int), .sl .nil [], .sl .nil [], .sl .nil [], .sl .nil []]])).new .res).new .res).set (s.nxt + 2) (some (.row 31 (List.replicate n (.int .u16 0))))), (((((s.new (.row 90 [.agg [.int .i64 (n : Int), .sl .nil [], .sl .nil [], .sl .nil [], .sl .nil []]])).new .res).new .res).set (s.nxt + 1) (some (.row 4 (List.replicate n (.bool false))))).set (s.nxt + 2) (some (.row 31 (List.replicate n (.int .u16 0))))), (((((s.new (.row 90 [.agg [.int .i64 (n : Int), .sl .nil [], .sl .nil [], .sl .nil [], .sl .nil []]])).new .res).new .res).set (s.nxt + 1) (some (.row 4 (List.replicate n (.bool false))))).set s.nxt (some (.row 90 [.agg [.int .i64 (n : Int), .own (s.nxt + 1) 0 n, .sl .nil [], .sl .nil [], .sl .nil []]]))), ((((((s.new (.row 90 [.agg [.int .i64 (n : Int), .sl .nil [], .sl .nil [], .sl .nil [], .sl .nil []]])).new .res).new .res).set (s.nxt + 1) (some (.row 4 (List.replicate n (.bool false))))).set (s.nxt + 2) (some (.row 31 (List.replicate n (.int .u16 0))))).set s.nxt (some (.row 90 [.agg [.int .i64 (n : Int), .own (s.nxt + 1) 0 n, .sl .nil [], .sl .nil [], .sl .nil []]])))] Y18 rfl au ?_
     refine DetHC.resMake (s.nxt + 1) n [(0, 1), (2, 3)] [((((s.new (.row 90 [.agg [.int .i64 (n : Int), .sl .nil [], .sl .nil [], .sl .nil [], .sl .nil []]])).new .res).new .res), ((((s.new (.row 90 [.agg [.int .i64 (n : Int), .sl .nil [], .sl .nil [], .sl .nil [], .sl .nil []]])).new .res).new .res).set (s.nxt + 1) (some (.row 4 (List.replicate n (.bool false)))))), (((((s.new (.row 90 [.agg [.int .i64 (n : Int), .sl .nil [], .sl .nil [], .sl .nil [], .sl .nil []]])).new .res).new .res).set (s.nxt + 2) (some (.row 31 (List.replicate n (.int .u16 0))))), (((((s.new (.row 90 [.agg [.int .i64 (n : Int), .sl .nil [], .sl .nil [], .sl .nil [], .sl .nil []]])).new .res).new .res).set (s.nxt + 1) (some (.row 4 (List.replicate n (.bool false))))).set (s.nxt + 2) (some (.row 31 (List.replicate n (.int .u16 0))))))] Y18 rfl au au au Tryz.td29 Y345 Y14 Y254 Y29 ?_
     refine DetHC.pre (pre := [_]) (s1 := (((s.new (.row 90 [.agg [.int .i64 (n : Int), .sl .nil [], .sl .nil [], .sl .nil [], .sl .nil []]])).new .res).new .res)) [0, 1, 4] [(((s.new (.row 90 [.agg [.int .i64 (n : Int), .sl .nil [], .sl .nil [], .sl .nil [], .sl .nil []]])).new .res).new .res), ((((s.new (.row 90 [.agg [.int .i64 (n : Int), .sl .nil [], .sl .nil [], .sl .nil [], .sl .nil []]])).new .res).new .res).set (s.nxt + 1) (some (.row 4 (List.replicate n (.bool false))))), (((((s.new (.row 90 [.agg [.int .i64 (n : Int), .sl .nil [], .sl .nil [], .sl .nil [], .sl .nil []]])).new .res).new .res).set (s.nxt + 1) (some (.row 4 (List.replicate n (.bool false))))).set s.nxt (some (.row 90 [.agg [.int .i64 (n : Int), .own (s.nxt + 1) 0 n, .sl .nil [], .sl .nil [], .sl .nil []]])))] Y18 rfl au ?_
     refine DetHC.resMake (s.nxt + 2) n [(0, 2), (1, 3), (4, 5)] [((((s.new (.row 90 [.agg [.int .i64 (n : Int), .sl .nil [], .sl .nil [], .sl .nil [], .sl .nil []]])).new .res).new .res), ((((s.new (.row 90 [.agg [.int .i64 (n : Int), .sl .nil [], .sl .nil [], .sl .nil [], .sl .nil []]])).new .res).new .res).set (s.nxt + 2) (some (.row 31 (List.replicate n (.int .u16 0)))))), (((((s.new (.row 90 [.agg [.int .i64 (n : Int), .sl .nil [], .sl .nil [], .sl .nil [], .sl .nil []]])).new .res).new .res).set (s.nxt + 1) (some (.row 4 (List.replicate n (.bool false))))), (((((s.new (.row 90 [.agg [.int .i64 (n : Int), .sl .nil [], .sl .nil [], .sl .nil [], .sl .nil []]])).new .res).new .res).set (s.nxt + 1) (some (.row 4 (List.replicate n (.bool false))))).set (s.nxt + 2) (some (.row 31 (List.replicate n (.int .u16 0)))))), ((((((s.new (.row 90 [.agg [.int .i64 (n : Int), .sl .nil [], .sl .nil [], .sl .nil [], .sl .nil []]])).new .res).new .res).set (s.nxt + 1) (some (.row 4 (List.replicate n (.bool false))))).set s.nxt (some (.row 90 [.agg [.int .i64 (n : Int), .own (s.nxt + 1) 0 n, .sl .nil [], .sl .nil [], .sl .nil []]]))), ((((((s.new (.row 90 [.agg [.int .i64 (n : Int), .sl .nil [], .sl .nil [], .sl .nil [], .sl .nil []]])).new .res).new .res).set (s.nxt + 1) (some (.row 4 (List.replicate n (.bool false))))).set (s.nxt + 2) (some (.row 31 (List.replicate n (.int .u16 0))))).set s.nxt (some (.row 90 [.agg [.int .i64 (n : Int), .own (s.nxt + 1) 0 n, .sl .nil [], .sl .nil [], .sl .nil []]]))))] Y18 rfl au au au Tryz.td30 Y253 Y14 Y192 Y30 ?_
     refine DetHC.pre (pre := [_, _, _]) (s1 := (((s.new (.row 90 [.agg [.int .i64 (n : Int), .sl .nil [], .sl .nil [], .sl .nil [], .sl .nil []]])).new .res).new .res)) [0, 1, 2, 3] [(((s.new (.row 90 [.agg [.int .i64 (n : Int), .sl .nil [], .sl .nil [], .sl .nil [], .sl .nil []]])).new .res).new .res), ((((s.new (.row 90 [.agg [.int .i64 (n : Int), .sl .nil [], .sl .nil [], .sl .nil [], .sl .nil []]])).new .res).new .res).set (s.nxt + 1) (some (.row 4 (List.replicate n (.bool false))))), ((((s.new (.row 90 [.agg [.int .i64 (n : Int), .sl .nil [], .sl .nil [], .sl .nil [], .sl .nil []]])).new .res).new .res).set (s.nxt + 2) (some (.row 31 (List.replicate n (.int .u16 0))))), (((((s.new (.row 90 [.agg [.int .i64 (n : Int), .sl .nil [], .sl .nil [], .sl .nil [], .sl .nil []]])).new .res).new .res).set (s.nxt + 1) (some (.row 4 (List.replicate n (.bool false))))).set (s.nxt + 2) (some (.row 31 (List.replicate n (.int .u16 0)))))] Y18 rfl au ?_
     refine DetHC.eff [(1, 4), (3, 5)] (((((s.new (.row 90 [.agg [.int .i64 (n : Int), .sl .nil [], .sl .nil [], .sl .nil [], .sl .nil []]])).new .res).new .res).set (s.nxt + 1) (some (.row 4 (List.replicate n (.bool false)))))) ((((((s.new (.row 90 [.agg [.int .i64 (n : Int), .sl .nil [], .sl .nil [], .sl .nil [], .sl .nil []]])).new .res).new .res).set (s.nxt + 1) (some (.row 4 (List.replicate n (.bool false))))).set s.nxt (some (.row 90 [.agg [.int .i64 (n : Int), .own (s.nxt + 1) 0 n, .sl .nil [], .sl .nil [], .sl .nil []]])))) [((((((s.new (.row 90 [.agg [.int .i64 (n : Int), .sl .nil [], .sl .nil [], .sl .nil [], .sl .nil []]])).new .res).new .res).set (s.nxt + 1) (some (.row 4 (List.replicate n (.bool false))))).set (s.nxt + 2) (some (.row 31 (List.replicate n (.int .u16 0))))), ((((((s.new (.row 90 [.agg [.int .i64 (n : Int), .sl .nil [], .sl .nil [], .sl .nil [], .sl .nil []]])).new .res).new .res).set (s.nxt + 1) (some (.row 4 (List.replicate n (.bool false))))).set (s.nxt + 2) (some (.row 31 (List.replicate n (.int .u16 0))))).set s.nxt (some (.row 90 [.agg [.int .i64 (n : Int), .own (s.nxt + 1) 0 n, .sl .nil [], .sl .nil [], .sl .nil []]]))))] Y18 rfl au au au ?_
     refine DetHC.pre (pre := [_, _, _]) (s1 := (((s.new (.row 90 [.agg [.int .i64 (n : Int), .sl .nil [], .sl .nil [], .sl .nil [], .sl .nil []]])).new .res).new .res)) [0, 1, 2, 3, 4, 5] [(((s.new (.row 90 [.agg [.int .i64 (n : Int), .sl .nil [], .sl .nil [], .sl .nil [], .sl .nil []]])).new .res).new .res), ((((s.new (.row 90 [.agg [.int .i64 (n : Int), .sl .nil [], .sl .nil [], .sl .nil [], .sl .nil []]])).new .res).new .res).set (s.nxt + 1) (some (.row 4 (List.replicate n (.bool false))))), ((((s.new (.row 90 [.agg [.int .i64 (n : Int), .sl .nil [], .sl .nil [], .sl .nil [], .sl .nil []]])).new .res).new .res).set (s.nxt + 2) (some (.row 31 (List.replicate n (.int .u16 0))))), (((((s.new (.row 90 [.agg [.int .i64 (n : Int), .sl .nil [], .sl .nil [], .sl .nil [], .sl .nil []]])).new .res).new .res).set (s.nxt + 1) (some (.row 4 (List.replicate n (.bool false))))).set (s.nxt + 2) (some (.row 31 (List.replicate n (.int .u16 0))))), (((((s.new (.row 90 [.agg [.int .i64 (n : Int), .sl .nil [], .sl .nil [], .sl .nil [], .sl .nil []]])).new .res).new .res).set (s.nxt + 1) (some (.row 4 (List.replicate n (.bool false))))).set s.nxt (some (.row 90 [.agg [.int .i64 (n : Int), .own (s.nxt + 1) 0 n, .sl .nil [], .sl .nil [], .sl .nil []]]))), ((((((s.new (.row 90 [.agg [.int .i64 (n : Int), .sl .nil [], .sl .nil [], .sl .nil [], .sl .nil []]])).new .res).new .res).set (s.nxt + 1) (some (.row 4 (List.replicate n (.bool false))))).set (s.nxt + 2) (some (.row 31 (List.replicate n (.int .u16 0))))).set s.nxt (some (.row 90 [.agg [.int .i64 (n : Int), .own (s.nxt + 1) 0 n, .sl .nil [], .sl .nil [], .sl .nil []]])))] Y18 rfl au ?_
     refine DetHC.eff [(5, 6)] (((((((s.new (.row 90 [.agg [.int .i64 (n : Int), .sl .nil [], .sl .nil [], .sl .nil [], .sl .nil []]])).new .res).new .res).set (s.nxt + 1) (some (.row 4 (List.replicate n (.bool false))))).set (s.nxt + 2) (some (.row 31 (List.replicate n (.int .u16 0))))).set s.nxt (some (.row 90 [.agg [.int .i64 (n : Int), .own (s.nxt + 1) 0 n, .sl .nil [], .sl .nil [], .sl .nil []]])))) (((((((s.new (.row 90 [.agg [.int .i64 (n : Int), .sl .nil [], .sl .nil [], .sl .nil [], .sl .nil []]])).new .res).new .res).set (s.nxt + 1) (some (.row 4 (List.replicate n (.bool false))))).set (s.nxt + 2) (some (.row 31 (List.replicate n (.int .u16 0))))).set s.nxt (some (.row 90 [.agg [.int .i64 (n : Int), .own (s.nxt + 1) 0 n, .sl .nil [], .own (s.nxt + 2) 0 n, .sl .nil []]])))) [] Y18 rfl au au au ?_
     refine DetHC.nil ?_
     refine rl [0, 3, 8] (k := rB (k := rg [0, 3, 8] (k := ?_)))
     refine Run.lp ⟨⟨1, Y15, by rfl, by rfl⟩, ?_⟩
     simp only [ivar, go_sem, ↓reduceIte, Nat.reduceEqDiff]
     decide
   · cases hc0
 · refine rs (k := rg [0, 3, 8, 9] (k := rs (k := rc (ht := fun hc0 => ?_) (hf := fun hc0 => ?_))))
   · refine rk (k := rs (k := rb (k := rs (k := rg [0, 3, 4, 8] (k := ?_)))))
     refine Run.reserve (Run.reserve ?_)
     refine Run.drawH 16 [5, 7, 11, 15] [[false, false, false, false], [true, false, false, false], [false, true, false, false], [true, true, false, false], [true, false, true, false], [true, true, true, false], [true, true, true, true]] [((((((((s.new (.row 90 [.agg [.int .i64 (n : Int), .sl .nil [], .sl .nil [], .sl .nil [], .sl .nil []]])).new .res).new .res).set (s.nxt + 1) (some (.row 4 (List.replicate n (.bool false))))).set (s.nxt + 2) (some (.row 31 (List.replicate n (.int .u16 0))))).set s.nxt (some (.row 90 [.agg [.int .i64 (n : Int), .own (s.nxt + 1) 0 n, .sl .nil [], .own (s.nxt + 2) 0 n, .sl .nil []]]))).new .res).new .res), (((((((((s.new (.row 90 [.agg [.int .i64 (n : Int), .sl .nil [], .sl .nil [], .sl .nil [], .sl .nil []]])).new .res).new .res).set (s.nxt + 1) (some (.row 4 (List.replicate n (.bool false))))).set (s.nxt + 2) (some (.row 31 (List.replicate n (.int .u16 0))))).set s.nxt (some (.row 90 [.agg [.int .i64 (n : Int), .own (s.nxt + 1) 0 n, .sl .nil [], .own (s.nxt + 2) 0 n, .sl .nil []]]))).new .res).new .res).set (s.nxt + 3) (some (.row 4 (List.replicate n (.bool false))))), (((((((((s.new (.row 90 [.agg [.int .i64 (n : Int), .sl .nil [], .sl .nil [], .sl .nil [], .sl .nil []]])).new .res).new .res).set (s.nxt + 1) (some (.row 4 (List.replicate n (.bool false))))).set (s.nxt + 2) (some (.row 31 (List.replicate n (.int .u16 0))))).set s.nxt (some (.row 90 [.agg [.int .i64 (n : Int), .own (s.nxt + 1) 0 n, .sl .nil [], .own (s.nxt + 2) 0 n, .sl .nil []]]))).new .res).new .res).set (s.nxt + 4) (some (.row 31 (List.replicate n (.int .u16 0))))), ((((((((((s.new (.row 90 [.agg [.int .i64 (n : Int), .sl .nil [], .sl .nil [], .sl .nil [], .sl .nil []]])).new .res).new .res).set (s.nxt + 1) (some (.row 4 (List.replicate n (.bool false))))).set (s.nxt + 2) (some (.row 31 (List.replicate n (.int .u16 0))))).set s.nxt (some (.row 90 [.agg [.int .i64 (n : Int), .own (s.nxt + 1) 0 n, .sl .nil [], .own (s.nxt + 2) 0 n, .sl .nil []]]))).new .res).new .res).set (s.nxt + 3) (some (.row 4 (List.replicate n (.bool false))))).set (s.nxt + 4) (some (.row 31 (List.replicate n (.int .u16 0))))), ((((((((((s.new (.row 90 [.agg [.int .i64 (n : Int), .sl .nil [], .sl .nil [], .sl .nil [], .sl .nil []]])).new .res).new .res).set (s.nxt + 1) (some (.row 4 (List.replicate n (.bool false))))).set (s.nxt + 2) (some (.row 31 (List.replicate n (.int .u16 0))))).set s.nxt (some (.row 90 [.agg [.int .i64 (n : Int), .own (s.nxt + 1) 0 n, .sl .nil [], .own (s.nxt + 2) 0 n, .sl .nil []]]))).new .res).new .res).set (s.nxt + 3) (some (.row 4 (List.replicate n (.bool false))))).set s.nxt (some (.row 90 [.agg [.int .i64 (n : Int), .own (s.nxt + 1) 0 n, .own (s.nxt + 3) 0 n, .own (s.nxt + 2) 0 n, .sl .nil []]]))), (((((((((((s.new (.row 90 [.agg [.int .i64 (n : Int), .sl .nil [], .sl .nil [], .sl .nil [], .sl .nil []]])).new .res).new .res).set (s.nxt + 1) (some (.row 4 (List.replicate n (.bool false))))).set (s.nxt + 2) (some (.row 31 (List.replicate n (.int .u16 0))))).set s.nxt (some (.row 90 [.agg [.int .i64 (n : Int), .own (s.nxt + 1) 0 n, .sl .nil [], .own (s.nxt + 2) 0 n, .sl .nil []]]))).new .res).new .res).set (s.nxt + 3) (some (.row 4 (List.replicate n (.bool false))))).set (s.nxt + 4) (some (.row 31 (List.replicate n (.int .u16 0))))).set s.nxt (some (.row 90 [.agg [.int .i64 (n : Int), .own (s.nxt + 1) 0 n, .own (s.nxt + 3) 0 n, .own (s.nxt + 2) 0 n, .sl .nil []]]))), (((((((((((s.new (.row 90 [.agg [.int .i64 (n : Int), .sl .nil [], .sl .nil [], .sl .nil [], .sl .nil []]])).new .res).new .res).set (s.nxt + 1) (some (.row 4 (List.replicate n (.bool false))))).set (s.nxt + 2) (some (.row 31 (List.replicate n (.int .u16 0))))).set s.nxt (some (.row 90 [.agg [.int .i64 (n : Int), .own (s.nxt + 1) 0 n, .sl .nil [], .own (s.nxt + 2) 0 n, .sl .nil []]]))).new .res).new .res).set (s.nxt + 3) (some (.row 4 (List.replicate n (.bool false))))).set (s.nxt + 4) (some (.row 31 (List.replicate n (.int .u16 0))))).set s.nxt (some (.row 90 [.agg [.int .i64 (n : Int), .own (s.nxt + 1) 0 n, .own (s.nxt + 3) 0 n, .own (s.nxt + 2) 0 n, .own (s.nxt + 4) 0 n]])))] ((((((((((((s.new (.row 90 [.agg [.int .i64 (n : Int), .sl .nil [], .sl .nil [], .sl .nil [], .sl .nil []]])).new .res).new .res).set (s.nxt + 1) (some (.row 4 (List.replicate n (.bool false))))).set (s.nxt + 2) (some (.row 31 (List.replicate n (.int .u16 0))))).set s.nxt (some (.row 90 [.agg [.int .i64 (n : Int), .own (s.nxt + 1) 0 n, .sl .nil [], .own (s.nxt + 2) 0 n, .sl .nil []]]))).new .res).new .res).set (s.nxt + 3) (some (.row 4 (List.replicate n (.bool false))))).set (s.nxt + 4) (some (.row 31 (List.replicate n (.int .u16 0))))).set s.nxt (some (.row 90 [.agg [.int .i64 (n : Int), .own (s.nxt + 1) 0 n, .own (s.nxt + 3) 0 n, .own (s.nxt + 2) 0 n, .own (s.nxt + 4) 0 n]])))) Tryz.mixed Y18 Y18 Y18 Y18 Y18 rfl Y18 rfl ?_
     refine DetHC.pre (pre := [_, _, _, _, _]) (s1 := ((((((((s.new (.row 90 [.agg [.int .i64 (n : Int), .sl .nil [], .sl .nil [], .sl .nil [], .sl .nil []]])).new .res).new .res).set (s.nxt + 1) (some (.row 4 (List.replicate n (.bool false))))).set (s.nxt + 2) (some (.row 31 (List.replicate n (.int .u16 0))))).set s.nxt (some (.row 90 [.agg [.int .i64 (n : Int), .own (s.nxt + 1) 0 n, .sl .nil [], .own (s.nxt + 2) 0 n, .sl .nil []]]))).new .res).new .res)) [0, 1, 2, 3, 4, 5] [((((((((s.new (.row 90 [.agg [.int .i64 (n : Int), .sl .nil [], .sl .nil [], .sl .nil [], .sl .nil []]])).new .res).new .res).set (s.nxt + 1) (some (.row 4 (List.replicate n (.bool false))))).set (s.nxt + 2) (some (.row 31 (List.replicate n (.int .u16 0))))).set s.nxt (some (.row 90 [.agg [.int .i64 (n : Int), .own (s.nxt + 1) 0 n, .sl .nil [], .own (s.nxt + 2) 0 n, .sl .nil []]]))).new .res).new .res), (((((((((s.new (.row 90 [.agg [.int .i64 (n : Int), .sl .nil [], .sl .nil [], .sl .nil [], .sl .nil []]])).new .res).new .res).set (s.nxt + 1) (some (.row 4 (List.replicate n (.bool false))))).set (s.nxt + 2) (some (.row 31 (List.replicate n (.int .u16 0))))).set s.nxt (some (.row 90 [.agg [.int .i64 (n : Int), .own (s.nxt + 1) 0 n, .sl .nil [], .own (s.nxt + 2) 0 n, .sl .nil []]]))).new .res).new .res).set (s.nxt + 3) (some (.row 4 (List.replicate n (.bool false))))), (((((((((s.new (.row 90 [.agg [.int .i64 (n : Int), .sl .nil [], .sl .nil [], .sl .nil [], .sl .nil []]])).new .res).new .res).set (s.nxt + 1) (some (.row 4 (List.replicate n (.bool false))))).set (s.nxt + 2) (some (.row 31 (List.replicate n (.int .u16 0))))).set s.nxt (some (.row 90 [.agg [.int .i64 (n : Int), .own (s.nxt + 1) 0 n, .sl .nil [], .own (s.nxt + 2) 0 n, .sl .nil []]]))).new .res).new .res).set (s.nxt + 4) (some (.row 31 (List.replicate n (.int .u16 0))))), ((((((((((s.new (.row 90 [.agg [.int .i64 (n : Int), .sl .nil [], .sl .nil [], .sl .nil [], .sl .nil []]])).new .res).new .res).set (s.nxt + 1) (some (.row 4 (List.replicate n (.bool false))))).set (s.nxt + 2) (some (.row 31 (List.replicate n (.int .u16 0))))).set s.nxt (some (.row 90 [.agg [.int .i64 (n : Int), .own (s.nxt + 1) 0 n, .sl .nil [], .own (s.nxt + 2) 0 n, .sl .nil []]]))).new .res).new .res).set (s.nxt + 3) (some (.row 4 (List.replicate n (.bool false))))).set (s.nxt + 4) (some (.row 31 (List.replicate n (.int .u16 0))))), ((((((((((s.new (.row 90 [.agg [.int .i64 (n : Int), .sl .nil [], .sl .nil [], .sl .nil [], .sl .nil []]])).new .res).new .res).set (s.nxt + 1) (some (.row 4 (List.replicate n (.bool false))))).set (s.nxt + 2) (some (.row 31 (List.replicate n (.int .u16 0))))).set s.nxt (some (.row 90 [.agg [.int .i64 (n : Int), .own (s.nxt + 1) 0 n, .sl .nil [], .own (s.nxt + 2) 0 n, .sl .nil []]]))).new .res).new .res).set (s.nxt + 3) (some (.row 4 (List.replicate n (.bool false))))).set s.nxt (some (.row 90 [.agg [.int .i64 (n : Int), .own (s.nxt + 1) 0 n, .own (s.nxt + 3) 0 n, .own (s.nxt + 2) 0 n, .sl .nil []]]))), (((((((((((s.new (.row 90 [.agg [.int .i64 (n : Int), .sl .nil [], .sl .nil [], .sl .nil [], .sl .nil []]])).new .res).new .res).set (s.nxt + 1) (some (.row 4 (List.replicate n (.bool false))))).set (s.nxt + 2) (some (.row 31 (List.replicate n (.int .u16 0))))).set s.nxt (some (.row 90 [.agg [.int .i64 (n : Int), .own (s.nxt + 1) 0 n, .sl .nil [], .own (s.nxt + 2) 0 n, .sl .nil []]]))).new .res).new .res).set (s.nxt + 3) (some (.row 4 (List.replicate n (.bool false))))).set (s.nxt + 4) (some (.row 31 (List.replicate n (.int .u16 0))))).set s.nxt (some (.row 90 [.agg [.int .i64 (n : Int), .own (s.nxt + 1) 0 n, .own (s.nxt + 3) 0 n, .own (s.nxt + 2) 0 n, .sl .nil []]])))] Y18 rfl au ?_
     refine DetHC.resMake (s.nxt + 3) n [(0, 1), (2, 3)] [(((((((((s.new (.row 90 [.agg [.int .i64 (n : Int), .sl .nil [], .sl .nil [], .sl .nil [], .sl .nil []]])).new .res).new .res).set (s.nxt + 1) (some (.row 4 (List.replicate n (.bool false))))).set (s.nxt + 2) (some (.row 31 (List.replicate n (.int .u16 0))))).set s.nxt (some (.row 90 [.agg [.int .i64 (n : Int), .own (s.nxt + 1) 0 n, .sl .nil [], .own (s.nxt + 2) 0 n, .sl .nil []]]))).new .res).new .res), (((((((((s.new (.row 90 [.agg [.int .i64 (n : Int), .sl .nil [], .sl .nil [], .sl .nil [], .sl .nil []]])).new .res).new .res).set (s.nxt + 1) (some (.row 4 (List.replicate n (.bool false))))).set (s.nxt + 2) (some (.row 31 (List.replicate n (.int .u16 0))))).set s.nxt (some (.row 90 [.agg [.int .i64 (n : Int), .own (s.nxt + 1) 0 n, .sl .nil [], .own (s.nxt + 2) 0 n, .sl .nil []]]))).new .res).new .res).set (s.nxt + 3) (some (.row 4 (List.replicate n (.bool false)))))), ((((((((((s.new (.row 90 [.agg [.int .i64 (n : Int), .sl .nil [], .sl .nil [], .sl .nil [], .sl .nil []]])).new .res).new .res).set (s.nxt + 1) (some (.row 4 (List.replicate n (.bool false))))).set (s.nxt + 2) (some (.row 31 (List.replicate n (.int .u16 0))))).set s.nxt (some (.row 90 [.agg [.int .i64 (n : Int), .own (s.nxt + 1) 0 n, .sl .nil [], .own (s.nxt + 2) 0 n, .sl .nil []]]))).new .res).new .res).set (s.nxt + 4) (some (.row 31 (List.replicate n (.int .u16 0))))), ((((((((((s.new (.row 90 [.agg [.int .i64 (n : Int), .sl .nil [], .sl .nil [], .sl .nil [], .sl .nil []]])).new .res).new .res).set (s.nxt + 1) (some (.row 4 (List.replicate n (.bool false))))).set (s.nxt + 2) (some (.row 31 (List.replicate n (.int .u16 0))))).set s.nxt (some (.row 90 [.agg [.int .i64 (n : Int), .own (s.nxt + 1) 0 n, .sl .nil [], .own (s.nxt + 2) 0 n, .sl .nil []]]))).new .res).new .res).set (s.nxt + 3) (some (.row 4 (List.replicate n (.bool false))))).set (s.nxt + 4) (some (.row 31 (List.replicate n (.int .u16 0))))))] Y18 rfl au au au Tryz.td29 Y345 Y14 Y254 Y29 ?_
     refine DetHC.pre (pre := [_]) (s1 := ((((((((s.new (.row 90 [.agg [.int .i64 (n : Int), .sl .nil [], .sl .nil [], .sl .nil [], .sl .nil []]])).new .res).new .res).set (s.nxt + 1) (some (.row 4 (List.replicate n (.bool false))))).set (s.nxt + 2) (some (.row 31 (List.replicate n (.int .u16 0))))).set s.nxt (some (.row 90 [.agg [.int .i64 (n : Int), .own (s.nxt + 1) 0 n, .sl .nil [], .own (s.nxt + 2) 0 n, .sl .nil []]]))).new .res).new .res)) [0, 1, 4] [((((((((s.new (.row 90 [.agg [.int .i64 (n : Int), .sl .nil [], .sl .nil [], .sl .nil [], .sl .nil []]])).new .res).new .res).set (s.nxt + 1) (some (.row 4 (List.replicate n (.bool false))))).set (s.nxt + 2) (some (.row 31 (List.replicate n (.int .u16 0))))).set s.nxt (some (.row 90 [.agg [.int .i64 (n : Int), .own (s.nxt + 1) 0 n, .sl .nil [], .own (s.nxt + 2) 0 n, .sl .nil []]]))).new .res).new .res), (((((((((s.new (.row 90 [.agg [.int .i64 (n : Int), .sl .nil [], .sl .nil [], .sl .nil [], .sl .nil []]])).new .res).new .res).set (s.nxt + 1) (some (.row 4 (List.replicate n (.bool false))))).set (s.nxt + 2) (some (.row 31 (List.replicate n (.int .u16 0))))).set s.nxt (some (.row 90 [.agg [.int .i64 (n : Int), .own (s.nxt + 1) 0 n, .sl .nil [], .own (s.nxt + 2) 0 n, .sl .nil []]]))).new .res).new .res).set (s.nxt + 3) (some (.row 4 (List.replicate n (.bool false))))), ((((((((((s.new (.row 90 [.agg [.int .i64 (n : Int), .sl .nil [], .sl .nil [], .sl .nil [], .sl .nil []]])).new .res).new .res).set (s.nxt + 1) (some (.row 4 (List.replicate n (.bool false))))).set (s.nxt + 2) (some (.row 31 (List.replicate n (.int .u16 0))))).set s.nxt (some (.row 90 [.agg [.int .i64 (n : Int), .own (s.nxt + 1) 0 n, .sl .nil [], .own (s.nxt + 2) 0 n, .sl .nil []]]))).new .res).new .res).set (s.nxt + 3) (some (.row 4 (List.replicate n (.bool false))))).set s.nxt (some (.row 90 [.agg [.int .i64 (n : Int), .own (s.nxt + 1) 0 n, .own (s.nxt + 3) 0 n, .own (s.nxt + 2) 0 n, .sl .nil []]])))] Y18 rfl au ?_
     refine DetHC.resMake (s.nxt + 4) n [(0, 2), (1, 3), (4, 5)] [(((((((((s.new (.row 90 [.agg [.int .i64 (n : Int), .sl .nil [], .sl .nil [], .sl .nil [], .sl .nil []]])).new .res).new .res).set (s.nxt + 1) (some (.row 4 (List.replicate n (.bool false))))).set (s.nxt + 2) (some (.row 31 (List.replicate n (.int .u16 0))))).set s.nxt (some (.row 90 [.agg [.int .i64 (n : Int), .own (s.nxt + 1) 0 n, .sl .nil [], .own (s.nxt + 2) 0 n, .sl .nil []]]))).new .res).new .res), (((((((((s.new (.row 90 [.agg [.int .i64 (n : Int), .sl .nil [], .sl .nil [], .sl .nil [], .sl .nil []]])).new .res).new .res).set (s.nxt + 1) (some (.row 4 (List.replicate n (.bool false))))).set (s.nxt + 2) (some (.row 31 (List.replicate n (.int .u16 0))))).set s.nxt (some (.row 90 [.agg [.int .i64 (n : Int), .own (s.nxt + 1) 0 n, .sl .nil [], .own (s.nxt + 2) 0 n, .sl .nil []]]))).new .res).new .res).set (s.nxt + 4) (some (.row 31 (List.replicate n (.int .u16 0)))))), ((((((((((s.new (.row 90 [.agg [.int .i64 (n : Int), .sl .nil [], .sl .nil [], .sl .nil [], .sl .nil []]])).new .res).new .res).set (s.nxt + 1) (some (.row 4 (List.replicate n (.bool false))))).set (s.nxt + 2) (some (.row 31 (List.replicate n (.int .u16 0))))).set s.nxt (some (.row 90 [.agg [.int .i64 (n : Int), .own (s.nxt + 1) 0 n, .sl .nil [], .own (s.nxt + 2) 0 n, .sl .nil []]]))).new .res).new .res).set (s.nxt + 3) (some (.row 4 (List.replicate n (.bool false))))), ((((((((((s.new (.row 90 [.agg [.int .i64 (n : Int), .sl .nil [], .sl .nil [], .sl .nil [], .sl .nil []]])).new .res).new .res).set (s.nxt + 1) (some (.row 4 (List.replicate n (.bool false))))).set (s.nxt + 2) (some (.row 31 (List.replicate n (.int .u16 0))))).set s.nxt (some (.row 90 [.agg [.int .i64 (n : Int), .own (s.nxt + 1) 0 n, .sl .nil [], .own (s.nxt + 2) 0 n, .sl .nil []]]))).new .res).new .res).set (s.nxt + 3) (some (.row 4 (List.replicate n (.bool false))))).set (s.nxt + 4) (some (.row 31 (List.replicate n (.int .u16 0)))))), (((((((((((s.new (.row 90 [.agg [.int .i64 (n : Int), .sl .nil [], .sl .nil [], .sl .nil [], .sl .nil []]])).new .res).new .res).set (s.nxt + 1) (some (.row 4 (List.replicate n (.bool false))))).set (s.nxt + 2) (some (.row 31 (List.replicate n (.int .u16 0))))).set s.nxt (some (.row 90 [.agg [.int .i64 (n : Int), .own (s.nxt + 1) 0 n, .sl .nil [], .own (s.nxt + 2) 0 n, .sl .nil []]]))).new .res).new .res).set (s.nxt + 3) (some (.row 4 (List.replicate n (.bool false))))).set s.nxt (some (.row 90 [.agg [.int .i64 (n : Int), .own (s.nxt + 1) 0 n, .own (s.nxt + 3) 0 n, .own (s.nxt + 2) 0 n, .sl .nil []]]))), (((((((((((s.new (.row 90 [.agg [.int .i64 (n : Int), .sl .nil [], .sl .nil [], .sl .nil [], .sl .nil []]])).new .res).new .res).set (s.nxt + 1) (some (.row 4 (List.replicate n (.bool false))))).set (s.nxt + 2) (some (.row 31 (List.replicate n (.int .u16 0))))).set s.nxt (some (.row 90 [.agg [.int .i64 (n : Int), .own (s.nxt + 1) 0 n, .sl .nil [], .own (s.nxt + 2) 0 n, .sl .nil []]]))).new .res).new .res).set (s.nxt + 3) (some (.row 4 (List.replicate n (.bool false))))).set (s.nxt + 4) (some (.row 31 (List.replicate n (.int .u16 0))))).set s.nxt (some (.row 90 [.agg [.int .i64 (n : Int), .own (s.nxt + 1) 0 n, .own (s.nxt + 3) 0 n, .own (s.nxt + 2) 0 n, .sl .nil []]]))))] Y18 rfl au au au Tryz.td30 Y253 Y14 Y192 Y30 ?_
     refine DetHC.pre (pre := [_, _, _]) (s1 := ((((((((s.new (.row 90 [.agg [.int .i64 (n : Int), .sl .nil [], .sl .nil [], .sl .nil [], .sl .nil []]])).new .res).new .res).set (s.nxt + 1) (some (.row 4 (List.replicate n (.bool false))))).set (s.nxt + 2) (some (.row 31 (List.replicate n (.int .u16 0))))).set s.nxt (some (.row 90 [.agg [.int .i64 (n : Int), .own (s.nxt + 1) 0 n, .sl .nil [], .own (s.nxt + 2) 0 n, .sl .nil []]]))).new .res).new .res)) [0, 1, 2, 3] [((((((((s.new (.row 90 [.agg [.int .i64 (n : Int), .sl .nil [], .sl .nil [], .sl .nil [], .sl .nil []]])).new .res).new .res).set (s.nxt + 1) (some (.row 4 (List.replicate n (.bool false))))).set (s.nxt + 2) (some (.row 31 (List.replicate n (.int .u16 0))))).set s.nxt (some (.row 90 [.agg [.int .i64 (n : Int), .own (s.nxt + 1) 0 n, .sl .nil [], .own (s.nxt + 2) 0 n, .sl .nil []]]))).new .res).new .res), (((((((((s.new (.row 90 [.agg [.int .i64 (n : Int), .sl .nil [], .sl .nil [], .sl .nil [], .sl .nil []]])).new .res).new .res).set (s.nxt + 1) (some (.row 4 (List.replicate n (.bool false))))).set (s.nxt + 2) (some (.row 31 (List.replicate n (.int .u16 0))))).set s.nxt (some (.row 90 [.agg [.int .i64 (n : Int), .own (s.nxt + 1) 0 n, .sl .nil [], .own (s.nxt + 2) 0 n, .sl .nil []]]))).new .res).new .res).set (s.nxt + 3) (some (.row 4 (List.replicate n (.bool false))))), (((((((((s.new (.row 90 [.agg [.int .i64 (n : Int), .sl .nil [], .sl .nil [], .sl .nil [], .sl .nil []]])).new .res).new .res).set (s.nxt + 1) (some (.row 4 (List.replicate n (.bool false))))).set (s.nxt + 2) (some (.row 31 (List.replicate n (.int .u16 0))))).set s.nxt (some (.row 90 [.agg [.int .i64 (n : Int), .own (s.nxt + 1) 0 n, .sl .nil [], .own (s.nxt + 2) 0 n, .sl .nil []]]))).new .res).new .res).set (s.nxt + 4) (some (.row 31 (List.replicate n (.int .u16 0))))), ((((((((((s.new (.row 90 [.agg [.int .i64 (n : Int), .sl .nil [], .sl .nil [], .sl .nil [], .sl .nil []]])).new .res).new .res).set (s.nxt + 1) (some (.row 4 (List.replicate n (.bool false))))).set (s.nxt + 2) (some (.row 31 (List.replicate n (.int .u16 0))))).set s.nxt (some (.row 90 [.agg [.int .i64 (n : Int), .own (s.nxt + 1) 0 n, .sl .nil [], .own (s.nxt + 2) 0 n, .sl .nil []]]))).new .res).new .res).set (s.nxt + 3) (some (.row 4 (List.replicate n (.bool false))))).set (s.nxt + 4) (some (.row 31 (List.replicate n (.int .u16 0)))))] Y18 rfl au ?_
     refine DetHC.eff [(1, 4), (3, 5)] ((((((((((s.new (.row 90 [.agg [.int .i64 (n : Int), .sl .nil [], .sl .nil [], .sl .nil [], .sl .nil []]])).new .res).new .res).set (s.nxt + 1) (some (.row 4 (List.replicate n (.bool false))))).set (s.nxt + 2) (some (.row 31 (List.replicate n (.int .u16 0))))).set s.nxt (some (.row 90 [.agg [.int .i64 (n : Int), .own (s.nxt + 1) 0 n, .sl .nil [], .own (s.nxt + 2) 0 n, .sl .nil []]]))).new .res).new .res).set (s.nxt + 3) (some (.row 4 (List.replicate n (.bool false)))))) (((((((((((s.new (.row 90 [.agg [.int .i64 (n : Int), .sl .nil [], .sl .nil [], .sl .nil [], .sl .nil []]])).new .res).new .res).set (s.nxt + 1) (some (.row 4 (List.replicate n (.bool false))))).set (s.nxt + 2) (some (.row 31 (List.replicate n (.int .u16 0))))).set s.nxt (some (.row 90 [.agg [.int .i64 (n : Int), .own (s.nxt + 1) 0 n, .sl .nil [], .own (s.nxt + 2) 0 n, .sl .nil []]]))).new .res).new .res).set (s.nxt + 3) (some (.row 4 (List.replicate n (.bool false))))).set s.nxt (some (.row 90 [.agg [.int .i64 (n : Int), .own (s.nxt + 1) 0 n, .own (s.nxt + 3) 0 n, .own (s.nxt + 2) 0 n, .sl .nil []]])))) [(((((((((((s.new (.row 90 [.agg [.int .i64 (n : Int), .sl .nil [], .sl .nil [], .sl .nil [], .sl .nil []]])).new .res).new .res).set (s.nxt + 1) (some (.row 4 (List.replicate n (.bool false))))).set (s.nxt + 2) (some (.row 31 (List.replicate n (.int .u16 0))))).set s.nxt (some (.row 90 [.agg [.int .i64 (n : Int), .own (s.nxt + 1) 0 n, .sl .nil [], .own (s.nxt + 2) 0 n, .sl .nil []]]))).new .res).new .res).set (s.nxt + 3) (some (.row 4 (List.replicate n (.bool false))))).set (s.nxt + 4) (some (.row 31 (List.replicate n (.int .u16 0))))), (((((((((((s.new (.row 90 [.agg [.int .i64 (n : Int), .sl .nil [], .sl .nil [], .sl .nil [], .sl .nil []]])).new .res).new .res).set (s.nxt + 1) (some (.row 4 (List.replicate n (.bool false))))).set (s.nxt + 2) (some (.row 31 (List.replicate n (.int .u16 0))))).set s.nxt (some (.row 90 [.agg [.int .i64 (n : Int), .own (s.nxt + 1) 0 n, .sl .nil [], .own (s.nxt + 2) 0 n, .sl .nil []]]))).new .res).new .res).set (s.nxt + 3) (some (.row 4 (List.replicate n (.bool false))))).set (s.nxt + 4) (some (.row 31 (List.replicate n (.int .u16 0))))).set s.nxt (some (.row 90 [.agg [.int .i64 (n : Int), .own (s.nxt + 1) 0 n, .own (s.nxt + 3) 0 n, .own (s.nxt + 2) 0 n, .sl .nil []]]))))] Y18 rfl au au au ?_
     refine DetHC.pre (pre := [_, _, _]) (s1 := ((((((((s.new (.row 90 [.agg [.int .i64 (n : Int), .sl .nil [], .sl .nil [], .sl .nil [], .sl .nil []]])).new .res).new .res).set (s.nxt + 1) (some (.row 4 (List.replicate n (.bool false))))).set (s.nxt + 2) (some (.row 31 (List.replicate n (.int .u16 0))))).set s.nxt (some (.row 90 [.agg [.int .i64 (n : Int), .own (s.nxt + 1) 0 n, .sl .nil [], .own (s.nxt + 2) 0 n, .sl .nil []]]))).new .res).new .res)) [0, 1, 2, 3, 4, 5] [((((((((s.new (.row 90 [.agg [.int .i64 (n : Int), .sl .nil [], .sl .nil [], .sl .nil [], .sl .nil []]])).new .res).new .res).set (s.nxt + 1) (some (.row 4 (List.replicate n (.bool false))))).set (s.nxt + 2) (some (.row 31 (List.replicate n (.int .u16 0))))).set s.nxt (some (.row 90 [.agg [.int .i64 (n : Int), .own (s.nxt + 1) 0 n, .sl .nil [], .own (s.nxt + 2) 0 n, .sl .nil []]]))).new .res).new .res), (((((((((s.new (.row 90 [.agg [.int .i64 (n : Int), .sl .nil [], .sl .nil [], .sl .nil [], .sl .nil []]])).new .res).new .res).set (s.nxt + 1) (some (.row 4 (List.replicate n (.bool false))))).set (s.nxt + 2) (some (.row 31 (List.replicate n (.int .u16 0))))).set s.nxt (some (.row 90 [.agg [.int .i64 (n : Int), .own (s.nxt + 1) 0 n, .sl .nil [], .own (s.nxt + 2) 0 n, .sl .nil []]]))).new .res).new .res).set (s.nxt + 3) (some (.row 4 (List.replicate n (.bool false))))), (((((((((s.new (.row 90 [.agg [.int .i64 (n : Int), .sl .nil [], .sl .nil [], .sl .nil [], .sl .nil []]])).new .res).new .res).set (s.nxt + 1) (some (.row 4 (List.replicate n (.bool false))))).set (s.nxt + 2) (some (.row 31 (List.replicate n (.int .u16 0))))).set s.nxt (some (.row 90 [.agg [.int .i64 (n : Int), .own (s.nxt + 1) 0 n, .sl .nil [], .own (s.nxt + 2) 0 n, .sl .nil []]]))).new .res).new .res).set (s.nxt + 4) (some (.row 31 (List.replicate n (.int .u16 0))))), ((((((((((s.new (.row 90 [.agg [.int .i64 (n : Int), .sl .nil [], .sl .nil [], .sl .nil [], .sl .nil []]])).new .res).new .res).set (s.nxt + 1) (some (.row 4 (List.replicate n (.bool false))))).set (s.nxt + 2) (some (.row 31 (List.replicate n (.int .u16 0))))).set s.nxt (some (.row 90 [.agg [.int .i64 (n : Int), .own (s.nxt + 1) 0 n, .sl .nil [], .own (s.nxt + 2) 0 n, .sl .nil []]]))).new .res).new .res).set (s.nxt + 3) (some (.row 4 (List.replicate n (.bool false))))).set (s.nxt + 4) (some (.row 31 (List.replicate n (.int .u16 0))))), ((((((((((s.new (.row 90 [.agg [.int .i64 (n : Int), .sl .nil [], .sl .nil [], .sl .nil [], .sl .nil []]])).new .res).new .res).set (s.nxt + 1) (some (.row 4 (List.replicate n (.bool false))))).set (s.nxt + 2) (some (.row 31 (List.replicate n (.int .u16 0))))).set s.nxt (some (.row 90 [.agg [.int .i64 (n : Int), .own (s.nxt + 1) 0 n, .sl .nil [], .own (s.nxt + 2) 0 n, .sl .nil []]]))).new .res).new .res).set (s.nxt + 3) (some (.row 4 (List.replicate n (.bool false))))).set s.nxt (some (.row 90 [.agg [.int .i64 (n : Int), .own (s.nxt + 1) 0 n, .own (s.nxt + 3) 0 n, .own (s.nxt + 2) 0 n, .sl .nil []]]))), (((((((((((s.new (.row 90 [.agg [.int .i64 (n : Int), .sl .nil [], .sl .nil [], .sl .nil [], .sl .nil []]])).new .res).new .res).set (s.nxt + 1) (some (.row 4 (List.replicate n (.bool false))))).set (s.nxt + 2) (some (.row 31 (List.replicate n (.int .u16 0))))).set s.nxt (some (.row 90 [.agg [.int .i64 (n : Int), .own (s.nxt + 1) 0 n, .sl .nil [], .own (s.nxt + 2) 0 n, .sl .nil []]]))).new .res).new .res).set (s.nxt + 3) (some (.row 4 (List.replicate n (.bool false))))).set (s.nxt + 4) (some (.row 31 (List.replicate n (.int .u16 0))))).set s.nxt (some (.row 90 [.agg [.int .i64 (n : Int), .own (s.nxt + 1) 0 n, .own (s.nxt + 3) 0 n, .own (s.nxt + 2) 0 n, .sl .nil []]])))] Y18 rfl au ?_
     refine DetHC.eff [(5, 6)] ((((((((((((s.new (.row 90 [.agg [.int .i64 (n : Int), .sl .nil [], .sl .nil [], .sl .nil [], .sl .nil []]])).new .res).new .res).set (s.nxt + 1) (some (.row 4 (List.replicate n (.bool false))))).set (s.nxt + 2) (some (.row 31 (List.replicate n (.int .u16 0))))).set s.nxt (some (.row 90 [.agg [.int .i64 (n : Int), .own (s.nxt + 1) 0 n, .sl .nil [], .own (s.nxt + 2) 0 n, .sl .nil []]]))).new .res).new .res).set (s.nxt + 3) (some (.row 4 (List.replicate n (.bool false))))).set (s.nxt + 4) (some (.row 31 (List.replicate n (.int .u16 0))))).set s.nxt (some (.row 90 [.agg [.int .i64 (n : Int), .own (s.nxt + 1) 0 n, .own (s.nxt + 3) 0 n, .own (s.nxt + 2) 0 n, .sl .nil []]])))) ((((((((((((s.new (.row 90 [.agg [.int .i64 (n : Int), .sl .nil [], .sl .nil [], .sl .nil [], .sl .nil []]])).new .res).new .res).set (s.nxt + 1) (some (.row 4 (List.replicate n (.bool false))))).set (s.nxt + 2) (some (.row 31 (List.replicate n (.int .u16 0))))).set s.nxt (some (.row 90 [.agg [.int .i64 (n : Int), .own (s.nxt + 1) 0 n, .sl .nil [], .own (s.nxt + 2) 0 n, .sl .nil []]]))).new .res).new .res).set (s.nxt + 3) (some (.row 4 (List.replicate n (.bool false))))).set (s.nxt + 4) (some (.row 31 (List.replicate n (.int .u16 0))))).set s.nxt (some (.row 90 [.agg [.int .i64 (n : Int), .own (s.nxt + 1) 0 n, .own (s.nxt + 3) 0 n, .own (s.nxt + 2) 0 n, .own (s.nxt + 4) 0 n]])))) [] Y18 rfl au au au ?_
     refine DetHC.nil ?_
     refine rl [0, 3, 8] (k := rB (k := rg [0, 3, 8] (k := ?_)))
     refine Run.lp ⟨⟨2, Y15, by rfl, by rfl⟩, ?_⟩
     simp only [ivar, go_sem, ↓reduceIte, Nat.reduceEqDiff]
     decide
   · cases hc0
 · refine rs (k := rg [0, 3, 8, 9] (k := rs (k := rc (ht := fun hc0 => ?_) (hf := fun hc0 => ?_))))
   · cases hc0
   · refine rX (k := rs (k := rg [2] (k := rR (k := ?_))))
     exact Ret.all (by simp only [Tryz.f25, go_sem, ↓reduceIte] <;> rfl) ⟨rfl, rfl⟩
set_option maxRecDepth 100000 in
theorem ref8_NewDevice {n : Nat} {s : St} (h1 : 1 ≤ n) (h2 : n ≤ 65536) : ACalls Tryz.prog 10 [.int .i64 (n : Int)] s (fun r s' => r = .ptr (s.nxt + 5) 0 0 ∧ RefAt s.nxt (Dev.zero n) s' ∧ (∀ i, i < s.nxt → s'.blk i = s.blk i) ∧ s'.nxt = s.nxt + 6) := by
 refine go Tryz.func10 (k := fun hwf H => ?_)
 refine rs (k := rg [0] (k := rs (k := rr (k := ro (pre := [_]) (k := ?_)))))
 refine RunO.callw au au au Y18 ((ref8_New h1 h2).mono ?_)
 rintro r s1 ⟨rfl, rfl⟩
 refine rh [2] (k := rR (k := ?_))
 refine Ret.all (by simp only [Tryz.f10, go_sem, ↓reduceIte] <;> rfl) ⟨rfl, ⟨?_, ?_, ?_, ?_, ?_, ?_⟩, fun i hi => ?_, rfl⟩
 refine jO 1 ?_; rotate_left
 refine jO 1 ?_; rotate_left
 refine jO 1 ?_; rotate_left
 refine jO 1 ?_; rotate_left
 refine jO 1 ?_; rotate_left
 · simp (disch := first | omega | (simp only [nxt_set, nxt_new] <;> omega) | fail) only [go_sem, ↓reduceIte, Nat.add_assoc, Nat.reduceAdd]
   simp [refRow, Dev.zero]
 · exact Y152
 any_goals
   refine jI 1 ?_
   simp (disch := first | omega | (simp only [nxt_set, nxt_new] <;> omega) | fail) only [go_sem]
   simp [rstRow, refRow, Dev.zero]
theorem ref8_there {s : St} {st b0 b1 v0 v1 n : Nat} (hst : s.blk st = some (.row 90 [.agg [.int .i64 (n : Int), .own b0 0 n, .own b1 0 n, .own v0 0 n, .own v1 0 n]])) (hn : n ≤ 65536) {a m : Int} : ACalls Tryz.prog 36 [.ptr st 0 0, .int .i64 a, .int .i64 m] s (fun r s' => r = .bool (thereF n a m) ∧ s' = s) := by
 refine go Tryz.func36 (k := fun hwf H => ?_)
 have H := aj hst H
 refine rs (k := rg [0, 1, 2] (k := rs (k := rg [6] (k := rR (k := ?_)))))
 refine Ret.all (by simp only [Tryz.f36, go_sem, ↓reduceIte] <;> rfl) ⟨?_, rfl⟩
 refine congrArg PV.bool ?_
 unfold thereF
 by_cases h0 : 0 ≤ a
 · exact Y148
 · simp [h0]
theorem Y44 {p : Prop} (h : p := by
 simp (disch := omega) only [go_sem, ↓reduceIte, hst, hb, hw]
 rw [if_pos ⟨Y15, Y14, Y14⟩, if_neg (show ¬ ((x : Int) = n) from Y14)]
 by_cases hx0 : (x : Int) = 0
 · rw [if_pos hx0]
   have : x = 0 := by omega
   subst this
   simp
 · rw [if_neg hx0]
   have : (((x + y : Nat) : Int) - (x : Int)).toNat = y := by omega
   rw [this]) : p := h
theorem Y159 {p : Prop} (h : p := by rw [hcc, List.length_take, List.length_drop]; omega) : p := h
theorem Y160 {p : Prop} (h : p := by simp only [Tryz.f37, go_sem, ↓reduceIte] <;> rfl) : p := h
theorem Y220 {p : Prop} (h : p := by unfold cutF; rw [hn, htT, if_pos rfl]; rfl) : p := h
theorem Y281 {p : Prop} (h : p := by rw [hcc, List.map_take, List.map_drop]) : p := h
theorem ref8_get0 {s : St} {st b0 b1 v0 v1 n : Nat} (hst : s.blk st = some (.row 90 [.agg [.int .i64 (n : Int), .own b0 0 n, .own b1 0 n, .own v0 0 n, .own v1 0 n]])) {l : List Bool} (hb : s.blk b0 = some (.row 4 (l.map PV.bool))) (hn : l.length = n) (hn2 : n ≤ 65536) {a m : Int} (hm : 1 ≤ m) : ACalls Tryz.prog 37 [.ptr st 0 0, .int .i64 0, .int .i64 a, .int .i64 m] s (fun r s' => r = .tuple [.sl .unk ((cutF l a m).map PV.bool), .bool (thereF n a m)] ∧ s' = s) := by
 refine go Tryz.func37 (k := fun hwf H => ?_)
 have f0 : ((0 : Int) < ((2 : Nat) : Int)) = True := Y15
 have f1 : ((1 : Int) < ((2 : Nat) : Int)) = True := Y15
 have ft : Int.toNat 1 = 1 := rfl
 have f2 : ((0 : Int) ≤ 1) = True := Y15
 have H := aj f0 (aj f1 (aj ft (aj f2 H)))
 have H := aj hst (aj hb H)
 refine rs (k := rg [0, 1, 2, 3] (k := rs (k := rs (k := rr (k := ro (pre := [_, _, _, _, _, _, _, _, _, _]) (k := rG (h := fun hb => ref8_there hst hn2) (k := rh [0, 1, 2, 3, 22] (k := rc (ht := fun hc0 => ?_) (hf := fun hc0 => ?_)))))))))
 refine rs (k := rg [8, 9] (k := rR (k := ?_)))
 refine jO 1 ?_; rotate_left
 refine rk (k := rs (k := ?_))
 have htT : thereF n a m = true := Y82
 have htt := htT
 unfold thereF at htt
 have htt := of_decide_eq_true htt
 obtain ⟨x, rfl⟩ : ∃ x : Nat, a = x := ⟨a.toNat, (Int.toNat_of_nonneg htt.1).symm⟩
 obtain ⟨y, rfl⟩ : ∃ y : Nat, m = y := ⟨m.toNat, (Int.toNat_of_nonneg Y14).symm⟩
 have hw : IntKind.i64.wrap ((x : Int) + y) = ((x + y : Nat) : Int) := Y20
 have hcc : cutF l (x : Int) (y : Int) = (l.drop x).take y := Y220
 have hcl : (cutF l (x : Int) (y : Int)).length ≤ 65536 := Y159
 have H := aj hw H
 refine rr (k := rO (k := ro (pre := [_, _, _, _, _, _, _, _, _, _]) (k := ?_)))
 refine RunO.gdo au (v := .own b0 x y) (s' := s) Y44 ?_
 refine RunO.appendFrom (els := l.map PV.bool) (ys := (cutF l (x : Int) (y : Int)).map PV.bool) au au au hb Y281 Y99 Tryz.td29 Y194 (isEls_map (P := Tryz.prog) (e := 4) (f := PV.bool) (fun a => ⟨rfl, Y195⟩) _) Y196 Y326 (.inr rfl) ?_
 intro k1 s1 hm1
 refine rh [8, 9] (k := rR (k := ?_))
 refine jO 1 ?_; rotate_left
 any_goals
   refine jI 1 ?_
   first
     | (have htF : thereF n a m = false := by simpa using hc0
        refine Ret.pure (r' := .tuple [.sl .unk ((cutF l a m).map PV.bool), .bool (thereF n a m)]) Y160 ?_ Y86 hwf (fun _ _ => rfl) ⟨rfl, rfl⟩
        simp only [PV.weak, PV.weaks, weaks_bools]
        unfold cutF
        rw [hn, htF]; rfl)
     | (refine Ret.pure (r' := .tuple [.sl .unk ((cutF l (x : Int) (y : Int)).map PV.bool), .bool (thereF n (x : Int) (y : Int))]) Y160 ?_ Y86 hwf (hm1.fr hwf).blk ⟨rfl, rfl⟩
        simp only [PV.weak, PV.weaks, weaks_bools]
        rw [htT])
theorem ref8_get1 {s : St} {st b0 b1 v0 v1 n : Nat} (hst : s.blk st = some (.row 90 [.agg [.int .i64 (n : Int), .own b0 0 n, .own b1 0 n, .own v0 0 n, .own v1 0 n]])) {l : List Bool} (hb : s.blk b1 = some (.row 4 (l.map PV.bool))) (hn : l.length = n) (hn2 : n ≤ 65536) {a m : Int} (hm : 1 ≤ m) : ACalls Tryz.prog 37 [.ptr st 0 0, .int .i64 1, .int .i64 a, .int .i64 m] s (fun r s' => r = .tuple [.sl .unk ((cutF l a m).map PV.bool), .bool (thereF n a m)] ∧ s' = s) := by
 refine go Tryz.func37 (k := fun hwf H => ?_)
 have f0 : ((0 : Int) < ((2 : Nat) : Int)) = True := Y15
 have f1 : ((1 : Int) < ((2 : Nat) : Int)) = True := Y15
 have ft : Int.toNat 1 = 1 := rfl
 have f2 : ((0 : Int) ≤ 1) = True := Y15
 have H := aj f0 (aj f1 (aj ft (aj f2 H)))
 have H := aj hst (aj hb H)
 refine rs (k := rg [0, 1, 2, 3] (k := rs (k := rs (k := rr (k := ro (pre := [_, _, _, _, _, _, _, _, _, _]) (k := rG (h := fun hb => ref8_there hst hn2) (k := rh [0, 1, 2, 3, 22] (k := rc (ht := fun hc0 => ?_) (hf := fun hc0 => ?_)))))))))
 refine rs (k := rg [8, 9] (k := rR (k := ?_)))
 refine jO 1 ?_; rotate_left
 refine rk (k := rs (k := ?_))
 have htT : thereF n a m = true := Y82
 have htt := htT
 unfold thereF at htt
 have htt := of_decide_eq_true htt
 obtain ⟨x, rfl⟩ : ∃ x : Nat, a = x := ⟨a.toNat, (Int.toNat_of_nonneg htt.1).symm⟩
 obtain ⟨y, rfl⟩ : ∃ y : Nat, m = y := ⟨m.toNat, (Int.toNat_of_nonneg Y14).symm⟩
 have hw : IntKind.i64.wrap ((x : Int) + y) = ((x + y : Nat) : Int) := Y20
 have hcc : cutF l (x : Int) (y : Int) = (l.drop x).take y := Y220
 have hcl : (cutF l (x : Int) (y : Int)).length ≤ 65536 := Y159
 have H := aj hw H
 refine rr (k := rO (k := ro (pre := [_, _, _, _, _, _, _, _, _, _]) (k := ?_)))
 refine RunO.gdo au (v := .own b1 x y) (s' := s) Y44 ?_
 refine RunO.appendFrom (els := l.map PV.bool) (ys := (cutF l (x : Int) (y : Int)).map PV.bool) au au au hb Y281 Y99 Tryz.td29 Y194 (isEls_map (P := Tryz.prog) (e := 4) (f := PV.bool) (fun a => ⟨rfl, Y195⟩) _) Y196 Y326 (.inr rfl) ?_
 intro k1 s1 hm1
 refine rh [8, 9] (k := rR (k := ?_))
 refine jO 1 ?_; rotate_left
 any_goals
   refine jI 1 ?_
   first
     | (have htF : thereF n a m = false := by simpa using hc0
        refine Ret.pure (r' := .tuple [.sl .unk ((cutF l a m).map PV.bool), .bool (thereF n a m)]) Y160 ?_ Y86 hwf (fun _ _ => rfl) ⟨rfl, rfl⟩
        simp only [PV.weak, PV.weaks, weaks_bools]
        unfold cutF
        rw [hn, htF]; rfl)
     | (refine Ret.pure (r' := .tuple [.sl .unk ((cutF l (x : Int) (y : Int)).map PV.bool), .bool (thereF n (x : Int) (y : Int))]) Y160 ?_ Y86 hwf (hm1.fr hwf).blk ⟨rfl, rfl⟩
        simp only [PV.weak, PV.weaks, weaks_bools]
        rw [htT])
theorem Y161 {p : Prop} (h : p := by simp only [Tryz.f38, go_sem, ↓reduceIte] <;> rfl) : p := h
theorem ref8_get2 {s : St} {st b0 b1 v0 v1 n : Nat} (hst : s.blk st = some (.row 90 [.agg [.int .i64 (n : Int), .own b0 0 n, .own b1 0 n, .own v0 0 n, .own v1 0 n]])) {l : List Int} (hb : s.blk v0 = some (.row 31 (l.map (PV.int .u16)))) (hn : l.length = n) (hn2 : n ≤ 65536) {a m : Int} (hm : 1 ≤ m) : ACalls Tryz.prog 38 [.ptr st 0 0, .int .i64 2, .int .i64 a, .int .i64 m] s (fun r s' => r = .tuple [.sl .unk ((cutF l a m).map (PV.int .u16)), .bool (thereF n a m)] ∧ s' = s) := by
 refine go Tryz.func38 (k := fun hwf H => ?_)
 have f0 : ((0 : Int) < ((2 : Nat) : Int)) = True := Y15
 have f1 : ((1 : Int) < ((2 : Nat) : Int)) = True := Y15
 have ft : Int.toNat 1 = 1 := rfl
 have f2 : ((0 : Int) ≤ 1) = True := Y15
 have H := aj f0 (aj f1 (aj ft (aj f2 H)))
 have w0 : IntKind.i64.wrap (2 - 2) = 0 := Y15
 have H := aj w0 H
 have H := aj hst (aj hb H)
 refine rs (k := rg [0, 1, 2, 3] (k := rs (k := rs (k := rr (k := ro (pre := [_, _, _, _, _, _, _, _, _, _]) (k := rG (h := fun hb => ref8_there hst hn2) (k := rh [0, 1, 2, 3, 22] (k := rc (ht := fun hc0 => ?_) (hf := fun hc0 => ?_)))))))))
 refine rs (k := rg [8, 9] (k := rR (k := ?_)))
 refine jO 1 ?_; rotate_left
 refine rk (k := rs (k := ?_))
 have htT : thereF n a m = true := Y82
 have htt := htT
 unfold thereF at htt
 have htt := of_decide_eq_true htt
 obtain ⟨x, rfl⟩ : ∃ x : Nat, a = x := ⟨a.toNat, (Int.toNat_of_nonneg htt.1).symm⟩
 obtain ⟨y, rfl⟩ : ∃ y : Nat, m = y := ⟨m.toNat, (Int.toNat_of_nonneg Y14).symm⟩
 have hw : IntKind.i64.wrap ((x : Int) + y) = ((x + y : Nat) : Int) := Y20
 have hcc : cutF l (x : Int) (y : Int) = (l.drop x).take y := Y220
 have hcl : (cutF l (x : Int) (y : Int)).length ≤ 65536 := Y159
 have H := aj hw H
 refine rr (k := rO (k := ro (pre := [_, _, _, _, _, _, _, _, _, _, _]) (k := ?_)))
 refine RunO.gdo au (v := .own v0 x y) (s' := s) Y44 ?_
 refine RunO.appendFrom (els := l.map (PV.int .u16)) (ys := (cutF l (x : Int) (y : Int)).map (PV.int .u16)) au au au hb Y281 Y99 Tryz.td30 Y136 (isEls_map (P := Tryz.prog) (e := 31) (f := (PV.int .u16)) (fun a => ⟨rfl, Y137⟩) _) Y138 Y327 (.inr rfl) ?_
 intro k1 s1 hm1
 refine rh [8, 9] (k := rR (k := ?_))
 refine jO 1 ?_; rotate_left
 any_goals
   refine jI 1 ?_
   first
     | (have htF : thereF n a m = false := by simpa using hc0
        refine Ret.pure (r' := .tuple [.sl .unk ((cutF l a m).map (PV.int .u16)), .bool (thereF n a m)]) Y161 ?_ Y87 hwf (fun _ _ => rfl) ⟨rfl, rfl⟩
        simp only [PV.weak, PV.weaks, weaks_u16]
        unfold cutF
        rw [hn, htF]; rfl)
     | (refine Ret.pure (r' := .tuple [.sl .unk ((cutF l (x : Int) (y : Int)).map (PV.int .u16)), .bool (thereF n (x : Int) (y : Int))]) Y161 ?_ Y87 hwf (hm1.fr hwf).blk ⟨rfl, rfl⟩
        simp only [PV.weak, PV.weaks, weaks_u16]
        rw [htT])
theorem ref8_get3 {s : St} {st b0 b1 v0 v1 n : Nat} (hst : s.blk st = some (.row 90 [.agg [.int .i64 (n : Int), .own b0 0 n, .own b1 0 n, .own v0 0 n, .own v1 0 n]])) {l : List Int} (hb : s.blk v1 = some (.row 31 (l.map (PV.int .u16)))) (hn : l.length = n) (hn2 : n ≤ 65536) {a m : Int} (hm : 1 ≤ m) : ACalls Tryz.prog 38 [.ptr st 0 0, .int .i64 3, .int .i64 a, .int .i64 m] s (fun r s' => r = .tuple [.sl .unk ((cutF l a m).map (PV.int .u16)), .bool (thereF n a m)] ∧ s' = s) := by
 refine go Tryz.func38 (k := fun hwf H => ?_)
 have f0 : ((0 : Int) < ((2 : Nat) : Int)) = True := Y15
 have f1 : ((1 : Int) < ((2 : Nat) : Int)) = True := Y15
 have ft : Int.toNat 1 = 1 := rfl
 have f2 : ((0 : Int) ≤ 1) = True := Y15
 have H := aj f0 (aj f1 (aj ft (aj f2 H)))
 have w0 : IntKind.i64.wrap (3 - 2) = 1 := Y15
 have H := aj w0 H
 have H := aj hst (aj hb H)
 refine rs (k := rg [0, 1, 2, 3] (k := rs (k := rs (k := rr (k := ro (pre := [_, _, _, _, _, _, _, _, _, _]) (k := rG (h := fun hb => ref8_there hst hn2) (k := rh [0, 1, 2, 3, 22] (k := rc (ht := fun hc0 => ?_) (hf := fun hc0 => ?_)))))))))
 refine rs (k := rg [8, 9] (k := rR (k := ?_)))
 refine jO 1 ?_; rotate_left
 refine rk (k := rs (k := ?_))
 have htT : thereF n a m = true := Y82
 have htt := htT
 unfold thereF at htt
 have htt := of_decide_eq_true htt
 obtain ⟨x, rfl⟩ : ∃ x : Nat, a = x := ⟨a.toNat, (Int.toNat_of_nonneg htt.1).symm⟩
 obtain ⟨y, rfl⟩ : ∃ y : Nat, m = y := ⟨m.toNat, (Int.toNat_of_nonneg Y14).symm⟩
 have hw : IntKind.i64.wrap ((x : Int) + y) = ((x + y : Nat) : Int) := Y20
 have hcc : cutF l (x : Int) (y : Int) = (l.drop x).take y := Y220
 have hcl : (cutF l (x : Int) (y : Int)).length ≤ 65536 := Y159
 have H := aj hw H
 refine rr (k := rO (k := ro (pre := [_, _, _, _, _, _, _, _, _, _, _]) (k := ?_)))
 refine RunO.gdo au (v := .own v1 x y) (s' := s) Y44 ?_
 refine RunO.appendFrom (els := l.map (PV.int .u16)) (ys := (cutF l (x : Int) (y : Int)).map (PV.int .u16)) au au au hb Y281 Y99 Tryz.td30 Y136 (isEls_map (P := Tryz.prog) (e := 31) (f := (PV.int .u16)) (fun a => ⟨rfl, Y137⟩) _) Y138 Y327 (.inr rfl) ?_
 intro k1 s1 hm1
 refine rh [8, 9] (k := rR (k := ?_))
 refine jO 1 ?_; rotate_left
 any_goals
   refine jI 1 ?_
   first
     | (have htF : thereF n a m = false := by simpa using hc0
        refine Ret.pure (r' := .tuple [.sl .unk ((cutF l a m).map (PV.int .u16)), .bool (thereF n a m)]) Y161 ?_ Y87 hwf (fun _ _ => rfl) ⟨rfl, rfl⟩
        simp only [PV.weak, PV.weaks, weaks_u16]
        unfold cutF
        rw [hn, htF]; rfl)
     | (refine Ret.pure (r' := .tuple [.sl .unk ((cutF l (x : Int) (y : Int)).map (PV.int .u16)), .bool (thereF n (x : Int) (y : Int))]) Y161 ?_ Y87 hwf (hm1.fr hwf).blk ⟨rfl, rfl⟩
        simp only [PV.weak, PV.weaks, weaks_u16]
        rw [htT])
theorem Y162 {p : Prop} (h : p := by simp only [PV.blw, PV.blws, and_true, true_and]; exact fun t z e => Y69) : p := h
theorem Y100 {p : Prop} (h : p := by
 refine rs (k := rg [8, 9] (k := rR (k := ?_)))
 exact Ret.pure (r' := .tuple [.sl .unk [], .bool false]) Y160 rfl Y162 hwf (fun _ _ => rfl) ⟨rfl, rfl⟩) : p := h
theorem ref8_no2 {s : St} {st : Nat} {a m : Int} : ACalls Tryz.prog 37 [.ptr st 0 0, .int .i64 2, .int .i64 a, .int .i64 m] s (fun r s' => r = .tuple [.sl .unk [], .bool false] ∧ s' = s) := by
 refine go Tryz.func37 (k := fun hwf H => ?_)
 refine rs (k := rg [0, 1, 2, 3] (k := rs (k := rs (k := rr (k := ro (pre := [_, _, _, _, _, _, _]) (k := rg0 (k := rg0 (k := rg0 (k := rg0 (k := rg0 (k := rh [0, 1, 2, 3, 22] (k := rc (ht := fun hc0 => ?_) (hf := fun hc0 => ?_)))))))))))))
 · exact Y100
 · cases hc0
theorem ref8_no3 {s : St} {st : Nat} {a m : Int} : ACalls Tryz.prog 37 [.ptr st 0 0, .int .i64 3, .int .i64 a, .int .i64 m] s (fun r s' => r = .tuple [.sl .unk [], .bool false] ∧ s' = s) := by
 refine go Tryz.func37 (k := fun hwf H => ?_)
 refine rs (k := rg [0, 1, 2, 3] (k := rs (k := rs (k := rr (k := ro (pre := [_, _, _, _, _, _, _]) (k := rg0 (k := rg0 (k := rg0 (k := rg0 (k := rg0 (k := rh [0, 1, 2, 3, 22] (k := rc (ht := fun hc0 => ?_) (hf := fun hc0 => ?_)))))))))))))
 · exact Y100
 · cases hc0
theorem Y101 {p : Prop} (h : p := by
 refine rs (k := rg [8, 9] (k := rR (k := ?_)))
 exact Ret.pure (r' := .tuple [.sl .unk [], .bool false]) Y161 rfl Y162 hwf (fun _ _ => rfl) ⟨rfl, rfl⟩) : p := h
theorem ref8_no0 {s : St} {st : Nat} {a m : Int} : ACalls Tryz.prog 38 [.ptr st 0 0, .int .i64 0, .int .i64 a, .int .i64 m] s (fun r s' => r = .tuple [.sl .unk [], .bool false] ∧ s' = s) := by
 refine go Tryz.func38 (k := fun hwf H => ?_)
 refine rs (k := rg [0, 1, 2, 3] (k := rs (k := rs (k := rr (k := ro (pre := [_, _, _, _, _, _, _]) (k := rg0 (k := rg0 (k := rg0 (k := rg0 (k := rg0 (k := rh [0, 1, 2, 3, 22] (k := rc (ht := fun hc0 => ?_) (hf := fun hc0 => ?_)))))))))))))
 · exact Y101
 · cases hc0
theorem ref8_no1 {s : St} {st : Nat} {a m : Int} : ACalls Tryz.prog 38 [.ptr st 0 0, .int .i64 1, .int .i64 a, .int .i64 m] s (fun r s' => r = .tuple [.sl .unk [], .bool false] ∧ s' = s) := by
 refine go Tryz.func38 (k := fun hwf H => ?_)
 refine rs (k := rg [0, 1, 2, 3] (k := rs (k := rs (k := rr (k := ro (pre := [_, _, _, _, _, _, _]) (k := rg0 (k := rg0 (k := rg0 (k := rg0 (k := rg0 (k := rh [0, 1, 2, 3, 22] (k := rc (ht := fun hc0 => ?_) (hf := fun hc0 => ?_)))))))))))))
 · exact Y101
 · cases hc0
theorem Y102 {p : Prop} (h : p := by
 simp (disch := omega) only [go_sem, ↓reduceIte, hst, hb]
 rw [if_pos ⟨Y15, Y14⟩, if_neg (show ¬ ((p : Int) = n) from Y14)]
 by_cases hx0 : (p : Int) = 0
 · rw [if_pos hx0]
   have : p = 0 := Y14
   subst this
   simp
 · rw [if_neg hx0]
   have : ((n : Int) - (p : Int)).toNat = n - p := Y14
   rw [this]) : p := h
theorem ref8_put0 {s : St} {st b0 b1 v0 v1 n : Nat} (hst : s.blk st = some (.row 90 [.agg [.int .i64 (n : Int), .own b0 0 n, .own b1 0 n, .own v0 0 n, .own v1 0 n]])) {l x : List Bool} (hb : s.blk b0 = some (.row 4 (l.map PV.bool))) (hn : l.length = n) (hn2 : n ≤ 65536) {a : Int} (hx : x ≠ []) (hst2 : b0 ≠ st) : ACalls Tryz.prog 39 [.ptr st 0 0, .int .i64 0, .int .i64 a, .sl .unk (x.map PV.bool)] s (fun r s' => r = .bool (thereF n a x.length) ∧ s' = (if thereF n a x.length = true then s.set b0 (some (.row 4 ((overF l a.toNat x).map PV.bool))) else s)) := by
 refine go Tryz.func39 (k := fun hwf H => ?_)
 have f0 : ((0 : Int) < ((2 : Nat) : Int)) = True := Y15
 have f1 : ((1 : Int) < ((2 : Nat) : Int)) = True := Y15
 have ft : Int.toNat 1 = 1 := rfl
 have f2 : ((0 : Int) ≤ 1) = True := Y15
 have H := aj f0 (aj f1 (aj ft (aj f2 H)))
 have H := aj hst (aj hb H)
 refine rs (k := rg [0, 1, 2, 3] (k := rs (k := rs (k := rr (k := ro (pre := [_, _, _, _, _, _, _, _, _, _, _]) (k := rG (h := fun hb => ref8_there hst hn2) (k := rh [0, 1, 2, 3, 22] (k := rc (ht := fun hc0 => ?_) (hf := fun hc0 => ?_)))))))))
 refine rs (k := rg [8] (k := rR (k := ?_)))
 refine jO 1 ?_; rotate_left
 refine rk (k := rs (k := ?_))
 have hxl : 1 ≤ x.length := List.length_pos_iff.2 hx
 have htT : thereF n a x.length = true := Y82
 have htt := htT
 unfold thereF at htt
 have htt := of_decide_eq_true htt
 obtain ⟨p, hp⟩ : ∃ p : Nat, a = p := ⟨a.toNat, (Int.toNat_of_nonneg htt.1).symm⟩
 subst hp
 refine rr (k := ro (pre := [_, _, _, _, _, _, _]) (k := ?_))
 refine RunO.gdo au (v := .own b0 p (n - p)) (s' := s) Y102 ?_
 refine ro (pre := [_]) (k := ?_)
 refine RunO.copy (el := 4) (id := b0) (off := p) (len := n - p) (ys := x.map PV.bool) (s' := s.set b0 (some (.row 4 ((overF l p x).map PV.bool)))) au au au Tryz.td29 Y194 (isEls_map (P := Tryz.prog) (e := 4) (f := PV.bool) (fun a => ⟨rfl, Y195⟩) _) Y89 ?_
 refine rl [] (k := rs (k := rg [8] (k := rR (k := ?_))))
 refine jO 1 ?_; rotate_left
 any_goals
   refine jI 1 ?_
   first
     | (have htF : thereF n a x.length = false := by simpa using hc0
        refine Ret.all (by simp only [Tryz.f39, go_sem, ↓reduceIte] <;> rfl) ⟨by rw [htF], by rw [htF]; rfl⟩)
     | (refine Ret.all (by simp only [Tryz.f39, go_sem, ↓reduceIte] <;> rfl) ⟨by rw [htT], Y328⟩)
theorem ref8_put3 {s : St} {st b0 b1 v0 v1 n : Nat} (hst : s.blk st = some (.row 90 [.agg [.int .i64 (n : Int), .own b0 0 n, .own b1 0 n, .own v0 0 n, .own v1 0 n]])) {l x : List Int} (hb : s.blk v1 = some (.row 31 (l.map (PV.int .u16)))) (hn : l.length = n) (hn2 : n ≤ 65536) {a : Int} (hx : x ≠ []) (hst2 : v1 ≠ st) : ACalls Tryz.prog 40 [.ptr st 0 0, .int .i64 3, .int .i64 a, .sl .unk (x.map (PV.int .u16))] s (fun r s' => r = .bool (thereF n a x.length) ∧ s' = (if thereF n a x.length = true then s.set v1 (some (.row 31 ((overF l a.toNat x).map (PV.int .u16)))) else s)) := by
 refine go Tryz.func40 (k := fun hwf H => ?_)
 have f0 : ((0 : Int) < ((2 : Nat) : Int)) = True := Y15
 have f1 : ((1 : Int) < ((2 : Nat) : Int)) = True := Y15
 have ft : Int.toNat 1 = 1 := rfl
 have f2 : ((0 : Int) ≤ 1) = True := Y15
 have H := aj f0 (aj f1 (aj ft (aj f2 H)))
 have w0 : IntKind.i64.wrap (3 - 2) = 1 := Y15
 have H := aj w0 H
 have H := aj hst (aj hb H)
 refine rs (k := rg [0, 1, 2, 3] (k := rs (k := rs (k := rr (k := ro (pre := [_, _, _, _, _, _, _, _, _, _, _]) (k := rG (h := fun hb => ref8_there hst hn2) (k := rh [0, 1, 2, 3, 22] (k := rc (ht := fun hc0 => ?_) (hf := fun hc0 => ?_)))))))))
 refine rs (k := rg [8] (k := rR (k := ?_)))
 refine jO 1 ?_; rotate_left
 refine rk (k := rs (k := ?_))
 have hxl : 1 ≤ x.length := List.length_pos_iff.2 hx
 have htT : thereF n a x.length = true := Y82
 have htt := htT
 unfold thereF at htt
 have htt := of_decide_eq_true htt
 obtain ⟨p, hp⟩ : ∃ p : Nat, a = p := ⟨a.toNat, (Int.toNat_of_nonneg htt.1).symm⟩
 subst hp
 refine rr (k := ro (pre := [_, _, _, _, _, _, _, _]) (k := ?_))
 refine RunO.gdo au (v := .own v1 p (n - p)) (s' := s) Y102 ?_
 refine ro (pre := [_]) (k := ?_)
 refine RunO.copy (el := 31) (id := v1) (off := p) (len := n - p) (ys := x.map (PV.int .u16)) (s' := s.set v1 (some (.row 31 ((overF l p x).map (PV.int .u16))))) au au au Tryz.td30 Y136 (isEls_map (P := Tryz.prog) (e := 31) (f := (PV.int .u16)) (fun a => ⟨rfl, Y137⟩) _) Y89 ?_
 refine rl [] (k := rs (k := rg [8] (k := rR (k := ?_))))
 refine jO 1 ?_; rotate_left
 any_goals
   refine jI 1 ?_
   first
     | (have htF : thereF n a x.length = false := by simpa using hc0
        refine Ret.all (by simp only [Tryz.f40, go_sem, ↓reduceIte] <;> rfl) ⟨by rw [htF], by rw [htF]; rfl⟩)
     | (refine Ret.all (by simp only [Tryz.f40, go_sem, ↓reduceIte] <;> rfl) ⟨by rw [htT], Y328⟩)
attribute [local go_sem] weaks_bools Req.pv
theorem ref8_Masked {v : Int} {q : Req} {s : St} : ACalls Tryz.prog 41 [.int .u16 v, q.pv] s (fun r s' => r = .int .u16 (maskF v q) ∧ s' = s) := by
 refine go Tryz.func41 (k := fun hwf H => ?_)
 refine rs (k := rg [0, 3] (k := rs (k := rg [4] (k := rR (k := rP (by simp only [Tryz.f41, go_sem]; rfl) hwf ⟨?_, rfl⟩)))))
 rfl
attribute [local go_sem] weaks_bools Req.pv
set_option maxRecDepth 100000 in
theorem ref8_Asked {q : Req} {s : St} : ACalls Tryz.prog 35 [q.pv] s (fun r s' => r = .tuple [.int .i64 (askF q).1.1, .int .i64 (askF q).1.2, .int .i64 (askF q).2.1, .int .i64 (askF q).2.2] ∧ s' = s) := by
 refine go Tryz.func35 (k := fun hwf H => ?_)
 refine rs (k := rg [1] (k := rs (k := rs (k := rg [1, 7] (k := rb (k := rs (k := rs (k := rg [1, 7, 8] (k := rc (ht := fun hc0 => ?_) (hf := fun hc0 => ?_))))))))))
 refine rk (k := rc (ht := fun hc3 => ?_) (hf := fun hc3 => ?_))
 refine jO 1 ?_; rotate_left
 · exact Y315
 refine rs (k := rg [1, 7, 8] (k := rc (ht := fun hc1 => ?_) (hf := fun hc1 => ?_)))
 refine rk (k := rc (ht := fun hc3 => ?_) (hf := fun hc3 => ?_))
 refine jO 1 ?_; rotate_left
 · exact Y316
 refine rs (k := rg [1, 7, 8] (k := rc (ht := fun hc2 => ?_) (hf := fun hc2 => ?_)))
 refine rk (k := rc (ht := fun hc3 => ?_) (hf := fun hc3 => ?_))
 refine jO 1 ?_; rotate_left
 · exact Y197
 refine rg [1, 7, 8] (k := rc (ht := fun hc3 => ?_) (hf := fun hc3 => ?_))
 refine jO 1 ?_; rotate_left
 refine rs (k := rs (k := rg [1, 7, 17] (k := rc (ht := fun hc4 => ?_) (hf := fun hc4 => ?_))))
 refine rk (k := rc (ht := fun hc5 => ?_) (hf := fun hc5 => ?_))
 refine jO 1 ?_; rotate_left
 · exact Bool.noConfusion (hc4.symm.trans hc5)
 refine rg [1, 7, 17] (k := rc (ht := fun hc5 => ?_) (hf := fun hc5 => ?_))
 refine jO 1 ?_; rotate_left
 refine rs (k := rs (k := rg [1, 7, 22] (k := rc (ht := fun hc6 => ?_) (hf := fun hc6 => ?_))))
 refine rk (k := rc (ht := fun hc7 => ?_) (hf := fun hc7 => ?_))
 refine jO 1 ?_; rotate_left
 · exact Bool.noConfusion (hc6.symm.trans hc7)
 refine rg [1, 7, 22] (k := rc (ht := fun hc7 => ?_) (hf := fun hc7 => ?_))
 refine jO 1 ?_; rotate_left
 refine rs (k := rg [1, 7, 29] (k := rc (ht := fun hc8 => ?_) (hf := fun hc8 => ?_)))
 refine jO 1 ?_; rotate_left
 refine rs (k := rg [1, 35] (k := rc (ht := fun hc9 => ?_) (hf := fun hc9 => ?_)))
 refine jO 1 ?_; rotate_left
 refine rk (k := rB (k := rs (k := rg [2, 3, 4, 5] (k := rR (k := rP (by simp only [Tryz.f35, go_sem]; rfl) hwf ⟨?_, rfl⟩)))))
 refine jO 2 ?_; rotate_left
 any_goals
   refine jI 1 ?_
   refine rs (k := ?_)
   refine jO 3 ?_; rotate_left
 any_goals
   refine jI 3 ?_
   refine Run.drawC [] [2, 3, 4, 5] Tryz.mixed Y18 ?_
   refine jO 4 ?_; rotate_left
 any_goals
   refine jI 4 ?_
   refine DetC.all au ?_
   refine jO 5 ?_; rotate_left
 any_goals
   refine jI 5 ?_
   refine re (k := rR (k := rP (by simp only [Tryz.f35, go_sem]; rfl) hwf ⟨?_, rfl⟩))
   refine jO 2 ?_; rotate_left
 any_goals
   refine jI 2 ?_
   simp only [decide_eq_true_eq, decide_eq_false_iff_not, PV.weak, PV.weaks] at *
   refine jO 6 ?_; rotate_left
 any_goals
   refine jI 6 ?_
   unfold askF
   refine jO 7 ?_; rotate_left
 any_goals
   refine jI 7 ?_
   first
     | rw [if_pos Y14]
     | rw [if_neg Y14, if_pos Y14]
     | rw [if_neg Y14, if_neg Y14, if_pos Y14]
     | rw [if_neg Y14, if_neg Y14, if_neg Y14, if_pos Y14]
     | rw [if_neg Y14, if_neg Y14, if_neg Y14, if_neg Y14, if_pos Y14]
     | rw [if_neg Y14, if_neg Y14, if_neg Y14, if_neg Y14, if_neg Y14]
attribute [local go_sem] weaks_bools Rep.pv
theorem ref8_refuse {b : Nat} {D : Dev} {s : St} (hA : RefAt b D s) {fn code : Int} : ACalls Tryz.prog 33 [.ptr (b + 5) 0 0, .int .i64 fn, .int .i64 code] s (fun r s' => r = (refD D fn code).1.pv ∧ s' = putRef b (refD D fn code).2 s) := by
 refine go Tryz.func33 (k := fun hwf H => ?_)
 have hdv := hA.dv
 unfold refRow at hdv
 have hlt := hA.lt hwf
 have hinc : IntKind.i64.wrap (D.exc + 1) = inc D.exc := rfl
 have H := aj hinc H
 have H := aj hdv H
 refine rs (k := rg [0, 1, 2, 6] (k := rs (k := rg [1, 2, 6] (k := rs (k := rr (k := ro (pre := [_, _]) (k := rC (h := ref3_Refuse (fn := fn) (code := code)) (k := rh [6] (k := rR (k := ?_))))))))))
 exact Ret.refd (refD D fn code).2 hA (r' := (refD D fn code).1.pv) (by simp only [Tryz.f33, go_sem, ↓reduceIte] <;> rfl) (by rfl) (blw_rep _ _) hwf (fun i hi => by
   have h0 := ltn hi; have h1 := lte hi
   rw [putRef_blk]
   simp only [go_sem, Nat.add_assoc, Nat.reduceAdd, ↓reduceIte, h0, h1]
   by_cases e5 : i = b + 5
   · rw [if_pos e5, if_pos e5]; rfl
   rw [if_neg e5, if_neg e5]
   by_cases e4 : i = b + 4
   · rw [if_pos e4, e4]; exact hA.v1
   rw [if_neg e4]
   by_cases e2 : i = b + 2
   · rw [if_pos e2, e2]; exact hA.v0
   rw [if_neg e2]
   by_cases e3 : i = b + 3
   · rw [if_pos e3, e3]; exact hA.c1
   rw [if_neg e3]
   by_cases e1 : i = b + 1
   · rw [if_pos e1, e1]; exact hA.c0
   rw [if_neg e1]) ⟨rfl, rfl⟩
attribute [local go_sem] weaks_bools Rep.pv
theorem ref3_Lay {r : Rep} (hr : r.ok) {s : St} : ACalls Tryz.prog 46 [r.pv] s (fun v s' => v = .tuple [.sl .unk ((repF r).map (PV.int .u8)), .int .i64 (goodF r)] ∧ s' = s) := by
 refine go Tryz.func46 (k := fun hwf H => ?_)
 refine rs (k := rg [1] (k := rs (k := rs (k := rr (k := ro (pre := [_]) (k := rC (h := ref3_Good hr) (k := rh [1, 4] (k := rs (k := rg [1, 4, 8] (k := rc (ht := fun hc0 => ?_) (hf := fun hc0 => ?_)))))))))))
 refine rs (k := rg [2, 3] (k := rR (k := ?_)))
 refine jO 1 ?_; rotate_left
 refine rk (k := rs (k := ?_))
 have hg0 : goodF r = 0 := Y82
 refine rr (k := ro (pre := [_]) (k := rC (h := ref3_lay hr hg0) (k := rh [2, 3] (k := rR (k := ?_)))))
 refine jO 1 ?_; rotate_left
 any_goals
   refine jI 1 ?_
   refine Ret.pure (r' := .tuple [.sl .unk ((repF r).map (PV.int .u8)), .int .i64 (goodF r)]) (by simp only [Tryz.f46, go_sem, ↓reduceIte] <;> rfl) ?_ (by simp only [PV.blw, PV.blws, and_true, true_and]; exact ⟨fun t z e => Y69, blws_u8 _ _⟩) hwf Y24 ⟨rfl, rfl⟩
   refine jO 2 ?_; rotate_left
 any_goals
   refine jI 2 ?_
   unfold repF
   refine jO 3 ?_; rotate_left
 any_goals
   refine jI 3 ?_
   simp only [Bool.not_eq_true', Bool.not_eq_false', decide_eq_true_eq, decide_eq_false_iff_not] at hc0
   refine jO 4 ?_; rotate_left
 any_goals
   refine jI 4 ?_
   first
     | rw [if_pos hc0]; simp only [PV.weak, PV.weaks, weaks_u8, hc0]
     | rw [if_neg hc0]; rfl
end Go.Proofs
namespace Go.Proofs
open Go.PM
set_option maxHeartbeats 2000000
theorem ref_u8_mod (D : Dev) (x c : Int) : refD D (x % 128) c = refD D x c := by
 unfold refD refuseP
 rw [show x % 128 % 128 = x % 128 from Y14]
theorem readF_err (l : List Int) : ((readF l).2 = 13 ↔ l = []) ∧ ((readF l).2 = 0 ∨ (readF l).2 = 12 ∨ (readF l).2 = 13 ∨ (readF l).2 = 15) := by
 unfold readF
 repeat' split
 all_goals simp_all
theorem RefAt.sv {b : Nat} {D : Dev} {s : St} (h : RefAt b D s) {i : Nat} (hi : b + 5 < i) (x : Option Blk) : RefAt b D (s.set i x) := by
 have e : ∀ j, j ≤ b + 5 → (s.set i x).blk j = s.blk j := fun j hj => blk_set_ne Y14
 exact ⟨Y266, Y201, Y202, Y267, Y268, Y269⟩
theorem putRef_hi {b : Nat} {D : Dev} {s : St} {i : Nat} (h : b + 5 < i) : (putRef b D s).blk i = s.blk i := by
 rw [putRef_blk, if_neg Y14, if_neg Y14, if_neg Y14, if_neg Y14, if_neg Y14]
theorem putRef_lo {b : Nat} {D : Dev} {s : St} {i : Nat} (h : i < b + 1) : (putRef b D s).blk i = s.blk i := by
 rw [putRef_blk, if_neg Y14, if_neg Y14, if_neg Y14, if_neg Y14, if_neg Y14]
theorem putRef_congr2 {b m : Nat} {D : Dev} {s s' : St} (hk : ∀ i, i < m → i < b + 1 ∨ b + 5 < i → s'.blk i = s.blk i) (i : Nat) (hi : i < m) : (putRef b D s').blk i = (putRef b D s).blk i := by
 by_cases h : i < b + 1 ∨ b + 5 < i
 · rcases h with h | h
   · rw [putRef_lo h, putRef_lo h]; exact hk i hi (.inl h)
   · rw [putRef_hi h, putRef_hi h]; exact hk i hi (.inr h)
 · rw [putRef_blk, putRef_blk]
   (repeat' split) <;> first | rfl | (exfalso; omega)
theorem writeR_ok {q : Req} (hq : q.ok) (h : rightF q = 0) : OkB (writeF q) := by
 have hR := right0 h
 have h1 := has_cases hR.has
 have h2 := hR.mb
 have h3 := hR.mv
 have h5 := packB_len q.bits
 have h6 := flat2_lenX q.vals
 unfold writeF
 refine OkB.cons ⟨Y14, Y14⟩ ?_
 repeat' split
 all_goals first
   | exact OkB.nil
   | exact (num2_ok _).append (flat2_okB _)
   | exact (num2_ok _).append (num2_ok _)
   | exact (num2_ok _).append ((num2_ok _).append (num2_ok _))
   | exact (num2_ok _).append ((num2_ok _).append (OkB.cons ⟨Y14, Y14⟩ (packB_ok _)))
   | exact (num2_ok _).append ((num2_ok _).append (OkB.cons ⟨Y14, Y14⟩ (flat2_okB _)))
   | exact (num2_ok _).append ((num2_ok _).append (((num2_ok _).append (num2_ok _)).append (OkB.cons ⟨Y14, Y14⟩ (flat2_okB _))))
   | exact (num2_ok _).append ((num2_ok _).append OkB.nil)
attribute [local go_sem] weaks_bools Req.pv
set_option maxRecDepth 100000 in
theorem ref3_Counts {q : Req} {s : St} : ACalls Tryz.prog 34 [q.pv] s (fun r s' => r = .bool (countF q) ∧ s' = s) := by
 refine go Tryz.func34 (k := fun hwf H => ?_)
 refine rs (k := rg [1] (k := rs (k := rs (k := rr (k := ro (pre := [_]) (k := rC (h := ref3_Right (q := q)) (k := rh [1, 6] (k := rc (ht := fun hc0 => ?_) (hf := fun hc0 => ?_)))))))))
 refine jO 1 ?_; rotate_left
 refine rk (k := rs (k := rg [1, 3] (k := rs (k := rs (k := rg [1, 3, 10] (k := rb (k := rs (k := rs (k := rg [1, 3, 10, 11] (k := rc (ht := fun hc1 => ?_) (hf := fun hc1 => ?_)))))))))))
 refine rk (k := rc (ht := fun hc2 => ?_) (hf := fun hc2 => ?_))
 refine jO 1 ?_; rotate_left
 · exact Y198
 refine rg [1, 3, 10, 11] (k := rc (ht := fun hc2 => ?_) (hf := fun hc2 => ?_))
 refine jO 1 ?_; rotate_left
 refine rs (k := rs (k := rg [1, 3, 10, 20] (k := rc (ht := fun hc3 => ?_) (hf := fun hc3 => ?_))))
 refine rk (k := rc (ht := fun hc4 => ?_) (hf := fun hc4 => ?_))
 refine jO 1 ?_; rotate_left
 · exact Y143
 refine rg [1, 3, 10, 20] (k := rc (ht := fun hc4 => ?_) (hf := fun hc4 => ?_))
 refine jO 1 ?_; rotate_left
 refine rs (k := rg [1, 3, 10, 29] (k := rc (ht := fun hc5 => ?_) (hf := fun hc5 => ?_)))
 refine jO 1 ?_; rotate_left
 refine rs (k := rg [1, 3, 10, 37] (k := rc (ht := fun hc6 => ?_) (hf := fun hc6 => ?_)))
 refine jO 1 ?_; rotate_left
 refine rs (k := rg [1, 3, 45] (k := rc (ht := fun hc7 => ?_) (hf := fun hc7 => ?_)))
 refine jO 1 ?_; rotate_left
 refine rk (k := rB (k := rs (k := rg [2] (k := rR (k := rP (by simp only [Tryz.f34, go_sem]; rfl) hwf ⟨?_, rfl⟩)))))
 refine jO 2 ?_; rotate_left
 any_goals
   refine jI 1 ?_
   refine rs (k := rg [2] (k := rR (k := rP (by simp only [Tryz.f34, go_sem]; rfl) hwf ⟨?_, rfl⟩)))
   refine jO 2 ?_; rotate_left
 any_goals
   refine jI 2 ?_
   simp only [PV.weak]
   refine jO 3 ?_; rotate_left
 any_goals
   refine jI 3 ?_
   congr 1
   refine jO 4 ?_; rotate_left
 any_goals
   refine jI 4 ?_
   unfold countF
   refine jO 5 ?_; rotate_left
 any_goals
   refine jI 5 ?_
   simp only [Bool.not_eq_true', Bool.not_eq_false', Bool.or_eq_true, Bool.or_eq_false_iff, decide_eq_true_eq, decide_eq_false_iff_not] at *
   refine jO 6 ?_; rotate_left
 any_goals
   refine jI 6 ?_
   rw [Bool.eq_iff_iff]
   refine jO 7 ?_; rotate_left
 any_goals
   refine jI 7 ?_
   simp only [Bool.and_eq_true, decide_eq_true_eq, Bool.false_eq_true, false_iff, true_iff]
   refine jO 8 ?_; rotate_left
 any_goals
   refine jI 8 ?_
   first
     | omega
     | (simp only [*, Int.reduceEq, or_true, true_or, or_self, if_true, if_false, true_and, and_true, false_and, and_false, not_false_eq_true, ite_true, ite_false]; first | done | omega)
     | skip
attribute [local go_sem] weaks_bools Req.pv
theorem ref3_ReadR {b : List Int} (hb : OkB b) (hl : b.length ≤ 140737488351232) {s : St} : ACalls Tryz.prog 45 [.sl .unk (b.map (PV.int .u8))] s (fun r s' => r = .tuple [(readR b).1.pv, .int .i64 (readR b).2] ∧ s' = s) := by
 refine go Tryz.func45 (k := fun hwf H => ?_)
 refine rs (k := rg [0, 2] (k := rs (k := rs (k := rg [0, 2, 7] (k := rc (ht := fun hc0 => ?_) (hf := fun hc0 => ?_))))))
 refine jO 1 ?_; rotate_left
 refine rk (k := rs (k := rs (k := ?_)))
 have hlt : 0 < b.length := Y134
 obtain ⟨x, hx⟩ : ∃ x, b[0]? = some x := ⟨b[0], List.getElem?_eq_getElem hlt⟩
 have hxx : (b.map (PV.int .u8))[0]? = some (.int .u8 x) := Y142
 have hlT : (0 < b.length) = True := eq_true hlt
 have hx8 : U8 x := hb x (List.mem_of_getElem? hx)
 have hxw : IntKind.i64.wrap x = x := wrap_i64 Y260
 have hg0 : (b[0]?).getD 0 = x := Y320
 have H := aj hxx (aj hlT (aj hxw H))
 refine rr (k := ro (pre := [_, _, _, _]) (k := rC (h := ref3_Has (fn := x)) (k := rh [0, 2, 14] (k := rc (ht := fun hc1 => ?_) (hf := fun hc1 => ?_)))))
 refine jO 1 ?_; rotate_left
 refine rk (k := rs (k := rr (k := ro (pre := [_]) (k := rC (h := ref3_guess hb hl hx) (k := rh [0, 2, 4] (k := rs (k := rs (k := ?_))))))))
 have hGo : (guessR b).ok := guessR_ok hb hl
 have hst : ((strB (writeF (guessR b))).toList == (strB b).toList) = decide (writeF (guessR b) = b) ∨ ¬ rightF (guessR b) = 0 := by
   by_cases hg : rightF (guessR b) = 0
   · exact .inl (strB_beq (writeR_ok hGo hg) hb)
   · exact .inr hg
 refine Run.drawC [] [2, 4, 28] Tryz.mixed Y18 ?_
 refine DetC.pre (pre := [_]) au ?_
 refine DetC.call au au au Y18 (ref3_Right (q := guessR b)) ?_
 refine DetC.pre (pre := [_, _]) au ?_
 rcases hd3 : (!decide (rightF (guessR b) = 0)) with _ | _
 have H := aj hd3 H
 have hst2 : ((strB (writeF (guessR b))).toList == (strB b).toList) = decide (writeF (guessR b) = b) := hst.resolve_right (by simpa using hd3)
 have H := aj hst2 H
 refine DetC.gdo au au ?_
 refine DetC.call au au au Y18 (ref3_write hGo (by simpa using hd3)) ?_
 refine DetC.gdo au au ?_
 refine DetC.gdo au au ?_
 refine DetC.gdo au au ?_
 refine DetC.gdo au au ?_
 refine jO 2 ?_; rotate_left
 have H := aj hd3 H
 refine DetC.gskip' au ?_
 refine DetC.gskip' au ?_
 refine DetC.gskip' au ?_
 refine DetC.gskip' au ?_
 refine DetC.gskip' au ?_
 refine DetC.gskip' au ?_
 refine jO 2 ?_; rotate_left
 any_goals
   refine jI 2 ?_
   refine DetC.all au ?_
   refine jO 3 ?_; rotate_left
 any_goals
   refine jI 3 ?_
   refine re (k := rc (ht := fun hc2 => ?_) (hf := fun hc2 => ?_))
   refine jO 1 ?_; rotate_left
   refine jO 4 ?_; rotate_left
 any_goals
   refine jI 4 ?_
   refine rk (k := rs (k := rg [2, 3] (k := rR (k := ?_))))
   refine jO 5 ?_; rotate_left
 any_goals
   refine jI 1 ?_
   refine rs (k := rg [2, 3] (k := rR (k := ?_)))
   refine jO 5 ?_; rotate_left
 any_goals
   refine jI 5 ?_
   refine Ret.pure (r' := .tuple [(readR b).1.pv, .int .i64 (readR b).2]) (by simp only [Tryz.f45, go_sem, ↓reduceIte] <;> rfl) ?_ Y321 hwf Y24 ⟨rfl, rfl⟩
   refine jO 6 ?_; rotate_left
 any_goals
   refine jI 6 ?_
   simp only [PV.weak, PV.weaks, weaks_bools, weaks_u16]
   refine jO 7 ?_; rotate_left
 any_goals
   refine jI 7 ?_
   first
     | (cases hc2; done)
     | (have h0 : b = [] := List.length_eq_zero_iff.1 Y133
        unfold readR; rw [if_pos h0]; rfl)
     | (have h0 : ¬ b = [] := by intro h; rw [h] at hlt; cases hlt
        have h1 : hasF x = false := by simpa using hc1
        unfold readR; rw [if_neg h0, hg0, if_pos h1]; rfl)
     | (have h0 : ¬ b = [] := by intro h; rw [h] at hlt; cases hlt
        have h1 : ¬ hasF x = false := by simpa using hc1
        have h2 : ¬ (rightF (guessR b) = 0 ∧ writeF (guessR b) = b) := by
          rintro ⟨e1, e2⟩
          first
            | (simp [e1] at hd3; done)
            | (simp [e2] at hc2; done)
        unfold readR; rw [if_neg h0, hg0, if_neg h1, if_neg h2]; rfl)
     | (have h0 : ¬ b = [] := by intro h; rw [h] at hlt; cases hlt
        have h1 : ¬ hasF x = false := by simpa using hc1
        have h2 : rightF (guessR b) = 0 ∧ writeF (guessR b) = b := ⟨by simpa using hd3, by simpa using hc2⟩
        unfold readR; rw [if_neg h0, hg0, if_neg h1, if_pos h2]; rfl)
theorem ref3_Read {b : List Int} (hb : OkB b) (hl : b.length ≤ 140737488351232) {s : St} : ACalls Tryz.prog 45 [.sl .unk (b.map (PV.int .u8))] s (fun r s' => r = .tuple [(readF b).1.pv, .int .i64 (readF b).2] ∧ s' = s) := by
 have := ref3_ReadR hb hl (s := s)
 rwa [readR_eq hb hl] at this
attribute [local go_sem] set_set putRef_hi putRef_nxt weaks_bools Req.pv Rep.pv
theorem Y45 {p : Prop} (h : p := by simp (disch := first | omega | (simp only [nxt_set, nxt_new] <;> omega) | fail) only [go_sem, ↓reduceIte, H]; unfold PV.frz; simp only [List.map_cons, List.map_nil]; simp (disch := first | omega | (simp only [nxt_set, nxt_new] <;> omega) | fail) [PV.frz, PV.weak, go_sem, H]) : p := h
theorem Y103 {p : Prop} (h : p := by
 exact
                                                                                                                                                        (fun i hi => by
  have h0 := ltn hi; have h1 := lte hi
  simp (disch := first | omega | (simp only [nxt_set, nxt_new] <;> omega) | fail) only [go_sem, Nat.add_assoc, Nat.reduceAdd, ↓reduceIte, h0, h1]
  exact putRef_congr2 (m := s.nxt) Y94 i hi)) : p := h
theorem Y163 {p : Prop} (h : p := by simp only [Tryz.f42, go_sem, ↓reduceIte] <;> rfl) : p := h
theorem Y363 {p : Prop} (h : p := by simp [PV.blw, PV.blws]) : p := h
set_option maxRecDepth 100000 in
theorem ref8_diag {b : Nat} {D : Dev} {s : St} (hA : RefAt b D s) {q : Req} (hq : q.ok) (hc : countF q = true) (hf : q.fn = 8) : ACalls Tryz.prog 42 [.ptr (b + 5) 0 0, q.pv] s (fun r s' => r = (finR (diagF D q) q).1.pv ∧ s' = putRef b (finR (diagF D q) q).2 s) := by
 refine go Tryz.func42 (k := fun hwf H => ?_)
 have hdv := hA.dv
 unfold refRow at hdv
 have hlt := hA.lt hwf
 have hr := count_right hc
 obtain ⟨y, hye⟩ : ∃ y, q.vals = [y] := ⟨_, (one_getI (nv_6 hr (.inr hf))).symm⟩
 have hy0 : (q.vals[0]?).getD 0 = y := Y333
 have hyy : (q.vals.map (PV.int .u16))[0]? = some (.int .u16 y) := Y333
 have hyl : (0 < q.vals.length) = True := by rw [hye]; simp
 have hA1 : ∀ x y z, RefAt b D (((s.new x).new y).new z) := fun x y z => ((hA.nw hlt x).nw Y90 y).nw (by show b + 5 < s.nxt + 2; omega) z
 have hA2 : ∀ x y z w u, RefAt b D ((((((s.new x).new y).new z).new w).set (s.nxt + 2) u)) := fun x y z w u => ((hA1 x y z).nw (by show b + 5 < s.nxt + 3; omega) w).sv Y14 _
 have f1 : ((0 : Int) < ((1 : Nat) : Int)) = True := Y15
 have H := aj hyy (aj hyl (aj f1 H))
 have H := aj hdv H
 refine rs (k := rg [0, 3, 4] (k := rs (k := ?_)))
 refine Run.reserve ?_
 refine Run.drawH 11 [7, 9, 10] [[false, false, false], [true, false, false], [false, true, false], [true, true, false], [true, true, true]] [(((s.new (.row 33 [.agg [.int .i64 q.fn, .int .i64 q.at_, .int .i64 q.count, .int .i64 q.wat, .int .i64 q.sub, .sl .unk (q.bits.map PV.bool), .sl .unk (q.vals.map (PV.int .u16)), .int .u16 q.and_, .int .u16 q.or_]])).new (.row 42 [.agg [.int .i64 0, .int .i64 0, .int .i64 0, .int .i64 0, .int .i64 0, .sl .nil [], .sl .nil [], .int .u16 0, .int .u16 0, .sl .nil []]])).new .res), ((((s.new (.row 33 [.agg [.int .i64 q.fn, .int .i64 q.at_, .int .i64 q.count, .int .i64 q.wat, .int .i64 q.sub, .sl .unk (q.bits.map PV.bool), .sl .unk (q.vals.map (PV.int .u16)), .int .u16 q.and_, .int .u16 q.or_]])).new (.row 42 [.agg [.int .i64 0, .int .i64 0, .int .i64 0, .int .i64 0, .int .i64 0, .sl .nil [], .sl .nil [], .int .u16 0, .int .u16 0, .sl .nil []]])).new .res).new (.row 31 [.int .u16 y])), ((((s.new (.row 33 [.agg [.int .i64 q.fn, .int .i64 q.at_, .int .i64 q.count, .int .i64 q.wat, .int .i64 q.sub, .sl .unk (q.bits.map PV.bool), .sl .unk (q.vals.map (PV.int .u16)), .int .u16 q.and_, .int .u16 q.or_]])).new (.row 42 [.agg [.int .i64 0, .int .i64 0, .int .i64 0, .int .i64 0, .int .i64 0, .sl .nil [], .sl .nil [], .int .u16 0, .int .u16 0, .sl .nil []]])).new .res).set (s.nxt + 2) (some (.row 42 [.agg [.int .i64 0, .int .i64 0, .int .i64 0, .int .i64 0, .int .i64 0, .sl .nil [], .sl .nil [], .int .u16 0, .int .u16 0, .sl .nil []]]))), (((((s.new (.row 33 [.agg [.int .i64 q.fn, .int .i64 q.at_, .int .i64 q.count, .int .i64 q.wat, .int .i64 q.sub, .sl .unk (q.bits.map PV.bool), .sl .unk (q.vals.map (PV.int .u16)), .int .u16 q.and_, .int .u16 q.or_]])).new (.row 42 [.agg [.int .i64 0, .int .i64 0, .int .i64 0, .int .i64 0, .int .i64 0, .sl .nil [], .sl .nil [], .int .u16 0, .int .u16 0, .sl .nil []]])).new .res).new (.row 31 [.int .u16 y])).set (s.nxt + 2) (some (.row 42 [.agg [.int .i64 0, .int .i64 0, .int .i64 0, .int .i64 0, .int .i64 0, .sl .nil [], .sl .nil [], .int .u16 0, .int .u16 0, .sl .nil []]]))), (((((s.new (.row 33 [.agg [.int .i64 q.fn, .int .i64 q.at_, .int .i64 q.count, .int .i64 q.wat, .int .i64 q.sub, .sl .unk (q.bits.map PV.bool), .sl .unk (q.vals.map (PV.int .u16)), .int .u16 q.and_, .int .u16 q.or_]])).new (.row 42 [.agg [.int .i64 0, .int .i64 0, .int .i64 0, .int .i64 0, .int .i64 0, .sl .nil [], .sl .nil [], .int .u16 0, .int .u16 0, .sl .nil []]])).new .res).new (.row 31 [.int .u16 y])).set (s.nxt + 2) (some (.row 42 [.agg [.int .i64 q.fn, .int .i64 0, .int .i64 0, .int .i64 0, .int .i64 q.sub, .sl .nil [], .own (s.nxt + 3) 0 1, .int .u16 0, .int .u16 0, .sl .nil []]])))] ((((((s.new (.row 33 [.agg [.int .i64 q.fn, .int .i64 q.at_, .int .i64 q.count, .int .i64 q.wat, .int .i64 q.sub, .sl .unk (q.bits.map PV.bool), .sl .unk (q.vals.map (PV.int .u16)), .int .u16 q.and_, .int .u16 q.or_]])).new (.row 42 [.agg [.int .i64 0, .int .i64 0, .int .i64 0, .int .i64 0, .int .i64 0, .sl .nil [], .sl .nil [], .int .u16 0, .int .u16 0, .sl .nil []]])).new .res).new (.row 31 [.int .u16 y])).set (s.nxt + 2) (some (.row 42 [.agg [.int .i64 q.fn, .int .i64 0, .int .i64 0, .int .i64 0, .int .i64 q.sub, .sl .nil [], .own (s.nxt + 3) 0 1, .int .u16 0, .int .u16 0, .sl .nil []]])))) Tryz.mixed Y18 Y18 Y18 Y18 Y18 rfl Y18 rfl ?_
 refine DetHC.pre (pre := [_, _, _, _, _, _, _]) (s1 := (((s.new (.row 33 [.agg [.int .i64 q.fn, .int .i64 q.at_, .int .i64 q.count, .int .i64 q.wat, .int .i64 q.sub, .sl .unk (q.bits.map PV.bool), .sl .unk (q.vals.map (PV.int .u16)), .int .u16 q.and_, .int .u16 q.or_]])).new (.row 42 [.agg [.int .i64 0, .int .i64 0, .int .i64 0, .int .i64 0, .int .i64 0, .sl .nil [], .sl .nil [], .int .u16 0, .int .u16 0, .sl .nil []]])).new .res)) [0, 1, 2, 3] [(((s.new (.row 33 [.agg [.int .i64 q.fn, .int .i64 q.at_, .int .i64 q.count, .int .i64 q.wat, .int .i64 q.sub, .sl .unk (q.bits.map PV.bool), .sl .unk (q.vals.map (PV.int .u16)), .int .u16 q.and_, .int .u16 q.or_]])).new (.row 42 [.agg [.int .i64 0, .int .i64 0, .int .i64 0, .int .i64 0, .int .i64 0, .sl .nil [], .sl .nil [], .int .u16 0, .int .u16 0, .sl .nil []]])).new .res), ((((s.new (.row 33 [.agg [.int .i64 q.fn, .int .i64 q.at_, .int .i64 q.count, .int .i64 q.wat, .int .i64 q.sub, .sl .unk (q.bits.map PV.bool), .sl .unk (q.vals.map (PV.int .u16)), .int .u16 q.and_, .int .u16 q.or_]])).new (.row 42 [.agg [.int .i64 0, .int .i64 0, .int .i64 0, .int .i64 0, .int .i64 0, .sl .nil [], .sl .nil [], .int .u16 0, .int .u16 0, .sl .nil []]])).new .res).new (.row 31 [.int .u16 y])), ((((s.new (.row 33 [.agg [.int .i64 q.fn, .int .i64 q.at_, .int .i64 q.count, .int .i64 q.wat, .int .i64 q.sub, .sl .unk (q.bits.map PV.bool), .sl .unk (q.vals.map (PV.int .u16)), .int .u16 q.and_, .int .u16 q.or_]])).new (.row 42 [.agg [.int .i64 0, .int .i64 0, .int .i64 0, .int .i64 0, .int .i64 0, .sl .nil [], .sl .nil [], .int .u16 0, .int .u16 0, .sl .nil []]])).new .res).set (s.nxt + 2) (some (.row 42 [.agg [.int .i64 0, .int .i64 0, .int .i64 0, .int .i64 0, .int .i64 0, .sl .nil [], .sl .nil [], .int .u16 0, .int .u16 0, .sl .nil []]]))), (((((s.new (.row 33 [.agg [.int .i64 q.fn, .int .i64 q.at_, .int .i64 q.count, .int .i64 q.wat, .int .i64 q.sub, .sl .unk (q.bits.map PV.bool), .sl .unk (q.vals.map (PV.int .u16)), .int .u16 q.and_, .int .u16 q.or_]])).new (.row 42 [.agg [.int .i64 0, .int .i64 0, .int .i64 0, .int .i64 0, .int .i64 0, .sl .nil [], .sl .nil [], .int .u16 0, .int .u16 0, .sl .nil []]])).new .res).new (.row 31 [.int .u16 y])).set (s.nxt + 2) (some (.row 42 [.agg [.int .i64 0, .int .i64 0, .int .i64 0, .int .i64 0, .int .i64 0, .sl .nil [], .sl .nil [], .int .u16 0, .int .u16 0, .sl .nil []]])))] Y18 rfl au ?_
 refine DetHC.appF (kx := .clip) (ky := .unk) (xs := []) (ys := q.vals.map (PV.int .u16)) (v := .own (s.nxt + 3) 0 1) [(0, 1), (2, 3)] [((((s.new (.row 33 [.agg [.int .i64 q.fn, .int .i64 q.at_, .int .i64 q.count, .int .i64 q.wat, .int .i64 q.sub, .sl .unk (q.bits.map PV.bool), .sl .unk (q.vals.map (PV.int .u16)), .int .u16 q.and_, .int .u16 q.or_]])).new (.row 42 [.agg [.int .i64 0, .int .i64 0, .int .i64 0, .int .i64 0, .int .i64 0, .sl .nil [], .sl .nil [], .int .u16 0, .int .u16 0, .sl .nil []]])).new .res), ((((s.new (.row 33 [.agg [.int .i64 q.fn, .int .i64 q.at_, .int .i64 q.count, .int .i64 q.wat, .int .i64 q.sub, .sl .unk (q.bits.map PV.bool), .sl .unk (q.vals.map (PV.int .u16)), .int .u16 q.and_, .int .u16 q.or_]])).new (.row 42 [.agg [.int .i64 0, .int .i64 0, .int .i64 0, .int .i64 0, .int .i64 0, .sl .nil [], .sl .nil [], .int .u16 0, .int .u16 0, .sl .nil []]])).new .res).new (.row 31 [.int .u16 y]))), (((((s.new (.row 33 [.agg [.int .i64 q.fn, .int .i64 q.at_, .int .i64 q.count, .int .i64 q.wat, .int .i64 q.sub, .sl .unk (q.bits.map PV.bool), .sl .unk (q.vals.map (PV.int .u16)), .int .u16 q.and_, .int .u16 q.or_]])).new (.row 42 [.agg [.int .i64 0, .int .i64 0, .int .i64 0, .int .i64 0, .int .i64 0, .sl .nil [], .sl .nil [], .int .u16 0, .int .u16 0, .sl .nil []]])).new .res).set (s.nxt + 2) (some (.row 42 [.agg [.int .i64 0, .int .i64 0, .int .i64 0, .int .i64 0, .int .i64 0, .sl .nil [], .sl .nil [], .int .u16 0, .int .u16 0, .sl .nil []]]))), (((((s.new (.row 33 [.agg [.int .i64 q.fn, .int .i64 q.at_, .int .i64 q.count, .int .i64 q.wat, .int .i64 q.sub, .sl .unk (q.bits.map PV.bool), .sl .unk (q.vals.map (PV.int .u16)), .int .u16 q.and_, .int .u16 q.or_]])).new (.row 42 [.agg [.int .i64 0, .int .i64 0, .int .i64 0, .int .i64 0, .int .i64 0, .sl .nil [], .sl .nil [], .int .u16 0, .int .u16 0, .sl .nil []]])).new .res).new (.row 31 [.int .u16 y])).set (s.nxt + 2) (some (.row 42 [.agg [.int .i64 0, .int .i64 0, .int .i64 0, .int .i64 0, .int .i64 0, .sl .nil [], .sl .nil [], .int .u16 0, .int .u16 0, .sl .nil []]]))))] Y18 rfl au au au Tryz.td30 Y136 (by intro p hp; cases hp) (isEls_map (P := Tryz.prog) (e := 31) (f := PV.int .u16) (fun a => ⟨rfl, Y137⟩) _) Y138 (by rw [Tryz.by31, List.length_map, hye]; simp) (by intro q hq; simp only [List.mem_cons, List.not_mem_nil, or_false] at hq; rcases hq with rfl | rfl <;> (unfold aAppendFirst; rw [hye, List.map_cons, List.map_nil]; dsimp only; rw [if_pos Y70]; refine congrArg some (Prod.ext rfl ?_); first | rfl | exact St.eq_of rfl fun i => by (by_cases e3 : i = s.nxt + 3 <;> by_cases e2 : i = s.nxt + 2 <;> simp only [blk_set, blk_new, nxt_new, nxt_set, List.nil_append, Nat.add_assoc, Nat.reduceAdd, e3, e2, if_true, if_false, Nat.add_left_cancel_iff, Nat.reduceEqDiff]))) ?_
 refine DetHC.pre (pre := [_]) (s1 := ((((s.new (.row 33 [.agg [.int .i64 q.fn, .int .i64 q.at_, .int .i64 q.count, .int .i64 q.wat, .int .i64 q.sub, .sl .unk (q.bits.map PV.bool), .sl .unk (q.vals.map (PV.int .u16)), .int .u16 q.and_, .int .u16 q.or_]])).new (.row 42 [.agg [.int .i64 0, .int .i64 0, .int .i64 0, .int .i64 0, .int .i64 0, .sl .nil [], .sl .nil [], .int .u16 0, .int .u16 0, .sl .nil []]])).new .res).new (.row 31 [.int .u16 y]))) [1, 3] [((((s.new (.row 33 [.agg [.int .i64 q.fn, .int .i64 q.at_, .int .i64 q.count, .int .i64 q.wat, .int .i64 q.sub, .sl .unk (q.bits.map PV.bool), .sl .unk (q.vals.map (PV.int .u16)), .int .u16 q.and_, .int .u16 q.or_]])).new (.row 42 [.agg [.int .i64 0, .int .i64 0, .int .i64 0, .int .i64 0, .int .i64 0, .sl .nil [], .sl .nil [], .int .u16 0, .int .u16 0, .sl .nil []]])).new .res).new (.row 31 [.int .u16 y])), (((((s.new (.row 33 [.agg [.int .i64 q.fn, .int .i64 q.at_, .int .i64 q.count, .int .i64 q.wat, .int .i64 q.sub, .sl .unk (q.bits.map PV.bool), .sl .unk (q.vals.map (PV.int .u16)), .int .u16 q.and_, .int .u16 q.or_]])).new (.row 42 [.agg [.int .i64 0, .int .i64 0, .int .i64 0, .int .i64 0, .int .i64 0, .sl .nil [], .sl .nil [], .int .u16 0, .int .u16 0, .sl .nil []]])).new .res).new (.row 31 [.int .u16 y])).set (s.nxt + 2) (some (.row 42 [.agg [.int .i64 0, .int .i64 0, .int .i64 0, .int .i64 0, .int .i64 0, .sl .nil [], .sl .nil [], .int .u16 0, .int .u16 0, .sl .nil []]])))] Y18 rfl au ?_
 refine DetHC.resAlloc (id := s.nxt + 2) [(0, 2), (1, 3)] [((((s.new (.row 33 [.agg [.int .i64 q.fn, .int .i64 q.at_, .int .i64 q.count, .int .i64 q.wat, .int .i64 q.sub, .sl .unk (q.bits.map PV.bool), .sl .unk (q.vals.map (PV.int .u16)), .int .u16 q.and_, .int .u16 q.or_]])).new (.row 42 [.agg [.int .i64 0, .int .i64 0, .int .i64 0, .int .i64 0, .int .i64 0, .sl .nil [], .sl .nil [], .int .u16 0, .int .u16 0, .sl .nil []]])).new .res), ((((s.new (.row 33 [.agg [.int .i64 q.fn, .int .i64 q.at_, .int .i64 q.count, .int .i64 q.wat, .int .i64 q.sub, .sl .unk (q.bits.map PV.bool), .sl .unk (q.vals.map (PV.int .u16)), .int .u16 q.and_, .int .u16 q.or_]])).new (.row 42 [.agg [.int .i64 0, .int .i64 0, .int .i64 0, .int .i64 0, .int .i64 0, .sl .nil [], .sl .nil [], .int .u16 0, .int .u16 0, .sl .nil []]])).new .res).set (s.nxt + 2) (some (.row 42 [.agg [.int .i64 0, .int .i64 0, .int .i64 0, .int .i64 0, .int .i64 0, .sl .nil [], .sl .nil [], .int .u16 0, .int .u16 0, .sl .nil []]])))), (((((s.new (.row 33 [.agg [.int .i64 q.fn, .int .i64 q.at_, .int .i64 q.count, .int .i64 q.wat, .int .i64 q.sub, .sl .unk (q.bits.map PV.bool), .sl .unk (q.vals.map (PV.int .u16)), .int .u16 q.and_, .int .u16 q.or_]])).new (.row 42 [.agg [.int .i64 0, .int .i64 0, .int .i64 0, .int .i64 0, .int .i64 0, .sl .nil [], .sl .nil [], .int .u16 0, .int .u16 0, .sl .nil []]])).new .res).new (.row 31 [.int .u16 y])), (((((s.new (.row 33 [.agg [.int .i64 q.fn, .int .i64 q.at_, .int .i64 q.count, .int .i64 q.wat, .int .i64 q.sub, .sl .unk (q.bits.map PV.bool), .sl .unk (q.vals.map (PV.int .u16)), .int .u16 q.and_, .int .u16 q.or_]])).new (.row 42 [.agg [.int .i64 0, .int .i64 0, .int .i64 0, .int .i64 0, .int .i64 0, .sl .nil [], .sl .nil [], .int .u16 0, .int .u16 0, .sl .nil []]])).new .res).new (.row 31 [.int .u16 y])).set (s.nxt + 2) (some (.row 42 [.agg [.int .i64 0, .int .i64 0, .int .i64 0, .int .i64 0, .int .i64 0, .sl .nil [], .sl .nil [], .int .u16 0, .int .u16 0, .sl .nil []]]))))] Y18 rfl au rfl (by rw [Tryz.zp42]) Y29 ?_
 refine DetHC.eff [(3, 4)] ((((((s.new (.row 33 [.agg [.int .i64 q.fn, .int .i64 q.at_, .int .i64 q.count, .int .i64 q.wat, .int .i64 q.sub, .sl .unk (q.bits.map PV.bool), .sl .unk (q.vals.map (PV.int .u16)), .int .u16 q.and_, .int .u16 q.or_]])).new (.row 42 [.agg [.int .i64 0, .int .i64 0, .int .i64 0, .int .i64 0, .int .i64 0, .sl .nil [], .sl .nil [], .int .u16 0, .int .u16 0, .sl .nil []]])).new .res).new (.row 31 [.int .u16 y])).set (s.nxt + 2) (some (.row 42 [.agg [.int .i64 0, .int .i64 0, .int .i64 0, .int .i64 0, .int .i64 0, .sl .nil [], .sl .nil [], .int .u16 0, .int .u16 0, .sl .nil []]])))) ((((((s.new (.row 33 [.agg [.int .i64 q.fn, .int .i64 q.at_, .int .i64 q.count, .int .i64 q.wat, .int .i64 q.sub, .sl .unk (q.bits.map PV.bool), .sl .unk (q.vals.map (PV.int .u16)), .int .u16 q.and_, .int .u16 q.or_]])).new (.row 42 [.agg [.int .i64 0, .int .i64 0, .int .i64 0, .int .i64 0, .int .i64 0, .sl .nil [], .sl .nil [], .int .u16 0, .int .u16 0, .sl .nil []]])).new .res).new (.row 31 [.int .u16 y])).set (s.nxt + 2) (some (.row 42 [.agg [.int .i64 q.fn, .int .i64 0, .int .i64 0, .int .i64 0, .int .i64 q.sub, .sl .nil [], .own (s.nxt + 3) 0 1, .int .u16 0, .int .u16 0, .sl .nil []]])))) [] Y18 rfl au au au ?_
 refine DetHC.nil ?_
 refine rl [0, 3, 4, 5] (k := rs (k := rg [0, 3, 4, 5] (k := rs (k := rs (k := rg [0, 3, 4, 5, 17] (k := rb (k := rs (k := rg [0, 3, 4, 5, 17, 22] (k := rc (ht := fun hc0 => ?_) (hf := fun hc0 => ?_))))))))))
 have hc := hc0
 refine rs (k := rr (k := ro (pre := [_]) (k := ?_)))
 refine RunO.thaw 24 (s.nxt + 3) 3 (v := .agg [.int .i64 q.fn, .int .i64 0, .int .i64 0, .int .i64 0, .int .i64 q.sub, .sl .nil [], .sl .unk [.int .u16 y], .int .u16 0, .int .u16 0, .sl .nil []]) Y45 Y363 ?_
 refine jO 1 ?_; rotate_left
 have hc := hc0
 refine rs (k := rg [0, 3, 4, 5, 17, 25] (k := rc (ht := fun hc1 => ?_) (hf := fun hc1 => ?_)))
 have hc := hc1
 refine rs (k := rg [4, 5] (k := rs (k := rr (k := ro (pre := [_]) (k := ?_)))))
 refine RunO.thaw 33 (s.nxt + 3) 3 (v := .agg [.int .i64 q.fn, .int .i64 0, .int .i64 0, .int .i64 0, .int .i64 q.sub, .sl .nil [], .sl .unk [.int .u16 y], .int .u16 0, .int .u16 0, .sl .nil []]) Y45 Y363 ?_
 refine jO 1 ?_; rotate_left
 have hc := hc1
 refine rs (k := rs (k := rg [0, 3, 4, 5, 17, 34] (k := rc (ht := fun hc2 => ?_) (hf := fun hc2 => ?_))))
 have hc := hc2
 refine rk (k := rc (ht := fun hc3 => ?_) (hf := fun hc3 => ?_))
 refine jO 2 ?_; rotate_left
 · exact Y197
 have hc := hc2
 refine rg [0, 3, 4, 5, 17, 34] (k := rc (ht := fun hc3 => ?_) (hf := fun hc3 => ?_))
 refine jO 2 ?_; rotate_left
 have hc := hc3
 refine rs (k := rg [0, 3, 4, 5, 41] (k := rc (ht := fun hc4 => ?_) (hf := fun hc4 => ?_)))
 have hc := hc4
 refine rg [0, 3, 4, 5, 6] (k := rB (k := rs (k := rs (k := rg [0, 3, 4, 5, 6, 51] (k := rc (ht := fun hc5 => ?_) (hf := fun hc5 => ?_))))))
 refine jO 3 ?_; rotate_left
 have hc := hc5
 refine rk (k := rs (k := rg [4, 5] (k := rs (k := rr (k := ro (pre := [_]) (k := ?_))))))
 refine RunO.thaw 61 (s.nxt + 3) 3 (v := .agg [.int .i64 q.fn, .int .i64 0, .int .i64 0, .int .i64 0, .int .i64 q.sub, .sl .nil [], .sl .unk [.int .u16 (IntKind.u16.wrap D.exc)], .int .u16 0, .int .u16 0, .sl .nil []]) Y45 Y363 ?_
 refine jO 1 ?_; rotate_left
 have hc := hc4
 refine jO 4 ?_; rotate_left
 any_goals
   refine jI 2 ?_
   have hc := hc3
   refine jO 5 ?_; rotate_left
 any_goals
   refine jI 5 ?_
   refine rg [0, 3, 4, 5, 6] (k := rB (k := rs (k := rs (k := rg [0, 3, 4, 5, 6, 51] (k := rc (ht := fun hc5 => ?_) (hf := fun hc5 => ?_))))))
   refine jO 3 ?_; rotate_left
   refine jO 6 ?_; rotate_left
 any_goals
   refine jI 6 ?_
   have hc := hc5
   refine jO 7 ?_; rotate_left
 any_goals
   refine jI 7 ?_
   refine rk (k := rs (k := rg [4, 5] (k := rs (k := rr (k := ro (pre := [_]) (k := ?_))))))
   refine jO 8 ?_; rotate_left
 any_goals
   refine jI 8 ?_
   refine RunO.thaw 61 (s.nxt + 3) 3 (v := .agg [.int .i64 q.fn, .int .i64 0, .int .i64 0, .int .i64 0, .int .i64 q.sub, .sl .nil [], .sl .unk [.int .u16 (IntKind.u16.wrap D.msgs)], .int .u16 0, .int .u16 0, .sl .nil []]) Y45 Y363 ?_
   refine jO 1 ?_; rotate_left
 any_goals
   refine jI 3 ?_
   have hc := hc5
   refine jO 4 ?_; rotate_left
 any_goals
   refine jI 4 ?_
   refine rs (k := rr (k := ro (pre := [_, _, _]) (k := ?_)))
   refine jO 9 ?_; rotate_left
 any_goals
   refine jI 9 ?_
   refine RunO.callw au au au Y18 ((ref8_refuse (hA2 _ _ _ _ _)).mono ?_)
   refine jO 10 ?_; rotate_left
 any_goals
   refine jI 1 ?_
   refine ro (pre := [_]) (k := rl [4] (k := rR (k := ?_)))
   refine jO 11 ?_; rotate_left
 any_goals
   refine jI 10 ?_
   rintro r s1 ⟨rfl, rfl⟩
   refine jO 12 ?_; rotate_left
 any_goals
   refine jI 12 ?_
   refine rh [4] (k := rR (k := ?_))
   refine jO 11 ?_; rotate_left
 any_goals
   refine jI 11 ?_
   simp only [decide_eq_true_eq, decide_eq_false_iff_not, Bool.not_eq_true', Bool.not_eq_false'] at *
   refine jO 13 ?_; rotate_left
 any_goals
   refine jI 13 ?_
   first
     | (have hB : finR (diagF D q) q = (⟨q.fn, 0, 0, 0, q.sub, [], [y], 0, 0, []⟩, D) := by
          unfold diagF
          simp only [hy0]
          rw [if_pos Y14]; rfl
        refine Ret.refd (D) hA (r' := (⟨q.fn, 0, 0, 0, q.sub, [], [y], 0, 0, []⟩ : Rep).pv) Y163 ?_ (blw_rep _ _) hwf  (fun i hi => by
          have h0 := ltn hi; have h1 := lte hi
          rw [putRef_blk]
          simp (disch := first | omega | (simp only [nxt_set, nxt_new] <;> omega) | fail) only [go_sem, Nat.add_assoc, Nat.reduceAdd, ↓reduceIte, h0, h1]
          (repeat' split) <;> first | rfl | (rename_i e; rw [e]; first | exact hA.dv | exact hA.v1 | exact hA.v0 | exact hA.c1 | exact hA.c0) | (exfalso; omega)) ⟨Y91, Y91⟩
        simp only [Rep.pv, PV.weak, PV.weaks, weaks_u16, weaks_bools, weaks_u8]; first | done | rfl)
     | (have hB : finR (diagF D q) q = (⟨q.fn, 0, 0, 0, q.sub, [], [y], 0, 0, []⟩, { D with msgs := 0, exc := 0 }) := by
          unfold diagF
          simp only [hy0]
          rw [if_neg Y14, if_pos Y14]; rfl
        refine Ret.refd ({ D with msgs := 0, exc := 0 }) hA (r' := (⟨q.fn, 0, 0, 0, q.sub, [], [y], 0, 0, []⟩ : Rep).pv) Y163 ?_ (blw_rep _ _) hwf  (fun i hi => by
          have h0 := ltn hi; have h1 := lte hi
          rw [putRef_blk]
          simp (disch := first | omega | (simp only [nxt_set, nxt_new] <;> omega) | fail) only [go_sem, Nat.add_assoc, Nat.reduceAdd, ↓reduceIte, h0, h1]
          (repeat' split) <;> first | rfl | (rename_i e; rw [e]; first | exact hA.dv | exact hA.v1 | exact hA.v0 | exact hA.c1 | exact hA.c0) | (exfalso; omega)) ⟨Y91, Y91⟩
        simp only [Rep.pv, PV.weak, PV.weaks, weaks_u16, weaks_bools, weaks_u8]; first | done | rfl)
     | (have hB : finR (diagF D q) q = ((refD D q.fn 3).1, (refD D q.fn 3).2) := by
          unfold diagF
          simp only [hy0]
          rw [if_neg Y14, if_neg Y14, if_pos Y14, if_pos Y14]; rfl
        refine Ret.refd ((refD D q.fn 3).2) hA (r' := ((refD D q.fn 3).1 : Rep).pv) Y163 ?_ (blw_rep _ _) hwf  Y103 ⟨Y91, Y91⟩
        simp only [Rep.pv, PV.weak, PV.weaks, weaks_u16, weaks_bools, weaks_u8]; first | done | rfl)
     | (have hB : finR (diagF D q) q = (⟨q.fn, 0, 0, 0, q.sub, [], [IntKind.u16.wrap D.exc], 0, 0, []⟩, D) := by
          unfold diagF
          simp only [hy0]
          rw [if_neg Y14, if_neg Y14, if_pos Y14, if_neg Y14, if_pos Y14]; rfl
        refine Ret.refd (D) hA (r' := (⟨q.fn, 0, 0, 0, q.sub, [], [IntKind.u16.wrap D.exc], 0, 0, []⟩ : Rep).pv) Y163 ?_ (blw_rep _ _) hwf  (fun i hi => by
          have h0 := ltn hi; have h1 := lte hi
          rw [putRef_blk]
          simp (disch := first | omega | (simp only [nxt_set, nxt_new] <;> omega) | fail) only [go_sem, Nat.add_assoc, Nat.reduceAdd, ↓reduceIte, h0, h1]
          (repeat' split) <;> first | rfl | (rename_i e; rw [e]; first | exact hA.dv | exact hA.v1 | exact hA.v0 | exact hA.c1 | exact hA.c0) | (exfalso; omega)) ⟨Y91, Y91⟩
        simp only [Rep.pv, PV.weak, PV.weaks, weaks_u16, weaks_bools, weaks_u8]; first | done | rfl)
     | (have hB : finR (diagF D q) q = (⟨q.fn, 0, 0, 0, q.sub, [], [IntKind.u16.wrap D.msgs], 0, 0, []⟩, D) := by
          unfold diagF
          simp only [hy0]
          rw [if_neg Y14, if_neg Y14, if_pos Y14, if_neg Y14, if_neg Y14]; rfl
        refine Ret.refd (D) hA (r' := (⟨q.fn, 0, 0, 0, q.sub, [], [IntKind.u16.wrap D.msgs], 0, 0, []⟩ : Rep).pv) Y163 ?_ (blw_rep _ _) hwf  (fun i hi => by
          have h0 := ltn hi; have h1 := lte hi
          rw [putRef_blk]
          simp (disch := first | omega | (simp only [nxt_set, nxt_new] <;> omega) | fail) only [go_sem, Nat.add_assoc, Nat.reduceAdd, ↓reduceIte, h0, h1]
          (repeat' split) <;> first | rfl | (rename_i e; rw [e]; first | exact hA.dv | exact hA.v1 | exact hA.v0 | exact hA.c1 | exact hA.c0) | (exfalso; omega)) ⟨Y91, Y91⟩
        simp only [Rep.pv, PV.weak, PV.weaks, weaks_u16, weaks_bools, weaks_u8]; first | done | rfl)
     | (have hB : finR (diagF D q) q = ((refD D q.fn 3).1, (refD D q.fn 3).2) := by
          unfold diagF
          simp only [hy0]
          rw [if_neg Y14, if_neg Y14, if_neg Y14]; rfl
        refine Ret.refd ((refD D q.fn 3).2) hA (r' := ((refD D q.fn 3).1 : Rep).pv) Y163 ?_ (blw_rep _ _) hwf  Y103 ⟨Y91, Y91⟩
        simp only [Rep.pv, PV.weak, PV.weaks, weaks_u16, weaks_bools, weaks_u8]; first | done | rfl)
end Go.Proofs
namespace Go.Proofs
open Go.PM
set_option maxHeartbeats 2000000
attribute [local go_sem] set_set putRef_hi putRef_nxt weaks_bools Req.pv Rep.pv
theorem Y46 {p : Prop} (h : p := by rw [hS2]; simp (disch := first | omega | (simp only [nxt_set, nxt_new] <;> omega) | fail) only [go_sem]; exact g0) : p := h
theorem Y47 {p : Prop} (h : p := by rw [hS2]; simp (disch := first | omega | (simp only [nxt_set, nxt_new] <;> omega) | fail) only [go_sem, gn] <;> rfl) : p := h
theorem Y48 {p : Prop} (h : p := by rw [hS2]; simp (disch := first | omega | (simp only [nxt_set, nxt_new] <;> omega) | fail) only [go_sem]; exact g1) : p := h
theorem Y49 {p : Prop} (h : p := by simp only [Tryz.f13, go_sem, ↓reduceIte] <;> rfl) : p := h
theorem Y50 {p : Prop} (h : p := by rw [hB]; simp only [Rep.pv, PV.weak, PV.weaks, weaks_u16, weaks_bools, weaks_u8]; first | done | rfl) : p := h
theorem Y104 {p : Prop} (h : p := by
 exact
                                 (fun j hj hj2 => by
  have h0 := ltn hj; have h1 := lte hj; have h2 : (j = S.nxt) = False := eq_false Y272
  first
  | exact gf j hj Y14
  | (rcases hj2 with hj2 | hj2
     · simp (disch := first | omega | (simp only [nxt_set, nxt_new] <;> omega) | fail) only [h2, ↓reduceIte, go_sem, putRef_lo, putRef_put]; exact gf j hj Y14
     · simp (disch := first | omega | (simp only [nxt_set, nxt_new] <;> omega) | fail) only [h2, ↓reduceIte, go_sem, putRef_hi, putRef_put]; exact gf j hj Y14))) : p := h
theorem Y51 {p : Prop} (h : p := by
 exact
        (fun i hi => by
  have h0 := ltn hi; have h1 := lte hi; have h2 : (i = S.nxt) = False := eq_false Y272
  simp (disch := first | omega | (simp only [nxt_set, nxt_new] <;> omega) | fail) only [h2, go_sem, Nat.add_assoc, Nat.reduceAdd, ↓reduceIte, h0, h1]
  exact putRef_congr2 (m := s.nxt) Y104 i hi)) : p := h
theorem Y52 {p : Prop} (h : p := by
 exact
        (fun i hi => by
  have h0 := ltn hi; have h1 := lte hi; have h2 : (i = S.nxt) = False := eq_false Y272
  rw [putRef_blk]
  simp (disch := first | omega | (simp only [nxt_set, nxt_new] <;> omega) | fail) only [h2, go_sem, Nat.add_assoc, Nat.reduceAdd, ↓reduceIte, h0, h1]
  (repeat' split) <;> first | rfl | (rename_i e; rw [e]; first | exact gA.dv | exact gA.v1 | exact gA.v0 | exact gA.c1 | exact gA.c0) | exact gf i hi ‹_› | (exfalso; omega))) : p := h
theorem Y105 {p : Prop} (h : p := by have := hT.1; rwa [ha1, ha2] at this) : p := h
theorem Y106 {p : Prop} (h : p := by have := hT.2; rwa [ha3, ha4] at this) : p := h
theorem Y107 {p : Prop} (h : p := by
 exact
        (fun i hi => by
  have h0 := ltn hi; have h1 := lte hi; have h2 : (i = S.nxt) = False := eq_false Y272
  rw [putRef_blk]
  simp (disch := first | omega | (simp only [nxt_set, nxt_new] <;> omega) | fail) only [hmb, h2, go_sem, Nat.add_assoc, Nat.reduceAdd, ↓reduceIte, h0, h1]
  (repeat' split) <;> first | rfl | (rename_i e; rw [e]; first | exact gA.dv | exact gA.v1 | exact gA.v0 | exact gA.c1 | exact gA.c0) | exact gf i hi ‹_› | (exfalso; omega))) : p := h
theorem Y164 {p : Prop} (h : p := by rw [ha]) : p := h
theorem Y165 {p : Prop} (h : p := by rw [hS2]; simp only [nxt_set, nxt_new, gn]) : p := h
theorem Y364 {p : Prop} (h : p := by exact (fun s hs => by rw [List.mem_singleton.1 hs]; exact hcall _ gA13)) : p := h
set_option maxRecDepth 100000 in
theorem ref8_Do {b : Nat} {D : Dev} {s : St} (hA : RefAt b D s) (hD : D.ok) {q : Req} (hq : q.ok) : ACalls Tryz.prog 13 [.ptr (b + 5) 0 0, q.pv] s (fun r s' => r = (doF D q).1.pv ∧ s' = putRef b (doF D q).2 s) := by
 refine go Tryz.func13 (k := fun hwf H => ?_)
 have hdv := hA.dv
 unfold refRow at hdv
 have hlt := hA.lt hwf
 have hinc : IntKind.i64.wrap (D.msgs + 1) = inc D.msgs := rfl
 have hDu := inc_ok hD
 have hd2 : D.c0.length ≤ 65536 := hD.h2
 have hd3 := hD.c1
 have hd4 := hD.v0
 have hd5 := hD.v1
 have hu8 : IntKind.u8.wrap D.unit = D.unit := by have := hD.unit; unfold U8 at this; rw [u8_wrap]; omega
 have H := aj hdv (aj hinc (aj hu8 H))
 refine rs (k := rg [0, 3, 4] (k := rs (k := rg [0, 3, 4] (k := rs (k := rs (k := ?_))))))
 refine Run.genS fun S hS => ?_
 have g0 : S.blk s.nxt = some (.row 33 [.agg [.int .i64 q.fn, .int .i64 q.at_, .int .i64 q.count, .int .i64 q.wat, .int .i64 q.sub, .sl .unk (q.bits.map PV.bool), .sl .unk (q.vals.map (PV.int .u16)), .int .u16 q.and_, .int .u16 q.or_]]) := Y37
 have g1 : S.blk (s.nxt + 1) = some (.row 42 [.agg [.int .i64 0, .int .i64 0, .int .i64 0, .int .i64 0, .int .i64 0, .sl .nil [], .sl .nil [], .int .u16 0, .int .u16 0, .sl .nil []]]) := Y37
 have gA : RefAt b D.up S := by
   have e : ∀ i, i ≤ b + 5 → i ≠ b + 5 → S.blk i = s.blk i := fun i h1 h2 => Y38
   exact ⟨Y210, Y211, Y212, Y213, Y214, Y37⟩
 have gn : S.nxt = s.nxt + 2 := by rw [hS]; rfl
 have gf : ∀ i, i < s.nxt → i ≠ b + 5 → S.blk i = s.blk i := fun i h1 h2 => Y38
 clear hS
 have gd := gA.dv
 unfold refRow at gd
 have H := aj g0 (aj g1 (aj gn (aj gd H)))
 refine rr (k := ro (pre := [_, _]) (k := rC (h := ref3_Has (fn := q.fn)) (k := rh [0, 3, 4, 22] (k := rc (ht := fun hc0 => ?_) (hf := fun hc0 => ?_)))))
 refine jO 1 ?_; rotate_left
 refine rk (k := rs (k := rs (k := rr (k := ro (pre := [_]) (k := rC (h := ref3_Counts (q := q)) (k := rh [0, 3, 4, 29] (k := rc (ht := fun hc1 => ?_) (hf := fun hc1 => ?_))))))))
 refine jO 1 ?_; rotate_left
 refine rk (k := rs (k := ?_))
 have hcO : countF q = true := by simpa using hc1
 refine rr (k := ro (pre := [_]) (k := rC (h := ref8_Asked (q := q)) (k := rh [0, 3, 4, 5, 6, 7, 8] (k := rs (k := rs (k := rr (k := ro (pre := [_, _, _, _, _, _]) (k := rC (h := ref8_there gA.st hd2) (k := ro (pre := [_, _, _, _, _, _, _, _]) (k := rG (h := fun hb => ref8_there gA.st hd2) (k := rh [0, 3, 4, 5, 6, 7, 58] (k := rc (ht := fun hc2 => ?_) (hf := fun hc2 => ?_)))))))))))))
 refine jO 1 ?_; rotate_left
 refine rk (k := rs (k := ?_))
 have hTu : thereF D.up.c0.length (askF q).1.1 (askF q).1.2 = true ∧ thereF D.up.c0.length (askF q).2.1 (askF q).2.2 = true := by simpa using hc2
 have hT : thereF D.c0.length (askF q).1.1 (askF q).1.2 = true ∧ thereF D.c0.length (askF q).2.1 (askF q).2.2 = true := hTu
 refine rg [0, 3, 4, 5, 6, 7, 9] (k := rs (k := rs (k := rg [0, 3, 4, 5, 6, 7, 9, 67] (k := rb (k := rs (k := rs (k := rg [0, 3, 4, 5, 6, 7, 9, 67, 68] (k := rc (ht := fun hc3 => ?_) (hf := fun hc3 => ?_)))))))))
 refine rk (k := rc (ht := fun hc4 => ?_) (hf := fun hc4 => ?_))
 have hf : q.fn = 1 := of_decide_eq_true hc3
 have ha := ask_r (q := q) Y14
 have ha1 : (askF q).1.1 = q.at_ := Y164
 have ha2 : (askF q).1.2 = q.count := Y164
 have ha3 : (askF q).2.1 = 0 := Y164
 have ha4 : (askF q).2.2 = 0 := Y164
 have hT1 : thereF D.c0.length q.at_ q.count = true := Y105
 have hT2 : thereF D.c0.length 0 0 = true := Y106
 have gA1 : ∀ x y, RefAt b D.up ((S.new x).set (s.nxt + 2) y) := fun x y => (gA.nw Y14 x).sv Y14 y
 have hcn := count_of hcO Y14
 have hw : IntKind.i64.wrap (q.fn - 1) = 0 := by rw [hf]; decide
 have hcall : ∀ S', RefAt b D.up S' → ACalls Tryz.prog 37 [.ptr b 0 0, .int .i64 0, .int .i64 q.at_, .int .i64 q.count] S' (fun r s' => r = .tuple [.sl .unk ((cutF D.c0 q.at_ q.count).map PV.bool), .bool (thereF D.c0.length q.at_ q.count)] ∧ s' = S') := fun S' h => ref8_get0 h.st h.c0 rfl hd2 hcn
 refine Run.genS fun S2 hS2 => ?_
 have k0 : S2.blk s.nxt = some (.row 33 [.agg [.int .i64 q.fn, .int .i64 q.at_, .int .i64 q.count, .int .i64 q.wat, .int .i64 q.sub, .sl .unk (q.bits.map PV.bool), .sl .unk (q.vals.map (PV.int .u16)), .int .u16 q.and_, .int .u16 q.or_]]) := Y46
 have k2 : S2.blk (s.nxt + 2) = some (.row 42 [.agg [.int .i64 q.fn, .int .i64 0, .int .i64 0, .int .i64 0, .int .i64 0, .sl .nil [], .sl .nil [], .int .u16 0, .int .u16 0, .sl .nil []]]) := Y47
 have k1b : S2.blk (s.nxt + 1) = some (.row 42 [.agg [.int .i64 0, .int .i64 0, .int .i64 0, .int .i64 0, .int .i64 0, .sl .nil [], .sl .nil [], .int .u16 0, .int .u16 0, .sl .nil []]]) := Y48
 have kn : S2.nxt = s.nxt + 3 := Y165
 have gA13 : RefAt b D.up S2 := by rw [hS2]; exact gA1 _ _
 have gd13 := gA13.dv
 unfold refRow at gd13
 have H := aj ha1 (aj ha2 (aj ha3 (aj ha4 (aj hw (aj gd13 (aj k0 (aj k2 (aj k1b (aj kn H)))))))))
 refine Run.drawH 15 [14] [[false], [true]] [S2, S2.set (s.nxt + 2) (some (.row 42 [.agg [.int .i64 q.fn, .int .i64 0, .int .i64 0, .int .i64 0, .int .i64 0, (.sl .unk ((cutF D.c0 q.at_ q.count).map PV.bool)), .sl .nil [], .int .u16 0, .int .u16 0, .sl .nil []]]))] (S2.set (s.nxt + 2) (some (.row 42 [.agg [.int .i64 q.fn, .int .i64 0, .int .i64 0, .int .i64 0, .int .i64 0, (.sl .unk ((cutF D.c0 q.at_ q.count).map PV.bool)), .sl .nil [], .int .u16 0, .int .u16 0, .sl .nil []]]))) Tryz.mixed Y18 Y18 Y18 Y18 Y18 rfl Y18 rfl ?_
 refine DetHC.pre (pre := [_, _, _, _, _, _, _, _, _]) (s1 := S2) [0] [S2] Y18 rfl au ?_
 refine DetHC.call [0] [S2] Y18 rfl au au au Y18 Y364 ?_
 refine DetHC.pre (pre := [_, _, _, _]) (s1 := S2) [0, 1] [S2, S2.set (s.nxt + 2) (some (.row 42 [.agg [.int .i64 q.fn, .int .i64 0, .int .i64 0, .int .i64 0, .int .i64 0, (.sl .unk ((cutF D.c0 q.at_ q.count).map PV.bool)), .sl .nil [], .int .u16 0, .int .u16 0, .sl .nil []]]))] Y18 rfl au ?_
 refine DetHC.eff [(0, 1)] (S2) (S2.set (s.nxt + 2) (some (.row 42 [.agg [.int .i64 q.fn, .int .i64 0, .int .i64 0, .int .i64 0, .int .i64 0, (.sl .unk ((cutF D.c0 q.at_ q.count).map PV.bool)), .sl .nil [], .int .u16 0, .int .u16 0, .sl .nil []]]))) [] Y18 rfl au au au ?_
 refine jO 2 ?_; rotate_left
 · exact Y143
 refine rg [0, 3, 4, 5, 6, 7, 9, 67, 68] (k := rc (ht := fun hc4 => ?_) (hf := fun hc4 => ?_))
 have hf : q.fn = 2 := of_decide_eq_true hc4
 have ha := ask_r (q := q) Y14
 have ha1 : (askF q).1.1 = q.at_ := Y164
 have ha2 : (askF q).1.2 = q.count := Y164
 have ha3 : (askF q).2.1 = 0 := Y164
 have ha4 : (askF q).2.2 = 0 := Y164
 have hT1 : thereF D.c0.length q.at_ q.count = true := Y105
 have hT2 : thereF D.c0.length 0 0 = true := Y106
 have gA1 : ∀ x y, RefAt b D.up ((S.new x).set (s.nxt + 2) y) := fun x y => (gA.nw Y14 x).sv Y14 y
 have hcn := count_of hcO Y14
 have hw : IntKind.i64.wrap (q.fn - 1) = 1 := by rw [hf]; decide
 have hcall : ∀ S', RefAt b D.up S' → ACalls Tryz.prog 37 [.ptr b 0 0, .int .i64 1, .int .i64 q.at_, .int .i64 q.count] S' (fun r s' => r = .tuple [.sl .unk ((cutF D.c1 q.at_ q.count).map PV.bool), .bool (thereF D.c0.length q.at_ q.count)] ∧ s' = S') := fun S' h => ref8_get1 h.st h.c1 hd3 hd2 hcn
 refine Run.genS fun S2 hS2 => ?_
 have k0 : S2.blk s.nxt = some (.row 33 [.agg [.int .i64 q.fn, .int .i64 q.at_, .int .i64 q.count, .int .i64 q.wat, .int .i64 q.sub, .sl .unk (q.bits.map PV.bool), .sl .unk (q.vals.map (PV.int .u16)), .int .u16 q.and_, .int .u16 q.or_]]) := Y46
 have k2 : S2.blk (s.nxt + 2) = some (.row 42 [.agg [.int .i64 q.fn, .int .i64 0, .int .i64 0, .int .i64 0, .int .i64 0, .sl .nil [], .sl .nil [], .int .u16 0, .int .u16 0, .sl .nil []]]) := Y47
 have k1b : S2.blk (s.nxt + 1) = some (.row 42 [.agg [.int .i64 0, .int .i64 0, .int .i64 0, .int .i64 0, .int .i64 0, .sl .nil [], .sl .nil [], .int .u16 0, .int .u16 0, .sl .nil []]]) := Y48
 have kn : S2.nxt = s.nxt + 3 := Y165
 have gA13 : RefAt b D.up S2 := by rw [hS2]; exact gA1 _ _
 have gd13 := gA13.dv
 unfold refRow at gd13
 have H := aj ha1 (aj ha2 (aj ha3 (aj ha4 (aj hw (aj gd13 (aj k0 (aj k2 (aj k1b (aj kn H)))))))))
 refine Run.drawH 15 [14] [[false], [true]] [S2, S2.set (s.nxt + 2) (some (.row 42 [.agg [.int .i64 q.fn, .int .i64 0, .int .i64 0, .int .i64 0, .int .i64 0, (.sl .unk ((cutF D.c1 q.at_ q.count).map PV.bool)), .sl .nil [], .int .u16 0, .int .u16 0, .sl .nil []]]))] (S2.set (s.nxt + 2) (some (.row 42 [.agg [.int .i64 q.fn, .int .i64 0, .int .i64 0, .int .i64 0, .int .i64 0, (.sl .unk ((cutF D.c1 q.at_ q.count).map PV.bool)), .sl .nil [], .int .u16 0, .int .u16 0, .sl .nil []]]))) Tryz.mixed Y18 Y18 Y18 Y18 Y18 rfl Y18 rfl ?_
 refine DetHC.pre (pre := [_, _, _, _, _, _, _, _, _]) (s1 := S2) [0] [S2] Y18 rfl au ?_
 refine DetHC.call [0] [S2] Y18 rfl au au au Y18 Y364 ?_
 refine DetHC.pre (pre := [_, _, _, _]) (s1 := S2) [0, 1] [S2, S2.set (s.nxt + 2) (some (.row 42 [.agg [.int .i64 q.fn, .int .i64 0, .int .i64 0, .int .i64 0, .int .i64 0, (.sl .unk ((cutF D.c1 q.at_ q.count).map PV.bool)), .sl .nil [], .int .u16 0, .int .u16 0, .sl .nil []]]))] Y18 rfl au ?_
 refine DetHC.eff [(0, 1)] (S2) (S2.set (s.nxt + 2) (some (.row 42 [.agg [.int .i64 q.fn, .int .i64 0, .int .i64 0, .int .i64 0, .int .i64 0, (.sl .unk ((cutF D.c1 q.at_ q.count).map PV.bool)), .sl .nil [], .int .u16 0, .int .u16 0, .sl .nil []]]))) [] Y18 rfl au au au ?_
 refine jO 2 ?_; rotate_left
 refine rs (k := rg [0, 3, 4, 5, 6, 7, 9, 67, 85] (k := rc (ht := fun hc5 => ?_) (hf := fun hc5 => ?_)))
 have hf : q.fn = 3 := of_decide_eq_true hc5
 have ha := ask_r (q := q) Y14
 have ha1 : (askF q).1.1 = q.at_ := Y164
 have ha2 : (askF q).1.2 = q.count := Y164
 have ha3 : (askF q).2.1 = 0 := Y164
 have ha4 : (askF q).2.2 = 0 := Y164
 have hT1 : thereF D.c0.length q.at_ q.count = true := Y105
 have hT2 : thereF D.c0.length 0 0 = true := Y106
 have gA1 : ∀ x y, RefAt b D.up ((S.new x).set (s.nxt + 2) y) := fun x y => (gA.nw Y14 x).sv Y14 y
 have hcn := count_of hcO Y14
 have H := aj ha1 (aj ha2 (aj ha3 (aj ha4 H)))
 refine rr (k := ro (pre := [_, _, _, _, _, _]) (k := rC (h := ref8_get3 (l := D.v1) (n := D.c0.length) (gA1 _ _).st (gA1 _ _).v1 hd5 hd2 hcn) (k := rh [4, 9] (k := rB (k := rs (k := rg [4] (k := rR (k := ?_))))))))
 refine jO 3 ?_; rotate_left
 refine rs (k := rg [0, 3, 4, 5, 6, 7, 9, 67, 98] (k := rc (ht := fun hc6 => ?_) (hf := fun hc6 => ?_)))
 have hf : q.fn = 4 := of_decide_eq_true hc6
 have ha := ask_r (q := q) Y14
 have ha1 : (askF q).1.1 = q.at_ := Y164
 have ha2 : (askF q).1.2 = q.count := Y164
 have ha3 : (askF q).2.1 = 0 := Y164
 have ha4 : (askF q).2.2 = 0 := Y164
 have hT1 : thereF D.c0.length q.at_ q.count = true := Y105
 have hT2 : thereF D.c0.length 0 0 = true := Y106
 have gA1 : ∀ x y, RefAt b D.up ((S.new x).set (s.nxt + 2) y) := fun x y => (gA.nw Y14 x).sv Y14 y
 have hcn := count_of hcO Y14
 have H := aj ha1 (aj ha2 (aj ha3 (aj ha4 H)))
 refine rr (k := ro (pre := [_, _, _, _, _, _]) (k := rC (h := ref8_get2 (l := D.v0) (n := D.c0.length) (gA1 _ _).st (gA1 _ _).v0 hd4 hd2 hcn) (k := rh [4, 9] (k := rB (k := rs (k := rg [4] (k := rR (k := ?_))))))))
 refine jO 3 ?_; rotate_left
 refine rs (k := rs (k := rg [0, 3, 4, 5, 6, 7, 9, 67, 111] (k := rc (ht := fun hc7 => ?_) (hf := fun hc7 => ?_))))
 refine rk (k := rc (ht := fun hc8 => ?_) (hf := fun hc8 => ?_))
 refine rs (k := ?_)
 have hf : q.fn = 5 := of_decide_eq_true hc7
 have ha := ask_1 (q := q) Y14
 have ha1 : (askF q).1.1 = 0 := Y164
 have ha2 : (askF q).1.2 = 0 := Y164
 have ha3 : (askF q).2.1 = q.at_ := Y164
 have ha4 : (askF q).2.2 = 1 := Y164
 have hT1 : thereF D.c0.length 0 0 = true := Y105
 have hT2 : thereF D.c0.length q.at_ 1 = true := Y106
 have gA1 : ∀ x y, RefAt b D.up ((S.new x).set (s.nxt + 2) y) := fun x y => (gA.nw Y14 x).sv Y14 y
 have hr := count_right hcO
 have hmv := (right0 hr).mv
 have hne : q.bits ≠ [] := bits_of hr hcO Y14
 have hTx : thereF D.c0.length q.at_ q.bits.length = true := by rw [nb_5 hr hf]; exact hT2
 have hfT : decide (q.fn = 5) = true := Y332
 have H := aj ha1 (aj ha2 (aj ha3 (aj ha4 (aj hfT H))))
 refine Run.drawCut 7 [] Tryz.mixed Y18 Y18 ?_
 refine DetC.all au ?_
 refine RunO.callw au au au Y18 ((ref8_put0 (l := D.c0) (n := D.c0.length) (gA1 _ _).st (gA1 _ _).c0 rfl hd2 hne Y14).mono ?_)
 rintro r s1 ⟨rfl, hs⟩
 have hs := hs.trans (if_pos hTx)
 subst hs
 refine rl [3, 4, 9] (k := rs (k := ?_))
 refine Run.genS fun S2 hS2 => ?_
 have k0 : S2.blk s.nxt = some (.row 33 [.agg [.int .i64 q.fn, .int .i64 q.at_, .int .i64 q.count, .int .i64 q.wat, .int .i64 q.sub, .sl .unk (q.bits.map PV.bool), .sl .unk (q.vals.map (PV.int .u16)), .int .u16 q.and_, .int .u16 q.or_]]) := Y46
 have k2 : S2.blk (s.nxt + 2) = some (.row 42 [.agg [.int .i64 q.fn, .int .i64 0, .int .i64 0, .int .i64 0, .int .i64 0, .sl .nil [], .sl .nil [], .int .u16 0, .int .u16 0, .sl .nil []]]) := Y47
 have k1b : S2.blk (s.nxt + 1) = some (.row 42 [.agg [.int .i64 0, .int .i64 0, .int .i64 0, .int .i64 0, .int .i64 0, .sl .nil [], .sl .nil [], .int .u16 0, .int .u16 0, .sl .nil []]]) := Y48
 have kn : S2.nxt = s.nxt + 3 := Y165
 have H := aj k0 (aj k2 (aj k1b (aj kn H)))
 refine Run.drawM 8 [5, 7] [S2, S2.set (s.nxt + 2) (some (.row 42 [.agg [.int .i64 q.fn, .int .i64 0, .int .i64 q.at_, .int .i64 0, .int .i64 0, .sl .nil [], .sl .nil [], .int .u16 0, .int .u16 0, .sl .nil []]])), S2.set (s.nxt + 2) (some (.row 42 [.agg [.int .i64 q.fn, .int .i64 0, .int .i64 q.at_, .int .i64 q.count, .int .i64 0, .sl .nil [], .sl .nil [], .int .u16 0, .int .u16 0, .sl .nil []]]))] Tryz.mixed Y18 Y18 ?_
 refine DetBC.pre (pre := [_, _, _, _, _]) Y15 List.mem_cons_self au ?_
 refine DetBC.eff Y15 List.mem_cons_self au au ?_
 refine DetBC.pre (pre := [_]) Y15 (List.mem_cons_of_mem _ List.mem_cons_self) au ?_
 refine DetBC.eff Y15 (List.mem_cons_of_mem _ List.mem_cons_self) au au ?_
 refine DetBC.nil (List.mem_cons_of_mem _ (List.mem_cons_of_mem _ List.mem_cons_self)) ?_
 refine rl [3, 4, 9] (k := rs (k := rg [3, 4, 9, 130] (k := rc (ht := fun hc9 => ?_) (hf := fun hc9 => ?_))))
 refine rr (k := rO (k := ro (pre := [_, _]) (k := ?_)))
 refine RunO.made au au au Tryz.td29 Y194 (isEls_map (P := Tryz.prog) (e := 4) (f := PV.bool) (fun a => ⟨rfl, Y195⟩) _) Y196 (by rw [Tryz.by4]; simp; have := nb_5 hr hf; omega) (.inr rfl) ?_
 refine jO 4 ?_; rotate_left
 · cases hc9
 · exact Bool.noConfusion (hc7.symm.trans hc8)
 refine rg [0, 3, 4, 5, 6, 7, 9, 67, 111] (k := rc (ht := fun hc8 => ?_) (hf := fun hc8 => ?_))
 refine rs (k := ?_)
 have hf : q.fn = 15 := of_decide_eq_true hc8
 have ha := ask_n (q := q) Y14
 have ha1 : (askF q).1.1 = 0 := Y164
 have ha2 : (askF q).1.2 = 0 := Y164
 have ha3 : (askF q).2.1 = q.at_ := Y164
 have ha4 : (askF q).2.2 = q.count := Y164
 have hT1 : thereF D.c0.length 0 0 = true := Y105
 have hT2 : thereF D.c0.length q.at_ q.count = true := Y106
 have gA1 : ∀ x y, RefAt b D.up ((S.new x).set (s.nxt + 2) y) := fun x y => (gA.nw Y14 x).sv Y14 y
 have hr := count_right hcO
 have hmv := (right0 hr).mv
 have hne : q.bits ≠ [] := bits_of hr hcO Y14
 have hTx : thereF D.c0.length q.at_ q.bits.length = true := by rw [nb_15 hr hf]; exact hT2
 have hfT : decide (q.fn = 5) = false := Y332
 have H := aj ha1 (aj ha2 (aj ha3 (aj ha4 (aj hfT H))))
 refine Run.drawCut 7 [] Tryz.mixed Y18 Y18 ?_
 refine DetC.all au ?_
 refine RunO.callw au au au Y18 ((ref8_put0 (l := D.c0) (n := D.c0.length) (gA1 _ _).st (gA1 _ _).c0 rfl hd2 hne Y14).mono ?_)
 rintro r s1 ⟨rfl, hs⟩
 have hs := hs.trans (if_pos hTx)
 subst hs
 refine rl [3, 4, 9] (k := rs (k := ?_))
 refine Run.genS fun S2 hS2 => ?_
 have k0 : S2.blk s.nxt = some (.row 33 [.agg [.int .i64 q.fn, .int .i64 q.at_, .int .i64 q.count, .int .i64 q.wat, .int .i64 q.sub, .sl .unk (q.bits.map PV.bool), .sl .unk (q.vals.map (PV.int .u16)), .int .u16 q.and_, .int .u16 q.or_]]) := Y46
 have k2 : S2.blk (s.nxt + 2) = some (.row 42 [.agg [.int .i64 q.fn, .int .i64 0, .int .i64 0, .int .i64 0, .int .i64 0, .sl .nil [], .sl .nil [], .int .u16 0, .int .u16 0, .sl .nil []]]) := Y47
 have k1b : S2.blk (s.nxt + 1) = some (.row 42 [.agg [.int .i64 0, .int .i64 0, .int .i64 0, .int .i64 0, .int .i64 0, .sl .nil [], .sl .nil [], .int .u16 0, .int .u16 0, .sl .nil []]]) := Y48
 have kn : S2.nxt = s.nxt + 3 := Y165
 have H := aj k0 (aj k2 (aj k1b (aj kn H)))
 refine Run.drawM 8 [5, 7] [S2, S2.set (s.nxt + 2) (some (.row 42 [.agg [.int .i64 q.fn, .int .i64 0, .int .i64 q.at_, .int .i64 0, .int .i64 0, .sl .nil [], .sl .nil [], .int .u16 0, .int .u16 0, .sl .nil []]])), S2.set (s.nxt + 2) (some (.row 42 [.agg [.int .i64 q.fn, .int .i64 0, .int .i64 q.at_, .int .i64 q.count, .int .i64 0, .sl .nil [], .sl .nil [], .int .u16 0, .int .u16 0, .sl .nil []]]))] Tryz.mixed Y18 Y18 ?_
 refine DetBC.pre (pre := [_, _, _, _, _]) Y15 List.mem_cons_self au ?_
 refine DetBC.eff Y15 List.mem_cons_self au au ?_
 refine DetBC.pre (pre := [_]) Y15 (List.mem_cons_of_mem _ List.mem_cons_self) au ?_
 refine DetBC.eff Y15 (List.mem_cons_of_mem _ List.mem_cons_self) au au ?_
 refine DetBC.nil (List.mem_cons_of_mem _ (List.mem_cons_of_mem _ List.mem_cons_self)) ?_
 refine rl [3, 4, 9] (k := rs (k := rg [3, 4, 9, 130] (k := rc (ht := fun hc9 => ?_) (hf := fun hc9 => ?_))))
 · cases hc9
 refine jO 5 ?_; rotate_left
 refine rs (k := rs (k := rg [0, 3, 4, 5, 6, 7, 9, 67, 136] (k := rc (ht := fun hc10 => ?_) (hf := fun hc10 => ?_))))
 refine rk (k := rc (ht := fun hc11 => ?_) (hf := fun hc11 => ?_))
 refine rs (k := ?_)
 have hf : q.fn = 6 := of_decide_eq_true hc10
 have ha := ask_1 (q := q) Y14
 have ha1 : (askF q).1.1 = 0 := Y164
 have ha2 : (askF q).1.2 = 0 := Y164
 have ha3 : (askF q).2.1 = q.at_ := Y164
 have ha4 : (askF q).2.2 = 1 := Y164
 have hT1 : thereF D.c0.length 0 0 = true := Y105
 have hT2 : thereF D.c0.length q.at_ 1 = true := Y106
 have gA1 : ∀ x y, RefAt b D.up ((S.new x).set (s.nxt + 2) y) := fun x y => (gA.nw Y14 x).sv Y14 y
 have hr := count_right hcO
 have hmv := (right0 hr).mv
 have hne : q.vals ≠ [] := vals_of hr hcO Y14
 have hTx : thereF D.c0.length q.at_ q.vals.length = true := by rw [nv_6 hr (.inl hf)]; exact hT2
 have hfT : decide (q.fn = 6) = true := Y332
 have H := aj ha1 (aj ha2 (aj ha3 (aj ha4 (aj hfT H))))
 refine Run.drawCut 7 [] Tryz.mixed Y18 Y18 ?_
 refine DetC.all au ?_
 refine RunO.callw au au au Y18 ((ref8_put3 (l := D.v1) (n := D.c0.length) (gA1 _ _).st (gA1 _ _).v1 hd5 hd2 hne Y14).mono ?_)
 rintro r s1 ⟨rfl, hs⟩
 have hs := hs.trans (if_pos hTx)
 subst hs
 refine rl [3, 4, 9] (k := rs (k := ?_))
 refine Run.genS fun S2 hS2 => ?_
 have k0 : S2.blk s.nxt = some (.row 33 [.agg [.int .i64 q.fn, .int .i64 q.at_, .int .i64 q.count, .int .i64 q.wat, .int .i64 q.sub, .sl .unk (q.bits.map PV.bool), .sl .unk (q.vals.map (PV.int .u16)), .int .u16 q.and_, .int .u16 q.or_]]) := Y46
 have k2 : S2.blk (s.nxt + 2) = some (.row 42 [.agg [.int .i64 q.fn, .int .i64 0, .int .i64 0, .int .i64 0, .int .i64 0, .sl .nil [], .sl .nil [], .int .u16 0, .int .u16 0, .sl .nil []]]) := Y47
 have k1b : S2.blk (s.nxt + 1) = some (.row 42 [.agg [.int .i64 0, .int .i64 0, .int .i64 0, .int .i64 0, .int .i64 0, .sl .nil [], .sl .nil [], .int .u16 0, .int .u16 0, .sl .nil []]]) := Y48
 have kn : S2.nxt = s.nxt + 3 := Y165
 have H := aj k0 (aj k2 (aj k1b (aj kn H)))
 refine Run.drawM 8 [5, 7] [S2, S2.set (s.nxt + 2) (some (.row 42 [.agg [.int .i64 q.fn, .int .i64 0, .int .i64 q.at_, .int .i64 0, .int .i64 0, .sl .nil [], .sl .nil [], .int .u16 0, .int .u16 0, .sl .nil []]])), S2.set (s.nxt + 2) (some (.row 42 [.agg [.int .i64 q.fn, .int .i64 0, .int .i64 q.at_, .int .i64 q.count, .int .i64 0, .sl .nil [], .sl .nil [], .int .u16 0, .int .u16 0, .sl .nil []]]))] Tryz.mixed Y18 Y18 ?_
 refine DetBC.pre (pre := [_, _, _, _, _]) Y15 List.mem_cons_self au ?_
 refine DetBC.eff Y15 List.mem_cons_self au au ?_
 refine DetBC.pre (pre := [_]) Y15 (List.mem_cons_of_mem _ List.mem_cons_self) au ?_
 refine DetBC.eff Y15 (List.mem_cons_of_mem _ List.mem_cons_self) au au ?_
 refine DetBC.nil (List.mem_cons_of_mem _ (List.mem_cons_of_mem _ List.mem_cons_self)) ?_
 refine rl [3, 4, 9] (k := rs (k := rg [3, 4, 9, 155] (k := rc (ht := fun hc12 => ?_) (hf := fun hc12 => ?_))))
 refine rr (k := rO (k := ro (pre := [_, _]) (k := ?_)))
 refine RunO.made au au au Tryz.td30 Y136 (isEls_map (P := Tryz.prog) (e := 31) (f := PV.int .u16) (fun a => ⟨rfl, Y137⟩) _) Y138 (by rw [Tryz.by31]; simp; try omega) (.inr rfl) ?_
 refine jO 4 ?_; rotate_left
 · cases hc12
 · exact Bool.noConfusion (hc10.symm.trans hc11)
 refine rg [0, 3, 4, 5, 6, 7, 9, 67, 136] (k := rc (ht := fun hc11 => ?_) (hf := fun hc11 => ?_))
 refine rs (k := ?_)
 have hf : q.fn = 16 := of_decide_eq_true hc11
 have ha := ask_n (q := q) Y14
 have ha1 : (askF q).1.1 = 0 := Y164
 have ha2 : (askF q).1.2 = 0 := Y164
 have ha3 : (askF q).2.1 = q.at_ := Y164
 have ha4 : (askF q).2.2 = q.count := Y164
 have hT1 : thereF D.c0.length 0 0 = true := Y105
 have hT2 : thereF D.c0.length q.at_ q.count = true := Y106
 have gA1 : ∀ x y, RefAt b D.up ((S.new x).set (s.nxt + 2) y) := fun x y => (gA.nw Y14 x).sv Y14 y
 have hr := count_right hcO
 have hmv := (right0 hr).mv
 have hne : q.vals ≠ [] := vals_of hr hcO Y14
 have hTx : thereF D.c0.length q.at_ q.vals.length = true := by rw [nv_16 hr hf]; exact hT2
 have hfT : decide (q.fn = 6) = false := Y332
 have H := aj ha1 (aj ha2 (aj ha3 (aj ha4 (aj hfT H))))
 refine Run.drawCut 7 [] Tryz.mixed Y18 Y18 ?_
 refine DetC.all au ?_
 refine RunO.callw au au au Y18 ((ref8_put3 (l := D.v1) (n := D.c0.length) (gA1 _ _).st (gA1 _ _).v1 hd5 hd2 hne Y14).mono ?_)
 rintro r s1 ⟨rfl, hs⟩
 have hs := hs.trans (if_pos hTx)
 subst hs
 refine rl [3, 4, 9] (k := rs (k := ?_))
 refine Run.genS fun S2 hS2 => ?_
 have k0 : S2.blk s.nxt = some (.row 33 [.agg [.int .i64 q.fn, .int .i64 q.at_, .int .i64 q.count, .int .i64 q.wat, .int .i64 q.sub, .sl .unk (q.bits.map PV.bool), .sl .unk (q.vals.map (PV.int .u16)), .int .u16 q.and_, .int .u16 q.or_]]) := Y46
 have k2 : S2.blk (s.nxt + 2) = some (.row 42 [.agg [.int .i64 q.fn, .int .i64 0, .int .i64 0, .int .i64 0, .int .i64 0, .sl .nil [], .sl .nil [], .int .u16 0, .int .u16 0, .sl .nil []]]) := Y47
 have k1b : S2.blk (s.nxt + 1) = some (.row 42 [.agg [.int .i64 0, .int .i64 0, .int .i64 0, .int .i64 0, .int .i64 0, .sl .nil [], .sl .nil [], .int .u16 0, .int .u16 0, .sl .nil []]]) := Y48
 have kn : S2.nxt = s.nxt + 3 := Y165
 have H := aj k0 (aj k2 (aj k1b (aj kn H)))
 refine Run.drawM 8 [5, 7] [S2, S2.set (s.nxt + 2) (some (.row 42 [.agg [.int .i64 q.fn, .int .i64 0, .int .i64 q.at_, .int .i64 0, .int .i64 0, .sl .nil [], .sl .nil [], .int .u16 0, .int .u16 0, .sl .nil []]])), S2.set (s.nxt + 2) (some (.row 42 [.agg [.int .i64 q.fn, .int .i64 0, .int .i64 q.at_, .int .i64 q.count, .int .i64 0, .sl .nil [], .sl .nil [], .int .u16 0, .int .u16 0, .sl .nil []]]))] Tryz.mixed Y18 Y18 ?_
 refine DetBC.pre (pre := [_, _, _, _, _]) Y15 List.mem_cons_self au ?_
 refine DetBC.eff Y15 List.mem_cons_self au au ?_
 refine DetBC.pre (pre := [_]) Y15 (List.mem_cons_of_mem _ List.mem_cons_self) au ?_
 refine DetBC.eff Y15 (List.mem_cons_of_mem _ List.mem_cons_self) au au ?_
 refine DetBC.nil (List.mem_cons_of_mem _ (List.mem_cons_of_mem _ List.mem_cons_self)) ?_
 refine rl [3, 4, 9] (k := rs (k := rg [3, 4, 9, 155] (k := rc (ht := fun hc12 => ?_) (hf := fun hc12 => ?_))))
 · cases hc12
 refine jO 5 ?_; rotate_left
 refine rs (k := rg [0, 3, 4, 5, 6, 7, 9, 67, 161] (k := rc (ht := fun hc13 => ?_) (hf := fun hc13 => ?_)))
 refine rs (k := ?_)
 have hf : q.fn = 22 := of_decide_eq_true hc13
 have ha := ask_22 (q := q) hf
 have ha1 : (askF q).1.1 = q.at_ := Y164
 have ha2 : (askF q).1.2 = 1 := Y164
 have ha3 : (askF q).2.1 = q.at_ := Y164
 have ha4 : (askF q).2.2 = 1 := Y164
 have hT1 : thereF D.c0.length q.at_ 1 = true := Y105
 have hT2 : thereF D.c0.length q.at_ 1 = true := Y106
 have gA1 : ∀ x y, RefAt b D.up ((S.new x).set (s.nxt + 2) y) := fun x y => (gA.nw Y14 x).sv Y14 y
 have H := aj ha1 (aj ha2 (aj ha3 (aj ha4 H)))
 refine rr (k := ro (pre := [_, _, _, _, _]) (k := rC (h := ref8_get3 (l := D.v1) (n := D.c0.length) (gA1 _ _).st (gA1 _ _).v1 hd5 hd2 Y15) (k := rh [0, 3, 4, 5, 9, 10] (k := rs (k := ?_)))))
 have htt := hT1
 unfold thereF at htt
 have htt := of_decide_eq_true htt
 have hat : q.at_.toNat < D.v1.length := Y14
 have hcut : cutF D.v1 q.at_ 1 = [(D.v1[q.at_.toNat]?).getD 0] := by
   unfold cutF
   rw [show thereF D.v1.length q.at_ 1 = true by rw [hd5]; exact hT1, if_pos rfl]
   show (D.v1.drop q.at_.toNat).take 1 = _
   rw [List.drop_eq_getElem_cons hat, List.getElem?_eq_getElem hat]
   rfl
 have hm0 : ((cutF D.v1 q.at_ 1).map (PV.int .u16))[0]? = some (.int .u16 ((D.v1[q.at_.toNat]?).getD 0)) := by rw [hcut]; rfl
 have hml : (0 < (cutF D.v1 q.at_ 1).length) = True := by rw [hcut]; simp
 have H := aj hm0 (aj hml H)
 refine Run.drawCut 11 [] Tryz.mixed Y18 Y18 ?_
 refine DetC.pre (pre := [_, _, _, _, _, _, _, _, _]) au ?_
 refine DetC.call au au au Y18 (ref8_Masked (q := q)) ?_
 refine DetC.all au ?_
 refine RunO.callw au au au Y18 ((ref8_put3 (l := D.v1) (n := D.c0.length) (gA1 _ _).st (gA1 _ _).v1 (x := [maskF ((D.v1[q.at_.toNat]?).getD 0) q]) hd5 hd2 Y70 Y14).mono ?_)
 rintro r s1 ⟨rfl, hs⟩
 have hs := hs.trans (if_pos hT1)
 subst hs
 refine rl [3, 4, 9] (k := ?_)
 refine Run.genS fun S2 hS2 => ?_
 have k0 : S2.blk s.nxt = some (.row 33 [.agg [.int .i64 q.fn, .int .i64 q.at_, .int .i64 q.count, .int .i64 q.wat, .int .i64 q.sub, .sl .unk (q.bits.map PV.bool), .sl .unk (q.vals.map (PV.int .u16)), .int .u16 q.and_, .int .u16 q.or_]]) := Y46
 have k2 : S2.blk (s.nxt + 2) = some (.row 42 [.agg [.int .i64 q.fn, .int .i64 0, .int .i64 0, .int .i64 0, .int .i64 0, .sl .nil [], .sl .nil [], .int .u16 0, .int .u16 0, .sl .nil []]]) := Y47
 have k1b : S2.blk (s.nxt + 1) = some (.row 42 [.agg [.int .i64 0, .int .i64 0, .int .i64 0, .int .i64 0, .int .i64 0, .sl .nil [], .sl .nil [], .int .u16 0, .int .u16 0, .sl .nil []]]) := Y48
 have kn : S2.nxt = s.nxt + 3 := Y165
 have H := aj k0 (aj k2 (aj k1b (aj kn H)))
 refine Run.drawM 12 [7, 9, 11] [S2, S2.set (s.nxt + 2) (some (.row 42 [.agg [.int .i64 q.fn, .int .i64 0, .int .i64 q.at_, .int .i64 0, .int .i64 0, .sl .nil [], .sl .nil [], .int .u16 0, .int .u16 0, .sl .nil []]])), S2.set (s.nxt + 2) (some (.row 42 [.agg [.int .i64 q.fn, .int .i64 0, .int .i64 q.at_, .int .i64 0, .int .i64 0, .sl .nil [], .sl .nil [], .int .u16 q.and_, .int .u16 0, .sl .nil []]])), S2.set (s.nxt + 2) (some (.row 42 [.agg [.int .i64 q.fn, .int .i64 0, .int .i64 q.at_, .int .i64 0, .int .i64 0, .sl .nil [], .sl .nil [], .int .u16 q.and_, .int .u16 q.or_, .sl .nil []]]))] Tryz.mixed Y18 Y18 ?_
 refine DetBC.pre (pre := [_, _, _, _, _, _, _]) Y15 List.mem_cons_self au ?_
 refine DetBC.eff Y15 List.mem_cons_self au au ?_
 refine DetBC.pre (pre := [_]) Y15 (List.mem_cons_of_mem _ List.mem_cons_self) au ?_
 refine DetBC.eff Y15 (List.mem_cons_of_mem _ List.mem_cons_self) au au ?_
 refine DetBC.pre (pre := [_]) Y15 (List.mem_cons_of_mem _ (List.mem_cons_of_mem _ List.mem_cons_self)) au ?_
 refine DetBC.eff Y15 (List.mem_cons_of_mem _ (List.mem_cons_of_mem _ List.mem_cons_self)) au au ?_
 refine DetBC.nil (List.mem_cons_of_mem _ (List.mem_cons_of_mem _ (List.mem_cons_of_mem _ List.mem_cons_self))) ?_
 refine jO 6 ?_; rotate_left
 refine rs (k := rg [0, 3, 4, 5, 6, 7, 9, 67, 193] (k := rc (ht := fun hc14 => ?_) (hf := fun hc14 => ?_)))
 refine rs (k := ?_)
 have hf : q.fn = 23 := of_decide_eq_true hc14
 have ha := ask_23 (q := q) hf
 have ha1 : (askF q).1.1 = q.at_ := Y164
 have ha2 : (askF q).1.2 = q.count := Y164
 have ha3 : (askF q).2.1 = q.wat := Y164
 have ha4 : (askF q).2.2 = (q.vals.length : Int) := Y164
 have hT1 : thereF D.c0.length q.at_ q.count = true := Y105
 have hT2 : thereF D.c0.length q.wat (q.vals.length : Int) = true := Y106
 have gA1 : ∀ x y, RefAt b D.up ((S.new x).set (s.nxt + 2) y) := fun x y => (gA.nw Y14 x).sv Y14 y
 have hcn := count_of hcO Y14
 have hr := count_right hcO
 have hne := vals_of hr hcO Y14
 have hTx : thereF D.c0.length q.wat q.vals.length = true := hT2
 have hlo : (overF D.v1 q.wat.toNat q.vals).length = D.c0.length := by
   rw [overF_len (by have := there_len hTx; omega)]; exact hd5
 have gA2 : ∀ x y, RefAt b { D.up with v1 := overF D.v1 q.wat.toNat q.vals } (((S.new x).set (s.nxt + 2) y).set (b + 4) (some (.row 31 ((overF D.v1 q.wat.toNat q.vals).map (PV.int .u16))))) := fun x y => (gA1 x y).of (blk_set_ne Y14) rfl (by rw [blk_set_ne Y14]; exact (gA1 x y).c0) (by rw [blk_set_ne Y14]; exact (gA1 x y).c1) (by rw [blk_set_ne Y14]; exact (gA1 x y).v0) (by rw [blk_set_self]) (by rw [blk_set_ne Y14]; exact (gA1 x y).dv)
 have H := aj ha1 (aj ha2 (aj ha3 (aj ha4 H)))
 refine Run.drawCut 7 [] Tryz.mixed Y18 Y18 ?_
 refine DetC.all au ?_
 refine RunO.callw au au au Y18 ((ref8_put3 (l := D.v1) (n := D.c0.length) (gA1 _ _).st (gA1 _ _).v1 hd5 hd2 hne Y14).mono ?_)
 rintro r s1 ⟨rfl, hs⟩
 have hs := hs.trans (if_pos hTx)
 subst hs
 refine rl [0, 4, 5, 6, 9] (k := rr (k := ro (pre := [_, _, _, _, _, _]) (k := rC (h := ref8_get3 (gA2 _ _).st (gA2 _ _).v1 hlo hd2 hcn) (k := rh [4, 9] (k := rB (k := rs (k := rg [4] (k := rR (k := ?_)))))))))
 refine jO 3 ?_; rotate_left
 refine rs (k := rg [0, 3, 4, 9, 67, 214] (k := rc (ht := fun hc15 => ?_) (hf := fun hc15 => ?_)))
 refine rs (k := ?_)
 have hf : q.fn = 8 := of_decide_eq_true hc15
 have gA1 : ∀ x y, RefAt b D.up ((S.new x).set (s.nxt + 2) y) := fun x y => (gA.nw Y14 x).sv Y14 y
 refine rr (k := ro (pre := [_, _]) (k := ?_))
 refine RunO.callw au au au Y18 ((ref8_diag (gA1 _ _) hq hcO hf).mono ?_)
 refine jO 7 ?_; rotate_left
 refine rs (k := rg [0, 4, 9, 219] (k := rc (ht := fun hc16 => ?_) (hf := fun hc16 => ?_)))
 have hf : q.fn = 17 := of_decide_eq_true hc16
 have hu9 : D.up.unit % 256 = D.unit := by show D.unit % 256 = D.unit; have := hD.unit; unfold U8 at this; omega
 have gA1 : ∀ x y, RefAt b D.up ((S.new x).set (s.nxt + 2) y) := fun x y => (gA.nw Y14 x).sv Y14 y
 have H := aj hu9 H
 refine rr (k := ro (pre := [_, _, _, _, _]) (k := rO (k := rh [4, 9] (k := rB (k := rs (k := rg [4] (k := rR (k := ?_))))))))
 refine jO 3 ?_; rotate_left
 · refine rk (k := rB (k := rs (k := ?_)))
   exfalso
   have hh : hasF q.fn = true := Y82
   have := has_cases hh
   simp only [decide_eq_true_eq, decide_eq_false_iff_not] at *
   omega
 any_goals
   refine jI 1 ?_
   refine rs (k := rr (k := ro (pre := [_, _, _]) (k := ?_)))
   refine jO 8 ?_; rotate_left
 any_goals
   refine jI 4 ?_
   intro k1 s1 hm1
   refine jO 9 ?_; rotate_left
 any_goals
   refine jI 9 ?_
   have hmb := hm1.blk
   refine jO 10 ?_; rotate_left
 any_goals
   refine jI 8 ?_
   refine RunO.callw au au au Y18 ((ref8_refuse gA).mono ?_)
   refine jO 7 ?_; rotate_left
 any_goals
   refine jI 10 ?_
   have hmx := hm1.nx
   refine jO 11 ?_; rotate_left
 any_goals
   refine jI 2 ?_
   refine DetHC.nil ?_
   refine jO 6 ?_; rotate_left
 any_goals
   refine jI 11 ?_
   have H := aj hmb H
   refine jO 12 ?_; rotate_left
 any_goals
   refine jI 6 ?_
   refine rl [4, 9] (k := rB (k := rs (k := rg [4] (k := rR (k := ?_)))))
   refine jO 3 ?_; rotate_left
 any_goals
   refine jI 12 ?_
   refine rh [4, 9] (k := rB (k := rs (k := rg [4] (k := rR (k := ?_)))))
   refine jO 3 ?_; rotate_left
 any_goals
   refine jI 5 ?_
   refine rk (k := rB (k := rs (k := rg [4] (k := rR (k := ?_)))))
   refine jO 3 ?_; rotate_left
 any_goals
   refine jI 7 ?_
   rintro r s1 ⟨rfl, rfl⟩
   refine jO 13 ?_; rotate_left
 any_goals
   refine jI 13 ?_
   refine rh [4] (k := rR (k := ?_))
   refine jO 3 ?_; rotate_left
 any_goals
   refine jI 3 ?_
   first
     | (have hB := (show doF D q = refD D.up q.fn 1 from by
          have hh : hasF q.fn = false := Y82
          unfold doF
          dsimp only
          rw [if_pos hh]; rfl)
        (try subst hS2)
        refine Ret.refd (doF D q).2 hA (r' := (doF D q).1.pv) Y49 ?_ (blw_rep _ _) hwf ?_ ⟨rfl, rfl⟩
        · exact Y50
        · rw [hB]
          exact Y51)
     | (have hB := (show doF D q = refD D.up q.fn 3 from by
          have h00 : ¬ hasF q.fn = false := Y82
          have hcc : ¬ rightF q = 0 ∨ countF q = false := .inr (by simpa using hc1)
          unfold doF
          dsimp only
          rw [if_neg h00, if_pos hcc]; rfl)
        (try subst hS2)
        refine Ret.refd (doF D q).2 hA (r' := (doF D q).1.pv) Y49 ?_ (blw_rep _ _) hwf ?_ ⟨rfl, rfl⟩
        · exact Y50
        · rw [hB]
          exact Y51)
     | (have hB := do_bad hcO (D := D) (show thereF D.c0.length (askF q).1.1 (askF q).1.2 = false ∨ thereF D.c0.length (askF q).2.1 (askF q).2.2 = false by have hTu : thereF D.up.c0.length (askF q).1.1 (askF q).1.2 = false ∨ thereF D.up.c0.length (askF q).2.1 (askF q).2.2 = false := (by simpa using hc2); exact hTu)
        (try subst hS2)
        refine Ret.refd (doF D q).2 hA (r' := (doF D q).1.pv) Y49 ?_ (blw_rep _ _) hwf ?_ ⟨rfl, rfl⟩
        · exact Y50
        · rw [hB]
          exact Y51)
     | (have hB := do_8 hcO (D := D) hf
        (try subst hS2)
        refine Ret.refd (doF D q).2 hA (r' := (doF D q).1.pv) Y49 ?_ (blw_rep _ _) hwf ?_ ⟨rfl, rfl⟩
        · exact Y50
        · rw [hB]
          exact Y51)
     | (have hB := do_1 hcO (D := D) hf hT1
        (try subst hS2)
        refine Ret.refd (doF D q).2 hA (r' := (doF D q).1.pv) Y49 ?_ (blw_rep _ _) hwf ?_ ⟨rfl, rfl⟩
        · exact Y50
        · rw [hB]
          exact Y52)
     | (have hB := do_2 hcO (D := D) hf hT1
        (try subst hS2)
        refine Ret.refd (doF D q).2 hA (r' := (doF D q).1.pv) Y49 ?_ (blw_rep _ _) hwf ?_ ⟨rfl, rfl⟩
        · exact Y50
        · rw [hB]
          exact Y52)
     | (have hB := do_3 hcO (D := D) hf hT1
        (try subst hS2)
        refine Ret.refd (doF D q).2 hA (r' := (doF D q).1.pv) Y49 ?_ (blw_rep _ _) hwf ?_ ⟨rfl, rfl⟩
        · exact Y50
        · rw [hB]
          exact Y52)
     | (have hB := do_4 hcO (D := D) hf hT1
        (try subst hS2)
        refine Ret.refd (doF D q).2 hA (r' := (doF D q).1.pv) Y49 ?_ (blw_rep _ _) hwf ?_ ⟨rfl, rfl⟩
        · exact Y50
        · rw [hB]
          exact Y52)
     | (have hB := do_5 hcO (D := D) hf hTx
        (try subst hS2)
        refine Ret.refd (doF D q).2 hA (r' := (doF D q).1.pv) Y49 ?_ (blw_rep _ _) hwf ?_ ⟨rfl, rfl⟩
        · exact Y50
        · rw [hB]
          exact Y107)
     | (have hB := do_15 hcO (D := D) hf hTx
        (try subst hS2)
        refine Ret.refd (doF D q).2 hA (r' := (doF D q).1.pv) Y49 ?_ (blw_rep _ _) hwf ?_ ⟨rfl, rfl⟩
        · exact Y50
        · rw [hB]
          exact Y52)
     | (have hB := do_6 hcO (D := D) hf hTx
        (try subst hS2)
        refine Ret.refd (doF D q).2 hA (r' := (doF D q).1.pv) Y49 ?_ (blw_rep _ _) hwf ?_ ⟨rfl, rfl⟩
        · exact Y50
        · rw [hB]
          exact Y107)
     | (have hB := do_16 hcO (D := D) hf hTx
        (try subst hS2)
        refine Ret.refd (doF D q).2 hA (r' := (doF D q).1.pv) Y49 ?_ (blw_rep _ _) hwf ?_ ⟨rfl, rfl⟩
        · exact Y50
        · rw [hB]
          exact Y52)
     | (have hB := do_17 hcO (D := D) hf 
        (try subst hS2)
        refine Ret.refd (doF D q).2 hA (r' := (doF D q).1.pv) Y49 ?_ (blw_rep _ _) hwf ?_ ⟨rfl, rfl⟩
        · exact Y50
        · rw [hB]
          exact Y52)
     | (have hB := do_22 hcO (D := D) hf hT1
        (try subst hS2)
        refine Ret.refd (doF D q).2 hA (r' := (doF D q).1.pv) Y49 ?_ (blw_rep _ _) hwf ?_ ⟨rfl, rfl⟩
        · exact Y50
        · rw [hB]
          exact Y52)
     | (have hB := do_23 hcO (D := D) hf hT1 hTx
        (try subst hS2)
        refine Ret.refd (doF D q).2 hA (r' := (doF D q).1.pv) Y49 ?_ (blw_rep _ _) hwf ?_ ⟨rfl, rfl⟩
        · exact Y50
        · rw [hB]
          exact Y52)
end Go.Proofs
namespace Go.Proofs
open Go.PM
set_option maxHeartbeats 2000000
attribute [local go_sem] set_set putRef_hi putRef_nxt weaks_bools Req.pv Rep.pv
theorem Y53 {p : Prop} (h : p := by
 exact
        (fun i hi => by
  have h0 := ltn hi; have h1 := lte hi; have h2 : (i = S.nxt) = False := eq_false Y272
  try simp (disch := first | omega | (simp only [nxt_set, nxt_new] <;> omega) | fail) only [h2, go_sem, Nat.add_assoc, Nat.reduceAdd, ↓reduceIte, h0, h1]
  exact putRef_congr2 (m := s.nxt) Y104 i hi)) : p := h
theorem Y221 {p : Prop} (h : p := by simp only [Tryz.f15, go_sem, ↓reduceIte] <;> rfl) : p := h
set_option maxRecDepth 100000 in
theorem ref8_Pdu {b : Nat} {D : Dev} {s : St} (hA : RefAt b D s) (hD : D.ok) {l : List Int} (hb : OkB l) (hl : l.length ≤ 140737488351232) : ACalls Tryz.prog 15 [.ptr (b + 5) 0 0, .sl .unk (l.map (PV.int .u8))] s (fun r s' => r = .sl .unk ((pduF D l).1.map (PV.int .u8)) ∧ s' = putRef b (pduF D l).2 s) := by
 refine go Tryz.func15 (k := fun hwf H => ?_)
 have hdv := hA.dv
 unfold refRow at hdv
 have hlt := hA.lt hwf
 have hA1 : ∀ x, RefAt b D (s.new x) := fun x => hA.nw hlt x
 have hinc : IntKind.i64.wrap (D.msgs + 1) = inc D.msgs := rfl
 have H := aj hdv (aj hinc H)
 obtain ⟨q, hQ⟩ : ∃ q, q = (readF l).1 := ⟨_, rfl⟩
 obtain ⟨E, hE⟩ : ∃ E, E = (readF l).2 := ⟨_, rfl⟩
 have hqo : q.ok := by rw [hQ]; exact readF_ok hb hl
 have hrd : ∀ s, ACalls Tryz.prog 45 [.sl .unk (l.map (PV.int .u8))] s (fun r s' => r = .tuple [q.pv, .int .i64 E] ∧ s' = s) := fun s => by rw [hQ, hE]; exact ref3_Read hb hl
 have hEr := readF_err l
 rw [← hE] at hEr
 refine rs (k := rg [0, 1] (k := rs (k := rs (k := rg [0, 1, 14] (k := rc (ht := fun hc0 => ?_) (hf := fun hc0 => ?_))))))
 refine rs (k := rg [4] (k := rR (k := ?_)))
 refine jO 1 ?_; rotate_left
 refine rk (k := rs (k := ?_))
 have hne : l ≠ [] := by intro e; rw [e] at hc0; simp at hc0
 refine rr (k := ro (pre := [_]) (k := rC (h := hrd _) (k := rh [0, 1, 5, 6] (k := rs (k := rs (k := rg [0, 1, 5, 6, 21] (k := rc (ht := fun hc1 => ?_) (hf := fun hc1 => ?_))))))))
 refine rs (k := rg [0, 1, 6] (k := rs (k := rg [0, 1, 6, 7] (k := rs (k := rs (k := rg [0, 1, 7, 30] (k := rc (ht := fun hc2 => ?_) (hf := fun hc2 => ?_))))))))
 refine rg [0, 1, 7] (k := rs (k := ?_))
 refine jO 2 ?_; rotate_left
 refine rk (k := rs (k := ?_))
 refine jO 2 ?_; rotate_left
 refine rk (k := rs (k := rr (k := ro (pre := [_, _]) (k := ?_))))
 refine RunO.callw au au au Y18 ((ref8_Do (hA1 _) hD hqo).mono ?_)
 rintro r s1 ⟨rfl, rfl⟩
 refine rC (h := ref3_Lay Y273) (k := rh [10] (k := rs (k := rg [4] (k := rR (k := ?_)))))
 refine jO 1 ?_; rotate_left
 any_goals
   refine jI 2 ?_
   have hne : l ≠ [] := by intro e; rw [e] at hc0; simp at hc0
   refine jO 3 ?_; rotate_left
 any_goals
   refine jI 3 ?_
   have hll : 0 < l.length := List.length_pos_iff.2 hne
   refine jO 4 ?_; rotate_left
 any_goals
   refine jI 4 ?_
   obtain ⟨x, hx⟩ : ∃ x, l[0]? = some x := ⟨l[0], List.getElem?_eq_getElem hll⟩
   refine jO 5 ?_; rotate_left
 any_goals
   refine jI 5 ?_
   have hxx : (l.map (PV.int .u8))[0]? = some (.int .u8 x) := Y142
   refine jO 6 ?_; rotate_left
 any_goals
   refine jI 6 ?_
   have hlT : (0 < l.length) = True := eq_true hll
   refine jO 7 ?_; rotate_left
 any_goals
   refine jI 7 ?_
   have hx8 : U8 x := hb x (List.mem_of_getElem? hx)
   refine jO 8 ?_; rotate_left
 any_goals
   refine jI 8 ?_
   have hx0 : (l[0]?).getD 0 = x := Y320
   refine jO 9 ?_; rotate_left
 any_goals
   refine jI 9 ?_
   have hxw : IntKind.i64.wrap x = x := wrap_i64 Y260
   refine jO 10 ?_; rotate_left
 any_goals
   refine jI 10 ?_
   refine Run.genS fun S hS => ?_
   refine jO 11 ?_; rotate_left
 any_goals
   refine jI 11 ?_
   have gA : RefAt b D.up S := by
     have e : ∀ i, i ≤ b + 5 → i ≠ b + 5 → S.blk i = s.blk i := fun i h1 h2 => Y38
     exact ⟨Y210, Y211, Y212, Y213, Y214, Y37⟩
   refine jO 12 ?_; rotate_left
 any_goals
   refine jI 12 ?_
   have gn : S.nxt = s.nxt + 1 := by rw [hS]; rfl
   refine jO 13 ?_; rotate_left
 any_goals
   refine jI 13 ?_
   have gf : ∀ i, i < s.nxt → i ≠ b + 5 → S.blk i = s.blk i := fun i h1 h2 => Y38
   refine jO 14 ?_; rotate_left
 any_goals
   refine jI 14 ?_
   clear hS
   refine jO 15 ?_; rotate_left
 any_goals
   refine jI 15 ?_
   have H := aj hxx (aj hlT (aj hxw (aj gn H)))
   refine jO 16 ?_; rotate_left
 any_goals
   refine jI 16 ?_
   refine rr (k := ro (pre := [_, _, _, _, _, _]) (k := ?_))
   refine jO 17 ?_; rotate_left
 any_goals
   refine jI 17 ?_
   refine RunO.callw au au au Y18 ((ref8_refuse gA).mono ?_)
   refine jO 18 ?_; rotate_left
 any_goals
   refine jI 18 ?_
   rintro r s1 ⟨rfl, rfl⟩
   refine jO 19 ?_; rotate_left
 any_goals
   refine jI 19 ?_
   refine rC (h := ref3_Lay Y273) (k := rh [8] (k := rs (k := rg [4] (k := rR (k := ?_)))))
   refine jO 1 ?_; rotate_left
 any_goals
   refine jI 1 ?_
   first
     | (have hEk : E = 15 := by
          have h1 : ¬ E = 0 := by simpa using hc1
          have h2 : E = 15 := by simpa using hc2
          have h3 : ¬ E = 13 := fun h => hne (hEr.1.1 h)
          have h4 := hEr.2
          omega
        have hB : pduF D l = (repF (refD D.up x 1).1, (refD D.up x 1).2) := by
          rw [← ref_u8_mod D.up x 1]
          unfold pduF
          rw [← hE, hEk, hx0]
          rfl
        refine Ret.refd (refD D.up x 1).2 hA (r' := .sl .unk ((repF (refD D.up x 1).1).map (PV.int .u8))) Y221 ?_ Y19 hwf ?_ ⟨Y91, Y91⟩
        · exact Y274
        · exact Y53)
     | (have hEk : E = 12 := by
          have h1 : ¬ E = 0 := by simpa using hc1
          have h2 : ¬ E = 15 := by simpa using hc2
          have h3 : ¬ E = 13 := fun h => hne (hEr.1.1 h)
          have h4 := hEr.2
          omega
        have hB : pduF D l = (repF (refD D.up x 3).1, (refD D.up x 3).2) := by
          rw [← ref_u8_mod D.up x 3]
          unfold pduF
          rw [← hE, hEk, hx0]
          rfl
        refine Ret.refd (refD D.up x 3).2 hA (r' := .sl .unk ((repF (refD D.up x 3).1).map (PV.int .u8))) Y221 ?_ Y19 hwf ?_ ⟨Y91, Y91⟩
        · exact Y274
        · exact Y53)
     | (have h0 : l = [] := List.length_eq_zero_iff.1 Y133
        have hB : pduF D l = ([], D) := by
          rw [h0]; rfl
        refine Ret.refd D hA (r' := .sl .unk (([] : List Int).map (PV.int .u8))) Y221 ?_ Y19 hwf ?_ ⟨Y91, Y91⟩
        · rfl
        · rw [show putRef b D s = s from (eq_putRef rfl hA fun _ _ => rfl).symm]
          exact fun i hi => Y54)
     | (have hE0 : E = 0 := by simpa using hc1
        have hB : pduF D l = (repF (doF D q).1, (doF D q).2) := by
          unfold pduF
          rw [← hE, hE0, ← hQ]
          rfl
        refine Ret.refd (doF D q).2 hA (r' := .sl .unk ((repF (doF D q).1).map (PV.int .u8))) Y221 ?_ Y19 hwf ?_ ⟨Y91, Y91⟩
        · exact Y274
        · exact (fun i hi => by
          have h0 := ltn hi; have h1 := lte hi
          try simp (disch := first | omega | (simp only [nxt_set, nxt_new] <;> omega) | fail) only [go_sem, Nat.add_assoc, Nat.reduceAdd, ↓reduceIte, h0, h1]
          exact putRef_congr2 (m := s.nxt) (fun j hj hj2 => by
            have h0 := ltn hj; have h1 := lte hj
            first | rfl | simp (disch := first | omega | (simp only [nxt_set, nxt_new] <;> omega) | fail) only [go_sem, Nat.add_assoc, Nat.reduceAdd, ↓reduceIte, h0, h1]) i hi))
end Go.Proofs

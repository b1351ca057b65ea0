import Derived.Test.YtaojhcbodijpbaaB4
import Derived.Test.YtaojhcbodijpbaaB1
set_option linter.unusedVariables false
set_option linter.unusedSimpArgs false
namespace Go.Proofs
open Go.PM
set_option maxHeartbeats 2000000
theorem writeF_ok {q : Req} (hq : q.ok) (h : rightF q = 0) : OkB (writeF q) := by
  have hR := right0 h
  have h1 := has_cases hR.has
  have h2 := hR.mb
  have h3 := hR.mv
  have h5 := packB_len q.bits
  have h6 := flat2_lenX q.vals
  unfold writeF
  refine OkB.cons ⟨by omega, by omega⟩ ?_
  repeat' split
  all_goals first
    | exact OkB.nil
    | exact (num2_ok _).append (flat2_okB _)
    | exact (num2_ok _).append (num2_ok _)
    | exact (num2_ok _).append ((num2_ok _).append (num2_ok _))
    | exact (num2_ok _).append ((num2_ok _).append (OkB.cons ⟨by omega, by omega⟩ (packB_ok _)))
    | exact (num2_ok _).append ((num2_ok _).append (OkB.cons ⟨by omega, by omega⟩ (flat2_okB _)))
    | exact (num2_ok _).append ((num2_ok _).append (((num2_ok _).append (num2_ok _)).append (OkB.cons ⟨by omega, by omega⟩ (flat2_okB _))))
    | exact (num2_ok _).append ((num2_ok _).append OkB.nil)
theorem repF_ok {R : Rep} (h : R.ok) : OkB (repF R) := by
  unfold repF
  split
  · exact layF_ok h ‹_›
  · exact OkB.nil
theorem pduF_okB {D : Dev} (hD : D.ok) {l : List Int} (hb : OkB l) (hl : l.length ≤ 140737488351232) : OkB (pduF D l).1 := by
  unfold pduF
  split
  · exact OkB.nil
  · dsimp only
    split
    · exact repF_ok (refuseP_ok _ _)
    · split
      · exact repF_ok (refuseP_ok _ _)
      · exact repF_ok (doF_rep hD (readF_ok hb hl))
theorem pduF_ok {D : Dev} (hD : D.ok) {l : List Int} (hb : OkB l) (hl : l.length ≤ 140737488351232) : (pduF D l).2.ok ∧ (pduF D l).2.c0.length = D.c0.length := by
  unfold pduF
  split
  · exact ⟨hD, rfl⟩
  · dsimp only
    split
    · exact ⟨refD_ok (inc_ok hD) _ _, rfl⟩
    · split
      · exact ⟨refD_ok (inc_ok hD) _ _, rfl⟩
      · exact doF_ok hD (readF_ok hb hl)
theorem putDev_set {b : Nat} {D : Dev} {S : St} {i : Nat} (h : b + 5 < i) (x : Option Blk) : putDev b D (S.set i x) = (putDev b D S).set i x := by
  refine St.eq_of' rfl fun j => ?_
  by_cases hj : j = i
  · subst hj; rw [putDev_hi h, blk_set_self, blk_set_self]
  · rw [blk_set_ne hj, putDev_blk, putDev_blk, blk_set_ne hj]
structure PAt (s0 : St) (b : Nat) (D : Dev) (T : Tp) (S : St) : Prop where
  dev : DevAt b D S
  tape : S.blk (b + 6) = some (.row 42 [T.pv])
  nx : b + 7 ≤ S.nxt
  low : ∀ j, j < b → S.blk j = s0.blk j
theorem PAt.tp' {s0 : St} {b : Nat} {D : Dev} {T T' : Tp} {S : St} (h : PAt s0 b D T S) : PAt s0 b D T' (S.set (b + 6) (some (.row 42 [T'.pv]))) :=
  ⟨h.dev.sv (by omega) _, blk_set_self _ _ _, h.nx, fun j hj => by rw [blk_set_ne (by omega)]; exact h.low j hj⟩
theorem PAt.nw {s0 : St} {b : Nat} {D : Dev} {T : Tp} {S : St} (h : PAt s0 b D T S) (x : Blk) : PAt s0 b D T (S.new x) := by
  have := h.nx
  exact ⟨h.dev.nw (by omega) _, by rw [blk_new_ne (by omega)]; exact h.tape, Nat.le_succ_of_le h.nx, fun j hj => by rw [blk_new_ne (by omega)]; exact h.low j hj⟩
theorem PAt.hi {s0 : St} {b : Nat} {D : Dev} {T : Tp} {S : St} (h : PAt s0 b D T S) {i : Nat} (hi : b + 7 ≤ i) (x : Option Blk) : PAt s0 b D T (S.set i x) :=
  ⟨h.dev.sv (by omega) _, by rw [blk_set_ne (by omega)]; exact h.tape, h.nx, fun j hj => by rw [blk_set_ne (by omega)]; exact h.low j hj⟩
theorem PAt.put {s0 : St} {b : Nat} {D D' : Dev} {T : Tp} {S : St} (h : PAt s0 b D T S) (hl : D'.c0.length = D.c0.length) : PAt s0 b D' T (putDev b D' S) :=
  ⟨h.dev.put hl, by rw [putDev_hi (by omega)]; exact h.tape, h.nx, fun j hj => by rw [putDev_lo (by omega)]; exact h.low j hj⟩
attribute [local go_sem] set_set putDev_hi putDev_nxt weaks_bools weaks_u8 Rep.pv Req.pv Tp.pv
set_option maxRecDepth 100000 in
theorem law9_Pdus {l : List Int} (hl : l.length * 8 ≤ 140737488351232) {rows : List (List Int)} (hrn : rows.length < 140737488355328) (hrows : ∀ r ∈ rows, OkB r ∧ r.length ≤ 140737488351232) {s : St} : ACalls Try.prog 4 [.sl .unk (l.map (PV.int .i64)), .sl .unk (rows.map (fun l : List Int => PV.sl .unk (l.map (PV.int .u8))))] s (fun r s' => r = .bool true ∧ s' = s) := by
  refine go Try.func4 (k := fun hwf H => ?_)
  obtain ⟨b, hb⟩ : ∃ b, b = s.nxt := ⟨_, rfl⟩
  have o0 : (Dev.zero 80).ok := Dev.zero_ok (n := 80) (by decide) (by decide)
  refine rs (k := rg [0, 1] (k := rs (k := rr (k := ?_))))
  refine RunO.callw au au au (by kernel_rfl) ((device_New (n := 80) (by decide) (by decide)).mono ?_)
  rintro r s1 ⟨rfl, gA0, gf0, gn0⟩
  rw [← hb] at gA0 gn0
  rw [← hb]
  refine rh [0, 1, 5] (k := rs (k := rs (k := rg [0, 1, 5, 16] (k := rc (ht := fun hc0 => ?_) (hf := fun hc0 => ?_)))))
  · cases hc0
  refine rk (k := rs (k := rg [1, 5, 6] (k := rs (k := rs (k := ?_)))))
  have gn1 : s1.nxt = b + 6 := by omega
  refine Run.genS fun S0 hS0 => ?_
  have hP0 : PAt s b (Dev.zero 80) ⟨l, 0⟩ S0 := by
    rw [hS0]
    refine ⟨(gA0.nw (by omega) _), by rw [← gn1]; exact blk_new_eq, by show _ ≤ s1.nxt + 1; omega, fun j hj => ?_⟩
    rw [blk_new_ne (by omega)]; exact gf0 j (by omega)
  clear hS0
  rw [gn1]
  refine rg [1, 5, 6, 7] (k := rb (k := ?_))
  refine Run.loop (fun e s' => ∃ (i : Nat) (D : Dev) (T : Tp), e = [(1, .sl .unk (rows.map (fun l : List Int => PV.sl .unk (l.map (PV.int .u8))))), (5, .ptr (b + 5) 0 0), (6, .ptr (b + 6) 0 0), (7, .int .i64 (i : Int))] ∧ i ≤ 20 ∧ D.ok ∧ T.ok ∧ PAt s b D T s') (fun e s' => 20 - ivar e 7) ?_ ?_
  · exact ⟨0, _, _, rfl, by decide, o0, ⟨hl, Nat.zero_le _⟩, hP0⟩
  rintro e S1 ⟨i, D, T, rfl, hi, oD, hT, hP⟩
  refine rs (k := rs (k := rg [1, 5, 6, 7, 21] (k := rc (ht := fun hc1 => ?_) (hf := fun hc1 => ?_))))
  refine rk (k := rs (k := rb (k := rs (k := rr (k := ro (pre := [_]) (k := ?_))))))
  refine RunO.callw au au au (by kernel_rfl) ((tape_Request hT hP.tape).mono ?_)
  rintro r s9 ⟨q, T2, rfl, hs, hT2, hq, hqr⟩
  subst s9
  refine rh [1, 5, 6, 7, 8] (k := rs (k := ?_))
  refine Run.genS fun S2 hS2 => ?_
  have hP2 : PAt s b D T2 S2 := by rw [hS2]; exact (hP.tp'.nw _).hi hP.nx _
  have hn2 : S2.nxt = S1.nxt + 1 := by rw [hS2]; rfl
  have hq2 : S2.blk S1.nxt = some (.row 33 [q.pv]) := by rw [hS2]; exact blk_set_self _ _ _
  have hbq : bytesF q = writeF q := if_pos hqr
  have hnP := hP.nx
  clear hS2
  have H := aj hq2 H
  refine rr (k := ro (pre := [_]) (k := ?_))
  refine RunO.callw au au au (by kernel_rfl) ((ref3_Bytes hq).mono ?_)
  rintro r s9 ⟨rfl, hs⟩
  subst s9
  rw [hbq, hqr]
  refine rh [1, 5, 6, 7, 8, 9] (k := rs (k := ?_))
  obtain ⟨R, D2, hX⟩ : ∃ R D2, doF D q = (R, D2) := ⟨_, _, rfl⟩
  have hpd : pduF D (writeF q) = (repF R, D2) := by rw [pdu_write hq hqr, hX]
  have htk := pdu_take oD hq hqr
  rw [hpd, hX] at htk
  have oD2 : D2.ok := by have := (doF_ok oD hq).1; rw [hX] at this; exact this
  have hl2 : D2.c0.length = D.c0.length := by have := (doF_ok oD hq).2; rw [hX] at this; exact this
  have hfn : decide (R.fn = q.fn) = true := decide_eq_true htk.2
  have hgR : goodF R = 0 := by have := (do_fits oD hq hqr).good; rw [hX] at this; exact this
  have hRo : R.ok := by have := doF_rep oD hq; rw [hX] at this; exact this
  have hm : repF R = layF R := if_pos hgR
  have hmo : OkB (repF R) := by rw [hm]; exact layF_ok hRo hgR
  have hml : (repF R).length ≤ 10000000 := by rw [hm]; have := layF_len hgR; omega
  have hwl := writeF_len hqr
  have hTk : ∀ S, ACalls Try.prog 15 [.sl .unk ((repF R).map (PV.int .u8)), q.pv] S (fun r s' => r = .tuple [R.pv, .int .i64 0] ∧ s' = S) := fun S => by
    have := ref3_Take hmo hml hq (s := S)
    rw [htk.1] at this
    exact this
  have hPr := hP2.nw .res
  refine Run.reserve ?_
  have H := aj hfn H
  refine Run.drawH 11 [2, 8, 9] [[false, false, false], [true, false, false], [false, true, false], [true, true, false], [true, true, true]] [(S2.new .res), (putDev b D2 (S2.new .res)), ((S2.new .res).set S2.nxt (some (.row 30 [.agg [.int .i64 0, .int .i64 0, .int .i64 0, .int .i64 0, .int .i64 0, .sl .nil [], .sl .nil [], .int .u16 0, .int .u16 0, .sl .nil []]]))), ((putDev b D2 (S2.new .res)).set S2.nxt (some (.row 30 [.agg [.int .i64 0, .int .i64 0, .int .i64 0, .int .i64 0, .int .i64 0, .sl .nil [], .sl .nil [], .int .u16 0, .int .u16 0, .sl .nil []]]))), ((putDev b D2 (S2.new .res)).set S2.nxt (some (.row 30 [R.pv])))] (((putDev b D2 (S2.new .res)).set S2.nxt (some (.row 30 [R.pv])))) Try.mixed (by kernel_rfl) (by kernel_rfl) (by kernel_rfl) (by kernel_rfl) (by kernel_rfl) rfl (by kernel_rfl) rfl ?_
  refine DetHC.pre (pre := [_, _]) (s1 := (S2.new .res)) [0, 2] [(S2.new .res), ((S2.new .res).set S2.nxt (some (.row 30 [.agg [.int .i64 0, .int .i64 0, .int .i64 0, .int .i64 0, .int .i64 0, .sl .nil [], .sl .nil [], .int .u16 0, .int .u16 0, .sl .nil []]])))] (by kernel_rfl) rfl au ?_
  refine DetHC.callE (v := .sl .unk ((repF R).map (PV.int .u8))) [(0, 1), (2, 3)] [((S2.new .res), (putDev b D2 (S2.new .res))), (((S2.new .res).set S2.nxt (some (.row 30 [.agg [.int .i64 0, .int .i64 0, .int .i64 0, .int .i64 0, .int .i64 0, .sl .nil [], .sl .nil [], .int .u16 0, .int .u16 0, .sl .nil []]]))), ((putDev b D2 (S2.new .res)).set S2.nxt (some (.row 30 [.agg [.int .i64 0, .int .i64 0, .int .i64 0, .int .i64 0, .int .i64 0, .sl .nil [], .sl .nil [], .int .u16 0, .int .u16 0, .sl .nil []]]))))] (by kernel_rfl) rfl au au au (by kernel_rfl) (by intro q0 hq0; simp only [List.mem_cons, List.not_mem_nil, or_false] at hq0; rcases hq0 with rfl | rfl <;> first | exact device_PduL hpd hPr.dev oD (writeF_ok hq hqr) (by omega) | (dsimp only; rw [← putDev_set (by have := hP2.nx; omega)]; exact device_PduL hpd (hPr.hi hP2.nx _).dev oD (writeF_ok hq hqr) (by omega))) ?_
  refine DetHC.pre (pre := [_]) (s1 := (S2.new .res)) [0, 1, 2, 3] [(S2.new .res), (putDev b D2 (S2.new .res)), ((S2.new .res).set S2.nxt (some (.row 30 [.agg [.int .i64 0, .int .i64 0, .int .i64 0, .int .i64 0, .int .i64 0, .sl .nil [], .sl .nil [], .int .u16 0, .int .u16 0, .sl .nil []]]))), ((putDev b D2 (S2.new .res)).set S2.nxt (some (.row 30 [.agg [.int .i64 0, .int .i64 0, .int .i64 0, .int .i64 0, .int .i64 0, .sl .nil [], .sl .nil [], .int .u16 0, .int .u16 0, .sl .nil []]])))] (by kernel_rfl) rfl au ?_
  refine DetHC.call [1, 3] [(putDev b D2 (S2.new .res)), ((putDev b D2 (S2.new .res)).set S2.nxt (some (.row 30 [.agg [.int .i64 0, .int .i64 0, .int .i64 0, .int .i64 0, .int .i64 0, .sl .nil [], .sl .nil [], .int .u16 0, .int .u16 0, .sl .nil []]])))] (by kernel_rfl) rfl au au au (by kernel_rfl) (fun s _ => (hTk s)) ?_
  refine DetHC.pre (pre := [_, _, _]) (s1 := (putDev b D2 (S2.new .res))) [1, 3, 4] [(putDev b D2 (S2.new .res)), ((putDev b D2 (S2.new .res)).set S2.nxt (some (.row 30 [.agg [.int .i64 0, .int .i64 0, .int .i64 0, .int .i64 0, .int .i64 0, .sl .nil [], .sl .nil [], .int .u16 0, .int .u16 0, .sl .nil []]]))), ((putDev b D2 (S2.new .res)).set S2.nxt (some (.row 30 [R.pv])))] (by kernel_rfl) rfl au ?_
  refine DetHC.resAlloc (id := S2.nxt) [(0, 2), (1, 3)] [((S2.new .res), ((S2.new .res).set S2.nxt (some (.row 30 [.agg [.int .i64 0, .int .i64 0, .int .i64 0, .int .i64 0, .int .i64 0, .sl .nil [], .sl .nil [], .int .u16 0, .int .u16 0, .sl .nil []]])))), ((putDev b D2 (S2.new .res)), ((putDev b D2 (S2.new .res)).set S2.nxt (some (.row 30 [.agg [.int .i64 0, .int .i64 0, .int .i64 0, .int .i64 0, .int .i64 0, .sl .nil [], .sl .nil [], .int .u16 0, .int .u16 0, .sl .nil []]]))))] (by kernel_rfl) rfl au rfl (by rw [Try.zp30]) (by intro q0 hq0; simp only [List.mem_cons, List.not_mem_nil, or_false] at hq0; rcases hq0 with rfl | rfl <;> refine ⟨?_, rfl⟩ <;> first | exact blk_new_eq | (dsimp only; rw [putDev_hi (by have := hP2.nx; omega)]; exact blk_new_eq)) ?_
  refine DetHC.eff [(3, 4)] (((putDev b D2 (S2.new .res)).set S2.nxt (some (.row 30 [.agg [.int .i64 0, .int .i64 0, .int .i64 0, .int .i64 0, .int .i64 0, .sl .nil [], .sl .nil [], .int .u16 0, .int .u16 0, .sl .nil []]])))) (((putDev b D2 (S2.new .res)).set S2.nxt (some (.row 30 [R.pv])))) [] (by kernel_rfl) rfl au au au ?_
  refine DetHC.all (s1 := ((putDev b D2 (S2.new .res)).set S2.nxt (some (.row 30 [R.pv])))) [4] [((putDev b D2 (S2.new .res)).set S2.nxt (some (.row 30 [R.pv])))] (by kernel_rfl) rfl au ?_
  refine rl [1, 5, 6, 7, 8, 11, 12] (k := rs (k := rs (k := rr (k := ro (pre := [_, _, _]) (k := rg1 (k := rg1 (k := rg1 (k := rg1 (k := rg1 (k := rh [1, 5, 6, 7, 47] (k := rc (ht := fun hc2 => ?_) (hf := fun hc2 => ?_))))))))))))
  · cases hc2
  refine rk (k := rs (k := ?_))
  refine Run.genS fun S3 hS3 => ?_
  have hP3 : PAt s b D2 T2 S3 := by rw [hS3]; exact (hPr.put hl2).hi (by have := hP2.nx; omega) _
  clear hS3
  refine rr (k := ro (pre := [_, _, _, _, _]) (k := rQ 52 (ht := fun hg4 => ?_) (hf := fun hg4 => ?_)))
  have hir : i < rows.length := by have := of_decide_eq_true hg4; omega
  obtain ⟨r, hre⟩ : ∃ z_, rows[i]'hir = z_ := ⟨_, rfl⟩
  have hxr : (rows.map (fun l : List Int => PV.sl .unk (l.map (PV.int .u8))))[i]? = some (.sl .unk (r.map (PV.int .u8))) := by rw [List.getElem?_map, List.getElem?_eq_getElem hir, hre]; rfl
  obtain ⟨hro, hrl⟩ := hrows r (by rw [← hre]; exact List.getElem_mem _)
  have hirT : (i < rows.length) = True := eq_true hir
  have H := aj hxr (aj hirT (aj hg4 H))
  refine rg1 (k := rg1 (k := rg1 (k := rg1 (k := rg1 (k := rg1 (k := rh [1, 5, 6, 7, 59] (k := rc (ht := fun hc3 => ?_) (hf := fun hc3 => ?_))))))))
  · refine rs (k := ?_)
    have hrne : 0 < r.length := by simpa using hc3
    obtain ⟨y, ys, hry⟩ : ∃ y ys, r = y :: ys := by cases r with | nil => simp at hrne | cons y ys => exact ⟨y, ys, rfl⟩
    obtain ⟨c0, cl, hc0, hcl, hcm⟩ := pdu_head oD2 hro hrl hry
    obtain ⟨D3, hD3⟩ : ∃ D3, (pduF D2 r).2 = D3 := ⟨_, rfl⟩
    have hpr : pduF D2 r = (c0 :: cl, D3) := Prod.ext hc0 hD3
    have oD3 : D3.ok := by rw [← hD3]; exact (pduF_ok oD2 hro hrl).1
    have hl3 : D3.c0.length = D2.c0.length := by rw [← hD3]; exact (pduF_ok oD2 hro hrl).2
    refine rr (k := ro (pre := [_, _, _, _, _]) (k := ?_))
    refine RunO.callw au au au (by kernel_rfl) ((device_PduL hpr hP3.dev oD2 hro hrl).mono ?_)
    rintro r s1 ⟨rfl, rfl⟩
    refine rh [1, 5, 6, 7, 13] (k := rs (k := ?_))
    have hc8 : U8 c0 := by have := pduF_okB oD2 hro hrl; rw [hpr] at this; exact this c0 (by simp)
    have hy8 : U8 y := hro y (by rw [hry]; simp)
    have hlt2 : decide (((cl.length + 1 : Nat) : Int) < 2) = false := decide_eq_false (by omega)
    have hcc : ((c0 :: cl).map (PV.int .u8))[0]? = some (.int .u8 c0) := rfl
    have hcL : (0 < cl.length + 1) = True := by simp
    have hyy : (r.map (PV.int .u8))[0]? = some (.int .u8 y) := by rw [hry]; rfl
    have hyL : (0 < r.length) = True := eq_true hrne
    have hand : decide (ibits .and .u8 c0 127 = ibits .and .u8 y 127) = true := decide_eq_true (by rw [and127 hc8, and127 hy8, hcm])
    have H := aj hlt2 (aj hcc (aj hcL (aj hyy (aj hyL (aj hand H)))))
    refine Run.drawC [] [1, 5, 6, 7, 82] Try.mixed (by kernel_rfl) ?_
    refine DetC.pre (pre := [_, _, _, _]) au ?_
    refine DetC.gdo au au ?_
    refine DetC.gdo au au ?_
    refine DetC.gdo au au ?_
    refine DetC.gdo au au ?_
    refine DetC.gdo au au ?_
    refine DetC.gdo au au ?_
    refine DetC.gdo au au ?_
    refine DetC.gdo au au ?_
    refine DetC.gdo au au ?_
    refine DetC.gdo au au ?_
    refine DetC.gdo au au ?_
    refine DetC.gdo au au ?_
    refine DetC.all au ?_
    refine re (k := rc (ht := fun hc4 => ?_) (hf := fun hc4 => ?_))
    · cases hc4
    · refine rk (k := rB (k := ?_))
      have hwi : IntKind.i64.wrap ((i : Int) + 1) = ((i + 1 : Nat) : Int) := by rw [wrap_i64 (by omega)]; omega
      have H := aj hwi H
      refine rg [1, 5, 6, 7] (k := ?_)
      have hil : i < 20 := by have := of_decide_eq_true hc1; omega
      refine Run.lp ⟨⟨i + 1, D3, T2, rfl, by omega, oD3, hT2, hP3.put hl3⟩, ?_⟩
      simp only [ivar, go_sem, ↓reduceIte, Nat.reduceEqDiff]
      omega
  refine jO 1 ?_; rotate_left
  have hg4' := hg4
  have H := aj hg4' H
  refine rg0 (k := rg0 (k := rg0 (k := rg0 (k := rg0 (k := rg0 (k := rh [1, 5, 6, 7, 59] (k := rc (ht := fun hc3 => ?_) (hf := fun hc3 => ?_))))))))
  · cases hc3
  refine jO 1 ?_; rotate_left
  · refine rX (k := rs (k := rr (k := rC (h := law9_known) (k := rh [4] (k := rR (k := ?_))))))
    exact Ret.pure (r' := .bool true) (by simp only [Try.f4, go_sem, ↓reduceIte] <;> rfl) (by simp only [PV.weak]) (by simp only [PV.blw]) hwf (fun i hi => hP.low i (by omega)) ⟨rfl, rfl⟩
  any_goals
    refine jI 1 ?_
    refine rk (k := rB (k := ?_))
    refine jO 2 ?_; rotate_left
  any_goals
    refine jI 2 ?_
    have hwi : IntKind.i64.wrap ((i : Int) + 1) = ((i + 1 : Nat) : Int) := by rw [wrap_i64 (by omega)]; omega
    refine jO 3 ?_; rotate_left
  any_goals
    refine jI 3 ?_
    have H := aj hwi H
    refine jO 4 ?_; rotate_left
  any_goals
    refine jI 4 ?_
    refine rg [1, 5, 6, 7] (k := ?_)
    refine jO 5 ?_; rotate_left
  any_goals
    refine jI 5 ?_
    have hil : i < 20 := by have := of_decide_eq_true hc1; omega
    refine jO 6 ?_; rotate_left
  any_goals
    refine jI 6 ?_
    refine Run.lp ⟨⟨i + 1, D2, T2, rfl, by omega, oD2, hT2, hP3⟩, ?_⟩
    simp only [ivar, go_sem, ↓reduceIte, Nat.reduceEqDiff]
    omega
end Go.Proofs
namespace Go.Proofs
open Go.PM
set_option maxHeartbeats 2000000
theorem rd_rows : Rd Try.prog 39 false fun p => ∃ rows : List (List Int), p = .sl .unk (rows.map (fun l : List Int => PV.sl .unk (l.map (PV.int .u8)))) ∧ rows.length < 140737488355328 ∧ ∀ r ∈ rows, OkB r ∧ r.length ≤ 140737488351232 :=
  Rd.mono (rd_slice (e := 28) (by kernel_rfl) (by rw [Try.cz28]; decide) (rd_slice (e := 5) (by kernel_rfl) (by rw [Try.cz5]; decide) (rd_int (k := .u8) (by kernel_rfl)))) (by
    rintro p ⟨els, rfl, h, hb⟩
    obtain ⟨rows, rfl, k⟩ := choose_list (f := (fun l : List Int => PV.sl .unk (l.map (PV.int .u8)))) (q := fun r => OkB r ∧ r.length ≤ 140737488351232) (l := els) fun x hx => by
      obtain ⟨bs, rfl, hbs, bb⟩ := h x hx
      obtain ⟨l, rfl, kl⟩ := choose_list (f := PV.int .u8) (q := fun n => U8 n) (l := bs) fun y hy => by
        obtain ⟨n, rfl, hn⟩ := hbs y hy
        exact ⟨n, rfl, wf_u8 hn⟩
      rw [List.length_map, Try.by5] at bb
      have hr : reachBytes = 140737488351232 := rfl
      exact ⟨l, rfl, kl, by omega⟩
    rw [List.length_map, Try.by28] at hb
    have hr : reachBytes = 140737488351232 := rfl
    exact ⟨rows, rfl, by omega, k⟩)
end Go.Proofs

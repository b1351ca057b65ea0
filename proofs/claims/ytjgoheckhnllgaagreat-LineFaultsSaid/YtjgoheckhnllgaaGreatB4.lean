import Derived.Test.YtjgoheckhnllgaaGreatB3
import Derived.Test.YtjgoheckhnllgaaGreatB2
set_option linter.unusedVariables false
set_option linter.unusedSimpArgs false
namespace Go.Proofs
open Go.PM
set_option maxHeartbeats 2000000
theorem crc_SealO {l : List Int} (hb : OkB l) (hl : l.length + 2 ≤ 140737488355328) {s : St} : ACalls Tryz.prog 78 [.sl .unk (l.map (PV.int .u8))] s (fun r s' => r = .own s.nxt 0 (l.length + 2) ∧ s' = s.new (.row 5 ((sealB l).map (PV.int .u8)))) := by
 refine go Tryz.func78 (k := fun hwf H => ?_)
 refine rs (k := rg [0] (k := rs (k := rr (k := ro (pre := [_]) (k := ?_)))))
 refine RunO.call au au T27 ((crc_Of hb T21).mono ?_)
 rintro r s1 ⟨rfl, hs⟩
 subst s1
 refine rh [0, 3] (k := rs (k := rr (k := ro (pre := [_]) (k := ?_))))
 refine RunO.call au au T27 ((clip_u8 (xs := l)).mono ?_)
 rintro r s1 ⟨rfl, hs⟩
 subst s1
 refine ro (pre := [_, _, _, _, _]) (k := rO (k := ?_))
 refine RunO.appendFirst au au au Tryz.td23 T31 (isEls_map (P := Tryz.prog) (e := 5) (f := PV.int .u8) (fun a => ⟨rfl, T32⟩) _) (isEls_map (P := Tryz.prog) (e := 5) (f := PV.int .u8) (fun a => ⟨rfl, T32⟩) [_, _]) T33 T34 (by unfold aAppendFirst; dsimp only; rw [if_pos T143]) ?_
 refine rh [2] (k := rR (k := ?_))
 refine Ret.all (r := .own s.nxt 0 (l.length + 2)) (by simp only [Tryz.f78, go_sem, ↓reduceIte] <;> simp) ⟨rfl, ?_⟩
 congr 2
 simp [sealB, crc_hi, crc_hi']
theorem rtu_FrameO {b : List Int} (hb : OkB b) (h1 : b ≠ []) (h2 : b.length ≤ 253) {s : St} : ACalls Tryz.prog 91 [.int .i64 17, .sl .unk (b.map (PV.int .u8))] s (fun r s' => r = .tuple [.own (s.nxt + 1) 0 (b.length + 3), .int .i64 0] ∧ s' = (s.new (.tok (17 :: b).length)).new (.row 5 ((sealB (17 :: b)).map (PV.int .u8)))) := by
 refine go Tryz.func91 (k := fun hwf H => ?_)
 have g0 : decide ((17 : Int) < 1) = false := T22
 have g1 : decide ((247 : Int) < 17) = false := T22
 have hp : 0 < b.length := List.length_pos_iff.2 h1
 have g2 : decide ((b.length : Int) = 0) = false := decide_eq_false T21
 have g3 : decide ((253 : Int) < (b.length : Int)) = false := decide_eq_false T21
 have gw : IntKind.u8.wrap 17 = 17 := T22
 have hao : OkB (17 :: b) := OkB.cons T23 hb
 have H := aj g0 (aj g1 (aj g2 (aj g3 (aj gw H))))
 refine rs (k := rg [0, 1] (k := rs (k := rb (k := rs (k := rg [0, 1, 6] (k := rc (ht := fun hc0 => ?_) (hf := fun hc0 => ?_)))))))
 · cases hc0
 · refine rs (k := rg [0, 1, 13] (k := rc (ht := fun hc1 => ?_) (hf := fun hc1 => ?_)))
   · cases hc1
   · refine rs (k := rg [0, 1, 17] (k := rc (ht := fun hc2 => ?_) (hf := fun hc2 => ?_)))
     · cases hc2
     · refine rk (k := rB (k := rs (k := rr (k := ro (pre := [_, _]) (k := rO (k := ro (pre := [_]) (k := ?_)))))))
       refine RunO.append (v := .sl (.tok s.nxt 1) ((17 :: b).map (PV.int .u8))) (s' := s.new (.tok (17 :: b).length)) au au au Tryz.td23 T31 (isEls_map (P := Tryz.prog) (e := 5) (f := PV.int .u8) (fun a => ⟨rfl, T32⟩) [_]) (isEls_map (P := Tryz.prog) (e := 5) (f := PV.int .u8) (fun a => ⟨rfl, T32⟩) b) T33 T34 (by unfold aAppend; rw [if_neg (by simpa using h1), Tryz.cz5]; simp [Nat.add_comm]) ?_
       refine RunO.callw au au au T27 ((crc_SealO (l := 17 :: b) hao T199).mono ?_)
       rintro r s1 ⟨rfl, rfl⟩
       refine rh [4, 5] (k := rR (k := ?_))
       exact Ret.all (by simp only [Tryz.f91, go_sem, ↓reduceIte] <;> rfl) ⟨by simp [nxt_new], rfl⟩
theorem line_frame {b : List Int} (hb : OkB b) (hl : b.length ≤ 140737488350000) {s : St} : ACalls Tryz.prog 73 [.sl .unk (b.map (PV.int .u8))] s (fun r s' => r = .sl .unk ((frameF b).map (PV.int .u8)) ∧ s' = s) := by
 refine go Tryz.func73 (k := fun hwf H => ?_)
 refine rs (k := rg [0] (k := rs (k := rr (k := ro (pre := [_]) (k := rC (h := rtu_Frame (a := 17) hb hl) (k := rh [3] (k := rs (k := rg [2] (k := rR (k := ?_))))))))))
 exact Ret.all (by simp only [Tryz.f73, go_sem, ↓reduceIte] <;> rfl) ⟨rfl, rfl⟩
theorem line_frameO {b : List Int} (hb : OkB b) (h1 : b ≠ []) (h2 : b.length ≤ 253) {s : St} : ACalls Tryz.prog 73 [.sl .unk (b.map (PV.int .u8))] s (fun r s' => r = .own (s.nxt + 1) 0 (b.length + 3) ∧ s' = (s.new (.tok (17 :: b).length)).new (.row 5 ((sealB (17 :: b)).map (PV.int .u8)))) := by
 refine go Tryz.func73 (k := fun hwf H => ?_)
 refine rs (k := rg [0] (k := rs (k := rr (k := ro (pre := [_]) (k := ?_)))))
 refine RunO.callw au au au T27 ((rtu_FrameO hb h1 h2).mono ?_)
 rintro r s1 ⟨rfl, rfl⟩
 refine rh [3] (k := rs (k := rg [2] (k := rR (k := ?_))))
 exact Ret.all (by simp only [Tryz.f73, go_sem, ↓reduceIte] <;> rfl) ⟨rfl, rfl⟩
theorem pduF_len {D : Dev} (hD : D.ok) {p : List Int} (hp : OkB p) (hpl : p.length ≤ 253) : (pduF D p).1.length ≤ 140737488350000 := by
 have h : ∀ R : Rep, (repF R).length ≤ 300 := fun R => by
   unfold repF
   split
   · exact layF_len ‹_›
   · simp
 unfold pduF
 split
 · simp
 · dsimp only
   exact Nat.le_trans (h _) T21
theorem refuse_mod (x : Int) : refuseP x 4 = refuseP (x % 128) 4 := by
 unfold refuseP
 rw [show x % 128 % 128 = x % 128 from T21]
theorem line_fine {ln b : Nat} {a0 a1 a2 a3 st : PV} {D : Dev} {s : St} (hl : s.blk ln = some (lnRow (b + 5) a0 a1 a2 a3 st)) (hA : DevAt b D s) (hD : D.ok) {p : List Int} (hp : OkB p) (hpl : p.length ≤ 253) : ACalls Tryz.prog 51 [.ptr ln 0 0, .sl .unk (p.map (PV.int .u8))] s (fun r s' => r = .sl .unk ((lineF 0 D p).1.map (PV.int .u8)) ∧ s' = putDev b (lineF 0 D p).2 s) := by
 refine go Tryz.func51 (k := fun hwf H => ?_)
 unfold lnRow at hl
 obtain ⟨⟨x, D'⟩, hX⟩ : ∃ Z, pduF D p = Z := ⟨_, rfl⟩
 have hxo : OkB x := by have := pduF_okB hD hp T21; rwa [hX] at this
 have hxl : x.length ≤ 140737488350000 := by have := pduF_len hD hp hpl; rw [hX] at this; exact this
 have hpd : ∀ s, DevAt b D s → ACalls Tryz.prog 74 [.ptr (b + 5) 0 0, .sl .unk (p.map (PV.int .u8))] s (fun r s' => r = .sl .unk (x.map (PV.int .u8)) ∧ s' = putDev b D' s) := fun s hA => by
   have := device_Pdu hA hD hp (s := s) T21
   rwa [hX] at this
 have H := aj hl H
 refine rs (k := rg [0, 1] (k := rs (k := rr (k := ro (pre := [_, _, _, _, _]) (k := ?_)))))
 refine RunO.callw au au au T27 ((hpd _ hA).mono ?_)
 rintro r s1 ⟨rfl, rfl⟩
 refine rC (h := line_frame hxo hxl) (k := rh [4] (k := rR (k := ?_)))
 exact Ret.all (by simp only [Tryz.f51, go_sem, ↓reduceIte] <;> rfl) ⟨by show _ = PV.sl .unk ((frameF (pduF D p).1).map _); rw [hX], by show _ = putDev b (pduF D p).2 s; rw [hX]⟩
theorem line_fineO {ln b : Nat} {a0 a1 a2 a3 st : PV} {D : Dev} {s : St} (hl : s.blk ln = some (lnRow (b + 5) a0 a1 a2 a3 st)) (hA : DevAt b D s) (hD : D.ok) {p : List Int} (hp : OkB p) (hpl : p.length ≤ 253) (h1 : (pduF D p).1 ≠ []) (h2 : (pduF D p).1.length ≤ 253) : ACalls Tryz.prog 51 [.ptr ln 0 0, .sl .unk (p.map (PV.int .u8))] s (fun r s' => r = .own (s.nxt + 1) 0 ((pduF D p).1.length + 3) ∧ s' = ((putDev b (pduF D p).2 s).new (.tok (17 :: (pduF D p).1).length)).new (.row 5 ((sealB (17 :: (pduF D p).1)).map (PV.int .u8)))) := by
 refine go Tryz.func51 (k := fun hwf H => ?_)
 unfold lnRow at hl
 obtain ⟨⟨x, D'⟩, hX⟩ : ∃ Z, pduF D p = Z := ⟨_, rfl⟩
 have hxo : OkB x := by have := pduF_okB hD hp T21; rwa [hX] at this
 have hxl : x.length ≤ 140737488350000 := by have := pduF_len hD hp hpl; rw [hX] at this; exact this
 have hpd : ∀ s, DevAt b D s → ACalls Tryz.prog 74 [.ptr (b + 5) 0 0, .sl .unk (p.map (PV.int .u8))] s (fun r s' => r = .sl .unk (x.map (PV.int .u8)) ∧ s' = putDev b D' s) := fun s hA => by
   have := device_Pdu hA hD hp (s := s) T21
   rwa [hX] at this
 rw [hX] at h1 h2 ⊢
 have H := aj hl H
 refine rs (k := rg [0, 1] (k := rs (k := rr (k := ro (pre := [_, _, _, _, _]) (k := ?_)))))
 refine RunO.callw au au au T27 ((hpd _ hA).mono ?_)
 rintro r s1 ⟨rfl, rfl⟩
 refine RunO.callw au au au T27 ((line_frameO hxo h1 h2).mono ?_)
 rintro r s1 ⟨rfl, rfl⟩
 refine rh [4] (k := rR (k := ?_))
 exact Ret.all (by simp only [Tryz.f51, go_sem, ↓reduceIte] <;> rfl) ⟨rfl, rfl⟩
theorem line_lost {ln b : Nat} {a0 a1 a2 a3 st : PV} {D : Dev} {s : St} (hl : s.blk ln = some (lnRow (b + 5) a0 a1 a2 a3 st)) (hA : DevAt b D s) (hD : D.ok) {p : List Int} (hp : OkB p) (hpl : p.length ≤ 253) : ACalls Tryz.prog 52 [.ptr ln 0 0, .sl .unk (p.map (PV.int .u8))] s (fun r s' => r = .sl .unk ((lineF 1 D p).1.map (PV.int .u8)) ∧ s' = putDev b (lineF 1 D p).2 s) := by
 refine go Tryz.func52 (k := fun hwf H => ?_)
 refine rs (k := rg [] (k := rs (k := rg [4] (k := rR (k := ?_)))))
 refine Ret.pure (r' := .sl .unk []) (by simp only [Tryz.f52, go_sem, ↓reduceIte] <;> rfl) rfl T90 hwf (fun _ _ => rfl) ⟨rfl, (putDev_self hA).symm⟩
theorem line_mute {ln b : Nat} {a0 a1 a2 a3 st : PV} {D : Dev} {s : St} (hl : s.blk ln = some (lnRow (b + 5) a0 a1 a2 a3 st)) (hA : DevAt b D s) (hD : D.ok) {p : List Int} (hp : OkB p) (hpl : p.length ≤ 253) : ACalls Tryz.prog 53 [.ptr ln 0 0, .sl .unk (p.map (PV.int .u8))] s (fun r s' => r = .sl .unk ((lineF 2 D p).1.map (PV.int .u8)) ∧ s' = putDev b (lineF 2 D p).2 s) := by
 refine go Tryz.func53 (k := fun hwf H => ?_)
 refine rs (k := rg [0, 1] (k := rs (k := rr (k := ro (pre := [_, _]) (k := ?_)))))
 refine RunO.callw au au au T27 ((line_fine hl hA hD hp hpl).mono ?_)
 rintro r s1 ⟨rfl, rfl⟩
 refine rl [] (k := rs (k := rg [4] (k := rR (k := ?_))))
 exact Ret.dev (lineF 2 D p).2 hA (r' := .sl .unk []) (by simp only [Tryz.f53, go_sem, ↓reduceIte] <;> rfl) rfl T90 hwf (fun _ _ => rfl) ⟨rfl, rfl⟩
attribute [local go_sem] weaks_bools Rep.pv
theorem line_refuse {ln b : Nat} {a0 a1 a2 a3 st : PV} {D : Dev} {s : St} (hl : s.blk ln = some (lnRow (b + 5) a0 a1 a2 a3 st)) (hA : DevAt b D s) (hD : D.ok) {p : List Int} (hp : OkB p) (hpl : p.length ≤ 253) (hne : p ≠ []) : ACalls Tryz.prog 55 [.ptr ln 0 0, .sl .unk (p.map (PV.int .u8))] s (fun r s' => r = .sl .unk ((lineF 4 D p).1.map (PV.int .u8)) ∧ s' = putDev b (lineF 4 D p).2 s) := by
 refine go Tryz.func55 (k := fun hwf H => ?_)
 have hll : 0 < p.length := List.length_pos_iff.2 hne
 obtain ⟨x, hx⟩ : ∃ x, p[0]? = some x := ⟨p[0], List.getElem?_eq_getElem hll⟩
 have hxx : (p.map (PV.int .u8))[0]? = some (.int .u8 x) := T153
 have hlT : (0 < p.length) = True := eq_true hll
 have hx8 : U8 x := hp x (List.mem_of_getElem? hx)
 have hx0 : (p[0]?).getD 0 = x := by rw [hx]; rfl
 have ha127 : ibits .and .u8 x 127 = x % 128 := u8_and127 hx8
 have hw : IntKind.i64.wrap (x % 128) = x % 128 := wrap_i64 T21
 have hx64 : I64 (x % 128) := T152
 have h4 : I64 4 := T23
 have hrl : (repF (refuseP (x % 128) 4)).length ≤ 140737488350000 := by
   unfold repF
   split
   · exact Nat.le_trans (layF_len ‹_›) T21
   · simp
 have H := aj hxx (aj hlT (aj ha127 (aj hw H)))
 refine rs (k := rg [1] (k := rs (k := rr (k := ro (pre := [_, _, _, _, _]) (k := rC (h := reply_Refuse (fn := x % 128) (code := 4) hx64 h4) (k := rC (h := reply_Bytes (refuseP_ok _ _)) (k := rh [5] (k := rs (k := rr (k := ro (pre := [_]) (k := rC (h := line_frame (repF_ok (refuseP_ok _ _)) hrl) (k := rh [4] (k := rR (k := ?_))))))))))))))
 exact Ret.all (by simp only [Tryz.f55, go_sem, ↓reduceIte] <;> rfl) ⟨by show _ = PV.sl .unk ((frameF (repF (refuseP ((p[0]?).getD 0) 4))).map _); rw [hx0, refuse_mod x], (putDev_self hA).symm⟩
end Go.Proofs
namespace Go.Proofs
open Go.PM
set_option maxHeartbeats 2000000
theorem line_brokenN {ln b : Nat} {a0 a1 a2 a3 st : PV} {D : Dev} {s : St} (hl : s.blk ln = some (lnRow (b + 5) a0 a1 a2 a3 st)) (hA : DevAt b D s) (hD : D.ok) {p : List Int} (hp : OkB p) (hpl : p.length ≤ 253) (hz : frameF (pduF D p).1 = []) : ACalls Tryz.prog 54 [.ptr ln 0 0, .sl .unk (p.map (PV.int .u8))] s (fun r s' => r = .sl .unk ((lineF 3 D p).1.map (PV.int .u8)) ∧ s' = putDev b (lineF 3 D p).2 s) := by
 refine go Tryz.func54 (k := fun hwf H => ?_)
 have hz2 : (lineF 0 D p).1 = [] := hz
 have hzl : (((lineF 0 D p).1.length : Nat) : Int) = 0 := by rw [hz2]; rfl
 have H := aj hzl H
 refine rs (k := rg [0, 1] (k := rs (k := rr (k := ro (pre := [_, _]) (k := ?_)))))
 refine RunO.callw au au au T27 ((line_fine hl hA hD hp hpl).mono ?_)
 rintro r s1 ⟨rfl, rfl⟩
 refine rh [5] (k := rs (k := rs (k := rg [5, 6] (k := rs (k := rg [5, 6, 13] (k := rc (ht := fun hc0 => ?_) (hf := fun hc0 => ?_)))))))
 · cases hc0
 · refine rk (k := rs (k := rg [4] (k := rR (k := ?_))))
   exact Ret.all (by simp only [Tryz.f54, go_sem, ↓reduceIte] <;> rfl) ⟨by rw [hz2]; show _ = PV.sl .unk ((flipL (frameF (pduF D p).1)).map _); rw [hz]; rfl, rfl⟩
attribute [local go_sem] set_set putDev_hi putDev_nxt
theorem line_brokenO {ln b : Nat} {a0 a1 a2 a3 st : PV} {D : Dev} {s : St} (hl : s.blk ln = some (lnRow (b + 5) a0 a1 a2 a3 st)) (hA : DevAt b D s) (hD : D.ok) {p : List Int} (hp : OkB p) (hpl : p.length ≤ 253) (h1 : (pduF D p).1 ≠ []) (h2 : (pduF D p).1.length ≤ 253) : ACalls Tryz.prog 54 [.ptr ln 0 0, .sl .unk (p.map (PV.int .u8))] s (fun r s' => r = .sl .unk ((lineF 3 D p).1.map (PV.int .u8)) ∧ s' = putDev b (lineF 3 D p).2 s) := by
 refine go Tryz.func54 (k := fun hwf H => ?_)
 obtain ⟨Z, hZ⟩ : ∃ Z, Z = sealB (17 :: (pduF D p).1) := ⟨_, rfl⟩
 have hZl : Z.length = (pduF D p).1.length + 3 := by rw [hZ, sealB_len, List.length_cons]
 have hlt := hA.lt hwf
 obtain ⟨m, hm⟩ : ∃ m, m + 1 = Z.length := ⟨(pduF D p).1.length + 2, T21⟩
 have hml : m < Z.length := T21
 obtain ⟨z, hz⟩ : ∃ z, Z[m]'hml = z := ⟨_, rfl⟩
 have hzz : (Z.map (PV.int .u8))[m]? = some (.int .u8 z) := by rw [map_get hml, hz]
 have hT1 : ((0 : Int) < (((pduF D p).1.length + 3 : Nat) : Int)) = True := eq_true T21
 have hw : IntKind.i64.wrap ((((pduF D p).1.length + 3 : Nat) : Int) - 1) = (m : Int) := T29
 have hmT : (m < (pduF D p).1.length + 3) = True := eq_true T21
 have hmT2 : ((m : Int) < (((pduF D p).1.length + 3 : Nat) : Int)) = True := eq_true T21
 have hset : (Z.map (PV.int .u8)).set m (.int .u8 (ibits .xor .u8 z 1)) = (Z.set m (ibits .xor .u8 z 1)).map (PV.int .u8) := by rw [List.map_set]
 have hfl : Z.set m (ibits .xor .u8 z 1) = flipL (frameF (pduF D p).1) := by
   rw [frameF_eq h1 h2, ← hZ]
   unfold flipL
   rw [show Z.length - 1 = m from T21, List.getElem?_eq_getElem hml, hz]; rfl
 have H := aj hzz (aj hT1 (aj hw (aj hmT (aj hmT2 (aj hset H)))))
 refine rs (k := rg [0, 1] (k := rs (k := rr (k := ro (pre := [_, _]) (k := ?_)))))
 refine RunO.callw au au au T27 ((line_fineO hl hA hD hp hpl h1 h2).mono ?_)
 rintro r s1 ⟨rfl, rfl⟩
 rw [← hZ]
 refine rh [5] (k := rs (k := rs (k := rg [5, 6] (k := rs (k := rg [5, 6, 13] (k := rc (ht := fun hc0 => ?_) (hf := fun hc0 => ?_)))))))
 · refine rg [5] (k := rs (k := rr (k := ?_)))
   refine RunO.thaw 5 (s.nxt + 1) 2 (v := .sl .unk ((flipL (frameF (pduF D p).1)).map (PV.int .u8))) (by simp (disch := omega) only [go_sem, ↓reduceIte]; rw [← hfl]; exact frz_own_ints (t := 5) (by rw [List.length_set]; omega) T143 (by simp (disch := first | omega | (simp only [nxt_set, nxt_new, putDev_nxt] <;> omega) | fail) only [go_sem, putDev_nxt, ↓reduceIte, H] <;> rfl)) (by simp only [PV.blw, blws_u8T]; exact ⟨fun t z e => T20, trivial⟩) ?_
   refine ro (pre := [_]) (k := rh [4] (k := rR (k := ?_)))
   exact Ret.dev (lineF 3 D p).2 hA (r' := .sl .unk ((flipL (frameF (pduF D p).1)).map (PV.int .u8))) (by simp only [Tryz.f54, go_sem, ↓reduceIte] <;> rfl) (by simp only [PV.weak, weaks_u8]) T28 hwf (fun i hi => by first | rfl | (have h0 := ltn hi; have h1 := lte hi; simp (disch := first | omega | (simp only [nxt_set, nxt_new, putDev_nxt] <;> omega) | fail) only [go_sem, putDev_nxt, Nat.add_assoc, Nat.reduceAdd, ↓reduceIte, h0, h1] <;> rfl)) ⟨rfl, rfl⟩
 · cases hc0
theorem line_broken {ln b : Nat} {a0 a1 a2 a3 st : PV} {D : Dev} {s : St} (hl : s.blk ln = some (lnRow (b + 5) a0 a1 a2 a3 st)) (hA : DevAt b D s) (hD : D.ok) {p : List Int} (hp : OkB p) (hpl : p.length ≤ 253) : ACalls Tryz.prog 54 [.ptr ln 0 0, .sl .unk (p.map (PV.int .u8))] s (fun r s' => r = .sl .unk ((lineF 3 D p).1.map (PV.int .u8)) ∧ s' = putDev b (lineF 3 D p).2 s) := by
 by_cases h1 : (pduF D p).1 = []
 · exact line_brokenN hl hA hD hp hpl (by rw [h1]; rfl)
 · by_cases h2 : (pduF D p).1.length ≤ 253
   · exact line_brokenO hl hA hD hp hpl h1 h2
   · refine line_brokenN hl hA hD hp hpl ?_
     unfold frameF frameA
     rw [if_neg T22, if_neg h1, if_pos T21]
theorem T112 {p : Prop} (h : p := by simp only [Tryz.f36, go_sem, ↓reduceIte] <;> rfl) : p := h
theorem T113 {p : Prop} (h : p := by simp only [PV.blw, PV.blws, and_true]; exact hln) : p := h
theorem line_does0 {ln : Nat} {s : St} (hln : ln < s.nxt) : ACalls Tryz.prog 36 [.ptr ln 0 0, .int .i64 0] s (fun r s' => r = .fn (.func 51) [.ptr ln 0 0] [] ∧ s' = s) := by
 refine go Tryz.func36 (k := fun hwf H => ?_)
 have f0 : ((0 : Int) < ((5 : Nat) : Int)) = True := eq_true T22
 have f1 : ((0 : Int) ≤ 0) = True := eq_true T22
 have f2 : Int.toNat 0 = 0 := rfl
 have H := aj f0 (aj f1 (aj f2 H))
 refine rs (k := rg [0, 1] (k := rs (k := rg [1, 5] (k := rs (k := rg [4] (k := rR (k := ?_)))))))
 exact Ret.pure (r' := .fn (.func 51) [.ptr ln 0 0] []) T112 (by rfl) T113 hwf T39 ⟨rfl, rfl⟩
theorem line_does1 {ln : Nat} {s : St} (hln : ln < s.nxt) : ACalls Tryz.prog 36 [.ptr ln 0 0, .int .i64 1] s (fun r s' => r = .fn (.func 52) [.ptr ln 0 0] [] ∧ s' = s) := by
 refine go Tryz.func36 (k := fun hwf H => ?_)
 have f0 : ((1 : Int) < ((5 : Nat) : Int)) = True := eq_true T22
 have f1 : ((0 : Int) ≤ 1) = True := eq_true T22
 have f2 : Int.toNat 1 = 1 := rfl
 have H := aj f0 (aj f1 (aj f2 H))
 refine rs (k := rg [0, 1] (k := rs (k := rg [1, 5] (k := rs (k := rg [4] (k := rR (k := ?_)))))))
 exact Ret.pure (r' := .fn (.func 52) [.ptr ln 0 0] []) T112 (by rfl) T113 hwf T39 ⟨rfl, rfl⟩
theorem line_does2 {ln : Nat} {s : St} (hln : ln < s.nxt) : ACalls Tryz.prog 36 [.ptr ln 0 0, .int .i64 2] s (fun r s' => r = .fn (.func 53) [.ptr ln 0 0] [] ∧ s' = s) := by
 refine go Tryz.func36 (k := fun hwf H => ?_)
 have f0 : ((2 : Int) < ((5 : Nat) : Int)) = True := eq_true T22
 have f1 : ((0 : Int) ≤ 2) = True := eq_true T22
 have f2 : Int.toNat 2 = 2 := rfl
 have H := aj f0 (aj f1 (aj f2 H))
 refine rs (k := rg [0, 1] (k := rs (k := rg [1, 5] (k := rs (k := rg [4] (k := rR (k := ?_)))))))
 exact Ret.pure (r' := .fn (.func 53) [.ptr ln 0 0] []) T112 (by rfl) T113 hwf T39 ⟨rfl, rfl⟩
theorem line_does3 {ln : Nat} {s : St} (hln : ln < s.nxt) : ACalls Tryz.prog 36 [.ptr ln 0 0, .int .i64 3] s (fun r s' => r = .fn (.func 54) [.ptr ln 0 0] [] ∧ s' = s) := by
 refine go Tryz.func36 (k := fun hwf H => ?_)
 have f0 : ((3 : Int) < ((5 : Nat) : Int)) = True := eq_true T22
 have f1 : ((0 : Int) ≤ 3) = True := eq_true T22
 have f2 : Int.toNat 3 = 3 := rfl
 have H := aj f0 (aj f1 (aj f2 H))
 refine rs (k := rg [0, 1] (k := rs (k := rg [1, 5] (k := rs (k := rg [4] (k := rR (k := ?_)))))))
 exact Ret.pure (r' := .fn (.func 54) [.ptr ln 0 0] []) T112 (by rfl) T113 hwf T39 ⟨rfl, rfl⟩
theorem line_does4 {ln : Nat} {s : St} (hln : ln < s.nxt) : ACalls Tryz.prog 36 [.ptr ln 0 0, .int .i64 4] s (fun r s' => r = .fn (.func 55) [.ptr ln 0 0] [] ∧ s' = s) := by
 refine go Tryz.func36 (k := fun hwf H => ?_)
 have f0 : ((4 : Int) < ((5 : Nat) : Int)) = True := eq_true T22
 have f1 : ((0 : Int) ≤ 4) = True := eq_true T22
 have f2 : Int.toNat 4 = 4 := rfl
 have H := aj f0 (aj f1 (aj f2 H))
 refine rs (k := rg [0, 1] (k := rs (k := rg [1, 5] (k := rs (k := rg [4] (k := rR (k := ?_)))))))
 exact Ret.pure (r' := .fn (.func 55) [.ptr ln 0 0] []) T112 (by rfl) T113 hwf T39 ⟨rfl, rfl⟩
end Go.Proofs
namespace Go.Proofs
open Go.PM
set_option maxHeartbeats 2000000
theorem Ret.allW {P : Program} {fn : Func} {args : List PV} {s0 s : St} {Q : PV → St → Prop} {e : Env} {r r' : PV} (hr : retv P fn.results.toList e s = some r) (hr' : r' = r.weak) (h : Q r' s) : Ret P fn args s0 Q e s := by
 subst hr'
 exact ⟨r, hr, r.weak, s, h, fun g0 w0 g w _ hX hI v hv => ⟨g, hI, R_weak r v hv, hX⟩⟩
structure Snt where
 tick : Int
 tenant : Int
 data : List Int
def Snt.pv (x : Snt) : PV := .agg [.int .i64 x.tick, .int .i64 x.tenant, .sl .unk (x.data.map (PV.int .u8))]
theorem line_body {f : Int} (hf : 0 ≤ f ∧ f ≤ 4) : ∃ N : Nat, (∀ {ln : Nat} {s : St}, ln < s.nxt → ACalls Tryz.prog 36 [.ptr ln 0 0, .int .i64 f] s (fun r s' => r = .fn (.func N) [.ptr ln 0 0] [] ∧ s' = s)) ∧ callable Tryz.prog N = true ∧
   ∀ {ln b : Nat} {a0 a1 a2 a3 st : PV} {D : Dev} {s : St}, s.blk ln = some (lnRow (b + 5) a0 a1 a2 a3 st) → DevAt b D s → D.ok → ∀ {p : List Int}, OkB p → p.length ≤ 253 → p ≠ [] → ACalls Tryz.prog N [.ptr ln 0 0, .sl .unk (p.map (PV.int .u8))] s (fun r s' => r = .sl .unk ((lineF f D p).1.map (PV.int .u8)) ∧ s' = putDev b (lineF f D p).2 s) := by
 obtain rfl | rfl | rfl | rfl | rfl : f = 0 ∨ f = 1 ∨ f = 2 ∨ f = 3 ∨ f = 4 := T21
 · exact ⟨51, fun h => line_does0 h, T27, fun hl hA hD _ hp hpl _ => line_fine hl hA hD hp hpl⟩
 · exact ⟨52, fun h => line_does1 h, T27, fun hl hA hD _ hp hpl _ => line_lost hl hA hD hp hpl⟩
 · exact ⟨53, fun h => line_does2 h, T27, fun hl hA hD _ hp hpl _ => line_mute hl hA hD hp hpl⟩
 · exact ⟨54, fun h => line_does3 h, T27, fun hl hA hD _ hp hpl _ => line_broken hl hA hD hp hpl⟩
 · exact ⟨55, fun h => line_does4 h, T27, fun hl hA hD _ hp hpl hne => line_refuse hl hA hD hp hpl hne⟩
attribute [local go_sem] set_set putDev_hi putDev_nxt
theorem T56 {p : Prop} (h : p := by first | exact isEls_map (P := Tryz.prog) (e := 80) (f := Snt.pv) (fun a => ⟨rfl, by rw [Tryz.cz80]; first | done | rfl⟩) _ | (intro p hp; cases hp)) : p := h
theorem T168 {p : Prop} (h : p := by simp only [Tryz.f17, go_sem, ↓reduceIte] <;> rfl) : p := h
theorem T222 {p : Prop} (h : p := by simp only [go_sem, List.map_cons, List.map_nil, Snt.pv, ↓reduceIte, Nat.reduceEqDiff, H] <;> rfl) : p := h
set_option maxRecDepth 100000 in
theorem line_SendN {ln b : Nat} {a0 a1 a2 a3 c0 c1 c2 c3 : PV} {D : Dev} {tn tick f : Int} (hf : 0 ≤ f ∧ f ≤ 4) {fr : List Int} (hfo : OkB fr) (hfl : fr.length ≤ 140737488350000) {s : St} (hl : s.blk ln = some (lnRow (b + 5) a0 a1 a2 a3 (.sl .nil []))) (hA : DevAt b D s) (hD : D.ok) (hbl : b + 5 < ln) 
   (htake : ∀ S' : St, S'.blk ln = some (lnRow (b + 5) a0 a1 a2 a3 (.sl (.tok s.nxt 3) ([(⟨tick, tn, fr⟩ : Snt)].map Snt.pv))) → ACalls Tryz.prog 37 [.ptr ln 0 0, .int .i64 tn] S' (fun r s' => r = .int .i64 f ∧ s' = S'.set ln (some (lnRow (b + 5) c0 c1 c2 c3 (.sl (.tok s.nxt 3) ([(⟨tick, tn, fr⟩ : Snt)].map Snt.pv)))))) :
   ACalls Tryz.prog 17 [.ptr ln 0 0, .int .i64 tn, .int .i64 tick, .sl .unk (fr.map (PV.int .u8))] s (fun r s' => r = .sl .unk ((sendF f D fr).1.map (PV.int .u8)) ∧ s' = putDev b (sendF f D fr).2 ((s.new (.tok [(⟨tick, tn, fr⟩ : Snt)].length)).set ln (some (lnRow (b + 5) c0 c1 c2 c3 (.sl (.tok s.nxt 3) ([(⟨tick, tn, fr⟩ : Snt)].map Snt.pv)))))) := by
 refine go Tryz.func17 (k := fun hwf H => ?_)
 unfold lnRow at hl
 have hlt := lt_blk hwf hl
 obtain ⟨Nf, hdoes, hcal, hbody⟩ := line_body hf
 have n1 : (ln = s.nxt) = False := eq_false T21
 have hfl2 : fr.length * 1 ≤ 140737488355328 := T21
 have H := aj n1 H
 have hA1 : ∀ x, DevAt b D ((s.new (.tok [(⟨tick, tn, fr⟩ : Snt)].length)).set ln x) := fun x => (hA.nw (hA.lt hwf) _).sv T21 x
 have H := aj hl H
 refine rs (k := rg [0, 1, 2, 3] (k := rs (k := rH 15 [11, 14] [[false, false], [true, false], [true, true]] [s, (s.new (.tok [(⟨tick, tn, fr⟩ : Snt)].length)), ((s.new (.tok [(⟨tick, tn, fr⟩ : Snt)].length)).set ln (some (.row 74 [.agg [.ptr (b + 5) 0 0, a0, a1, a2, a3, .sl (.tok s.nxt 3) ([(⟨tick, tn, fr⟩ : Snt)].map Snt.pv)]])))] Tryz.mixed (k := ?_))))
 refine dP [0, 1] (pre := [_, _, _, _, _, _, _, _]) (k := ?_)
 refine dC [0] (h := fun s _ => clone_u8 (xs := fr) hfl2) (k := ?_)
 refine dP [0] (pre := [_, _]) (k := ?_)
 refine DetHC.app (kx := .nil) (xs := []) (ys := [(⟨tick, tn, fr⟩ : Snt)].map Snt.pv) (v := .sl (.tok s.nxt 3) ([(⟨tick, tn, fr⟩ : Snt)].map Snt.pv)) [(0, 1)] _ T27 pq au au T222 Tryz.td61 (by rw [Tryz.zp80]; rfl) T56 T56 (by rw [Tryz.by80]; decide) (by rw [Tryz.by80]; simp <;> omega) (by intro q hq; rw [List.mem_singleton.1 hq]; exact aAppend_nilL (f := Snt.pv) (ys := [(⟨tick, tn, fr⟩ : Snt)]) T143 (by rw [Tryz.cz80])) ?_
 refine dP [1] (pre := [_, _]) (k := ?_)
 refine dE [(1, 2)] (k := ?_)
 refine DetHC.nil ?_
 refine rl [0, 1, 3] (k := rs (k := rr (k := ro (pre := [_, _, _]) (k := ?_))))
 refine RunO.callw au au au T27 ((htake _ (by unfold lnRow; exact blk_set_self _ _ _)).mono ?_)
 rintro r s1 ⟨rfl, rfl⟩
 refine rC (h := hdoes (by first | (simp only [nxt_set, nxt_new]; omega) | omega)) (k := rh [3, 9] (k := rs (k := rr (k := ro (pre := [_]) (k := rC (h := rtu_Read hfo hfl) (k := rh [9, 10, 11, 12] (k := rs (k := rs (k := rg [9, 11, 43] (k := rc (ht := fun hc0 => ?_) (hf := fun hc0 => ?_)))))))))))
 refine rs (k := rg [8] (k := rR (k := ?_)))
 refine jO 1 ?_; rotate_left
 refine rk (k := rs (k := ?_))
 have hrt : (rtuF fr).2 = 0 ∧ (rtuF fr).1.1 = 17 := T88
 have hpd := rtu_pdu hrt.1
 have hso : sendF f D fr = lineF f D (rtuF fr).1.2 := if_pos hrt
 refine rr (k := ro (pre := [_, _]) (k := ?_))
 refine RunO.callw au au au hcal ((hbody (blk_set_self _ _ _) (hA1 _) hD (rtu_ok hfo) hpd.2.1 hpd.1).mono ?_)
 rintro r s1 ⟨rfl, rfl⟩
 refine rC (h := clip_u8 (xs := (lineF f D (rtuF fr).1.2).1)) (k := rh [8] (k := rR (k := ?_)))
 refine jO 1 ?_; rotate_left
 any_goals
   refine jI 1 ?_
   first
     | (have hso : sendF f D fr = ([], D) := if_neg (by rintro ⟨e1, e2⟩; rw [e1, e2] at hc0; cases hc0)
        refine Ret.allW (r' := .sl .unk []) T168 (by rfl) ⟨by rw [hso]; rfl, ?_⟩
        rw [hso]
        exact (putDev_self (hA1 _)).symm)
     | (refine Ret.allW (r' := .sl .unk ((sendF f D fr).1.map (PV.int .u8))) T168 ?_ ⟨rfl, ?_⟩
        · rw [hso]; simp only [PV.weak, weaks_u8]
        · rw [hso] <;> rfl)
attribute [local go_sem] set_set putDev_hi putDev_nxt
set_option maxRecDepth 100000 in
theorem line_SendT {ln b t : Nat} {a0 a1 a2 a3 c0 c1 c2 c3 : PV} {D : Dev} {tn tick f : Int} (hf : 0 ≤ f ∧ f ≤ 4) {fr : List Int} (hfo : OkB fr) (hfl : fr.length ≤ 140737488350000) {l : List Snt} (hL : l.length ≤ 100000) {s : St} (hl : s.blk ln = some (lnRow (b + 5) a0 a1 a2 a3 (.sl (.tok t 3) (l.map Snt.pv)))) (hA : DevAt b D s) (hD : D.ok) (hbl : b + 5 < ln) (ht : s.blk t = some (.tok l.length)) (hne : t ≠ ln) (hbt : b + 5 < t) 
   (htake : ∀ S' : St, S'.blk ln = some (lnRow (b + 5) a0 a1 a2 a3 (.sl (.tok t 3) ((l ++ [(⟨tick, tn, fr⟩ : Snt)]).map Snt.pv))) → ACalls Tryz.prog 37 [.ptr ln 0 0, .int .i64 tn] S' (fun r s' => r = .int .i64 f ∧ s' = S'.set ln (some (lnRow (b + 5) c0 c1 c2 c3 (.sl (.tok t 3) ((l ++ [(⟨tick, tn, fr⟩ : Snt)]).map Snt.pv)))))) :
   ACalls Tryz.prog 17 [.ptr ln 0 0, .int .i64 tn, .int .i64 tick, .sl .unk (fr.map (PV.int .u8))] s (fun r s' => r = .sl .unk ((sendF f D fr).1.map (PV.int .u8)) ∧ s' = putDev b (sendF f D fr).2 ((s.set t (some (.tok (l ++ [(⟨tick, tn, fr⟩ : Snt)]).length))).set ln (some (lnRow (b + 5) c0 c1 c2 c3 (.sl (.tok t 3) ((l ++ [(⟨tick, tn, fr⟩ : Snt)]).map Snt.pv)))))) := by
 refine go Tryz.func17 (k := fun hwf H => ?_)
 unfold lnRow at hl
 have hlt := lt_blk hwf hl
 obtain ⟨Nf, hdoes, hcal, hbody⟩ := line_body hf
 have n1 : (ln = s.nxt) = False := eq_false T21
 have hfl2 : fr.length * 1 ≤ 140737488355328 := T21
 have H := aj n1 H
 have htl := lt_blk hwf ht
 have n2 : (ln = t) = False := eq_false T21
 have n3 : (t = ln) = False := eq_false T21
 have H := aj n2 (aj n3 H)
 have hA1 : ∀ x, DevAt b D ((s.set t (some (.tok (l ++ [(⟨tick, tn, fr⟩ : Snt)]).length))).set ln x) := fun x => (hA.sv hbt _).sv T21 x
 have H := aj hl H
 refine rs (k := rg [0, 1, 2, 3] (k := rs (k := rH 15 [11, 14] [[false, false], [true, false], [true, true]] [s, (s.set t (some (.tok (l ++ [(⟨tick, tn, fr⟩ : Snt)]).length))), ((s.set t (some (.tok (l ++ [(⟨tick, tn, fr⟩ : Snt)]).length))).set ln (some (.row 74 [.agg [.ptr (b + 5) 0 0, a0, a1, a2, a3, .sl (.tok t 3) ((l ++ [(⟨tick, tn, fr⟩ : Snt)]).map Snt.pv)]])))] Tryz.mixed (k := ?_))))
 refine dP [0, 1] (pre := [_, _, _, _, _, _, _, _]) (k := ?_)
 refine dC [0] (h := fun s _ => clone_u8 (xs := fr) hfl2) (k := ?_)
 refine dP [0] (pre := [_, _]) (k := ?_)
 refine DetHC.app (kx := .tok t 3) (xs := l.map Snt.pv) (ys := [(⟨tick, tn, fr⟩ : Snt)].map Snt.pv) (v := .sl (.tok t 3) ((l ++ [(⟨tick, tn, fr⟩ : Snt)]).map Snt.pv)) [(0, 1)] _ T27 pq au au T222 Tryz.td61 (by rw [Tryz.zp80]; rfl) T56 T56 (by rw [Tryz.by80]; decide) (by rw [Tryz.by80]; simp <;> omega) (by intro q hq; rw [List.mem_singleton.1 hq]; exact aAppend_tokL (f := Snt.pv) (xs := l) (ys := [(⟨tick, tn, fr⟩ : Snt)]) rfl T143 ht rfl (by rw [Tryz.cz80])) ?_
 refine dP [1] (pre := [_, _]) (k := ?_)
 refine dE [(1, 2)] (k := ?_)
 refine DetHC.nil ?_
 refine rl [0, 1, 3] (k := rs (k := rr (k := ro (pre := [_, _, _]) (k := ?_))))
 refine RunO.callw au au au T27 ((htake _ (by unfold lnRow; exact blk_set_self _ _ _)).mono ?_)
 rintro r s1 ⟨rfl, rfl⟩
 refine rC (h := hdoes (by first | (simp only [nxt_set, nxt_new]; omega) | omega)) (k := rh [3, 9] (k := rs (k := rr (k := ro (pre := [_]) (k := rC (h := rtu_Read hfo hfl) (k := rh [9, 10, 11, 12] (k := rs (k := rs (k := rg [9, 11, 43] (k := rc (ht := fun hc0 => ?_) (hf := fun hc0 => ?_)))))))))))
 refine rs (k := rg [8] (k := rR (k := ?_)))
 refine jO 1 ?_; rotate_left
 refine rk (k := rs (k := ?_))
 have hrt : (rtuF fr).2 = 0 ∧ (rtuF fr).1.1 = 17 := T88
 have hpd := rtu_pdu hrt.1
 have hso : sendF f D fr = lineF f D (rtuF fr).1.2 := if_pos hrt
 refine rr (k := ro (pre := [_, _]) (k := ?_))
 refine RunO.callw au au au hcal ((hbody (blk_set_self _ _ _) (hA1 _) hD (rtu_ok hfo) hpd.2.1 hpd.1).mono ?_)
 rintro r s1 ⟨rfl, rfl⟩
 refine rC (h := clip_u8 (xs := (lineF f D (rtuF fr).1.2).1)) (k := rh [8] (k := rR (k := ?_)))
 refine jO 1 ?_; rotate_left
 any_goals
   refine jI 1 ?_
   first
     | (have hso : sendF f D fr = ([], D) := if_neg (by rintro ⟨e1, e2⟩; rw [e1, e2] at hc0; cases hc0)
        refine Ret.allW (r' := .sl .unk []) T168 (by rfl) ⟨by rw [hso]; rfl, ?_⟩
        rw [hso]
        exact (putDev_self (hA1 _)).symm)
     | (refine Ret.allW (r' := .sl .unk ((sendF f D fr).1.map (PV.int .u8))) T168 ?_ ⟨rfl, ?_⟩
        · rw [hso]; simp only [PV.weak, weaks_u8]
        · rw [hso] <;> rfl)
end Go.Proofs
namespace Go.Proofs
open Go.PM
set_option maxHeartbeats 2000000
structure ElsAt (c : Nat) (s0 s' : St) (kk : SK) (els ws : List PV) : Prop where
 wk : PV.weaks els = ws
 el : ∀ p ∈ els, p.ok = true ∧ p.cells.length = c
 fr : Fr s0 s'
 gr : Grows s' kk els.length c
 tk : ∀ t z, kk = .tok t z → s0.nxt ≤ t ∧ t < s'.nxt
theorem weaks_snocP {a b : List PV} : PV.weaks (a ++ b) = PV.weaks a ++ PV.weaks b := by
 induction a with
 | nil => rfl
 | cons x l ih => simp only [List.cons_append, PV.weaks, ih]
theorem ElsAt.snoc {c : Nat} {s0 s1 s2 s3 : St} {kk k' : SK} {els ws : List PV} {el w : PV} (h : ElsAt c s0 s1 kk els ws) (h1 : el.ok = true) (h2 : el.cells.length = c) (hw : el.weak = w) (h12 : s1.nxt ≤ s2.nxt) (f2 : Fr s0 s2)
   (hg : Grows s3 k' (els.length + [el].length) c) (htm : TMoves s2 s3 kk k') : ElsAt c s0 s3 k' (els ++ [el]) (ws ++ [w]) := by
 refine ⟨by rw [weaks_snocP, h.wk]; simp only [PV.weaks, hw], fun p hp => ?_, f2.tm htm (fun t z e => (h.tk t z e).1), by rw [List.length_append]; exact hg, fun t z e => ?_⟩
 · rcases List.mem_append.1 hp with hp | hp
   · exact h.el p hp
   · rw [List.mem_singleton.1 hp]; exact ⟨h1, h2⟩
 · have h9 := htm.nxt
   have h8 := f2.nxt
   rcases htm.fresh t z e with ⟨z', h'⟩ | ⟨h1, h2⟩
   · have := h.tk t z' h'; omega
   · omega
attribute [local go_sem] set_set
set_option maxRecDepth 100000 in
theorem line_Sent {ln d : Nat} {a0 a1 a2 a3 : PV} {k : SK} {l : List Snt} (hll : l.length ≤ 100000) (hld : ∀ x ∈ l, x.data.length ≤ 140737488350000) {s : St} (hl : s.blk ln = some (lnRow d a0 a1 a2 a3 (.sl k (l.map Snt.pv)))) : ACalls Tryz.prog 28 [.ptr ln 0 0] s (fun r s' => r = .sl .unk (l.map Snt.pv) ∧ s' = s) := by
 refine go Tryz.func28 (k := fun hwf H => ?_)
 unfold lnRow at hl
 have hlt := lt_blk hwf hl
 have n1 : (ln = s.nxt) = False := eq_false T21
 have H := aj n1 H
 have H := aj hl H
 refine rs (k := rg [0] (k := rs (k := rr (k := ro (pre := [_, _, _, _, _]) (k := ?_)))))
 refine RunO.makeCap (n := l.length) au au au Tryz.td61 (by rw [Tryz.zp80]) T21 (by rw [Tryz.by80]; omega) ?_
 refine rh [0, 3] (k := rs (k := rs (k := rg [3, 15, 16, 17] (k := rb (k := ?_)))))
 refine Run.loop (fun e s' => ∃ (i : Nat) (els : List PV) (kk : SK), e = [(3, .sl kk els), (15, .sl k (l.map Snt.pv)), (16, .int .i64 (l.length : Int)), (17, .int .i64 (i : Int))] ∧ i ≤ l.length ∧ els.length = i ∧ ElsAt 3 s s' kk els ((l.take i).map Snt.pv)) (fun e s' => l.length - ivar e 17) ?_ ?_
 · exact ⟨0, [], .tok s.nxt 3, rfl, Nat.zero_le _, rfl, rfl, (fun p hp => by cases hp), (Fr.refl hwf).new _, .inr (.inr ⟨s.nxt, rfl, blk_new_eq⟩), fun t z e => by cases e; exact ⟨Nat.le_refl _, Nat.lt_succ_self _⟩⟩
 rintro e s1 ⟨i, els, kk, rfl, hi, hel, hE⟩
 have hFn := hE.fr.nxt
 refine rs (k := rg [3, 15, 16, 17, 18] (k := rs (k := rc (ht := fun hc0 => ?_) (hf := fun hc0 => ?_))))
 · refine rk (k := rs (k := rb (k := rs (k := ?_))))
   have hil : i < l.length := T85
   obtain ⟨x, hxe⟩ : ∃ z_, l[i]'hil = z_ := ⟨_, rfl⟩
   have hxx : (l.map Snt.pv)[i]? = some (.agg [.int .i64 x.tick, .int .i64 x.tenant, .sl .unk (x.data.map (PV.int .u8))]) := by rw [map_get hil, hxe]; rfl
   have hilT : (i < l.length) = True := eq_true hil
   have hxd : x.data.length ≤ 140737488350000 := hld x T201
   have hw : IntKind.i64.wrap ((i : Int) + 1) = ((i + 1 : Nat) : Int) := T29
   have H := aj hxx (aj hilT (aj hw H))
   refine rg [3, 5, 15, 16, 17] (k := rs (k := rr (k := ro (pre := [_, _]) (k := rC (h := clone_u8 (xs := x.data) T21) (k := rC (h := clip_u8 (xs := x.data)) (k := rh [3, 5, 15, 16, 17] (k := rr (k := ro (pre := [_, _]) (k := rO (k := ?_))))))))))
   refine RunO.grow (xs := els) (ys := [_]) au au au Tryz.td61 (by rw [Tryz.zp80]; rfl) (by unfold isEls; rw [Tryz.cz80]; exact hE.el) (by intro p hp; rw [List.mem_singleton.1 hp, Tryz.cz80]; exact ⟨rfl, rfl⟩) (by rw [Tryz.by80]; decide) (by rw [Tryz.by80]; simp; omega) (by rw [Tryz.cz80]; exact hE.gr.mono fun t e => by have := hE.tk _ _ e; simp (disch := first | omega | (simp only [nxt_set, nxt_new] <;> omega) | fail) only [go_sem]) T143 ?_
   intro k' s3 hgr' htm
   rw [Tryz.cz80] at hgr'
   refine rh [3, 15, 16, 17] (k := rB (k := rg [3, 15, 16, 17] (k := ?_)))
   refine Run.lp ⟨⟨i + 1, _, k', rfl, T21, by rw [List.length_append, hel]; rfl, ?_⟩, ?_⟩
   · rw [take_get hil, hxe, List.map_append]
     exact hE.snoc rfl rfl (by simp only [PV.weak, PV.weaks, weaks_u8, Snt.pv]) (Nat.le_succ _) (hE.fr.new _) hgr' htm
   · exact T35
 · refine rX (k := rs (k := rg [2] (k := rR (k := ?_))))
   have hi2 : i = l.length := T36
   refine Ret.pure (r' := .sl .unk (l.map Snt.pv)) (by simp only [Tryz.f28, go_sem, ↓reduceIte] <;> rfl) (by rw [PV.weak, hE.wk, hi2, List.take_length]) (by simp only [PV.blw]; exact ⟨fun t z e => T20, blws_map Snt.pv _ (fun a => by simp only [Snt.pv, PV.blw, PV.blws, and_true, true_and]; exact ⟨fun t z e => T20, blws_u8 _ _⟩) _⟩) hwf hE.fr.blk ⟨rfl, rfl⟩
end Go.Proofs
namespace Go.Proofs
open Go.PM
set_option maxHeartbeats 2000000
def k17F : List Int := frameF [6, 0, 1, 0, 9]
def k17E (D : Dev) : Dev := { D.up with v1 := overF D.v1 1 [9] }
theorem k17_do {D : Dev} (h : D.c0.length = 8) : doF D (⟨6, 1, 0, 0, 0, [], [9], 0, 0⟩ : Req) = ((⟨6, 0, 1, 0, 0, [], [9], 0, 0, []⟩ : Rep), k17E D) := by
 have h1 : countF (⟨6, 1, 0, 0, 0, [], [9], 0, 0⟩ : Req) = true := T22
 exact do_6 (D := D) (q := (⟨6, 1, 0, 0, 0, [], [9], 0, 0⟩ : Req)) h1 rfl (by rw [h]; decide)
theorem k17_ok {D : Dev} (hD : D.ok) (h : D.c0.length = 8) : (k17E D).ok ∧ (k17E D).c0.length = 8 := by
 have hq : ((⟨6, 1, 0, 0, 0, [], [9], 0, 0⟩ : Req) : Req).ok := req_okT T22 T23 T23 T23 T23 (OkW.one T23) T23 T23 T22 T22
 have := doF_ok hD hq
 rw [k17_do h] at this
 exact ⟨this.1, by rw [← h]; exact this.2⟩
theorem k17_pdu {D : Dev} (h : D.c0.length = 8) : pduF D [6, 0, 1, 0, 9] = ([6, 0, 1, 0, 9], k17E D) := by
 have h1 : readF [6, 0, 1, 0, 9] = ((⟨6, 1, 0, 0, 0, [], [9], 0, 0⟩ : Req), 0) := T22
 have h2 : repF (⟨6, 0, 1, 0, 0, [], [9], 0, 0, []⟩ : Rep) = [6, 0, 1, 0, 9] := T22
 have e : pduF D [6, 0, 1, 0, 9] = (repF (doF D (⟨6, 1, 0, 0, 0, [], [9], 0, 0⟩ : Req)).1, (doF D (⟨6, 1, 0, 0, 0, [], [9], 0, 0⟩ : Req)).2) := by
   unfold pduF
   rw [h1]
   rfl
 rw [e, k17_do h, h2]
theorem k17_rtu : rtuF k17F = ((17, [6, 0, 1, 0, 9]), 0) := rtu_frame T22 T22
theorem k17_send {D : Dev} (h : D.c0.length = 8) : sendF 0 D k17F = (k17F, k17E D) ∧ sendF 1 D k17F = ([], D) ∧ sendF 2 D k17F = ([], k17E D) ∧ sendF 3 D k17F = (flipL k17F, k17E D) ∧ sendF 4 D k17F = (frameF [134, 4], D) := by
 have e : ∀ f, sendF f D k17F = lineF f D [6, 0, 1, 0, 9] := fun f => by
   unfold sendF
   rw [k17_rtu]
   exact if_pos ⟨rfl, rfl⟩
 have h4 : repF (refuseP 6 4) = [134, 4] := T22
 refine ⟨?_, ?_, ?_, ?_, ?_⟩
 · rw [e]; show (frameF (pduF D _).1, (pduF D _).2) = _; rw [k17_pdu h]; rfl
 · rw [e]; rfl
 · rw [e]; show ([], (pduF D _).2) = _; rw [k17_pdu h]
 · rw [e]; show (flipL (frameF (pduF D _).1), (pduF D _).2) = _; rw [k17_pdu h]; rfl
 · rw [e]; show (frameF (repF (refuseP 6 4)), D) = _; rw [h4]
theorem T169 {p : Prop} (h : p := by intro x hx; simp only [List.mem_cons, List.not_mem_nil, or_false] at hx; rcases hx with rfl | rfl | rfl | rfl | rfl <;> constructor <;> decide) : p := h
theorem k17F_ok : OkB k17F ∧ k17F.length ≤ 140737488350000 := ⟨frameF_ok T169, Nat.le_trans (frameF_len _) T22⟩
attribute [local go_sem] set_set weaks_bools Req.pv
theorem T57 {p : Prop} (h : p := by rw [hs]; simp (disch := first | omega | (simp only [nxt_set, nxt_new, putDev_nxt] <;> omega) | fail) only [blk_set_ne, blk_new_ne, blk_set_self, blk_new_eq, putDev_hi, putDev_lo] <;> rfl) : p := h
theorem T114 {p : Prop} (h : p := by rw [hs]; simp (disch := first | omega | (simp only [nxt_set, nxt_new, putDev_nxt] <;> omega) | fail) only [blk_set_ne, blk_new_ne, blk_set_self, blk_new_eq, putDev_hi, putDev_lo]; exact hw2 j hj) : p := h
theorem T115 {p : Prop} (h : p := by rw [hs]; simp (disch := first | omega | (simp only [nxt_set, nxt_new, putDev_nxt] <;> omega) | fail) only [blk_set_ne, blk_new_ne, blk_set_self, blk_new_eq, putDev_hi, putDev_lo]; exact hw3 j hj) : p := h
set_option maxRecDepth 100000 in
theorem law17_known {s : St} : ACalls Tryz.prog 13 [] s (fun r s' => r = .bool true ∧ s' = s) := by
 refine go Tryz.func13 (k := fun hwf H => ?_)
 have hq6 : ((⟨6, 1, 0, 0, 0, [], [9], 0, 0⟩ : Req)).ok := req_okT T22 T23 T23 T23 T23 (OkW.one T23) T23 T23 T22 T22
 have hbF : frameF (bytesF (⟨6, 1, 0, 0, 0, [], [9], 0, 0⟩ : Req)) = k17F := by
   unfold k17F
   rw [show bytesF (⟨6, 1, 0, 0, 0, [], [9], 0, 0⟩ : Req) = [6, 0, 1, 0, 9] from T22]
 have o0 : (Dev.zero 8).ok := Dev.zero_ok T22 T22
 have l0 : (Dev.zero 8).c0.length = 8 := T22
 have o1 := (k17_ok o0 l0).1
 have l1 := (k17_ok o0 l0).2
 have o2 := (k17_ok o1 l1).1
 have l2 := (k17_ok o1 l1).2
 have o3 := (k17_ok o2 l2).1
 have l3 := (k17_ok o2 l2).2
 refine rs (k := rg [] (k := rs (k := rr (k := ?_))))
 refine RunO.callw au au au T27 ((device_New (n := 8) T22 T22).mono ?_)
 rintro r s1 ⟨rfl, hA0, hlo0, hnx0⟩
 refine RunO.callw au au au T27 ((line_New).mono ?_)
 rintro r s2 ⟨rfl, hs⟩
 have hr2 : s2.blk s1.nxt = some (lnRow (s.nxt + 5) (.sl .nil []) (.sl .nil []) (.sl .nil []) (.sl .nil []) (.sl .nil [])) := T57
 have hx2 : s2.nxt = s1.nxt + 1 := by rw [hs]; simp only [putDev_nxt, nxt_set, nxt_new]
 have hd2 : DevAt s.nxt (Dev.zero 8) s2 := by rw [hs]; exact hA0.nw T21 _
 have hw2 : ∀ j, j < s.nxt → s2.blk j = s.blk j := fun j hj => by rw [hs]; simp (disch := first | omega | (simp only [nxt_set, nxt_new, putDev_nxt] <;> omega) | fail) only [blk_set_ne, blk_new_ne, blk_set_self, blk_new_eq, putDev_hi, putDev_lo]; exact hlo0 j hj
 clear hs
 refine rh [1] (k := rs (k := rs (k := rr (k := ro (pre := [_, _, _]) (k := ?_)))))
 refine RunO.callw au au au T27 ((line_NewN).mono ?_)
 rintro r s9 ⟨rfl, hs⟩
 subst s9
 refine rg1 (k := ro (pre := [_, _]) (k := rg1 (k := ?_)))
 refine RunO.callw au au au T27 ((line_Device hr2).mono ?_)
 rintro r s9 ⟨rfl, hs⟩
 subst s9
 refine rg1 (k := rh [1, 31] (k := rc (ht := fun hc0 => ?_) (hf := fun hc0 => ?_)))
 · cases hc0
 · refine rk (k := rs (k := rr (k := rO (k := ro (pre := [_]) (k := ?_)))))
   refine RunO.callw au au au T27 ((ref17_Frame (q := (⟨6, 1, 0, 0, 0, [], [9], 0, 0⟩ : Req)) hq6).mono ?_)
   rintro r s9 ⟨rfl, hs⟩
   subst s9
   rw [hbF]
   refine rh [1, 2] (k := rs (k := rr (k := ro (pre := [_]) (k := ?_))))
   refine RunO.callw au au au T27 ((line_Hurt0N (F := 1) T22 hr2).mono ?_)
   rintro r s3 ⟨rfl, hs⟩
   rw [hx2] at hs
   have hr3 : s3.blk s1.nxt = some (lnRow (s.nxt + 5) (.sl (.tok (s1.nxt + 1) 1) (([1] : List Int).map (PV.int .i64))) (.sl .nil []) (.sl .nil []) (.sl .nil []) (.sl .nil [])) := T57
   have hx3 : s3.nxt = s1.nxt + 2 := by rw [hs]; simp only [putDev_nxt, nxt_set, nxt_new, hx2]
   have hd3 : DevAt s.nxt (Dev.zero 8) s3 := by rw [hs]; exact (hd2.nw T21 _).sv T21 _
   have hw3 : ∀ j, j < s.nxt → s3.blk j = s.blk j := fun j hj => T114
   have h03 : s3.blk (s1.nxt + 1) = some (.tok 1) := by
     rw [hs, blk_set_ne T21]
     show (if s1.nxt + 1 = s2.nxt then _ else _) = _
     rw [if_pos hx2.symm]; rfl
   clear hs
   refine ro (pre := [_]) (k := rg1 (k := ?_))
   refine RunO.callw au au au T27 ((line_Hurt0T (F := 2) (L := [1]) (t := s1.nxt + 1) T22 T22 hr3 h03 T21).mono ?_)
   rintro r s4 ⟨rfl, hs⟩
   have hr4 : s4.blk s1.nxt = some (lnRow (s.nxt + 5) (.sl (.tok (s1.nxt + 1) 1) (([1, 2] : List Int).map (PV.int .i64))) (.sl .nil []) (.sl .nil []) (.sl .nil []) (.sl .nil [])) := T57
   have hx4 : s4.nxt = s1.nxt + 2 := by rw [hs]; simp only [putDev_nxt, nxt_set, nxt_new, hx3]
   have hd4 : DevAt s.nxt (Dev.zero 8) s4 := by rw [hs]; exact (hd3.sv T21 _).sv T21 _
   have hw4 : ∀ j, j < s.nxt → s4.blk j = s.blk j := fun j hj => T115
   have h04 : s4.blk (s1.nxt + 1) = some (.tok 2) := by rw [hs]; simp (disch := first | omega | (simp only [nxt_set, nxt_new, putDev_nxt] <;> omega) | fail) only [blk_set_ne, blk_new_ne, blk_set_self, blk_new_eq, putDev_hi, putDev_lo] <;> first | done | rfl | exact h03
   clear hs
   refine ro (pre := [_, _]) (k := rg1 (k := ?_))
   refine RunO.callw au au au T27 ((line_Hurt0T (F := 3) (L := [1, 2]) (t := s1.nxt + 1) T22 T22 hr4 h04 T21).mono ?_)
   rintro r s5 ⟨rfl, hs⟩
   have hr5 : s5.blk s1.nxt = some (lnRow (s.nxt + 5) (.sl (.tok (s1.nxt + 1) 1) (([1, 2, 3] : List Int).map (PV.int .i64))) (.sl .nil []) (.sl .nil []) (.sl .nil []) (.sl .nil [])) := T57
   have hx5 : s5.nxt = s1.nxt + 2 := by rw [hs]; simp only [putDev_nxt, nxt_set, nxt_new, hx4]
   have hd5 : DevAt s.nxt (Dev.zero 8) s5 := by rw [hs]; exact (hd4.sv T21 _).sv T21 _
   have hw5 : ∀ j, j < s.nxt → s5.blk j = s.blk j := fun j hj => by rw [hs]; simp (disch := first | omega | (simp only [nxt_set, nxt_new, putDev_nxt] <;> omega) | fail) only [blk_set_ne, blk_new_ne, blk_set_self, blk_new_eq, putDev_hi, putDev_lo]; exact hw4 j hj
   have h05 : s5.blk (s1.nxt + 1) = some (.tok 3) := by rw [hs]; simp (disch := first | omega | (simp only [nxt_set, nxt_new, putDev_nxt] <;> omega) | fail) only [blk_set_ne, blk_new_ne, blk_set_self, blk_new_eq, putDev_hi, putDev_lo] <;> first | done | rfl | exact h04
   clear hs
   refine ro (pre := [_, _]) (k := rg1 (k := ?_))
   refine RunO.callw au au au T27 ((line_Hurt0T (F := 4) (L := [1, 2, 3]) (t := s1.nxt + 1) T22 T22 hr5 h05 T21).mono ?_)
   rintro r s6 ⟨rfl, hs⟩
   have hr6 : s6.blk s1.nxt = some (lnRow (s.nxt + 5) (.sl (.tok (s1.nxt + 1) 1) (([1, 2, 3, 4] : List Int).map (PV.int .i64))) (.sl .nil []) (.sl .nil []) (.sl .nil []) (.sl .nil [])) := T57
   have hx6 : s6.nxt = s1.nxt + 2 := by rw [hs]; simp only [putDev_nxt, nxt_set, nxt_new, hx5]
   have hd6 : DevAt s.nxt (Dev.zero 8) s6 := by rw [hs]; exact (hd5.sv T21 _).sv T21 _
   have hw6 : ∀ j, j < s.nxt → s6.blk j = s.blk j := fun j hj => by rw [hs]; simp (disch := first | omega | (simp only [nxt_set, nxt_new, putDev_nxt] <;> omega) | fail) only [blk_set_ne, blk_new_ne, blk_set_self, blk_new_eq, putDev_hi, putDev_lo]; exact hw5 j hj
   have h06 : s6.blk (s1.nxt + 1) = some (.tok 4) := by rw [hs]; simp (disch := first | omega | (simp only [nxt_set, nxt_new, putDev_nxt] <;> omega) | fail) only [blk_set_ne, blk_new_ne, blk_set_self, blk_new_eq, putDev_hi, putDev_lo] <;> first | done | rfl | exact h05
   clear hs
   refine ro (pre := [_, _]) (k := rg1 (k := ?_))
   refine RunO.callw au au au T27 ((line_HurtT).mono ?_)
   rintro r s9 ⟨rfl, hs⟩
   subst s9
   refine rg1 (k := ro (pre := [_, _]) (k := rg1 (k := ?_)))
   refine RunO.callw au au au T27 ((line_HurtF).mono ?_)
   rintro r s9 ⟨rfl, hs⟩
   subst s9
   refine rg1 (k := rh [1, 2, 3] (k := rs (k := rr (k := ro (pre := [_]) (k := ?_)))))
   refine RunO.callw au au au T27 ((line_Left0 (L := [1, 2, 3, 4]) hr6).mono ?_)
   rintro r s9 ⟨rfl, hs⟩
   subst s9
   refine rh [1, 2, 3, 4] (k := rs (k := rr (k := ro (pre := [_, _]) (k := ?_))))
   refine RunO.callw au au au T27 ((line_SendN (c0 := .sl .any (([2, 3, 4] : List Int).map (PV.int .i64))) (c1 := .sl .nil []) (c2 := .sl .nil []) (c3 := .sl .nil []) (f := 1) T22 (tn := 0) (tick := 1) k17F_ok.1 k17F_ok.2 hr6 hd6 o0 T21 (fun S h => line_take0T (x := 1) (L := [2, 3, 4]) T22 h)).mono ?_)
   rintro r s7 ⟨rfl, hs⟩
   rw [(k17_send l0).2.1] at hs ⊢
   rw [hx6] at hs
   have hr7 : s7.blk s1.nxt = some (lnRow (s.nxt + 5) (.sl .any (([2, 3, 4] : List Int).map (PV.int .i64))) (.sl .nil []) (.sl .nil []) (.sl .nil []) (.sl (.tok (s1.nxt + 2) 3) (([⟨1, 0, k17F⟩] : List Snt).map Snt.pv))) := T57
   have hx7 : s7.nxt = s1.nxt + 3 := by rw [hs]; simp only [putDev_nxt, nxt_set, nxt_new, hx6]
   have hd7 : DevAt s.nxt (Dev.zero 8) s7 := by rw [hs]; exact DevAt.put ((hd6.nw T21 _).sv T21 _) (l0.trans l0.symm)
   have hw7 : ∀ j, j < s.nxt → s7.blk j = s.blk j := fun j hj => by rw [hs]; simp (disch := first | omega | (simp only [nxt_set, nxt_new, putDev_nxt] <;> omega) | fail) only [blk_set_ne, blk_new_ne, blk_set_self, blk_new_eq, putDev_hi, putDev_lo]; exact hw6 j hj
   have h17 : s7.blk (s1.nxt + 2) = some (.tok 1) := by
     rw [hs, putDev_hi T21, blk_set_ne T21]
     show (if s1.nxt + 2 = s6.nxt then _ else _) = _
     rw [if_pos hx6.symm]; rfl
   clear hs
   refine ro (pre := [_, _]) (k := ?_)
   refine RunO.callw au au au T27 ((line_SendT (c0 := .sl .any (([3, 4] : List Int).map (PV.int .i64))) (c1 := .sl .nil []) (c2 := .sl .nil []) (c3 := .sl .nil []) (f := 2) (l := [⟨1, 0, k17F⟩]) (t := s1.nxt + 2) T22 (tn := 0) (tick := 2) k17F_ok.1 k17F_ok.2 T22 hr7 hd7 o0 T21 h17 T21 T21 (fun S h => line_take0A (x := 2) (L := [3, 4]) T22 h)).mono ?_)
   rintro r s8 ⟨rfl, hs⟩
   rw [(k17_send l0).2.2.1] at hs ⊢
   have hr8 : s8.blk s1.nxt = some (lnRow (s.nxt + 5) (.sl .any (([3, 4] : List Int).map (PV.int .i64))) (.sl .nil []) (.sl .nil []) (.sl .nil []) (.sl (.tok (s1.nxt + 2) 3) (([⟨1, 0, k17F⟩, ⟨2, 0, k17F⟩] : List Snt).map Snt.pv))) := T57
   have hx8 : s8.nxt = s1.nxt + 3 := by rw [hs]; simp only [putDev_nxt, nxt_set, nxt_new, hx7]
   have hd8 : DevAt s.nxt (k17E (Dev.zero 8)) s8 := by rw [hs]; exact DevAt.put ((hd7.sv T21 _).sv T21 _) (l1.trans l0.symm)
   have hw8 : ∀ j, j < s.nxt → s8.blk j = s.blk j := fun j hj => by rw [hs]; simp (disch := first | omega | (simp only [nxt_set, nxt_new, putDev_nxt] <;> omega) | fail) only [blk_set_ne, blk_new_ne, blk_set_self, blk_new_eq, putDev_hi, putDev_lo]; exact hw7 j hj
   have h18 : s8.blk (s1.nxt + 2) = some (.tok 2) := by rw [hs]; simp (disch := first | omega | (simp only [nxt_set, nxt_new, putDev_nxt] <;> omega) | fail) only [blk_set_ne, blk_new_ne, blk_set_self, blk_new_eq, putDev_hi, putDev_lo] <;> first | done | rfl | exact h17
   clear hs
   refine ro (pre := [_, _]) (k := ?_)
   refine RunO.callw au au au T27 ((line_SendT (c0 := .sl .any (([4] : List Int).map (PV.int .i64))) (c1 := .sl .nil []) (c2 := .sl .nil []) (c3 := .sl .nil []) (f := 3) (l := [⟨1, 0, k17F⟩, ⟨2, 0, k17F⟩]) (t := s1.nxt + 2) T22 (tn := 0) (tick := 3) k17F_ok.1 k17F_ok.2 T22 hr8 hd8 o1 T21 h18 T21 T21 (fun S h => line_take0A (x := 3) (L := [4]) T22 h)).mono ?_)
   rintro r s9 ⟨rfl, hs⟩
   rw [(k17_send l1).2.2.2.1] at hs ⊢
   have hr9 : s9.blk s1.nxt = some (lnRow (s.nxt + 5) (.sl .any (([4] : List Int).map (PV.int .i64))) (.sl .nil []) (.sl .nil []) (.sl .nil []) (.sl (.tok (s1.nxt + 2) 3) (([⟨1, 0, k17F⟩, ⟨2, 0, k17F⟩, ⟨3, 0, k17F⟩] : List Snt).map Snt.pv))) := T57
   have hx9 : s9.nxt = s1.nxt + 3 := by rw [hs]; simp only [putDev_nxt, nxt_set, nxt_new, hx8]
   have hd9 : DevAt s.nxt (k17E (k17E (Dev.zero 8))) s9 := by rw [hs]; exact DevAt.put ((hd8.sv T21 _).sv T21 _) (l2.trans l1.symm)
   have hw9 : ∀ j, j < s.nxt → s9.blk j = s.blk j := fun j hj => by rw [hs]; simp (disch := first | omega | (simp only [nxt_set, nxt_new, putDev_nxt] <;> omega) | fail) only [blk_set_ne, blk_new_ne, blk_set_self, blk_new_eq, putDev_hi, putDev_lo]; exact hw8 j hj
   have h19 : s9.blk (s1.nxt + 2) = some (.tok 3) := by rw [hs]; simp (disch := first | omega | (simp only [nxt_set, nxt_new, putDev_nxt] <;> omega) | fail) only [blk_set_ne, blk_new_ne, blk_set_self, blk_new_eq, putDev_hi, putDev_lo] <;> first | done | rfl | exact h18
   clear hs
   refine ro (pre := [_, _]) (k := ?_)
   refine RunO.callw au au au T27 ((line_SendT (c0 := .sl .any []) (c1 := .sl .nil []) (c2 := .sl .nil []) (c3 := .sl .nil []) (f := 4) (l := [⟨1, 0, k17F⟩, ⟨2, 0, k17F⟩, ⟨3, 0, k17F⟩]) (t := s1.nxt + 2) T22 (tn := 0) (tick := 4) k17F_ok.1 k17F_ok.2 T22 hr9 hd9 o2 T21 h19 T21 T21 (fun S h => line_take0A (x := 4) (L := []) T22 h)).mono ?_)
   rintro r s10 ⟨rfl, hs⟩
   rw [(k17_send l2).2.2.2.2] at hs ⊢
   have hr10 : s10.blk s1.nxt = some (lnRow (s.nxt + 5) (.sl .any []) (.sl .nil []) (.sl .nil []) (.sl .nil []) (.sl (.tok (s1.nxt + 2) 3) (([⟨1, 0, k17F⟩, ⟨2, 0, k17F⟩, ⟨3, 0, k17F⟩, ⟨4, 0, k17F⟩] : List Snt).map Snt.pv))) := T57
   have hx10 : s10.nxt = s1.nxt + 3 := by rw [hs]; simp only [putDev_nxt, nxt_set, nxt_new, hx9]
   have hd10 : DevAt s.nxt (k17E (k17E (Dev.zero 8))) s10 := by rw [hs]; exact DevAt.put ((hd9.sv T21 _).sv T21 _) (l2.trans l2.symm)
   have hw10 : ∀ j, j < s.nxt → s10.blk j = s.blk j := fun j hj => by rw [hs]; simp (disch := first | omega | (simp only [nxt_set, nxt_new, putDev_nxt] <;> omega) | fail) only [blk_set_ne, blk_new_ne, blk_set_self, blk_new_eq, putDev_hi, putDev_lo]; exact hw9 j hj
   have h110 : s10.blk (s1.nxt + 2) = some (.tok 4) := by rw [hs]; simp (disch := first | omega | (simp only [nxt_set, nxt_new, putDev_nxt] <;> omega) | fail) only [blk_set_ne, blk_new_ne, blk_set_self, blk_new_eq, putDev_hi, putDev_lo] <;> first | done | rfl | exact h19
   clear hs
   refine ro (pre := [_, _]) (k := ?_)
   refine RunO.callw au au au T27 ((line_SendT (c0 := .sl .any []) (c1 := .sl .nil []) (c2 := .sl .nil []) (c3 := .sl .nil []) (f := 0) (l := [⟨1, 0, k17F⟩, ⟨2, 0, k17F⟩, ⟨3, 0, k17F⟩, ⟨4, 0, k17F⟩]) (t := s1.nxt + 2) T22 (tn := 0) (tick := 5) k17F_ok.1 k17F_ok.2 T22 hr10 hd10 o2 T21 h110 T21 T21 (fun S h => by
       have h2 := line_take0 (k := .any) h
       have e : S.set s1.nxt (S.blk s1.nxt) = S := St.eq_of rfl fun j => by (rw [blk_set]; split <;> first | rfl | (rename_i e; rw [e]))
       rw [h] at e
       rw [show some (lnRow (s.nxt + 5) _ _ _ _ _) = _ from rfl] at e
       rw [e]; exact h2)).mono ?_)
   rintro r s11 ⟨rfl, hs⟩
   rw [(k17_send l2).1] at hs ⊢
   have hr11 : s11.blk s1.nxt = some (lnRow (s.nxt + 5) (.sl .any []) (.sl .nil []) (.sl .nil []) (.sl .nil []) (.sl (.tok (s1.nxt + 2) 3) (([⟨1, 0, k17F⟩, ⟨2, 0, k17F⟩, ⟨3, 0, k17F⟩, ⟨4, 0, k17F⟩, ⟨5, 0, k17F⟩] : List Snt).map Snt.pv))) := T57
   have hx11 : s11.nxt = s1.nxt + 3 := by rw [hs]; simp only [putDev_nxt, nxt_set, nxt_new, hx10]
   have hd11 : DevAt s.nxt (k17E (k17E (k17E (Dev.zero 8)))) s11 := by rw [hs]; exact DevAt.put ((hd10.sv T21 _).sv T21 _) (l3.trans l2.symm)
   have hw11 : ∀ j, j < s.nxt → s11.blk j = s.blk j := fun j hj => by rw [hs]; simp (disch := first | omega | (simp only [nxt_set, nxt_new, putDev_nxt] <;> omega) | fail) only [blk_set_ne, blk_new_ne, blk_set_self, blk_new_eq, putDev_hi, putDev_lo]; exact hw10 j hj
   have h111 : s11.blk (s1.nxt + 2) = some (.tok 5) := by rw [hs]; simp (disch := first | omega | (simp only [nxt_set, nxt_new, putDev_nxt] <;> omega) | fail) only [blk_set_ne, blk_new_ne, blk_set_self, blk_new_eq, putDev_hi, putDev_lo] <;> first | done | rfl | exact h110
   clear hs
   refine rh [1, 2, 3, 4, 5, 6, 7, 8, 9] (k := rs (k := rr (k := ro (pre := [_]) (k := ?_))))
   refine RunO.callw au au au T27 ((ref5_Read (b := flipL k17F) (flip_ok k17F_ok.1) (by rw [flip_len]; exact k17F_ok.2)).mono ?_)
   rintro r s9 ⟨rfl, hs⟩
   subst s9
   rw [show rtuF (flipL k17F) = ((0, []), 14) from rtu_broken T169 T22 T22]
   refine rh [1, 2, 3, 4, 5, 6, 8, 9, 12] (k := rs (k := rr (k := ro (pre := [_]) (k := ?_))))
   refine RunO.callw au au au T27 ((ref5_Read (b := frameF [134, 4]) (frameF_ok (by intro x hx; simp only [List.mem_cons, List.not_mem_nil, or_false] at hx; rcases hx with rfl | rfl <;> constructor <;> decide)) (Nat.le_trans (frameF_len _) T22)).mono ?_)
   rintro r s9 ⟨rfl, hs⟩
   subst s9
   rw [show rtuF (frameF [134, 4]) = ((17, [134, 4]), 0) from rtu_frame T22 T22]
   refine rh [1, 2, 3, 4, 5, 6, 9, 12, 14, 15] (k := rs (k := rr (k := ro (pre := [_]) (k := ?_))))
   refine RunO.callw au au au T27 ((line_Sent (l := [⟨1, 0, k17F⟩, ⟨2, 0, k17F⟩, ⟨3, 0, k17F⟩, ⟨4, 0, k17F⟩, ⟨5, 0, k17F⟩]) T22 (by intro x hx; simp only [List.mem_cons, List.not_mem_nil, or_false] at hx; rcases hx with rfl | rfl | rfl | rfl | rfl <;> exact k17F_ok.2) hr11).mono ?_)
   rintro r s9 ⟨rfl, hs⟩
   subst s9
   refine rh [1, 2, 3, 4, 5, 6, 9, 12, 14, 15, 16] (k := rs (k := rr (k := ro (pre := [_]) (k := ?_))))
   refine RunO.callw au au au T27 ((line_Device hr11).mono ?_)
   rintro r s9 ⟨rfl, hs⟩
   subst s9
   refine RunO.callw au au au T27 ((device_Counts hd11).mono ?_)
   rintro r s9 ⟨rfl, hs⟩
   subst s9
   rw [show ((k17E (k17E (k17E (Dev.zero 8))))).msgs = 3 from T22]
   refine rh [1, 2, 3, 4, 5, 6, 9, 12, 14, 15, 16, 17] (k := rs (k := ?_))
   have hst1 : ((ByteArray.mk [UInt8.ofNat (Int.toNat 4), UInt8.ofNat (Int.toNat 134)].reverse.toArray).toList == (ByteArray.mk #[134, 4]).toList) = true := by decide +kernel
   have hbs : ∀ l : List UInt8, (l == l) = true := fun l => beq_self_eq_true l
   have H := aj hst1 (aj hbs H)
   refine Run.drawC [] [0] Tryz.mixed T27 ?_
   refine DetC.pre (pre := [_, _]) au ?_
   refine DetC.gdo au au ?_
   refine DetC.gdo au au ?_
   refine DetC.pre (pre := [_, _]) au ?_
   refine DetC.gdo au au ?_
   refine DetC.gdo au au ?_
   refine DetC.gdo au au ?_
   refine DetC.pre (pre := [_, _]) au ?_
   refine DetC.gdo au au ?_
   refine DetC.gdo au au ?_
   refine DetC.gdo au au ?_
   refine DetC.pre (pre := [_, _]) au ?_
   refine DetC.gdo au au ?_
   refine DetC.gdo au au ?_
   refine DetC.pre (pre := [_, _]) au ?_
   refine DetC.gdo au au ?_
   refine DetC.gdo au au ?_
   refine DetC.pre (pre := [_, _]) au ?_
   refine DetC.gdo au au ?_
   refine DetC.gdo au au ?_
   refine DetC.gdo au au ?_
   refine DetC.pre (pre := [_, _]) au ?_
   refine DetC.gdo au au ?_
   refine DetC.gdo au au ?_
   refine DetC.gdo au au ?_
   refine DetC.gdo au au ?_
   refine DetC.gdo au au ?_
   refine DetC.pre (pre := [_, _]) au ?_
   refine DetC.gdo au au ?_
   refine DetC.gdo au au ?_
   refine DetC.gdo au au ?_
   refine DetC.pre (pre := [_, _]) au ?_
   refine DetC.gdo au au ?_
   refine DetC.gdo au au ?_
   refine DetC.gdo au au ?_
   refine DetC.gdo au au ?_
   refine DetC.gdo au au ?_
   refine DetC.pre (pre := [_, _]) au ?_
   refine DetC.gdo au au ?_
   refine DetC.gdo au au ?_
   refine DetC.gdo au au ?_
   refine DetC.gdo au au ?_
   refine DetC.gdo au au ?_
   refine DetC.gdo au au ?_
   refine DetC.gdo au au ?_
   refine DetC.gdo au au ?_
   refine DetC.pre (pre := [_, _]) au ?_
   refine DetC.gdo au au ?_
   refine DetC.gdo au au ?_
   refine DetC.pre (pre := [_, _]) au ?_
   refine DetC.gdo au au ?_
   refine DetC.call au au au T27 (line_Left0 (L := []) hr11) ?_
   refine DetC.gdo au au ?_
   refine DetC.pre (pre := [_, _]) au ?_
   refine DetC.gdo au au ?_
   refine DetC.call au au au T27 (line_LeftN) ?_
   refine DetC.gdo au au ?_
   refine DetC.all au ?_
   refine re (k := rR (k := ?_))
   exact Ret.pure (r' := .bool true) (by simp only [Tryz.f13, go_sem, ↓reduceIte] <;> rfl) rfl (by simp only [PV.blw]) hwf (fun i hi => hw11 i hi) ⟨rfl, rfl⟩
end Go.Proofs
namespace Go.Proofs
open Go.PM
set_option maxHeartbeats 2000000
theorem T170 {p : Prop} (h : p := by show 0 ≤ K ∧ (0 : Int) ≤ 1 ∧ K ≤ ((20 : Nat) : Int) ∧ (1 : Int) ≤ ((20 : Nat) : Int) - K; omega) : p := h
theorem faults_q {K W : Int} (hK : 0 ≤ K ∧ K ≤ 19) (hW : U16 W) : ((⟨6, K, 0, 0, 0, [], [W], 0, 0⟩ : Req)).ok ∧ rightF (⟨6, K, 0, 0, 0, [], [W], 0, 0⟩ : Req) = 0 ∧ bytesF (⟨6, K, 0, 0, 0, [], [W], 0, 0⟩ : Req) = (6 :: (num2 K ++ [W].flatMap num2)) ∧ pduF (Dev.zero 20) (6 :: (num2 K ++ [W].flatMap num2)) = ((6 :: (num2 K ++ [W].flatMap num2)), ({ (Dev.zero 20).up with v1 := overF (Dev.zero 20).v1 K.toNat [W] } : Dev)) ∧ (({ (Dev.zero 20).up with v1 := overF (Dev.zero 20).v1 K.toNat [W] } : Dev)).ok ∧ OkB (6 :: (num2 K ++ [W].flatMap num2)) := by
 have hU : U16 K := T152
 have hq : ((⟨6, K, 0, 0, 0, [], [W], 0, 0⟩ : Req)).ok := req_okT T143 hU zU zU zU (OkW.one hW) zU zU T143 T143
 have hr : rightF (⟨6, K, 0, 0, 0, [], [W], 0, 0⟩ : Req) = 0 := right6 T21 W
 have hc : countF (⟨6, K, 0, 0, 0, [], [W], 0, 0⟩ : Req) = true := decide_eq_true ⟨hr, trivial⟩
 have o0 : (Dev.zero 20).ok := Dev.zero_ok T22 T22
 have hdo : doF (Dev.zero 20) (⟨6, K, 0, 0, 0, [], [W], 0, 0⟩ : Req) = ((⟨6, 0, K, 0, 0, [], [W], 0, 0, []⟩ : Rep), ({ (Dev.zero 20).up with v1 := overF (Dev.zero 20).v1 K.toNat [W] } : Dev)) := do_6 (D := Dev.zero 20) (q := (⟨6, K, 0, 0, 0, [], [W], 0, 0⟩ : Req)) hc rfl (decide_eq_true T170)
 have hb : bytesF (⟨6, K, 0, 0, 0, [], [W], 0, 0⟩ : Req) = (6 :: (num2 K ++ [W].flatMap num2)) := by unfold bytesF; rw [if_pos hr]; rfl
 have hw : writeF (⟨6, K, 0, 0, 0, [], [W], 0, 0⟩ : Req) = (6 :: (num2 K ++ [W].flatMap num2)) := rfl
 have hg : goodF (⟨6, 0, K, 0, 0, [], [W], 0, 0, []⟩ : Rep) = 0 := (fits_6 (q := (⟨6, K, 0, 0, 0, [], [W], 0, 0⟩ : Req)) rfl hU hW).good
 have hp : pduF (Dev.zero 20) (6 :: (num2 K ++ [W].flatMap num2)) = ((6 :: (num2 K ++ [W].flatMap num2)), ({ (Dev.zero 20).up with v1 := overF (Dev.zero 20).v1 K.toNat [W] } : Dev)) := by
   have := pdu_write (D := Dev.zero 20) hq hr
   rw [hw, hdo] at this
   rw [this]
   refine Prod.ext ?_ rfl
   show repF (⟨6, 0, K, 0, 0, [], [W], 0, 0, []⟩ : Rep) = _
   unfold repF
   rw [if_pos hg]; rfl
 have hdk := doF_ok o0 hq
 rw [hdo] at hdk
 exact ⟨hq, hr, hb, hp, hdk.1, OkB.cons T23 ((num2_ok _).append (flat2_okB _))⟩
theorem faults_law {K W F : Int} (hK : 0 ≤ K ∧ K ≤ 19) (hF : 0 ≤ F ∧ F ≤ 4) (hW : U16 W) (hW0 : W ≠ 0) :
   ∃ (X : Int) (B : List Int) (D : Dev) (dn gd nd : Bool), sendF F (Dev.zero 20) (frameF (bytesF (⟨6, K, 0, 0, 0, [], [W], 0, 0⟩ : Req))) = (B, D) ∧ cutF D.v1 K 1 = [X] ∧ D.ok ∧ D.c0.length = 20 ∧ OkB B ∧ B.length ≤ 256 ∧
     decide (X = W) = dn ∧ (decide (F = 0) || decide (F = 2) || decide (F = 3)) = dn ∧ decide (X = 0) = !dn ∧ decide ((rtuF B).2 = 0) = gd ∧ (decide (F = 0) || decide (F = 4)) = gd ∧ decide ((B.length : Int) = 0) = nd ∧ (decide (F = 1) || decide (F = 2)) = nd := by
 obtain ⟨hq, hr, hb, hp, hdk, hbo⟩ := faults_q hK hW
 have hne : (6 :: (num2 K ++ [W].flatMap num2)) ≠ [] := List.cons_ne_nil _ _
 have hln : ((6 :: (num2 K ++ [W].flatMap num2)) : List Int).length ≤ 253 := by show 5 ≤ 253; decide
 have e : ∀ f, sendF f (Dev.zero 20) (frameF (bytesF (⟨6, K, 0, 0, 0, [], [W], 0, 0⟩ : Req))) = lineF f (Dev.zero 20) (6 :: (num2 K ++ [W].flatMap num2)) := fun f => by
   rw [hb]
   unfold sendF
   rw [rtu_frame hne hln]
   exact if_pos ⟨rfl, rfl⟩
 have hat : K.toNat < 20 := T21
 have hcut : cutF (({ (Dev.zero 20).up with v1 := overF (Dev.zero 20).v1 K.toNat [W] } : Dev)).v1 K 1 = [W] := by
   obtain ⟨k, rfl⟩ : ∃ k : Nat, K = k := ⟨K.toNat, T21⟩
   exact cut_over (l := (Dev.zero 20).v1) (x := [W]) (by show k + 1 ≤ (List.replicate 20 (0 : Int)).length; rw [List.length_replicate]; omega) rfl
 have hcut0 : cutF (Dev.zero 20).v1 K 1 = [0] := by
   unfold cutF
   rw [if_pos (show thereF (Dev.zero 20).v1.length K 1 = true from decide_eq_true T170)]
   show ((List.replicate 20 (0 : Int)).drop K.toNat).take 1 = [0]
   rw [List.drop_replicate, List.take_replicate, show min 1 (20 - K.toNat) = 1 from T21]
   rfl
 have o0 : (Dev.zero 20).ok := Dev.zero_ok T22 T22
 have hfl : 0 < (frameF (6 :: (num2 K ++ [W].flatMap num2))).length := by rw [frameF_eq hne hln, sealB_len]; omega
 have hfo := frameF_ok hbo
 have hfz := frameF_len (6 :: (num2 K ++ [W].flatMap num2))
 have z1 : decide (W = W) = true := decide_eq_true rfl
 have z2 : decide (W = 0) = false := decide_eq_false hW0
 have z3 : decide ((0 : Int) = W) = false := decide_eq_false (Ne.symm hW0)
 obtain rfl | rfl | rfl | rfl | rfl : F = 0 ∨ F = 1 ∨ F = 2 ∨ F = 3 ∨ F = 4 := T21
 · refine ⟨W, frameF (6 :: (num2 K ++ [W].flatMap num2)), ({ (Dev.zero 20).up with v1 := overF (Dev.zero 20).v1 K.toNat [W] } : Dev), true, true, false, ?_, hcut, hdk, rfl, hfo, hfz, z1, rfl, z2, ?_, rfl, decide_eq_false T21, rfl⟩
   · rw [e]; show (frameF (pduF _ _).1, (pduF _ _).2) = _; rw [hp]
   · rw [rtu_frame hne hln]; rfl
 · exact ⟨0, [], Dev.zero 20, false, false, true, by rw [e]; rfl, hcut0, o0, rfl, OkB.nil, T22, z3, rfl, rfl, T22, rfl, rfl, rfl⟩
 · refine ⟨W, [], ({ (Dev.zero 20).up with v1 := overF (Dev.zero 20).v1 K.toNat [W] } : Dev), true, false, true, ?_, hcut, hdk, rfl, OkB.nil, T22, z1, rfl, z2, T22, rfl, rfl, rfl⟩
   rw [e]; show ([], (pduF _ _).2) = _; rw [hp]
 · refine ⟨W, flipL (frameF (6 :: (num2 K ++ [W].flatMap num2))), ({ (Dev.zero 20).up with v1 := overF (Dev.zero 20).v1 K.toNat [W] } : Dev), true, false, false, ?_, hcut, hdk, rfl, flip_ok hfo, by rw [flip_len]; exact hfz, z1, rfl, z2, ?_, rfl, decide_eq_false (by rw [flip_len]; omega), rfl⟩
   · rw [e]; show (flipL (frameF (pduF _ _).1), (pduF _ _).2) = _; rw [hp]
   · rw [rtu_broken hbo hne hln]; rfl
 · have h4 : repF (refuseP 6 4) = [134, 4] := T22
   have ho4 : OkB [134, 4] := OkB.cons T23 (OkB.cons T23 OkB.nil)
   refine ⟨0, frameF [134, 4], Dev.zero 20, false, true, false, ?_, hcut0, o0, rfl, frameF_ok ho4, frameF_len _, z3, rfl, rfl, ?_, rfl, ?_, rfl⟩
   · rw [e]; show (frameF (repF (refuseP 6 4)), _) = _; rw [h4]
   · rw [rtu_frame T22 T22]; rfl
   · refine decide_eq_false ?_
     rw [frameF_eq T22 T22, sealB_len]
     simp
theorem or1_w {v : Int} (h : U16 v) : ibits .or .u16 v 1 ≠ 0 := by
 unfold U16 at h
 obtain ⟨n, rfl⟩ : ∃ n : Nat, v = n := ⟨v.toNat, (Int.toNat_of_nonneg h.1).symm⟩
 have e : ((n : Nat) : Int) = ((BitVec.ofNat 16 n).toNat : Int) := by rw [BitVec.toNat_ofNat]; omega
 rw [e, show (1 : Int) = ((1#16).toNat : Int) from rfl, ibits_orB]
 intro h0
 have h2 : (BitVec.ofNat 16 n ||| 1#16).toNat = 0 := T21
 have h1 : (BitVec.ofNat 16 n ||| 1#16) = 0#16 := BitVec.eq_of_toNat_eq h2
 have h3 := congrArg (fun x => x.getLsbD 0) h1
 simp at h3
attribute [local go_sem] set_set weaks_bools Req.pv
set_option maxRecDepth 100000 in
theorem law17_Faults {fault at_ v : Int} (hv : U16 v) {s : St} : ACalls Tryz.prog 6 [.int .i64 fault, .int .u16 v, .int .i64 at_] s (fun r s' => r = .bool true ∧ s' = s) := by
 refine go Tryz.func6 (k := fun hwf H => ?_)
 obtain ⟨K, hKe⟩ : ∃ y, withinI at_ 0 19 = y := ⟨_, rfl⟩
 obtain ⟨F, hFe⟩ : ∃ y, withinI fault 0 4 = y := ⟨_, rfl⟩
 have hK := withinI_bound (n := at_) (lo := 0) (hi := 19) T22
 have hF := withinI_bound (n := fault) (lo := 0) (hi := 4) T22
 rw [hKe] at hK
 rw [hFe] at hF
 obtain ⟨W, hWe⟩ : ∃ y, ibits .or .u16 v 1 = y := ⟨_, rfl⟩
 have hW : U16 W := by rw [← hWe]; exact ibits_u16 _ _ _
 have hW0 : W ≠ 0 := by rw [← hWe]; exact or1_w hv
 obtain ⟨X, B, D2, dn, gd, nd, hsd, hcut, oD2, lD2, hBo, hBl, e1, e2, e3, e4, e5, e6, e7⟩ := faults_law hK hF hW hW0
 obtain ⟨hq, _⟩ := faults_q hK hW
 have o0 : (Dev.zero 20).ok := Dev.zero_ok T22 T22
 have hth : thereF 20 K 1 = true := decide_eq_true T21
 have hfrl : (frameF (bytesF (⟨6, K, 0, 0, 0, [], [W], 0, 0⟩ : Req))).length ≤ 140737488350000 := Nat.le_trans (frameF_len _) T22
 have hfro : OkB (frameF (bytesF (⟨6, K, 0, 0, 0, [], [W], 0, 0⟩ : Req))) := frameF_ok T244
 have i64K : I64 K := T152
 have H := aj hKe (aj hFe (aj hWe H))
 refine rs (k := rg [0, 1, 2] (k := rs (k := rr (k := ?_))))
 refine RunO.callw au au au T27 ((device_New (n := 20) T22 T22).mono ?_)
 rintro r s1 ⟨rfl, hA0, hlo0, hnx0⟩
 refine rh [0, 1, 2, 7] (k := rs (k := rr (k := ro (pre := [_]) (k := ?_))))
 refine RunO.callw au au au T27 ((line_New).mono ?_)
 rintro r s2 ⟨rfl, hs⟩
 have hr2 : s2.blk s1.nxt = some (lnRow (s.nxt + 5) (.sl .nil []) (.sl .nil []) (.sl .nil []) (.sl .nil []) (.sl .nil [])) := by rw [hs]; exact blk_new_eq
 have hx2 : s2.nxt = s1.nxt + 1 := by rw [hs]; rfl
 have hd2 : DevAt s.nxt (Dev.zero 20) s2 := by rw [hs]; exact hA0.nw T21 _
 have hw2 : ∀ j, j < s.nxt → s2.blk j = s.blk j := fun j hj => by rw [hs, blk_new_ne T21]; exact hlo0 j hj
 clear hs
 refine rh [0, 1, 2, 7, 8] (k := rs (k := rs (k := rr (k := ro (pre := [_, _, _]) (k := rg1 (k := rg1 (k := ro (pre := [_, _]) (k := rg1 (k := rC (h := device_Store hd2) (k := rg1 (k := rh [0, 1, 2, 7, 8, 33] (k := rc (ht := fun hc0 => ?_) (hf := fun hc0 => ?_)))))))))))))
 · cases hc0
 · refine rk (k := rs (k := rr (k := ro (pre := [_]) (k := rC (h := within_ (lo := 0) (hi := 19) T22 T22 T22) (k := ro (pre := [_]) (k := rC (h := within_ (lo := 0) (hi := 4) T22 T22 T22) (k := rh [1, 7, 8, 9, 10] (k := rs (k := rs (k := rr (k := ro (pre := [_, _]) (k := ?_))))))))))))
   refine RunO.callw au au au T27 ((line_Hurt1N (F := F) hF hr2).mono ?_)
   rintro r s3 ⟨rfl, hs⟩
   have hr3 : s3.blk s1.nxt = some (lnRow (s.nxt + 5) (.sl .nil []) (.sl (.tok s2.nxt 1) (([F] : List Int).map (PV.int .i64))) (.sl .nil []) (.sl .nil []) (.sl .nil [])) := by rw [hs]; exact blk_set_self _ _ _
   have hx3 : s3.nxt = s1.nxt + 2 := by rw [hs]; simp only [nxt_set, nxt_new, hx2]
   have hd3 : DevAt s.nxt (Dev.zero 20) s3 := by rw [hs]; exact (hd2.nw T21 _).sv T21 _
   have hw3 : ∀ j, j < s.nxt → s3.blk j = s.blk j := fun j hj => T114
   clear hs
   refine rh [1, 7, 8, 9, 10, 41] (k := rc (ht := fun hc1 => ?_) (hf := fun hc1 => ?_))
   · cases hc1
   · refine rk (k := rs (k := rg [7, 8, 9, 10, 11] (k := rs (k := rr (k := ro (pre := [_, _, _]) (k := rO (k := ro (pre := [_]) (k := ?_))))))))
     refine RunO.callw au au au T27 ((ref17_Frame (q := (⟨6, K, 0, 0, 0, [], [W], 0, 0⟩ : Req)) hq).mono ?_)
     rintro r s9 ⟨rfl, hs⟩
     subst s9
     refine RunO.callw au au au T27 ((line_SendN (c0 := .sl .nil []) (c1 := .sl .any []) (c2 := .sl .nil []) (c3 := .sl .nil []) (f := F) hF (tn := 1) (tick := 5) hfro hfrl hr3 hd3 o0 T21 (fun S h => line_take1T (x := F) (L := []) T22 h)).mono ?_)
     rintro r s4 ⟨rfl, hs⟩
     rw [hsd] at hs ⊢
     have hr4 : ∃ st, s4.blk s1.nxt = some (lnRow (s.nxt + 5) (.sl .nil []) (.sl .any []) (.sl .nil []) (.sl .nil []) st) := ⟨_, by rw [hs, putDev_hi T21]; exact blk_set_self _ _ _⟩
     obtain ⟨st4, hr4⟩ := hr4
     have hd4 : DevAt s.nxt D2 s4 := by rw [hs]; exact DevAt.put ((hd3.nw T21 _).sv T21 _) lD2
     have hw4 : ∀ j, j < s.nxt → s4.blk j = s.blk j := fun j hj => T115
     clear hs
     refine rh [7, 8, 9, 10, 11, 12] (k := rs (k := ?_))
     have H := aj hcut (aj lD2 (aj hth H))
     refine rr (k := ro (pre := [_]) (k := rC (h := device_Store hd4) (k := ro (pre := [_]) (k := rC (h := store_get3 (l := D2.v1) (n := D2.c0.length) hd4.st hd4.v1 oD2.v1 oD2.h2 i64K T22) (k := rh [8, 10, 11, 12, 13, 14] (k := rs (k := rg [8, 10, 11, 12, 13, 14, 15] (k := rs (k := rr (k := ro (pre := [_]) (k := rC (h := ref5_Read hBo T21) (k := ?_))))))))))))
     refine rh [8, 10, 11, 12, 13, 14, 15, 18] (k := rs (k := rg [8, 10, 11, 12, 13, 14, 15, 18, 19] (k := rs (k := ?_))))
     have H := aj e1 (aj e2 (aj e3 (aj e4 (aj e5 (aj e6 (aj e7 H))))))
     refine rrA [some 80, some 81, some 82, some 83, some 84, some 85, some 86, some 87, some 88, some 89, some 90, some 91, some 92, some 93, some 94, some 95, some 96, some 97, some 98, some 99, some 100, some 101, some 102, some 103, some 104, some 105, some 106, some 107, some 108, some 109, some 110, some 111, some 112, some 113, some 114, some 115, some 116, some 117, some 118, some 119, some 120, some 121, some 122, some 123, some 124, some 125, some 126, some 127, some 128, some 129, some 6] (k := fun ops hops => ?_)
     have H := aj hops H
     refine ro (pre := [_, _, _, _, _, _, _, _, _, _, _, _, _, _, _, _, _, _, _, _, _, _, _, _, _, _, _, _, _, _, _, _, _, _, _, _, _, _, _, _, _, _, _, _]) (k := rG (h := fun hb => line_Left1 (L := []) hr4) (k := ro (pre := [_, _, _]) (k := rQ 127 (ht := fun hg47 => ?_) (hf := fun hg47 => ?_))))
     · refine RunO.callw au au au T27 ((law17_known).mono ?_)
       rintro r s9 ⟨rfl, hs⟩
       subst s9
       refine rh [6] (k := rR (k := ?_))
       exact Ret.pure (r' := .bool true) (by simp only [Tryz.f6, go_sem, ↓reduceIte] <;> rfl) rfl (by simp only [PV.blw]) hwf (fun i hi => hw4 i hi) ⟨rfl, rfl⟩
     · cases hg47
end Go.Proofs
